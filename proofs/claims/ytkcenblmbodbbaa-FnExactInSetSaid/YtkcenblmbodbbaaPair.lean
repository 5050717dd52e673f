/- Rows of pairs of numbers: the laws' helpers, and InSet of both sides. -/
import Derived.Test.YtkcenblmbodbbaaMarks
namespace Go.Proofs.Ytkcenblmbodbbaa
open Go.RowKit Mem
set_option linter.unusedVariables false

def tPair : Ty (Int × Int) := Ty.pair (Ty.int .u32) (Ty.int .u32)
theorem flat_pair : Flat tPair := by
  rintro w B x cs ⟨c0, c1, rfl, h0, h1⟩
  exact ⟨c0, c1, [], [], rfl, rfl, List.nodup_nil, ⟨rfl, h0⟩, ⟨rfl, h1⟩⟩
theorem elt_pair : Elt Try.prog 103 2 (.agg #[.int .u32 0, .int .u32 0]) := Elt.of (b := 8) (by kernel_rfl) rfl (by decide) (by decide)
theorem pair_at {w w' : World} {B : Nat → Prop} {A : Option Addr} {n : Nat} {xs : List (Int × Int)} (h : Row tPair w B A n xs) (hb : ∀ k, B k → w'.heap[k]? = w.heap[k]?) {k : Nat} (hk : k < xs.length) :
    ∃ ad, A = some ad ∧ w'.cell? (ad.add (k * 2)) = some (.int .u32 xs[k].1) ∧ w'.cell? ⟨(ad.add (k * 2)).block, (ad.add (k * 2)).off + 1, none⟩ = some (.int .u32 xs[k].2) ∧ 0 ≤ xs[k].1 ∧ xs[k].1 < 4294967296 ∧ 0 ≤ xs[k].2 ∧ xs[k].2 < 4294967296 := by
  obtain ⟨ad, c, rfl, ⟨c0, c1, rfl, ⟨rfl, w0⟩, ⟨rfl, w1⟩⟩, h0, h1⟩ := h.cells_at hb hk
  rw [IntKind.wrap_u32] at w0 w1
  exact ⟨ad, rfl, h0 _ rfl, h1 0 _ rfl, by omega, by omega, by omega, by omega⟩
theorem pair_m {w : World} {x : Int × Int} (h0 : 0 ≤ x.1) (h1 : x.1 < 4294967296) (h2 : 0 ≤ x.2) (h3 : x.2 < 4294967296) : tPair.M w [] x [.int .u32 x.1, .int .u32 x.2] :=
  ⟨[.int .u32 x.1], [.int .u32 x.2], [], [], rfl, rfl, List.nodup_nil, ⟨rfl, rfl, by rw [IntKind.wrap_u32]; omega⟩, ⟨rfl, rfl, by rw [IntKind.wrap_u32]; omega⟩⟩

set_option maxHeartbeats 400000 in
theorem toPair_calls (a b : Int) (w : World) :
    Calls Try.prog 85 #[.agg #[.int .u32 a, .int .u32 b]] w (Ret (.agg #[.int .u32 a, .int .u32 b]) w) := by
  go_enter Try.func85, Try.ntmps85
  go_wp2
  exact bodyPost_ret (v := .agg #[.int .u32 a, .int .u32 b]) (by simp [results, Try.results85, go_sem]) rfl ⟨rfl, (((Mod.refl _ _).alloc _).alloc _).alloc _⟩

set_option maxHeartbeats 400000 in
set_option maxRecDepth 100000 in
theorem toPairS_calls {A : Option Addr} {c : Nat} {xs : List (Int × Int)} {B : Nat → Prop} {w : World} (h : Row tPair w B A xs.length xs) (hB : ∀ k, B k → k < w.heap.size) (hl : xs.length ≤ 34359738368) :
    Calls Try.prog 26 #[.slice A xs.length c] w (RetOwn tPair 103 w xs) := by
  have HR := Sec.mk h
  clear h
  go_enter Try.func26, Try.ntmps26
  go_wp2_with (refine wpList_make _ rfl (.tmp 6) _ rfl tPair 103 Try.underlying32 elt_pair (0, 0) (fun _ => pair_m (by decide) (by decide) (by decide) (by decide)) xs.length rfl hl ?_; intro w1 ho1 hm1; have HO1 := Sec.mk ho1; have HM1 := Sec.mk hm1; clear ho1 hm1)
  go_loopw [4] (fun i wr => ∃ (k : Nat) (ys : List (Int × Int)) (F : List Nat), k ≤ xs.length ∧ i = .int .i64 k ∧ Sec (ys.length = xs.length) ∧ Sec (ys.take k = xs.take k) ∧ Sec (Own tPair 103 wr F (.slice (some ⟨w.heap.size, 0, none⟩) xs.length xs.length) ys) ∧ Sec (∀ k, k ∈ F → w.heap.size ≤ k) ∧ Sec (New w wr)) (fun i _ => xs.length - (intOf i).toNat)
  case atStart => exact ⟨0, _, _, Nat.zero_le _, rfl, Sec.mk (by simp), Sec.mk (by simp), HO1, Sec.mk (by simp), HM1⟩
  case round =>
    obtain ⟨k, ys, F, hk, rfl, HL, HT, HO, HF, HM⟩ := hrel
    clear HO1 HM1
    by_cases hlt : k < xs.length
    · obtain ⟨ad, rfl, hx0, hx1, b0, b1, b2, b3⟩ := pair_at HR.out (fun i hi => HM.out.block i (hB i hi) id) hlt
      have HB := Sec.mk (And.intro b0 (And.intro b1 (And.intro b2 b3)))
      have HXK : Sec (xs[k] = xs[k]) := ⟨rfl⟩
      clear b0 b1 b2 b3
      have HPX : Sec (∃ q : Int × Int, q = xs[k]) := ⟨⟨_, rfl⟩⟩
      obtain ⟨q, hq⟩ := HPX.out
      rw [← hq] at hx0 hx1 HB
      have HQ := Sec.mk hq
      clear hq HPX HXK
      go_wp2_with fail
      refine (toPair_calls _ _ _).mono ?_
      rintro e w2 ⟨rfl, hm2⟩
      have HM2 := Sec.mk (HM.out.transN hm2)
      obtain ⟨g, f, hA, hgF, hgf, hff, hcell, hfz, hst⟩ := (HO.out.new hm2).put (j := k) (by rw [HL.out]; exact hlt)
      have hA' : w.heap.size = g := by injection hA with hA; injection hA
      subst hA'
      obtain ⟨u0, hc0⟩ := hcell 0 (by decide)
      obtain ⟨u1, hc1⟩ := hcell 1 (by decide)
      have hf0 := hfz (k * 2)
      have hf1 := hfz (k * 2 + 1)
      simp only [show tPair.sz = 2 from rfl, Nat.add_zero] at hc0 hc1
      obtain ⟨F', ho', hg', hF'⟩ := hst [.int .u32 q.1, .int .u32 q.2] q [] (pair_m HB.out.1 HB.out.2.1 HB.out.2.2.1 HB.out.2.2.2) (by simp)
      have HO' := Sec.mk ho'
      have HF' := Sec.mk hF'
      clear hA hgF hgf hff hcell hfz hst ho' hg' hF' hm2
      go_wp2
      go_roundw
      case rel => exact ⟨k + 1, _, F', by omega, by go_num, ⟨(set_len ys k q).trans HL.out⟩, ⟨by rw [HQ.out]; exact set_prefix xs ys k hlt HL.out HT.out⟩, HO', ⟨fun i hi => (HF'.out i hi).elim (HF.out i) (by simp)⟩, ⟨putRow_mod (fun h => absurd h (Nat.lt_irrefl _)) [.int .u32 q.1, .int .u32 q.2] _ 0 HM2.out⟩⟩
      case measure => simp [intOf]; omega
    · go_wp2
      go_ret
      have he : ys = xs := by
        have h1 := HT.out
        rw [List.take_of_length_le (by rw [HL.out]; omega), List.take_of_length_le (by omega)] at h1
        exact h1
      subst he
      exact RetOwn.of HO.out HF.out HM.out

set_option maxHeartbeats 400000 in
theorem szPairS_calls {A : Option Addr} {c n : Nat} {w : World} (left : Int) (h0 : 0 ≤ left) (h1 : left ≤ 1048576) (hn : n ≤ 9223372036854775807) :
    Calls Try.prog 24 #[.slice A n c, .int .i64 left] w (fun e w' => e = .returned (.int .i64 (if left < n then -1 else left - n)) ∧ w' = w) := by
  by_cases hlt : left < n
  · have HI := Sec.mk (if_pos hlt : (if left < n then (-1 : Int) else left - n) = -1)
    go_enter Try.func24, Try.ntmps24
    go_wp2
    go_ret
    exact ⟨by simp, rfl⟩
  · have HI := Sec.mk (if_neg hlt : (if left < n then (-1 : Int) else left - n) = left - n)
    go_enter Try.func24, Try.ntmps24
    go_wp2
    go_ret
    exact ⟨by simp, rfl⟩
def inOne (n max : Int) (p : Int × Int) : Bool :=
  let a := if p.1 = 0 then max else p.1
  let b := if p.2 = 0 then max else p.2
  decide (n ≠ 0) && (decide (a ≤ n) && decide (n ≤ b) || decide (b ≤ n) && decide (n ≤ a))


theorem inOne_iff (n mx p1 p2 : Int) (hn : n ≠ 0) : inOne n mx (p1, p2) = true ↔ ((if p1 = 0 then mx else p1) ≤ n ∧ n ≤ (if p2 = 0 then mx else p2) ∨ (if p2 = 0 then mx else p2) ≤ n ∧ n ≤ (if p1 = 0 then mx else p1)) := by
  simp [inOne, hn]
theorem inOne_zero (mx : Int) (p : Int × Int) : inOne 0 mx p = false := by simp [inOne]
theorem any_zero (mx : Int) (xs : List (Int × Int)) : xs.any (inOne 0 mx) = false := by simp [inOne_zero]
theorem any_snoc {α : Type} {f : α → Bool} {l : List α} {x : α} {l' : List α} (h : l' = l ++ [x]) (h1 : l.any f = false) (h2 : ¬ f x = true) : l'.any f = false := by
  subst h; rw [List.any_append, h1]; simpa using h2

set_option maxHeartbeats 1000000 in
set_option maxRecDepth 100000 in
theorem inSetSpec_calls {A : Option Addr} {c : Nat} {xs : List (Int × Int)} {B : Nat → Prop} {w : World} (h : Row tPair w B A xs.length xs) (hB : ∀ k, B k → k < w.heap.size) (n mx : Int) (hn0 : 0 ≤ n) (hn1 : n < 4294967296) (hm0 : 0 ≤ mx) (hm1 : mx < 4294967296) :
    Calls Try.prog 25 #[.slice A xs.length c, .int .u32 n, .int .u32 mx] w (Ret (.bool (xs.any (inOne n mx))) w) := by
  have hl := h.2.1
  have HR := Sec.mk h
  clear h
  by_cases hnz : n = 0
  · subst hnz
    have HZ := Sec.mk (any_zero mx xs)
    go_enter Try.func25, Try.ntmps25
    go_wp2
    go_loopw [13] (fun i wr => ∃ k : Nat, k ≤ xs.length ∧ i = .int .i64 k ∧ Sec (New w wr)) (fun i _ => xs.length - (intOf i).toNat)
    case atStart => exact ⟨0, Nat.zero_le _, rfl, ⟨Mod.refl _ _⟩⟩
    case round =>
      obtain ⟨k, hk, rfl, HM⟩ := hrel
      by_cases hlt : k < xs.length
      · obtain ⟨ad, rfl, hx0, hx1, b0, b1, b2, b3⟩ := pair_at HR.out (fun i hi => HM.out.block i (hB i hi) id) hlt
        generalize xs[k] = p at *
        obtain ⟨p1, p2⟩ := p
        simp only at hx0 hx1 b0 b1 b2 b3
        by_cases hp1 : p1 = 0 <;> by_cases hp2 : p2 = 0
        all_goals
          (try subst hp1)
          (try subst hp2)
          (try (have hp1b : (p1 == 0) = false := by simpa using hp1))
          (try (have hp2b : (p2 == 0) = false := by simpa using hp2))
          (try clear hp1)
          (try clear hp2)
          go_wp2
          go_roundw
          case rel => exact ⟨k + 1, by omega, by go_num, ⟨by repeat (first | exact HM.out | apply Mod.setCell | apply Mod.alloc | (intro h; simp at h))⟩⟩
          case measure => simp [intOf]; omega
      · obtain rfl : k = xs.length := by omega
        go_wp2
        go_ret
        exact ⟨by rw [HZ.out]; simp, HM.out⟩
  · have hnb : (n != 0) = true := by simpa using hnz
    go_enter Try.func25, Try.ntmps25
    go_wp2
    go_loopw [13] (fun i wr => ∃ k : Nat, k ≤ xs.length ∧ i = .int .i64 k ∧ Sec ((xs.take k).any (inOne n mx) = false) ∧ Sec (New w wr)) (fun i _ => xs.length - (intOf i).toNat)
    case atStart => exact ⟨0, Nat.zero_le _, rfl, ⟨by simp⟩, ⟨Mod.refl _ _⟩⟩
    case round =>
      obtain ⟨k, hk, rfl, HT, HM⟩ := hrel
      by_cases hlt : k < xs.length
      · obtain ⟨ad, rfl, hx0, hx1, b0, b1, b2, b3⟩ := pair_at HR.out (fun i hi => HM.out.block i (hB i hi) id) hlt
        have HTS := Sec.mk (List.take_succ_eq_append_getElem hlt)
        have HXM : Sec (inOne n mx xs[k] = true → xs.any (inOne n mx) = true) := ⟨fun h => List.any_eq_true.2 ⟨xs[k], List.getElem_mem _, h⟩⟩
        generalize xs[k] = p at *
        obtain ⟨p1, p2⟩ := p
        have HIFF := Sec.mk (inOne_iff n mx p1 p2 hnz)
        simp only at hx0 hx1 b0 b1 b2 b3
        by_cases hp1 : p1 = 0 <;> by_cases hp2 : p2 = 0
        all_goals
          (first | (have H1 := Sec.mk (HIFF.out.trans (by rw [if_pos hp1, if_pos hp2]))) | (have H1 := Sec.mk (HIFF.out.trans (by rw [if_pos hp1, if_neg hp2]))) | (have H1 := Sec.mk (HIFF.out.trans (by rw [if_neg hp1, if_pos hp2]))) | (have H1 := Sec.mk (HIFF.out.trans (by rw [if_neg hp1, if_neg hp2]))))
          clear HIFF
          (try subst hp1)
          (try subst hp2)
          (try (have hp1b : (p1 == 0) = false := by simpa using hp1))
          (try (have hp2b : (p2 == 0) = false := by simpa using hp2))
          (try clear hp1)
          (try clear hp2)
          go_wp2
          all_goals first
            | (go_ret; exact ⟨by rw [HXM.out (H1.out.2 (by omega))]; simp, by repeat (first | exact HM.out | apply Mod.setCell | apply Mod.alloc | (intro h; simp at h))⟩)
            | (go_roundw
               case rel => exact ⟨k + 1, by omega, by go_num, ⟨any_snoc HTS.out HT.out (fun h => by have := H1.out.1 h; omega)⟩, ⟨by repeat (first | exact HM.out | apply Mod.setCell | apply Mod.alloc | (intro h; simp at h))⟩⟩
               case measure => simp [intOf]; omega)
      · obtain rfl : k = xs.length := by omega
        have HZ : Sec (xs.any (inOne n mx) = false) := ⟨by have := HT.out; rwa [List.take_length] at this⟩
        go_wp2
        go_ret
        exact ⟨by rw [HZ.out]; simp, HM.out⟩
end Go.Proofs.Ytkcenblmbodbbaa
