/- The laws' own helpers over bytes: toByteS copies, eqByteS compares. Decimal numerals of the specification. Numbers read, in plain lists. Units cut off a stream, in plain lists. Steps by hand through a region that draws its order. -/
import Derived.Test.YtciiejkfppnimaaProg
import Derived.Test.YtciiejkfppnimaaPk0
import Derived.KernelRfl
import Derived.BigQuiet
import Derived.Deep.QuietTactic
import Derived.Deep.LoopGhost
import Derived.Test.YtciiejkfppnimaaPk1
import Derived.Lib.ItoaNum
import Derived.Lib.IndexMore
import Derived.Lib.IndexLaws
import Derived.Lib.LastIndexByte
import Derived.Deep.RegionHeld3
namespace Go.Proofs.Ytciiejkfppnimaa
open Go.RowKit Mem
set_option linter.unusedVariables false

theorem elt_byte : Elt Try.prog 5 1 (.int .u8 0) := Elt.of (b := 1) (by kernel_rfl) rfl (by decide) (by decide)

theorem set_prefix {α : Type} (xs ys : List α) (k : Nat) (hk : k < xs.length) (hl : ys.length = xs.length) (h : ys.take k = xs.take k) : (ys.set k xs[k]).take (k + 1) = xs.take (k + 1) := by
  rw [List.take_succ_eq_append_getElem (by rw [List.length_set]; omega), List.take_succ_eq_append_getElem hk, List.take_set_of_le (Nat.le_refl _), h]
  simp


set_option maxHeartbeats 400000 in
theorem toByteS_calls {A : Option Addr} {c : Nat} {xs : Bytes} {B : Nat → Prop} {w : World} (h : Row Ty.byte w B A xs.length xs) (hB : ∀ k, B k → k < w.heap.size) (hl : xs.length ≤ 34359738368) :
    Calls Try.prog 13 #[.slice A xs.length c] w (RetOwn Ty.byte 5 w xs) := by
  have HR := Sec.mk h
  clear h
  go_enter Try.func13, Try.ntmps13
  go_wp2_with (refine wpList_make _ rfl (.tmp 6) _ rfl Ty.byte 5 Try.underlying22 elt_byte 0 (fun _ => ⟨rfl, rfl⟩) xs.length rfl hl ?_; intro w1 ho1 hm1; have HO1 := Sec.mk ho1; have HM1 := Sec.mk hm1; clear ho1 hm1)
  go_loopw [4] (fun i wr => ∃ (k : Nat) (ys : Bytes) (F : List Nat), k ≤ xs.length ∧ i = .int .i64 k ∧ Sec (ys.length = xs.length) ∧ Sec (ys.take k = xs.take k) ∧ Sec (Own Ty.byte 5 wr F (.slice (some ⟨w.heap.size, 0, none⟩) xs.length xs.length) ys) ∧ Sec (∀ k, k ∈ F → w.heap.size ≤ k) ∧ Sec (New w wr)) (fun i _ => xs.length - (intOf i).toNat)
  case atStart => exact ⟨0, _, _, Nat.zero_le _, rfl, Sec.mk (by simp), Sec.mk (by simp), HO1, Sec.mk (by simp), HM1⟩
  case round =>
    obtain ⟨k, ys, F, hk, rfl, HL, HT, HO, HF, HM⟩ := hrel
    clear HO1 HM1
    by_cases hlt : k < xs.length
    · obtain ⟨ad, rfl, hx⟩ := HR.out.byte_at (fun i hi => HM.out.block i (hB i hi) id) hlt
      obtain ⟨g, hA, hgF, hc0, hfz0, hst⟩ := HO.out.byte_elem (j := k) (by rw [HL.out]; exact hlt)
      have hA' : w.heap.size = g := by injection hA with hA; injection hA
      subst hA'
      obtain ⟨F', ho', hF'⟩ := hst xs[k]
      have HO' := Sec.mk ho'
      have HF' := Sec.mk hF'
      clear hA hgF hst ho' hF'
      go_wp2
      go_roundw
      case rel => exact ⟨k + 1, _, F', by omega, by go_num, Sec.mk (by rw [List.length_set]; exact HL.out), Sec.mk (set_prefix xs ys k hlt HL.out HT.out), HO', Sec.mk (fun i hi => HF.out i (HF'.out i hi)), Sec.mk (HM.out.setCell (fun h => absurd h (Nat.lt_irrefl _)) _)⟩
      case measure => simp [intOf]; omega
    · go_wp2
      go_ret
      have he : ys = xs := by
        have h1 := HT.out
        rw [List.take_of_length_le (by rw [HL.out]; omega), List.take_of_length_le (by omega)] at h1
        exact h1
      subst he
      exact RetOwn.of HO.out HF.out HM.out


set_option maxHeartbeats 400000 in
theorem eqByteS_calls {A A' : Option Addr} {c c' : Nat} {xs ys : Bytes} {B : Nat → Prop} {w : World} (h : Row Ty.byte w B A xs.length xs) (h' : Row Ty.byte w B A' ys.length ys) (hB : ∀ k, B k → k < w.heap.size) :
    Calls Try.prog 16 #[.slice A xs.length c, .slice A' ys.length c'] w (Ret (.bool (decide (xs = ys))) w) := by
  have hl := h.2.1
  have HR := Sec.mk h
  have HR' := Sec.mk h'
  clear h h'
  by_cases hne : xs.length = ys.length
  · have hnb : ((xs.length : Int) != (ys.length : Int)) = false := by simp [hne]
    go_enter Try.func16, Try.ntmps16
    go_wp2
    go_loopw [5] (fun i wr => ∃ k : Nat, k ≤ xs.length ∧ i = .int .i64 k ∧ Sec (xs.take k = ys.take k) ∧ Sec (New w wr)) (fun i _ => xs.length - (intOf i).toNat)
    case atStart => exact ⟨0, Nat.zero_le _, rfl, Sec.mk (by simp), Sec.mk (Mod.refl _ _)⟩
    case round =>
      obtain ⟨k, hk, rfl, HT, HM⟩ := hrel
      by_cases hlt : k < xs.length
      · obtain ⟨ad, rfl, hx⟩ := HR.out.byte_at (fun i hi => HM.out.block i (hB i hi) id) hlt
        obtain ⟨ad', rfl, hx'⟩ := HR'.out.byte_at (fun i hi => HM.out.block i (hB i hi) id) (k := k) (by omega)
        go_wp2
        go_quiet (fail)
        go_wp2
        · have hxy : xs[k] ≠ ys[k] := by
            intro he
            have hb : ((xs[k].toNat : Int) != (ys[k].toNat : Int)) = true := by assumption
            rw [he] at hb; simp at hb
          go_ret
          refine ⟨?_, HM.out.drewN _⟩
          have : xs ≠ ys := fun e => hxy (by subst e; rfl)
          simp [this]
        · have hxy : xs[k] = ys[k] := by
            have hb : ((xs[k].toNat : Int) != (ys[k].toNat : Int)) = false := by assumption
            have hb' : (xs[k].toNat : Int) = (ys[k].toNat : Int) := by simpa using hb
            exact UInt8.toNat_inj.1 (by omega)
          have HXY := Sec.mk hxy
          clear hxy
          go_roundw
          case rel => exact ⟨k + 1, by omega, by go_num, Sec.mk (by rw [List.take_succ_eq_append_getElem hlt, List.take_succ_eq_append_getElem (by omega), HT.out, HXY.out]), Sec.mk (HM.out.drewN _)⟩
          case measure => simp [intOf]; omega
      · go_wp2
        go_ret
        have he : xs = ys := by
          have h1 := HT.out
          rw [List.take_of_length_le (by omega), List.take_of_length_le (by omega)] at h1
          exact h1
        exact ⟨by simp [he], HM.out⟩
  · have hnb : ((xs.length : Int) != (ys.length : Int)) = true := by simp; omega
    go_enter Try.func16, Try.ntmps16
    go_wp2
    go_ret
    exact ⟨by simp [show xs ≠ ys from fun e => hne (by rw [e])], Mod.refl _ _⟩

end Go.Proofs.Ytciiejkfppnimaa

namespace Go.Proofs.Ytciiejkfppnimaa
open Go.RowKit Mem
set_option linter.unusedVariables false

theorem ba_app' (xs ys : Bytes) : (⟨xs.toArray⟩ : ByteArray) ++ ⟨ys.toArray⟩ = ⟨(xs ++ ys).toArray⟩ := ByteArray.ext (by rw [ByteArray.data_append]; simp)
theorem dec_big {u : Nat} (h : 10 ≤ u) : Lib.decDigits u = Lib.decDigits (u / 10) ++ [UInt8.ofNat (48 + u % 10)] := by rw [Lib.decDigits, dif_neg (by omega)]
theorem dec_small {u : Nat} (h : u < 10) : Lib.decDigits u = [UInt8.ofNat (48 + u)] := by rw [Lib.decDigits, dif_pos h]
theorem dec_len (u : Nat) (h : u ≤ 1000000000000) : (Lib.decDigits u).length ≤ 13 := by
  rw [Lib.decDigits_length]
  rcases Nat.lt_or_ge (Lib.nDigits u) 14 with h1 | h1
  · omega
  · exfalso
    have hlow : ∀ k u, k + 1 ≤ Lib.nDigits u → 10 ^ k ≤ u ∨ k = 0 := by
      intro k
      induction k with
      | zero => intro u _; exact .inr rfl
      | succ k ih =>
        intro u hk
        by_cases hu : u < 10
        · rw [Lib.nDigits_small hu] at hk; omega
        · rw [Lib.nDigits_big hu] at hk
          left
          rw [Nat.pow_succ]
          rcases ih (u / 10) (by omega) with h | h
          · have := Nat.mul_le_mul_right 10 h
            omega
          · subst h; simp; omega
    rcases hlow 13 u h1 with h2 | h2
    · have : (10 : Nat) ^ 13 = 10000000000000 := by decide
      omega
    · omega
/-- what is still to be put ahead -/
def DecSt (N m : Nat) (s : Bytes) : Prop := if m = 0 then s = Lib.decDigits N else Lib.decDigits m ++ s = Lib.decDigits N
theorem DecSt.step {N m : Nat} {s : Bytes} (h : DecSt N m s) (hm : m ≠ 0) : DecSt N (m / 10) ([UInt8.ofNat (48 + m % 10)] ++ s) := by
  unfold DecSt at h ⊢
  rw [if_neg hm] at h
  by_cases h10 : m < 10
  · rw [if_pos (by omega), ← h, dec_small h10, show m % 10 = m by omega]
  · rw [if_neg (by omega), ← h, dec_big (u := m) (by omega), List.append_assoc]

set_option maxHeartbeats 1000000 in
set_option maxRecDepth 100000 in
theorem l1Dec_calls (N : Nat) (hN : N ≤ 9999999999999) (w : World) : Calls Try.prog 54 #[.int .i64 (N : Int)] w (Ret (.string ⟨(Lib.decDigits N).toArray⟩) w) := by
  by_cases h0 : N = 0
  · subst h0
    go_enter Try.func54, Try.ntmps54
    go_wp2
    go_ret
    rw [dec_small (u := 0) (by omega)]
    exact ⟨rfl, Mod.refl _ _⟩
  · have hni : ¬ (N : Int) = 0 := by omega
    have hnb : ((N : Int) == 0) = false := by simp only [beq_eq_false_iff_ne, ne_eq]; exact hni
    have HS0 : Sec (DecSt N N []) := ⟨by unfold DecSt; rw [if_neg h0, List.append_nil]⟩
    clear h0
    go_enter Try.func54, Try.ntmps54
    go_wp2
    clear hni hnb
    go_loopw [0, 3] (fun q s wr => ∃ (m : Nat) (js : Bytes), m ≤ N ∧ q = .int .i64 (m : Int) ∧ s = .string ⟨js.toArray⟩ ∧ js.length ≤ 100000000000000 - m ∧ Sec (DecSt N m js) ∧ Sec (New w wr)) (fun q _ _ => (intOf q).toNat)
    case atStart => exact ⟨N, [], Nat.le_refl _, rfl, rfl, by simp, HS0, ⟨Mod.refl _ _⟩⟩
    case round =>
      obtain ⟨m, js, hm, rfl, rfl, hjl, HS, HM⟩ := hrel
      clear HS0
      by_cases hm0 : m = 0
      · subst hm0
        have hE : js = Lib.decDigits N := by have := HS.out; unfold DecSt at this; rwa [if_pos rfl] at this
        have HE := Sec.mk hE
        clear hE
        go_wp2
        go_ret
        rw [HE.out]
        exact ⟨rfl, HM.out⟩
      · have hmi : (0 : Int) < (m : Int) := by omega
        have HS' := Sec.mk (HS.out.step hm0)
        have HRO := Row.one wr 5 (UInt8.ofNat (48 + m % 10)) (48 + (m : Int) % 10) (by rw [UInt8.toNat_ofNat']; omega)
        have hcv := HRO.conv (P := Try.prog) Try.underlying22 Try.underlying5 Try.underlying9 1
        clear HRO
        go_wp2
        refine ⟨⟨m / 10, [UInt8.ofNat (48 + m % 10)] ++ js, by omega, ?_, ?_, ?_, HS', ⟨HM.out.alloc _⟩⟩, ?_⟩
        · go_num
        · rw [← ba_app']; simp
        · simp only [List.length_append, List.length_singleton]; omega
        · simp [intOf]; omega

end Go.Proofs.Ytciiejkfppnimaa

namespace Go.Proofs.Ytciiejkfppnimaa
set_option linter.unusedVariables false
open Mem
def digB (b : UInt8) : Prop := 48 ≤ b.toNat ∧ b.toNat ≤ 57
instance (b : UInt8) : Decidable (digB b) := inferInstanceAs (Decidable (_ ∧ _))
def valL (xs : Bytes) : Nat := xs.foldl (fun n b => 10 * n + (b.toNat - 48)) 0
theorem valL_snoc (xs : Bytes) (b : UInt8) : valL (xs ++ [b]) = 10 * valL xs + (b.toNat - 48) := by unfold valL; rw [List.foldl_append]; rfl
theorem valL_take (xs : Bytes) {k : Nat} (h : k < xs.length) : valL (xs.take (k + 1)) = 10 * valL (xs.take k) + (xs[k].toNat - 48) := by
  rw [List.take_succ_eq_append_getElem h, valL_snoc]
theorem valL_lt (xs : Bytes) : ∀ k, k ≤ xs.length → (∀ j, (hj : j < xs.length) → j < k → digB xs[j]) → valL (xs.take k) < 10 ^ k := by
  intro k
  induction k with
  | zero => intro _ _; simp [valL]
  | succ k ih =>
    intro hk h
    have h1 := ih (by omega) (fun j hj hjk => h j hj (by omega))
    have h2 := h k (by omega) (by omega)
    rw [valL_take xs (by omega), Nat.pow_succ]
    unfold digB at h2
    omega
theorem pow_le18 {k : Nat} (h : k ≤ 17) : (10 : Nat) ^ k ≤ 100000000000000000 := by
  have : (10 : Nat) ^ k ≤ 10 ^ 17 := Nat.pow_le_pow_right (by decide) h
  exact Nat.le_trans this (by decide)
def numL (xs : Bytes) : Nat × Bool := if 1 ≤ xs.length ∧ xs.length ≤ 13 ∧ ∀ b, b ∈ xs → digB b then (valL xs, decide (Lib.decDigits (valL xs) = xs)) else (0, false)
def decL (m : Nat) (xs : Bytes) : Nat × Bool := if 1 ≤ xs.length ∧ xs.length ≤ m ∧ ¬ (xs[0]? = some 48 ∧ 1 < xs.length) ∧ ∀ b, b ∈ xs → digB b then (valL xs, true) else (0, false)
theorem dec_len_pow : ∀ m u, 1 ≤ m → u < 10 ^ m → (Lib.decDigits u).length ≤ m
  | 0, _, h, _ => absurd h (by decide)
  | m + 1, u, _, h => by
    by_cases hu : u < 10
    · rw [dec_small hu]; simp
    · rw [dec_big (by omega), List.length_append]
      have hm : 1 ≤ m := by
        rcases Nat.eq_zero_or_pos m with h0 | h0
        · subst h0; simp at h; omega
        · exact h0
      have := dec_len_pow m (u / 10) hm (by rw [Nat.pow_succ] at h; omega)
      simp only [List.length_singleton]; omega
theorem dec_ne (u : Nat) : Lib.decDigits u ≠ [] := by
  by_cases hu : u < 10
  · rw [dec_small hu]; simp
  · rw [dec_big (by omega)]; simp
theorem dec_head : ∀ n u, u ≤ n → (Lib.decDigits u)[0]? = some 48 → u = 0
  | 0, u, h, _ => by omega
  | n + 1, u, h, h0 => by
    by_cases hu : u < 10
    · rw [dec_small hu] at h0
      have : UInt8.ofNat (48 + u) = 48 := by simpa using h0
      have := congrArg UInt8.toNat this
      rw [UInt8.toNat_ofNat'] at this
      have h48 : (48 : UInt8).toNat = 48 := rfl
      omega
    · rw [dec_big (by omega), List.getElem?_append_left (List.length_pos_iff.2 (dec_ne _))] at h0
      have := dec_head n (u / 10) (by omega) h0
      omega
theorem dec_val : ∀ n (xs : Bytes), xs.length = n + 1 → (∀ b, b ∈ xs → digB b) → ¬ (xs[0]? = some 48 ∧ 1 < xs.length) → Lib.decDigits (valL xs) = xs := by
  intro n
  induction n with
  | zero =>
    intro xs hl hd _
    match xs, hl with
    | [b], _ =>
      have hb := hd b (by simp)
      unfold digB at hb
      have hv : valL [b] = b.toNat - 48 := by simp [valL]
      rw [hv, dec_small (by omega)]
      congr 1
      apply UInt8.toNat.inj
      rw [UInt8.toNat_ofNat']; omega
  | succ n ih =>
    intro xs hl hd hz
    obtain ⟨ys, b, rfl⟩ : ∃ ys b, xs = ys ++ [b] := ⟨xs.dropLast, xs.getLast (by intro h; rw [h] at hl; cases hl), (List.dropLast_concat_getLast _).symm⟩
    rw [List.length_append, List.length_singleton] at hl
    have hyl : ys.length = n + 1 := by omega
    have hb := hd b (by simp)
    unfold digB at hb
    have h0 : (ys ++ [b])[0]? = ys[0]? := List.getElem?_append_left (by omega)
    have hz' : ys[0]? ≠ some 48 := fun h => hz ⟨by rw [h0, h], by simp; omega⟩
    have hy := ih ys hyl (fun c hc => hd c (by simp [hc])) (fun h => hz' h.1)
    have hpos : 1 ≤ valL ys := by
      rcases Nat.eq_zero_or_pos (valL ys) with h | h
      · rw [h, dec_small (by decide)] at hy
        exact absurd (by rw [← hy]; rfl) hz'
      · exact h
    rw [valL_snoc, dec_big (by omega), show (10 * valL ys + (b.toNat - 48)) / 10 = valL ys by omega, hy]
    congr 2
    apply UInt8.toNat.inj
    rw [UInt8.toNat_ofNat']; omega
theorem dec_val_iff {xs : Bytes} (hl : 1 ≤ xs.length) (hd : ∀ b, b ∈ xs → digB b) : Lib.decDigits (valL xs) = xs ↔ ¬ (xs[0]? = some 48 ∧ 1 < xs.length) := by
  constructor
  · intro h ⟨h0, h1⟩
    have hv := dec_head _ (valL xs) (Nat.le_refl _) (by rw [h]; exact h0)
    rw [hv, dec_small (by decide)] at h
    rw [← h] at h1
    simp at h1
  · intro h
    exact dec_val (xs.length - 1) xs (by omega) hd h
/-- a place of a set: '*' or a uid -/
def plL (xs : Bytes) : Option Nat := if xs = [42] then some 0 else if (decL 10 xs).2 = true ∧ 1 ≤ (decL 10 xs).1 ∧ (decL 10 xs).1 ≤ 4294967295 then some (decL 10 xs).1 else none
theorem dec_num {xs : Bytes} {n : Nat} (h : n ≤ 4294967295) : (numL xs = (n, true) ↔ decL 10 xs = (n, true)) := by
  constructor
  · intro hn
    unfold numL at hn
    split at hn
    · rename_i hc
      injection hn with h1 h2
      have hiff := dec_val_iff hc.1 hc.2.2
      have hd := of_decide_eq_true h2
      have hl := dec_len_pow 10 (valL xs) (by decide) (by rw [h1]; omega)
      rw [hd] at hl
      unfold decL
      rw [if_pos ⟨hc.1, hl, hiff.1 hd, hc.2.2⟩, h1]
    · injection hn with h1 h2; cases h2
  · intro hn
    unfold decL at hn
    split at hn
    · rename_i hc
      injection hn with h1 h2
      unfold numL
      rw [if_pos ⟨hc.1, by omega, hc.2.2.2⟩, h1]
      congr 1
      rw [← h1]
      exact decide_eq_true ((dec_val_iff hc.1 hc.2.2.2).2 hc.2.2.1)
    · injection hn with h1 h2; cases h2
theorem plL_num {xs : Bytes} (h : xs ≠ [42]) : plL xs = if (numL xs).2 = true ∧ 1 ≤ (numL xs).1 ∧ (numL xs).1 ≤ 4294967295 then some (numL xs).1 else none := by
  unfold plL
  rw [if_neg h]
  by_cases hc : (numL xs).2 = true ∧ 1 ≤ (numL xs).1 ∧ (numL xs).1 ≤ 4294967295
  · have := (dec_num (xs := xs) hc.2.2).1 (by rw [← hc.1])
    rw [if_pos hc, this, if_pos ⟨rfl, hc.2⟩]
  · rw [if_neg hc]
    by_cases hd : (decL 10 xs).2 = true ∧ 1 ≤ (decL 10 xs).1 ∧ (decL 10 xs).1 ≤ 4294967295
    · have := (dec_num (xs := xs) hd.2.2).2 (by rw [← hd.1])
      rw [this] at hc
      exact absurd ⟨rfl, hd.2⟩ hc
    · rw [if_neg hd]
end Go.Proofs.Ytciiejkfppnimaa

namespace Go.Proofs.Ytciiejkfppnimaa
set_option linter.unusedVariables false
open Mem
abbrev UniL := Bytes × (Bytes × (Bool × Bool))
/-- where a line ends, or -1 -/
def endI (b : Bytes) : Int := Lib.index b [13, 10]
def endAt (b : Bytes) (i : Nat) : Prop := b[i]? = some 13 ∧ b[i + 1]? = some 10
theorem occ_iff (b : Bytes) (i : Nat) : Lib.occAt b [13, 10] i = true ↔ endAt b i := by
  unfold Lib.occAt endAt
  have h2 : b[i + 1]? = (b.drop i)[1]? := by rw [List.getElem?_drop]
  have h1 : (b.drop i)[0]? = b[i]? := by rw [List.getElem?_drop, Nat.add_zero]
  rw [h2, ← h1]
  match b.drop i with
  | [] => simp
  | [x] => simp
  | x :: y :: r =>
    show (((13 : UInt8) == x) && (((10 : UInt8) == y) && true)) = true ↔ some x = some 13 ∧ some y = some 10
    simp only [Bool.and_eq_true, beq_iff_eq, Option.some.injEq, and_true]
    exact ⟨fun h => ⟨h.1.symm, h.2.symm⟩, fun h => ⟨h.1.symm, h.2.symm⟩⟩
theorem endI_spec (b : Bytes) : (endI b = -1 ∧ ∀ j, ¬ endAt b j) ∨ (∃ i : Nat, endI b = i ∧ i + 2 ≤ b.length ∧ endAt b i ∧ ∀ j, j < i → ¬ endAt b j) := by
  rcases Lib.index_spec b [13, 10] with ⟨h, hn⟩ | ⟨i, h, hi, ho, hn⟩
  · refine Or.inl ⟨h, fun j hj => ?_⟩
    have hl : j < b.length := (List.getElem?_eq_some_iff.1 hj.1).1
    have := hn j (Nat.le_of_lt hl)
    rw [(occ_iff b j).2 hj] at this
    cases this
  · have he := (occ_iff b i).1 ho
    have hl : i + 1 < b.length := (List.getElem?_eq_some_iff.1 he.2).1
    exact Or.inr ⟨i, h, by omega, he, fun j hj hx => by
      have := hn j hj
      rw [(occ_iff b j).2 hx] at this
      cases this⟩
theorem endI_first {b : Bytes} {i : Nat} (h : endAt b i) (hn : ∀ j, j < i → ¬ endAt b j) : endI b = i := by
  rcases endI_spec b with ⟨_, h2⟩ | ⟨k, h1, _, h3, h4⟩
  · exact absurd h (h2 i)
  · rw [h1]
    rcases Nat.lt_trichotomy k i with hlt | rfl | hlt
    · exact absurd h3 (hn k hlt)
    · rfl
    · exact absurd h (h4 i hlt)
theorem endI_none {b : Bytes} (hn : ∀ j, ¬ endAt b j) : endI b = -1 := by
  rcases endI_spec b with ⟨h, _⟩ | ⟨k, _, _, h3, _⟩
  · exact h
  · exact absurd h3 (hn k)
/-- the last '{' among the first k -/
def lastI (line : Bytes) : Nat → Option Nat
  | 0 => none
  | k + 1 => if line[k]? = some 123 then some k else lastI line k
theorem lastI_lt (line : Bytes) : ∀ k p, lastI line k = some p → p < k ∧ line[p]? = some 123
  | 0, p, h => by cases h
  | k + 1, p, h => by
    unfold lastI at h
    split at h
    · rename_i hc; injection h with h; subst h; exact ⟨by omega, hc⟩
    · have := lastI_lt line k p h; exact ⟨by omega, this.2⟩
theorem lastI_lib (line : Bytes) : ∀ k, k ≤ line.length → Lib.lastIdx ⟨line.toArray⟩ 123 k = (match lastI line k with | none => -1 | some p => (p : Int))
  | 0, _ => rfl
  | k + 1, h => by
    unfold Lib.lastIdx lastI
    have hk : k < line.length := by omega
    have e1 : ((⟨line.toArray⟩ : ByteArray).data[k]!) = line[k] := by simp [hk]
    rw [e1, List.getElem?_eq_getElem hk]
    by_cases hb : line[k] = 123
    · rw [if_pos (by rw [hb]; rfl), if_pos (by rw [hb])]
    · rw [if_neg (fun hx => hb (UInt8.toNat.inj (by have h3 : (123 : UInt8).toNat = 123 := rfl; omega))), if_neg (fun hx => hb (Option.some.inj hx))]
      exact lastI_lib line k (by omega)
def wordL (line : Bytes) (p : Nat) : Bytes := (line.take (line.length - 1)).drop (p + 1)
/-- a literal at a line's end: its place and its number -/
def litL (line : Bytes) : Option (Nat × Nat) :=
  match lastI line line.length with
  | none => none
  | some p => if line[line.length - 1]? = some 125 ∧ (decL 9 (wordL line p)).2 = true then some (p, (decL 9 (wordL line p)).1) else none
theorem dec9_num (xs : Bytes) : ((decL 9 xs).2 = true ↔ (numL xs).2 = true ∧ xs.length ≤ 9) ∧ ((decL 9 xs).2 = true → (numL xs).1 = (decL 9 xs).1 ∧ (decL 9 xs).1 < 1000000000) := by
  have hlt : (∀ b, b ∈ xs → digB b) → xs.length ≤ 9 → valL xs < 1000000000 := fun hd hl => by
    have := valL_lt xs xs.length (Nat.le_refl _) (fun j hj _ => hd _ (List.getElem_mem hj))
    rw [List.take_length] at this
    exact Nat.lt_of_lt_of_le this (Nat.le_trans (Nat.pow_le_pow_right (by decide) hl) (by decide))
  refine ⟨⟨fun h => ?_, fun h => ?_⟩, fun h => ?_⟩
  · unfold decL at h
    split at h
    · rename_i hc
      unfold numL
      rw [if_pos ⟨hc.1, by omega, hc.2.2.2⟩]
      exact ⟨decide_eq_true ((dec_val_iff hc.1 hc.2.2.2).2 hc.2.2.1), hc.2.1⟩
    · cases h
  · obtain ⟨h, h9⟩ := h
    unfold numL at h
    split at h
    · rename_i hc
      unfold decL
      rw [if_pos ⟨hc.1, h9, (dec_val_iff hc.1 hc.2.2).1 (of_decide_eq_true h), hc.2.2⟩]
    · cases h
  · unfold decL at h ⊢
    split at h
    · rename_i hc
      rw [if_pos hc]
      unfold numL
      rw [if_pos ⟨hc.1, by omega, hc.2.2.2⟩]
      exact ⟨rfl, hlt hc.2.2.2 hc.2.1⟩
    · cases h
def badU : UniL := ([], [], false, true)
def noU : UniL := ([], [], false, false)
/-- the first unit, and how many bytes it takes: 0 where it is not all there -/
def oneC (lit : Bool) (b : Bytes) : UniL × Nat :=
  if endI b < 0 then (noU, 0)
  else if 300 < (endI b).toNat then (badU, (endI b).toNat + 2)
  else match (if lit then litL (b.take (endI b).toNat) else none) with
    | none => ((b.take (endI b).toNat, [], false, false), (endI b).toNat + 2)
    | some (p, n) =>
      if 8000 < n then (badU, (endI b).toNat + 2)
      else if b.length < (endI b).toNat + 2 + n + 2 then (noU, 0)
      else if b[(endI b).toNat + 2 + n]? = some 13 ∧ b[(endI b).toNat + 2 + n + 1]? = some 10 then
        (((b.take (endI b).toNat).take p, (b.take ((endI b).toNat + 2 + n)).drop ((endI b).toNat + 2), true, false), (endI b).toNat + 2 + n + 2)
      else (badU, (endI b).toNat + 2 + n)
theorem oneC_le (lit : Bool) (b : Bytes) : (oneC lit b).2 ≤ b.length ∧ ((oneC lit b).2 ≠ 0 → 2 ≤ (oneC lit b).2) := by
  unfold oneC
  rcases endI_spec b with ⟨h, _⟩ | ⟨i, h, hi, _, _⟩
  · rw [h]; simp
  · rw [h, if_neg (by omega)]
    simp only [Int.toNat_natCast]
    split
    · exact ⟨by simp only; omega, fun _ => by simp only; omega⟩
    · split
      · exact ⟨by simp only; omega, fun _ => by simp only; omega⟩
      · split
        · exact ⟨by simp only; omega, fun _ => by simp only; omega⟩
        · split
          · exact ⟨by simp, fun h => absurd rfl h⟩
          · split
            · exact ⟨by simp only; omega, fun _ => by simp only; omega⟩
            · exact ⟨by simp only; omega, fun _ => by simp only; omega⟩
/-- all units, and what is left -/
def cutsF (lit : Bool) : Nat → Bytes → List UniL × Bytes
  | 0, b => ([], b)
  | f + 1, b => if (oneC lit b).2 = 0 then ([], b) else ((oneC lit b).1 :: (cutsF lit f (b.drop (oneC lit b).2)).1, (cutsF lit f (b.drop (oneC lit b).2)).2)
def cutsL (lit : Bool) (b : Bytes) : List UniL × Bytes := cutsF lit (b.length + 1) b
theorem cutsF_any (lit : Bool) : ∀ f g b, b.length < f → b.length < g → cutsF lit f b = cutsF lit g b
  | 0, _, _, h, _ => absurd h (Nat.not_lt_zero _)
  | _, 0, _, _, h => absurd h (Nat.not_lt_zero _)
  | f + 1, g + 1, b, hf, hg => by
    unfold cutsF
    by_cases h0 : (oneC lit b).2 = 0
    · rw [if_pos h0, if_pos h0]
    · have := (oneC_le lit b).2 h0
      have hl := (oneC_le lit b).1
      rw [if_neg h0, if_neg h0, cutsF_any lit f g (b.drop (oneC lit b).2) (by rw [List.length_drop]; omega) (by rw [List.length_drop]; omega)]
theorem cutsL_stop {lit : Bool} {b : Bytes} (h : (oneC lit b).2 = 0) : cutsL lit b = ([], b) := by
  unfold cutsL cutsF
  rw [if_pos h]
theorem cutsL_step {lit : Bool} {b : Bytes} (h : (oneC lit b).2 ≠ 0) : cutsL lit b = ((oneC lit b).1 :: (cutsL lit (b.drop (oneC lit b).2)).1, (cutsL lit (b.drop (oneC lit b).2)).2) := by
  have h2 := (oneC_le lit b).2 h
  have hl := (oneC_le lit b).1
  unfold cutsL
  rw [show cutsF lit (b.length + 1) b = if (oneC lit b).2 = 0 then ([], b) else ((oneC lit b).1 :: (cutsF lit b.length (b.drop (oneC lit b).2)).1, (cutsF lit b.length (b.drop (oneC lit b).2)).2) from rfl, if_neg h,
    cutsF_any lit b.length ((b.drop (oneC lit b).2).length + 1) (b.drop (oneC lit b).2) (by rw [List.length_drop]; omega) (by omega)]
end Go.Proofs.Ytciiejkfppnimaa

namespace Go.Proofs.Ytciiejkfppnimaa.Mem
open Go.RowKit
set_option linter.unusedVariables false

section
variable {P : Program} {md : Region.Mode} {ops : Array Oper} {T : World → Prop} {L : List Nat} {Q : Exit → Act → World → Prop} {o : Oper} {a : Act} {w : World} {v : Value}
/-- whatever order comes: T holds behind every operation but those of L -/
def RegR (P : Program) (md : Region.Mode) (ops : Array Oper) (Q : Exit → Act → World → Prop) (L : List Nat) (T : World → Prop) : Nat → Array Bool → Act → World → Prop
  | 0, ls, a, w => Region.ready md ops ls = [] ∧ Q .normal a w
  | n + 1, ls, a, w => (Region.ready md ops ls = [] → Q .normal a w) ∧ ∀ i ∈ Region.ready md ops ls, wpOp P ops Q i (fun a' w' => (i ∉ L → T w') ∧ RegR P md ops Q L T n (ls.setIfInBounds i true) a' w') a w
theorem RegR.any : ∀ (n : Nat) (ls : Array Bool) (a : Act) (w : World), RegR P md ops Q L T n ls a w → wpAny P md ops Q n ls a w
  | 0, _, _, _, h => h
  | n + 1, _, _, _, h => ⟨h.1, fun i hi => wpOp_mono (fun a' w' h' => RegR.any n _ a' w' h'.2) (h.2 i hi)⟩
/-- does each of L wait for number i -/
def Waits (md : Region.Mode) (ops : Array Oper) (L : List Nat) (i : Nat) : Bool := L.all fun j => ((ops[j]?).map fun o => o.after.any fun e => Region.binds md e && e.on == i).getD false
theorem RegR.first {i : Nat} {oi : Oper} (hi : ops[i]? = some oi) (hsel : ∀ (j : Nat) (o : Oper) cs b, ops[j]? = some o → o.op ≠ .select cs b)
    (hQ : ∀ c a w, Q (.panic c) (a.put oi.dst v) w → Q (.panic c) a w) (hL : Waits md ops L i = true) (n : Nat) : ∀ (ls : Array Bool) (a : Act) (w : World),
      (∀ j oj, ops[j]? = some oj → j ≠ i → ls.getD j true = false → (∀ e ∈ oj.after, Region.binds md e = true → e.on ≠ i) → oi.apart ops oj = true) →
      i ∈ Region.ready md ops ls → YieldsIf P ops T oi v a → T w → RegR P md ops Q L T n (ls.setIfInBounds i true) (a.put oi.dst v) w → RegR P md ops Q L T (n + 1) ls a w := by
  -- who comes ahead of number i does not wait for it
  have hno : ∀ (ls : Array Bool) (j : Nat) (oj : Oper), ops[j]? = some oj → i ∈ Region.ready md ops ls → (∀ e ∈ oj.after, Region.binds md e = true → ls.getD e.on false = true) → ∀ e ∈ oj.after, Region.binds md e = true → e.on ≠ i := by
    intro ls j oj _ hir hall e he hb heq
    have hl := hall e he hb
    have h0 := (mem_ready.1 hir).1
    rw [heq] at hl
    by_cases hsz : i < ls.size
    · simp [hsz] at h0 hl; simp [h0] at hl
    · simp [Array.getElem?_eq_none (Nat.le_of_not_lt hsz)] at hl
  have hnL : ∀ j oj, ops[j]? = some oj → (∀ e ∈ oj.after, Region.binds md e = true → e.on ≠ i) → j ∉ L := by
    intro j oj hj hn hmem
    have h1 := List.all_eq_true.1 hL j hmem
    simp only [hj, Option.map_some, Option.getD_some] at h1
    obtain ⟨e, he, hb⟩ := Array.any_eq_true'.1 h1
    rw [Bool.and_eq_true, beq_iff_eq] at hb
    exact hn e he hb.1 hb.2
  induction n with
  | zero =>
    intro ls a w _ hr hy hT H
    refine ⟨fun h0 => absurd (h0 ▸ hr) List.not_mem_nil, fun j hj => ?_⟩
    rcases Decidable.em (j = i) with rfl | hne
    · exact hy.wpOp hi hT ⟨fun _ => hT, H⟩
    · exact absurd (H.1 ▸ ready_mono hj hne) List.not_mem_nil
  | succ n ih =>
    intro ls a w hfree hr hy hT H
    refine ⟨fun h0 => absurd (h0 ▸ hr) List.not_mem_nil, fun j hj => ?_⟩
    rcases Decidable.em (j = i) with rfl | hne
    · exact hy.wpOp hi hT ⟨fun _ => hT, H⟩
    obtain ⟨hun, oj, hoj, hall⟩ := mem_ready.1 hj
    have hn := hno ls j oj hoj hr hall
    refine wpOp_mono ?_ (wpOp_putIf hoj (hfree j oj hoj hne hun hn) (fun cs b => hsel i oi cs b hi) (fun cs b => hsel j oj cs b hoj) hQ hy (H.2 j (ready_mono hj hne)))
    intro a' w' h
    refine ⟨h.2.1, ih _ a' w' ?_ (ready_mono hr (Ne.symm hne)) h.1 (h.2.1 (hnL j oj hoj hn)) ?_⟩
    · intro k ok hk hki hku hkn
      refine hfree k ok hk hki ?_ hkn
      rcases Decidable.em (j = k) with rfl | hjk
      · exact hun
      · rw [getD_set_ne true hjk] at hku; exact hku
    · have h3 := h.2.2
      rwa [Array.setIfInBounds_comm _ _ (Ne.symm hne)] at h3
/-- the beginning -/
theorem reg_start (L : List Nat) (T : World → Prop) {id : Nat} (hm : P.follows .mixedOrders = true) (h : RegR P .any ops Q L T ops.size (Array.replicate ops.size false) a w.drew) : (Code.region id ops true).wp P Q a w :=
  wp_region_any hm (RegR.any _ _ _ _ h)
/-- number i, into slot n, first -/
theorem reg_take {i n : Nat} {op : Op} {ty : TypeId} {pos : String} {af : Array Edge} {fuel : Nat} {ls : Array Bool} (v : Value) (hT : T w) (hi : ops[i]? = some ⟨some n, op, ty, pos, af, none⟩) (hs : Region.noSelect ops = true) (hL : Waits md ops L i = true) (hf : Region.free md ops ls i = true) (hr : (Region.ready md ops ls).contains i = true)
    (hQ : ∀ c a w, Q (.panic c) (a.put (some n) v) w → Q (.panic c) a w) (hy : ∀ w, T w → (execOp a.eval ⟨some n, op, ty, pos, af, none⟩).run P w = .ok (.value v) w)
    (h : RegR P md ops Q L T fuel (ls.setIfInBounds i true) (a.put (some n) v) w) : RegR P md ops Q L T (fuel + 1) ls a w :=
  RegR.first hi (Region.noSelect_spec hs) hQ hL fuel ls a w (Region.free_spec hi hf) (by simpa using hr) (.inl ⟨by simp [Region.wanted], hy⟩) hT h
/-- number i, alone ready -/
theorem reg_step {i : Nat} {d : Option Nat} {op : Op} {ty : TypeId} {pos : String} {af : Array Edge} {fuel : Nat} {ls : Array Bool} (hi : ops[i]? = some ⟨d, op, ty, pos, af, none⟩) (hr : Region.ready md ops ls = [i])
    (h : ∀ K : Act → World → Prop, Shut (∀ a w, (i ∉ L → T w) → RegR P md ops Q L T fuel (ls.setIfInBounds i true) a w → K a w) → Oper.wp P ⟨d, op, ty, pos, af, none⟩ a w K Q) : RegR P md ops Q L T (fuel + 1) ls a w := by
  refine ⟨fun h0 => absurd (hr.symm.trans h0) (by simp), ?_⟩
  rw [hr]
  intro j hj
  obtain rfl := List.mem_singleton.1 hj
  refine wpOp_step hi fun K' hK => ?_
  rw [if_pos (by simp [Region.wanted])]
  exact h K' fun a w h1 h2 => hK a w ⟨h1, h2⟩
/-- the same for an operation that stands under a guard which holds -/
theorem reg_takeG {i n : Nat} {op : Op} {ty : TypeId} {pos : String} {af : Array Edge} {gd : Option (Nat × Bool)} {fuel : Nat} {ls : Array Bool} (v : Value) (hT : T w) (hi : ops[i]? = some ⟨some n, op, ty, pos, af, gd⟩) (hw : Region.wanted ⟨some n, op, ty, pos, af, gd⟩ (yielded ops a.tmps) = true) (hs : Region.noSelect ops = true) (hL : Waits md ops L i = true) (hf : Region.free md ops ls i = true) (hr : (Region.ready md ops ls).contains i = true)
    (hQ : ∀ c a w, Q (.panic c) (a.put (some n) v) w → Q (.panic c) a w) (hy : ∀ w, T w → (execOp a.eval ⟨some n, op, ty, pos, af, gd⟩).run P w = .ok (.value v) w)
    (h : RegR P md ops Q L T fuel (ls.setIfInBounds i true) (a.put (some n) v) w) : RegR P md ops Q L T (fuel + 1) ls a w :=
  RegR.first hi (Region.noSelect_spec hs) hQ hL fuel ls a w (Region.free_spec hi hf) (by simpa using hr) (.inl ⟨hw, hy⟩) hT h
theorem reg_stepG {i : Nat} {d : Option Nat} {op : Op} {ty : TypeId} {pos : String} {af : Array Edge} {gd : Option (Nat × Bool)} {fuel : Nat} {ls : Array Bool} (hi : ops[i]? = some ⟨d, op, ty, pos, af, gd⟩) (hw : Region.wanted ⟨d, op, ty, pos, af, gd⟩ (yielded ops a.tmps) = true) (hr : Region.ready md ops ls = [i])
    (h : ∀ K : Act → World → Prop, Shut (∀ a w, (i ∉ L → T w) → RegR P md ops Q L T fuel (ls.setIfInBounds i true) a w → K a w) → Oper.wp P ⟨d, op, ty, pos, af, gd⟩ a w K Q) : RegR P md ops Q L T (fuel + 1) ls a w := by
  refine ⟨fun h0 => absurd (hr.symm.trans h0) (by simp), ?_⟩
  rw [hr]
  intro j hj
  obtain rfl := List.mem_singleton.1 hj
  refine wpOp_step hi fun K' hK => ?_
  rw [if_pos hw]
  exact h K' fun a w h1 h2 => hK a w ⟨h1, h2⟩
theorem reg_done {ls : Array Bool} (hr : Region.ready md ops ls = []) (h : Q .normal a w) : ∀ n, RegR P md ops Q L T n ls a w
  | 0 => ⟨hr, h⟩
  | _ + 1 => ⟨fun _ => h, by rw [hr]; simp⟩
theorem wp_val (hx : (execOp a.eval o).run P w = .ok (.value v) w) {n : Nat} (hd : o.dst = some n) {K : Act → World → Prop} (h : K (a.put (some n) v) w) : Oper.wp P o a w K Q := by
  unfold Oper.wp
  rw [hx, Oper.upon_value, hd]; exact h
theorem exec_convert {src dst : TypeId} {x : Operand} (ho : o.op = .convert src dst x) (h : (convert src dst (a.eval x)).run P w = .ok v w) : (execOp a.eval o).run P w = .ok (.value v) w := by
  unfold execOp; simp only [ho, Sem.run_bind, h, Result.andThen_ok, Sem.run_pure]
theorem exec_move {x : Operand} (ho : o.op = .move x) (h : a.eval x = v) : (execOp a.eval o).run P w = .ok (.value v) w := by
  unfold execOp; simp only [ho, h, Sem.run_pure]
theorem exec_bin {op : BinOp} {t t' : TypeId} {x y : Operand} (ho : o.op = .binOp op t x y t') {vx vy : Value} (hx : a.eval x = vx) (hy : a.eval y = vy) (h : (do eqGuard op t x y vx vy; binOp op t vx vy : Sem Value).run P w = .ok v w) : (execOp a.eval o).run P w = .ok (.value v) w := by
  unfold execOp; simp only [ho, hx, hy]
  rw [Sem.run_bind, h]; rfl
theorem slice_to {t e : TypeId} {n c k : Nat} {A : Option Addr} (hu : P.underlying t = some (.slice e)) (hk : k ≤ c) (he : (P.info? e).isSome = true) : (Instr.sliceAt t (.slice A n c) none (some (.int .i64 k)) none).run P w = .ok (.slice A k c) w := by
  obtain ⟨i, hi⟩ := Option.isSome_iff_exists.1 he
  have hel : P.elem t = e := by simp [Program.elem, hu]
  have hu' : P.underlying t = some (.slice (P.elem t)) := by rw [hel]; exact hu
  rw [run_sliceAt_slice w t _ _ _ _ hu', run_slice_h w t A n c hu' .i64 (k : Int) (by omega) (by omega)]
  have hs : (sizeOf e).run P w = .ok i.size w := by
    simp only [sizeOf, typeInfo, Sem.run_bind, run_program, hi, Result.andThen, Sem.run_pure]
  rw [hel, hs]
  simp [Result.andThen, sliced]
  cases A <;> simp [Addr.add]
theorem exec_slice {t : TypeId} {x : Operand} {lo hi mx : Option Operand} (ho : o.op = .slice t x lo hi mx) {vx : Value} {vl vh vm : Option Value} (hx : a.eval x = vx) (hl : lo.map a.eval = vl) (hh : hi.map a.eval = vh) (hm : mx.map a.eval = vm) (h : (Instr.sliceAt t vx vl vh vm).run P w = .ok v w) : (execOp a.eval o).run P w = .ok (.value v) w := by
  unfold execOp; simp only [ho, hx, hl, hh, hm, Sem.run_bind, h, Result.andThen_ok, Sem.run_pure]
/-- a call of a Go function -/
theorem exec_call {f : FuncId} {args : List Operand} {ts : Array TypeId} {vals : List Value} (ho : o.op = .call { callee := .value (.func f), args := args.toArray, argTypes := ts }) (hv : args.map a.eval = vals)
    (hf : ((P.funcs[f]?).map fun fn => fn.name == "runtime.NumGoroutine" || fn.body.isNone) = some false) : (execOp a.eval o).run P w = .ok (.enter f vals.toArray) w := by
  obtain ⟨fn, hfn, hb⟩ := Option.map_eq_some_iff.1 hf
  rw [Bool.or_eq_false_iff] at hb
  have h1 : fn.name ≠ "runtime.NumGoroutine" := fun h => by rw [h] at hb; simp at hb
  have h2 : fn.body ≠ none := fun h => by rw [h] at hb; simp at hb
  unfold execOp
  simp only [ho, resolve, List.map_toArray, hv, Act.eval, Deferred.ofValue]
  simp [Sem.run_bind, Result.andThen, invoke, callFunc, hfn, h1, h2]
theorem wp_call {f : FuncId} {args : List Operand} {ts : Array TypeId} {vals : List Value} {R : Ending → World → Prop} {n : Nat} (ho : o.op = .call { callee := .value (.func f), args := args.toArray, argTypes := ts }) (hd : o.dst = some n) (hv : args.map a.eval = vals)
    (hf : ((P.funcs[f]?).map fun fn => fn.name == "runtime.NumGoroutine" || fn.body.isNone) = some false) {K : Act → World → Prop} (hc : Calls P f vals.toArray w R) (hK : ∀ e w', R e w' → ∃ v, e = .returned v ∧ K (a.put (some n) v) w') : Oper.wp P o a w K Q := by
  unfold Oper.wp
  rw [exec_call ho hv hf, Oper.upon_enter]
  refine hc.mono ?_
  intro e w' hR
  obtain ⟨v, rfl, h⟩ := hK e w' hR
  rw [hd]; exact h
theorem exec_load {t : TypeId} {x : Operand} (ho : o.op = .load t x) {vx : Value} (hx : a.eval x = vx) (h : (Instr.loadAt t vx).run P w = .ok v w) : (execOp a.eval o).run P w = .ok (.value v) w := by
  unfold execOp; simp only [ho, hx, Sem.run_bind, h, Result.andThen_ok, Sem.run_pure]
theorem exec_field {t : TypeId} {x : Operand} {f : Nat} (ho : o.op = .fieldAddr t x f) {vx : Value} (hx : a.eval x = vx) (h : (Instr.fieldAt t vx f).run P w = .ok v w) : (execOp a.eval o).run P w = .ok (.value v) w := by
  unfold execOp; simp only [ho, hx, Sem.run_bind, h, Result.andThen_ok, Sem.run_pure]
theorem exec_index {t : TypeId} {x i : Operand} (ho : o.op = .index t x i) {vx vi : Value} (hx : a.eval x = vx) (hi : a.eval i = vi) (h : (Instr.index t vx vi).run P w = .ok v w) : (execOp a.eval o).run P w = .ok (.value v) w := by
  unfold execOp; simp only [ho, hx, hi, Sem.run_bind, h, Result.andThen_ok, Sem.run_pure]
theorem exec_indexAddr {t : TypeId} {x i : Operand} (ho : o.op = .indexAddr t x i) {vx vi : Value} (hx : a.eval x = vx) (hi : a.eval i = vi) (h : (Instr.indexAt t vx vi).run P w = .ok v w) : (execOp a.eval o).run P w = .ok (.value v) w := by
  unfold execOp; simp only [ho, hx, hi, Sem.run_bind, h, Result.andThen_ok, Sem.run_pure]
theorem exec_un {op : UnOp} {t : TypeId} {x : Operand} (ho : o.op = .unOp op t x) {vx : Value} (hx : a.eval x = vx) (h : (Op.unary op vx).run P w = .ok v w) : (execOp a.eval o).run P w = .ok (.value v) w := by
  unfold execOp; simp only [ho, hx, Sem.run_bind, h, Result.andThen_ok, Sem.run_pure]
theorem exec_pick {c x y : Operand} (ho : o.op = .pick c x y) {b : Bool} {vx vy : Value} (hc : a.eval c = .bool b) (hx : a.eval x = vx) (hy : a.eval y = vy) (hv : v = if b then vx else vy) : (execOp a.eval o).run P w = .ok (.value v) w := by
  unfold execOp; subst hv; simp [ho, hc, hx, hy, asBool, Sem.run_pure]
theorem exec_buildSlice {t : TypeId} {n : Nat} {parts : List (Nat × Operand)} {w' : World} (ho : o.op = .buildSlice t n parts.toArray) {vs : List (Nat × Value)} (hx : parts.map (fun (i, x) => (i, a.eval x)) = vs) (h : (Instr.buildSlice t n vs.toArray).run P w = .ok v w') : (execOp a.eval o).run P w = .ok (.value v) w' := by
  unfold execOp; simp only [ho, List.map_toArray, hx, Sem.run_bind, h, Result.andThen_ok, Sem.run_pure]
theorem wp_valw {w' : World} (hx : (execOp a.eval o).run P w = .ok (.value v) w') {n : Nat} (hd : o.dst = some n) {K : Act → World → Prop} (h : K (a.put (some n) v) w') : Oper.wp P o a w K Q := by
  unfold Oper.wp
  rw [hx, Oper.upon_value, hd]; exact h
theorem wp_store {t : TypeId} {x y : Operand} {w' : World} (ho : o.op = .store t x y) (hd : o.dst = none) {vx vy : Value} (hx : a.eval x = vx) (hy : a.eval y = vy) (h : (Instr.storeAt t vx vy).run P w = .ok () w') {K : Act → World → Prop} (hK : K a w') : Oper.wp P o a w K Q := by
  unfold Oper.wp execOp; simp only [ho, hx, hy, Sem.run_bind, h, Result.andThen_ok, Sem.run_pure, Oper.upon_skip, hd]
  exact hK
end
end Go.Proofs.Ytciiejkfppnimaa.Mem
