/- The specification's test of a list of names. -/
import Derived.Test.YtinfibggdbakoaaDiskC
namespace Go.Proofs.Ytinfibggdbakoaa
open Go.RowKit Mem
set_option linter.unusedVariables false
set_option linter.unusedSimpArgs false
def atOk (l : List EntL) (nodes : Int) (k : Nat) : Prop := ∀ hk : k < l.length, goodL l[k].1 = true ∧ 0 ≤ l[k].2 ∧ l[k].2 < nodes ∧ ∀ j (hj : j < k), l[j].1 < l[k].1 ∧ l[j].2 ≠ l[k].2
theorem inOrdL_iff (l : List EntL) (nodes : Int) : inOrdL l nodes = true ↔ l.length ≤ 300 ∧ ∀ k, atOk l nodes k := by
  unfold inOrdL atOk
  simp only [Bool.and_eq_true, decide_eq_true_eq, List.all_eq_true, List.pairwise_iff_getElem]
  constructor
  · rintro ⟨⟨h1, h2⟩, h3⟩
    refine ⟨h1, fun k hk => ?_⟩
    have := h2 _ (List.getElem_mem hk)
    exact ⟨this.1, this.2.1, this.2.2, fun j hj => h3 j k (by omega) hk hj⟩
  · rintro ⟨h1, h2⟩
    refine ⟨⟨h1, fun x hx => ?_⟩, fun i j hi hj hij => (h2 j hj).2.2.2 i hij⟩
    obtain ⟨j, hj, rfl⟩ := List.getElem_of_mem hx
    have := h2 j hj
    exact ⟨this.1, this.2.1, this.2.2.1⟩
set_option maxHeartbeats 4000000 in
set_option maxRecDepth 100000 in
theorem l1InOrder_calls {A : Option Addr} {c : Nat} {xs : List EntryT} {B : Nat → Prop} {w : World} (h : Row dEntry w B A xs.length xs) (hB : ∀ k, B k → k < w.heap.size) (nodes : Int) : Calls Try.prog 26 #[.slice A xs.length c, .int .i64 nodes] w (Ret (.bool (inOrdL xs nodes)) w) := by
  have hmx := h.2.1
  have HR := Sec.mk h
  have HB := Sec.mk hB
  have HI := Sec.mk (inOrdL_iff xs nodes)
  have HF : Sec (¬ (xs.length ≤ 300 ∧ ∀ k, atOk xs nodes k) → inOrdL xs nodes = false) := ⟨fun h => by
    cases hg : inOrdL xs nodes with
    | false => rfl
    | true => exact absurd (HI.out.1 hg) h⟩
  generalize inOrdL xs nodes = r at *
  clear h hB
  by_cases h3 : xs.length ≤ 300
  rotate_left
  · have HE : Sec (r = false) := ⟨HF.out (fun h => h3 h.1)⟩
    have h3i : (300 : Int) < (xs.length : Int) := by omega
    clear h3
    go_enter Try.func26, Try.ntmps26
    go_wp2
    go_ret
    exact ⟨by rw [HE.out]; rfl, Mod.refl _ _⟩
  have h3i : ¬ (300 : Int) < (xs.length : Int) := by omega
  go_enter Try.func26, Try.ntmps26
  go_wp2
  go_loopw [13] (fun i wr => ∃ k : Nat, k ≤ xs.length ∧ i = .int .i64 (k : Int) ∧ Sec (∀ j, j < k → atOk xs nodes j) ∧ Sec (New w wr)) (fun i _ => xs.length - (intOf i).toNat)
  case atStart => exact ⟨0, Nat.zero_le _, rfl, ⟨fun j h => absurd h (Nat.not_lt_zero _)⟩, ⟨Mod.refl _ _⟩⟩
  case round =>
    obtain ⟨k, hk, rfl, HN, HM⟩ := hrel
    by_cases hlt : k < xs.length
    · obtain ⟨ad, rfl, h0, h1, hzn, _⟩ := ent_at HR.out (w' := wr) (fun i hi => HM.out.block i (HB.out i hi) id) hlt
      have hki : (k : Int) < (xs.length : Int) := by omega
      have HAT : Sec (atOk xs nodes k ↔ (goodL xs[k].1 = true ∧ 0 ≤ xs[k].2 ∧ xs[k].2 < nodes ∧ ∀ j (hj : j < k), (xs[j]'(by omega)).1 < xs[k].1 ∧ (xs[j]'(by omega)).2 ≠ xs[k].2)) := ⟨⟨fun h => h hlt, fun h _ => h⟩⟩
      have HBAD : Sec (¬ atOk xs nodes k → r = false) := ⟨fun h => HF.out (fun hh => h (hh.2 k))⟩
      have HNX : Sec (atOk xs nodes k → ∀ j, j < k + 1 → atOk xs nodes j) := ⟨fun h j hj => by rcases Nat.lt_succ_iff_lt_or_eq.1 hj with h' | rfl; exact HN.out j h'; exact h⟩
      obtain ⟨⟨z, u⟩, hx⟩ : ∃ q, q = xs[k] := ⟨_, rfl⟩
      rw [← hx] at h0 h1 HAT hzn
      simp only at h0 h1 HAT hzn
      clear hx
      generalize atOk xs nodes k = OKK at *
      have HBz := Sec.mk (Blk.new wr 70 [.string ⟨z.toArray⟩, .int .i64 u])
      have HMa := Sec.mk (HM.out.alloc (.cells #[.string ⟨z.toArray⟩, .int .i64 u] 70))
      go_wp2_with fail
      refine (goodS_calls z hzn _).mono ?_
      rintro e w2 ⟨rfl, hw2⟩
      have HM2 : Sec (New w w2) := ⟨by rw [hw2]; exact HMa.out⟩
      have HB2 : Sec (Blk w2 wr.heap.size 70 [.string ⟨z.toArray⟩, .int .i64 u]) := ⟨by rw [hw2]; exact HBz.out⟩
      have z0 : w2.cell? ⟨wr.heap.size, 0, none⟩ = some (.string ⟨z.toArray⟩) := HB2.out.cell 0
      have z1 : w2.cell? ⟨wr.heap.size, 1, none⟩ = some (.int .i64 u) := HB2.out.cell 1
      clear hw2 h0 h1 HMa HBz hzn
      by_cases hg : goodL z = true
      rotate_left
      · have HE : Sec (r = false) := ⟨HBAD.out (fun h => hg (HAT.out.1 h).1)⟩
        have hg' : goodL z = false := by simpa using hg
        rw [hg']
        clear hg hg'
        go_wp2
        go_ret
        exact ⟨by rw [HE.out]; rfl, HM2.out⟩
      rw [hg]
      by_cases hn0 : 0 ≤ u
      rotate_left
      · have HE : Sec (r = false) := ⟨HBAD.out (fun h => hn0 (HAT.out.1 h).2.1)⟩
        have hn0' : u < 0 := by omega
        clear hn0
        go_wp2
        go_ret
        exact ⟨by rw [HE.out]; rfl, HM2.out⟩
      have hn0' : ¬ u < 0 := by omega
      by_cases hn1 : u < nodes
      rotate_left
      · have HE : Sec (r = false) := ⟨HBAD.out (fun h => hn1 (HAT.out.1 h).2.2.1)⟩
        have hn1' : nodes ≤ u := by omega
        clear hn1
        go_wp2
        go_ret
        exact ⟨by rw [HE.out]; rfl, HM2.out⟩
      have hn1' : ¬ nodes ≤ u := by omega
      generalize wr.heap.size = O at *
      go_wp2
      go_loopw [7] (fun i wi => ∃ j : Nat, j ≤ k ∧ i = .int .i64 (j : Int) ∧ Sec (∀ t (ht : t < j) (htk : t < k), (xs[t]'(by omega)).1 < z ∧ (xs[t]'(by omega)).2 ≠ u) ∧ Sec (New w2 wi)) (fun i _ => k - (intOf i).toNat)
      case atStart => exact ⟨0, Nat.zero_le _, rfl, ⟨fun t h => absurd h (Nat.not_lt_zero _)⟩, ⟨Mod.refl _ _⟩⟩
      case round =>
        obtain ⟨j, hj, rfl, HJ, HMi⟩ := hrel
        by_cases hjk : j < k
        · obtain ⟨ad', hA, y0, y1, _, _⟩ := ent_at HR.out (w' := wr) (fun i hi => (HMi.out.block i (Nat.lt_of_lt_of_le (HB.out i hi) HM2.out.size) id).trans (HM2.out.block i (HB.out i hi) id)) (k := j) (by omega)
          obtain rfl := Option.some.inj hA
          have x0 : wr.cell? ⟨O, 0, none⟩ = some (.string ⟨z.toArray⟩) := HMi.out.cell_of z0
          have x1 : wr.cell? ⟨O, 1, none⟩ = some (.int .i64 u) := HMi.out.cell_of z1
          have hji : (j : Int) < (k : Int) := by omega
          have hjx : (j : Int) < (xs.length : Int) := by omega
          have hjl : j < xs.length := by omega
          have HBJ : Sec (¬ ((xs[j]'hjl).1 < z ∧ (xs[j]'hjl).2 ≠ u) → r = false) := ⟨fun h => HBAD.out (fun hh => h ((HAT.out.1 hh).2.2.2 j hjk))⟩
          have HJX : Sec ((xs[j]'hjl).1 < z ∧ (xs[j]'hjl).2 ≠ u → ∀ t (ht : t < j + 1) (htk : t < k), (xs[t]'(by omega)).1 < z ∧ (xs[t]'(by omega)).2 ≠ u) := ⟨fun h t ht htk => by rcases Nat.lt_succ_iff_lt_or_eq.1 ht with h' | rfl; exact HJ.out t h' htk; exact h⟩
          generalize (xs[j]'hjl).1 = zj at *
          generalize (xs[j]'hjl).2 = uj at *
          have hge := fun w => strGe zj z w
          clear hA
          by_cases he : zj < z
          rotate_left
          · have HE : Sec (r = false) := ⟨HBJ.out (fun h => he h.1)⟩
            rw [decide_eq_true he] at hge
            clear he
            go_wp2
            go_quiet (fail)
            go_wp2
            go_ret
            exact ⟨by rw [HE.out]; rfl, HM2.out.transN (HMi.out.drewN _)⟩
          rw [decide_eq_false (fun h => h he)] at hge
          by_cases hu : uj = u
          · have HE : Sec (r = false) := ⟨HBJ.out (fun h => h.2 hu)⟩
            have hub : (uj == u) = true := by simp [hu]
            clear he hu
            go_wp2
            go_quiet (fail)
            go_wp2
            go_ret
            exact ⟨by rw [HE.out]; rfl, HM2.out.transN (HMi.out.drewN _)⟩
          have HJ' := Sec.mk (HJX.out ⟨he, hu⟩)
          have hub : (uj == u) = false := by simpa using hu
          clear he hu
          go_wp2
          go_quiet (fail)
          go_wp2
          go_roundw
          case rel => exact ⟨j + 1, by omega, by go_num, HJ', ⟨HMi.out.drewN _⟩⟩
          case measure => simp [intOf]; omega
        · obtain rfl : j = k := by omega
          have HOK : Sec OKK := ⟨HAT.out.2 ⟨hg, hn0, hn1, fun t ht => HJ.out t ht ht⟩⟩
          have hji : ¬ (j : Int) < (j : Int) := by omega
          go_wp2
          go_roundw
          case rel => exact ⟨j + 1, by omega, by go_num, ⟨HNX.out HOK.out⟩, ⟨HM2.out.transN HMi.out⟩⟩
          case measure => simp [intOf]; omega
    · obtain rfl : k = xs.length := by omega
      have HE : Sec (r = true) := ⟨HI.out.2 ⟨h3, fun j hj => HN.out j hj hj⟩⟩
      go_wp2
      go_ret
      exact ⟨by rw [HE.out]; rfl, HM.out⟩
end Go.Proofs.Ytinfibggdbakoaa
