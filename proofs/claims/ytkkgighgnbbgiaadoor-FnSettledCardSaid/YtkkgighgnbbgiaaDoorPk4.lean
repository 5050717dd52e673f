/- Two lists of entries compared. The specification's test of a list of names. Elements of a disk's rows; when a disk is valid. What the laws' sizes come to; rows in ranges one behind the other. The laws' copies and sizes of Node. The laws' copies and sizes of Entry. The laws' copies and sizes of DirOp. The laws' copies and sizes of Disk. More single steps for drawn regions. The specification's replay of an operation on names. DiskValid of the specification. -/
import Derived.Test.YtkkgighgnbbgiaaDoorPk3
import Derived.Test.YtkkgighgnbbgiaaDoorPk2
import Derived.Test.YtkkgighgnbbgiaaDoorPk1
import Derived.WalkKit
namespace Go.Proofs.YtkkgighgnbbgiaaDoor
open Go.RowKit Mem
set_option linter.unusedVariables false
set_option linter.unusedSimpArgs false
theorem aggNe (xs ys : Bytes) (a b : Int) (w : World) : (binOp .neq 37 (.agg #[.string ⟨xs.toArray⟩, .int .i64 a]) (.agg #[.string ⟨ys.toArray⟩, .int .i64 b])).run Tryd.prog w = .ok (.bool (decide (((xs, a) : EntryT) ≠ (ys, b)))) w := by
  by_cases h1 : xs = ys
  · by_cases h2 : a = b
    · subst h1; subst h2; simp; go_simp
    · subst h1; have : (a == b) = false := by simpa using h2
      simp [h2]; go_simp
  · have : (xs == ys) = false := by simpa using h1
    simp [h1]; go_simp
set_option maxHeartbeats 2000000 in
set_option maxRecDepth 100000 in
theorem l1Same_calls {A A' : Option Addr} {c c' : Nat} {xs ys : List EntryT} {B : Nat → Prop} {w : World} (h : Row dEntry w B A xs.length xs) (h' : Row dEntry w B A' ys.length ys) (hB : ∀ k, B k → k < w.heap.size) :
    Calls Tryd.prog 36 #[.slice A xs.length c, .slice A' ys.length c'] w (Ret (.bool (decide (xs = ys))) w) := by
  have hl := h.2.1
  have HR := Sec.mk h
  have HR' := Sec.mk h'
  have HB := Sec.mk hB
  clear h h' hB
  by_cases hne : xs.length = ys.length
  rotate_left
  · have hnb : ((xs.length : Int) != (ys.length : Int)) = true := by simp; omega
    have HE : Sec (decide (xs = ys) = false) := ⟨by simp [show xs ≠ ys from fun e => hne (by rw [e])]⟩
    clear hne
    go_enter Tryd.func36, Tryd.ntmps36
    go_wp2
    go_ret
    exact ⟨by rw [HE.out]; rfl, Mod.refl _ _⟩
  have hnb : ((xs.length : Int) != (ys.length : Int)) = false := by simp [hne]
  have HNE := Sec.mk hne
  clear hne
  go_enter Tryd.func36, Tryd.ntmps36
  go_wp2
  go_loopw [13] (fun i wr => ∃ k : Nat, k ≤ xs.length ∧ i = .int .i64 (k : Int) ∧ Sec (xs.take k = ys.take k) ∧ Sec (New w wr)) (fun i _ => xs.length - (intOf i).toNat)
  case atStart => exact ⟨0, Nat.zero_le _, rfl, ⟨by simp⟩, ⟨Mod.refl _ _⟩⟩
  case round =>
    obtain ⟨k, hk, rfl, HT, HM⟩ := hrel
    by_cases hlt : k < xs.length
    · have hlt2 : k < ys.length := by rw [← HNE.out]; exact hlt
      obtain ⟨ad, rfl, hx0, hx1, _, _⟩ := ent_at HR.out (w' := wr) (fun i hi => HM.out.block i (HB.out i hi) id) hlt
      obtain ⟨ad', rfl, hy0, hy1, _, _⟩ := ent_at HR'.out (w' := wr) (fun i hi => HM.out.block i (HB.out i hi) id) hlt2
      have HXY : Sec (xs[k] = ys[k] → xs.take (k + 1) = ys.take (k + 1)) := ⟨fun h => by rw [List.take_succ_eq_append_getElem hlt, List.take_succ_eq_append_getElem hlt2, HT.out, h]⟩
      have HNQ : Sec (xs[k] ≠ ys[k] → decide (xs = ys) = false) := ⟨fun h => by simp only [decide_eq_false_iff_not]; intro e; exact h (by subst e; rfl)⟩
      have hki : (k : Int) < (xs.length : Int) := by omega
      have hkj : (k : Int) < (ys.length : Int) := by omega
      obtain ⟨⟨z, a⟩, hx⟩ : ∃ q, q = xs[k] := ⟨_, rfl⟩
      obtain ⟨⟨z', a'⟩, hy⟩ : ∃ q, q = ys[k] := ⟨_, rfl⟩
      rw [← hx] at hx0 hx1 HXY HNQ
      rw [← hy] at hy0 hy1 HXY HNQ
      simp only at hx0 hx1 hy0 hy1
      clear hx hy HT
      by_cases he : z = z'
      · have hz : (z == z') = true := by simp [he]
        by_cases hv : a = a'
        · have hvb : (a != a') = false := by simp [hv]
          have HT' := Sec.mk (HXY.out (by rw [he, hv]))
          clear he hv HXY HNQ
          go_wp2
          go_quiet (fail)
          go_wp2
          go_roundw
          case rel => exact ⟨k + 1, by omega, by go_num, HT', ⟨HM.out.drewN _⟩⟩
          case measure => simp [intOf]; omega
        · have hvb : (a != a') = true := by simpa using hv
          have HE := Sec.mk (HNQ.out (fun h => hv (congrArg (fun x : EntryT => x.2) h)))
          clear he hv HXY HNQ
          go_wp2
          go_quiet (fail)
          go_wp2
          go_ret
          exact ⟨by rw [HE.out]; rfl, HM.out.drewN _⟩
      · have hz : (z == z') = false := by simpa using he
        have HE := Sec.mk (HNQ.out (fun h => he (congrArg (fun x : EntryT => x.1) h)))
        clear he HXY HNQ
        go_wp2
        go_quiet (fail)
        go_wp2
        go_ret
        exact ⟨by rw [HE.out]; rfl, HM.out.drewN _⟩
    · obtain rfl : k = xs.length := by omega
      have HE : Sec (decide (xs = ys) = true) := ⟨by
        have h1 := HT.out
        rw [List.take_of_length_le (by omega), List.take_of_length_le (by rw [← HNE.out]; omega)] at h1
        simp [h1]⟩
      go_wp2
      go_ret
      exact ⟨by rw [HE.out]; rfl, HM.out⟩
set_option maxHeartbeats 2000000 in
set_option maxRecDepth 100000 in
theorem sameEntries_calls {A A' : Option Addr} {c c' : Nat} {xs ys : List EntryT} {B : Nat → Prop} {w : World} (h : Row dEntry w B A xs.length xs) (h' : Row dEntry w B A' ys.length ys) (hB : ∀ k, B k → k < w.heap.size) :
    Calls Tryd.prog 25 #[.slice A xs.length c, .slice A' ys.length c'] w (Ret (.bool (decide (xs = ys))) w) := by
  have hl := h.2.1
  have HR := Sec.mk h
  have HR' := Sec.mk h'
  have HB := Sec.mk hB
  clear h h' hB
  by_cases hne : xs.length = ys.length
  rotate_left
  · have hnb : ((xs.length : Int) != (ys.length : Int)) = true := by simp; omega
    have HE : Sec (decide (xs = ys) = false) := ⟨by simp [show xs ≠ ys from fun e => hne (by rw [e])]⟩
    clear hne
    go_enter Tryd.func25, Tryd.ntmps25
    go_wp2
    go_ret
    exact ⟨by rw [HE.out]; rfl, Mod.refl _ _⟩
  have hnb : ((xs.length : Int) != (ys.length : Int)) = false := by simp [hne]
  have HNE := Sec.mk hne
  clear hne
  go_enter Tryd.func25, Tryd.ntmps25
  go_wp2
  go_loopw [13] (fun i wr => ∃ k : Nat, k ≤ xs.length ∧ i = .int .i64 (k : Int) ∧ Sec (xs.take k = ys.take k) ∧ Sec (New w wr)) (fun i _ => xs.length - (intOf i).toNat)
  case atStart => exact ⟨0, Nat.zero_le _, rfl, ⟨by simp⟩, ⟨Mod.refl _ _⟩⟩
  case round =>
    obtain ⟨k, hk, rfl, HT, HM⟩ := hrel
    by_cases hlt : k < xs.length
    · have hlt2 : k < ys.length := by rw [← HNE.out]; exact hlt
      obtain ⟨ad, rfl, hx0, hx1, _, _⟩ := ent_at HR.out (w' := wr) (fun i hi => HM.out.block i (HB.out i hi) id) hlt
      obtain ⟨ad', rfl, hy0, hy1, _, _⟩ := ent_at HR'.out (w' := wr) (fun i hi => HM.out.block i (HB.out i hi) id) hlt2
      have HXY : Sec (xs[k] = ys[k] → xs.take (k + 1) = ys.take (k + 1)) := ⟨fun h => by rw [List.take_succ_eq_append_getElem hlt, List.take_succ_eq_append_getElem hlt2, HT.out, h]⟩
      have HNQ : Sec (xs[k] ≠ ys[k] → decide (xs = ys) = false) := ⟨fun h => by simp only [decide_eq_false_iff_not]; intro e; exact h (by subst e; rfl)⟩
      have hki : (k : Int) < (xs.length : Int) := by omega
      have hkj : (k : Int) < (ys.length : Int) := by omega
      obtain ⟨⟨z, a⟩, hx⟩ : ∃ q, q = xs[k] := ⟨_, rfl⟩
      obtain ⟨⟨z', a'⟩, hy⟩ : ∃ q, q = ys[k] := ⟨_, rfl⟩
      rw [← hx] at hx0 hx1 HXY HNQ
      rw [← hy] at hy0 hy1 HXY HNQ
      simp only at hx0 hx1 hy0 hy1
      clear hx hy HT
      have hag := fun w => aggNe z z' a a' w
      by_cases he : ((z, a) : EntryT) = (z', a')
      · have HT' := Sec.mk (HXY.out he)
        rw [decide_eq_false (fun h => h he)] at hag
        clear he HXY HNQ
        go_wp2
        go_quiet (fail)
        go_wp2
        go_roundw
        case rel => exact ⟨k + 1, by omega, by go_num, HT', ⟨HM.out.drewN _⟩⟩
        case measure => simp [intOf]; omega
      · have HE := Sec.mk (HNQ.out he)
        rw [decide_eq_true he] at hag
        clear he HXY HNQ
        go_wp2
        go_quiet (fail)
        go_wp2
        go_ret
        exact ⟨by rw [HE.out]; rfl, HM.out.drewN _⟩
    · obtain rfl : k = xs.length := by omega
      have HE : Sec (decide (xs = ys) = true) := ⟨by
        have h1 := HT.out
        rw [List.take_of_length_le (by omega), List.take_of_length_le (by rw [← HNE.out]; omega)] at h1
        simp [h1]⟩
      go_wp2
      go_ret
      exact ⟨by rw [HE.out]; rfl, HM.out⟩
end Go.Proofs.YtkkgighgnbbgiaaDoor

namespace Go.Proofs.YtkkgighgnbbgiaaDoor
open Go.RowKit Mem
set_option linter.unusedVariables false
set_option linter.unusedSimpArgs false
def atOk (l : List EntL) (nodes : Int) (k : Nat) : Prop := ∀ hk : k < l.length, goodL l[k].1 = true ∧ 0 ≤ l[k].2 ∧ l[k].2 < nodes ∧ ∀ j (hj : j < k), l[j].1 < l[k].1 ∧ l[j].2 ≠ l[k].2
theorem inOrdL_iff (l : List EntL) (nodes : Int) : inOrdL l nodes = true ↔ l.length ≤ 300 ∧ ∀ k, atOk l nodes k := by
  unfold inOrdL atOk
  simp only [Bool.and_eq_true, decide_eq_true_eq, List.all_eq_true, List.pairwise_iff_getElem]
  constructor
  · rintro ⟨⟨h1, h2⟩, h3⟩
    refine ⟨h1, fun k hk => ?_⟩
    have := h2 _ (List.getElem_mem hk)
    exact ⟨this.1, this.2.1, this.2.2, fun j hj => h3 j k (by omega) hk hj⟩
  · rintro ⟨h1, h2⟩
    refine ⟨⟨h1, fun x hx => ?_⟩, fun i j hi hj hij => (h2 j hj).2.2.2 i hij⟩
    obtain ⟨j, hj, rfl⟩ := List.getElem_of_mem hx
    have := h2 j hj
    exact ⟨this.1, this.2.1, this.2.2.1⟩
set_option maxHeartbeats 4000000 in
set_option maxRecDepth 100000 in
theorem l1InOrder_calls {A : Option Addr} {c : Nat} {xs : List EntryT} {B : Nat → Prop} {w : World} (h : Row dEntry w B A xs.length xs) (hB : ∀ k, B k → k < w.heap.size) (nodes : Int) : Calls Tryd.prog 34 #[.slice A xs.length c, .int .i64 nodes] w (Ret (.bool (inOrdL xs nodes)) w) := by
  have hmx := h.2.1
  have HR := Sec.mk h
  have HB := Sec.mk hB
  have HI := Sec.mk (inOrdL_iff xs nodes)
  have HF : Sec (¬ (xs.length ≤ 300 ∧ ∀ k, atOk xs nodes k) → inOrdL xs nodes = false) := ⟨fun h => by
    cases hg : inOrdL xs nodes with
    | false => rfl
    | true => exact absurd (HI.out.1 hg) h⟩
  generalize inOrdL xs nodes = r at *
  clear h hB
  by_cases h3 : xs.length ≤ 300
  rotate_left
  · have HE : Sec (r = false) := ⟨HF.out (fun h => h3 h.1)⟩
    have h3i : (300 : Int) < (xs.length : Int) := by omega
    clear h3
    go_enter Tryd.func34, Tryd.ntmps34
    go_wp2
    go_ret
    exact ⟨by rw [HE.out]; rfl, Mod.refl _ _⟩
  have h3i : ¬ (300 : Int) < (xs.length : Int) := by omega
  go_enter Tryd.func34, Tryd.ntmps34
  go_wp2
  go_loopw [13] (fun i wr => ∃ k : Nat, k ≤ xs.length ∧ i = .int .i64 (k : Int) ∧ Sec (∀ j, j < k → atOk xs nodes j) ∧ Sec (New w wr)) (fun i _ => xs.length - (intOf i).toNat)
  case atStart => exact ⟨0, Nat.zero_le _, rfl, ⟨fun j h => absurd h (Nat.not_lt_zero _)⟩, ⟨Mod.refl _ _⟩⟩
  case round =>
    obtain ⟨k, hk, rfl, HN, HM⟩ := hrel
    by_cases hlt : k < xs.length
    · obtain ⟨ad, rfl, h0, h1, hzn, _⟩ := ent_at HR.out (w' := wr) (fun i hi => HM.out.block i (HB.out i hi) id) hlt
      have hki : (k : Int) < (xs.length : Int) := by omega
      have HAT : Sec (atOk xs nodes k ↔ (goodL xs[k].1 = true ∧ 0 ≤ xs[k].2 ∧ xs[k].2 < nodes ∧ ∀ j (hj : j < k), (xs[j]'(by omega)).1 < xs[k].1 ∧ (xs[j]'(by omega)).2 ≠ xs[k].2)) := ⟨⟨fun h => h hlt, fun h _ => h⟩⟩
      have HBAD : Sec (¬ atOk xs nodes k → r = false) := ⟨fun h => HF.out (fun hh => h (hh.2 k))⟩
      have HNX : Sec (atOk xs nodes k → ∀ j, j < k + 1 → atOk xs nodes j) := ⟨fun h j hj => by rcases Nat.lt_succ_iff_lt_or_eq.1 hj with h' | rfl; exact HN.out j h'; exact h⟩
      obtain ⟨⟨z, u⟩, hx⟩ : ∃ q, q = xs[k] := ⟨_, rfl⟩
      rw [← hx] at h0 h1 HAT hzn
      simp only at h0 h1 HAT hzn
      clear hx
      generalize atOk xs nodes k = OKK at *
      have HBz := Sec.mk (Blk.new wr 37 [.string ⟨z.toArray⟩, .int .i64 u])
      have HMa := Sec.mk (HM.out.alloc (.cells #[.string ⟨z.toArray⟩, .int .i64 u] 37))
      go_wp2_with fail
      refine (goodS_calls z hzn _).mono ?_
      rintro e w2 ⟨rfl, hw2⟩
      have HM2 : Sec (New w w2) := ⟨by rw [hw2]; exact HMa.out⟩
      have HB2 : Sec (Blk w2 wr.heap.size 37 [.string ⟨z.toArray⟩, .int .i64 u]) := ⟨by rw [hw2]; exact HBz.out⟩
      have z0 : w2.cell? ⟨wr.heap.size, 0, none⟩ = some (.string ⟨z.toArray⟩) := HB2.out.cell 0
      have z1 : w2.cell? ⟨wr.heap.size, 1, none⟩ = some (.int .i64 u) := HB2.out.cell 1
      clear hw2 h0 h1 HMa HBz hzn
      by_cases hg : goodL z = true
      rotate_left
      · have HE : Sec (r = false) := ⟨HBAD.out (fun h => hg (HAT.out.1 h).1)⟩
        have hg' : goodL z = false := by simpa using hg
        rw [hg']
        clear hg hg'
        go_wp2
        go_ret
        exact ⟨by rw [HE.out]; rfl, HM2.out⟩
      rw [hg]
      by_cases hn0 : 0 ≤ u
      rotate_left
      · have HE : Sec (r = false) := ⟨HBAD.out (fun h => hn0 (HAT.out.1 h).2.1)⟩
        have hn0' : u < 0 := by omega
        clear hn0
        go_wp2
        go_ret
        exact ⟨by rw [HE.out]; rfl, HM2.out⟩
      have hn0' : ¬ u < 0 := by omega
      by_cases hn1 : u < nodes
      rotate_left
      · have HE : Sec (r = false) := ⟨HBAD.out (fun h => hn1 (HAT.out.1 h).2.2.1)⟩
        have hn1' : nodes ≤ u := by omega
        clear hn1
        go_wp2
        go_ret
        exact ⟨by rw [HE.out]; rfl, HM2.out⟩
      have hn1' : ¬ nodes ≤ u := by omega
      generalize wr.heap.size = O at *
      go_wp2
      go_loopw [7] (fun i wi => ∃ j : Nat, j ≤ k ∧ i = .int .i64 (j : Int) ∧ Sec (∀ t (ht : t < j) (htk : t < k), (xs[t]'(by omega)).1 < z ∧ (xs[t]'(by omega)).2 ≠ u) ∧ Sec (New w2 wi)) (fun i _ => k - (intOf i).toNat)
      case atStart => exact ⟨0, Nat.zero_le _, rfl, ⟨fun t h => absurd h (Nat.not_lt_zero _)⟩, ⟨Mod.refl _ _⟩⟩
      case round =>
        obtain ⟨j, hj, rfl, HJ, HMi⟩ := hrel
        by_cases hjk : j < k
        · obtain ⟨ad', hA, y0, y1, _, _⟩ := ent_at HR.out (w' := wr) (fun i hi => (HMi.out.block i (Nat.lt_of_lt_of_le (HB.out i hi) HM2.out.size) id).trans (HM2.out.block i (HB.out i hi) id)) (k := j) (by omega)
          obtain rfl := Option.some.inj hA
          have x0 : wr.cell? ⟨O, 0, none⟩ = some (.string ⟨z.toArray⟩) := HMi.out.cell_of z0
          have x1 : wr.cell? ⟨O, 1, none⟩ = some (.int .i64 u) := HMi.out.cell_of z1
          have hji : (j : Int) < (k : Int) := by omega
          have hjx : (j : Int) < (xs.length : Int) := by omega
          have hjl : j < xs.length := by omega
          have HBJ : Sec (¬ ((xs[j]'hjl).1 < z ∧ (xs[j]'hjl).2 ≠ u) → r = false) := ⟨fun h => HBAD.out (fun hh => h ((HAT.out.1 hh).2.2.2 j hjk))⟩
          have HJX : Sec ((xs[j]'hjl).1 < z ∧ (xs[j]'hjl).2 ≠ u → ∀ t (ht : t < j + 1) (htk : t < k), (xs[t]'(by omega)).1 < z ∧ (xs[t]'(by omega)).2 ≠ u) := ⟨fun h t ht htk => by rcases Nat.lt_succ_iff_lt_or_eq.1 ht with h' | rfl; exact HJ.out t h' htk; exact h⟩
          generalize (xs[j]'hjl).1 = zj at *
          generalize (xs[j]'hjl).2 = uj at *
          have hge := fun w => strGe zj z w
          clear hA
          by_cases he : zj < z
          rotate_left
          · have HE : Sec (r = false) := ⟨HBJ.out (fun h => he h.1)⟩
            rw [decide_eq_true he] at hge
            clear he
            go_wp2
            go_quiet (fail)
            go_wp2
            go_ret
            exact ⟨by rw [HE.out]; rfl, HM2.out.transN (HMi.out.drewN _)⟩
          rw [decide_eq_false (fun h => h he)] at hge
          by_cases hu : uj = u
          · have HE : Sec (r = false) := ⟨HBJ.out (fun h => h.2 hu)⟩
            have hub : (uj == u) = true := by simp [hu]
            clear he hu
            go_wp2
            go_quiet (fail)
            go_wp2
            go_ret
            exact ⟨by rw [HE.out]; rfl, HM2.out.transN (HMi.out.drewN _)⟩
          have HJ' := Sec.mk (HJX.out ⟨he, hu⟩)
          have hub : (uj == u) = false := by simpa using hu
          clear he hu
          go_wp2
          go_quiet (fail)
          go_wp2
          go_roundw
          case rel => exact ⟨j + 1, by omega, by go_num, HJ', ⟨HMi.out.drewN _⟩⟩
          case measure => simp [intOf]; omega
        · obtain rfl : j = k := by omega
          have HOK : Sec OKK := ⟨HAT.out.2 ⟨hg, hn0, hn1, fun t ht => HJ.out t ht ht⟩⟩
          have hji : ¬ (j : Int) < (j : Int) := by omega
          go_wp2
          go_roundw
          case rel => exact ⟨j + 1, by omega, by go_num, ⟨HNX.out HOK.out⟩, ⟨HM2.out.transN HMi.out⟩⟩
          case measure => simp [intOf]; omega
    · obtain rfl : k = xs.length := by omega
      have HE : Sec (r = true) := ⟨HI.out.2 ⟨h3, fun j hj => HN.out j hj hj⟩⟩
      go_wp2
      go_ret
      exact ⟨by rw [HE.out]; rfl, HM.out⟩
end Go.Proofs.YtkkgighgnbbgiaaDoor

namespace Go.Proofs.YtkkgighgnbbgiaaDoor
open Go.RowKit Mem
set_option linter.unusedVariables false
theorem node_at {w w' : World} {B : Nat → Prop} {A : Option Addr} {n : Nat} {xs : List NodeT} (h : Row dNode w B A n xs) (hb : ∀ k, B k → w'.heap[k]? = w.heap[k]?) {k : Nat} (hk : k < xs.length) :
    ∃ ad A' c', A = some ad ∧ w'.cell? (ad.add (k * 2)) = some (.slice A' xs[k].1.length c') ∧ w'.cell? ⟨(ad.add (k * 2)).block, (ad.add (k * 2)).off + 1, none⟩ = some (.int .i64 xs[k].2) ∧ xs[k].1.length ≤ c' ∧ c' ≤ 9223372036854775807 ∧ Row Ty.byte w' B A' xs[k].1.length xs[k].1 ∧ IntKind.i64.wrap xs[k].2 = xs[k].2 := by
  obtain ⟨ad, cs, rfl, hK, h0, h1⟩ := h.cells_at hb hk
  obtain ⟨c0, c1, rfl, ⟨A', c', rfl, g1, g2, g3⟩, ⟨rfl, g4⟩⟩ := hK
  exact ⟨ad, A', c', rfl, h0 _ rfl, h1 0 _ rfl, g1, g2, g3.mod (fun _ h => h) hb, g4⟩
theorem dop_at {w w' : World} {B : Nat → Prop} {A : Option Addr} {n : Nat} {xs : List DirOpT} (h : Row dDirOp w B A n xs) (hb : ∀ k, B k → w'.heap[k]? = w.heap[k]?) {k : Nat} (hk : k < xs.length) :
    ∃ ad, A = some ad ∧ w'.cell? (ad.add (k * 4)) = some (.int .i64 xs[k].1) ∧ w'.cell? ⟨(ad.add (k * 4)).block, (ad.add (k * 4)).off + 1, none⟩ = some (.string ⟨xs[k].2.1.toArray⟩) ∧ w'.cell? ⟨(ad.add (k * 4)).block, (ad.add (k * 4)).off + 2, none⟩ = some (.string ⟨xs[k].2.2.1.toArray⟩) ∧ w'.cell? ⟨(ad.add (k * 4)).block, (ad.add (k * 4)).off + 3, none⟩ = some (.int .i64 xs[k].2.2.2) ∧
      IntKind.i64.wrap xs[k].1 = xs[k].1 ∧ xs[k].2.1.length ≤ 9223372036854775807 ∧ xs[k].2.2.1.length ≤ 9223372036854775807 ∧ IntKind.i64.wrap xs[k].2.2.2 = xs[k].2.2.2 := by
  obtain ⟨ad, cs, rfl, hK, h0, h1⟩ := h.cells_at hb hk
  obtain ⟨c0, r0, rfl, ⟨rfl, g0⟩, c1, r1, rfl, ⟨rfl, g1⟩, c2, c3, rfl, ⟨rfl, g2⟩, ⟨rfl, g3⟩⟩ := hK
  exact ⟨ad, rfl, h0 _ rfl, h1 0 _ rfl, h1 1 _ rfl, h1 2 _ rfl, g0, g1, g2, g3⟩
def diskOk (d : DiskL) : Prop := 0 ≤ d.2.2.2.2 ∧ d.2.2.2.2 ≤ 1000000 ∧ d.1.length ≤ 600 ∧ d.2.2.2.1.length ≤ 1000 ∧ (∀ k, (hk : k < d.1.length) → nodeOk d.1[k] = true) ∧ sumD d.1 ≤ 200000 ∧ inOrdL d.2.1 d.1.length = true ∧ inOrdL d.2.2.1 d.1.length = true ∧ replaysL d.1.length d.2.2.1 d.2.2.2.1 = some d.2.1
theorem DiskValidL_iff (d : DiskL) : DiskValidL d = true ↔ diskOk d := by
  unfold DiskValidL diskOk
  simp only [Bool.and_eq_true, decide_eq_true_eq, List.all_eq_true]
  constructor
  · rintro ⟨⟨⟨⟨⟨h1, h2⟩, h3⟩, h4⟩, h5⟩, h6⟩
    refine ⟨h1.1, h1.2.1, h1.2.2.1, h1.2.2.2, fun k hk => h2 _ (List.getElem_mem hk), h3, h4, h5, ?_⟩
    cases hr : replaysL d.1.length d.2.2.1 d.2.2.2.1 with
    | none => rw [hr] at h6; cases h6
    | some l => rw [hr] at h6; rw [of_decide_eq_true h6]
  · rintro ⟨h1, h1b, h1c, h1d, h2, h3, h4, h5, h6⟩
    refine ⟨⟨⟨⟨⟨⟨h1, h1b, h1c, h1d⟩, fun x hx => ?_⟩, h3⟩, h4⟩, h5⟩, ?_⟩
    · obtain ⟨j, hj, rfl⟩ := List.getElem_of_mem hx
      exact h2 j hj
    · rw [h6]; simp
theorem DiskValidL_not {d : DiskL} (h : ¬ diskOk d) : DiskValidL d = false := by
  cases hg : DiskValidL d with
  | false => rfl
  | true => exact absurd ((DiskValidL_iff d).1 hg) h
theorem sumD_take {l : List NodL} {k : Nat} (hk : k < l.length) : sumD (l.take (k + 1)) = sumD (l.take k) + l[k].1.length := by
  unfold sumD
  rw [List.take_succ_eq_append_getElem hk, List.map_append, List.sum_append, List.map_cons, List.map_nil, List.sum_cons, List.sum_nil, Nat.add_zero]
theorem replaysL_at {nodes : Int} {l : List EntL} {p : List DopL} {k : Nat} (hk : k < p.length) : replaysL nodes l (p.drop k) = match replayL l p[k] nodes with | none => none | some m => if m.length ≤ 300 then replaysL nodes m (p.drop (k + 1)) else none := by
  rw [List.drop_eq_getElem_cons hk]; rfl
end Go.Proofs.YtkkgighgnbbgiaaDoor

namespace Go.Proofs.YtkkgighgnbbgiaaDoor
open Go.RowKit Mem
set_option linter.unusedVariables false
end Go.Proofs.YtkkgighgnbbgiaaDoor

namespace Go.Proofs.YtkkgighgnbbgiaaDoor
open Go.RowKit Mem
set_option linter.unusedVariables false
set_option linter.unusedSimpArgs false
def zNode : NodeT := ([], 0)
theorem zmNode (w : World) : dNode.M w [] zNode [.slice none 0 0, .int .i64 0] := mNode (F0 := []) (show IntKind.i64.wrap 0 = 0 by decide) (Own.nil _ _ _)
end Go.Proofs.YtkkgighgnbbgiaaDoor

namespace Go.Proofs.YtkkgighgnbbgiaaDoor
open Go.RowKit Mem
set_option linter.unusedVariables false
set_option linter.unusedSimpArgs false
end Go.Proofs.YtkkgighgnbbgiaaDoor

namespace Go.Proofs.YtkkgighgnbbgiaaDoor
open Go.RowKit Mem
set_option linter.unusedVariables false
set_option linter.unusedSimpArgs false
end Go.Proofs.YtkkgighgnbbgiaaDoor

namespace Go.Proofs.YtkkgighgnbbgiaaDoor
open Go.RowKit Mem
set_option linter.unusedVariables false
set_option linter.unusedSimpArgs false
theorem okDisk {w : World} {v : Value} {x : DiskT} (h : RdV true dDisk w v x) : IntKind.i64.wrap x.2.2.2.2 = x.2.2.2.2 := by
  obtain ⟨cs, rfl, c0, r0, rfl, h0, c1, r1, rfl, h1, c2, r2, rfl, h2, c3, c4, rfl, h3, h4⟩ := h
  exact h4.2
end Go.Proofs.YtkkgighgnbbgiaaDoor

namespace Go.Proofs.YtkkgighgnbbgiaaDoor.Mem
open Go.RowKit
set_option linter.unusedVariables false
section
variable {P : Program} {o : Oper} {a : Act} {w : World} {v : Value}
theorem exec_assign {x : Operand} (ho : o.op = .assign x) (h : a.eval x = v) : (execOp a.eval o).run P w = .ok (.value v) w := by
  unfold execOp; simp only [ho, h, Sem.run_pure]
theorem exec_nil {x : Operand} {ad : Addr} (ho : o.op = .nilCheck x) (hx : a.eval x = .pointer (some ad)) : (execOp a.eval o).run P w = .ok (.value (.pointer (some ad))) w := by
  unfold execOp; simp only [ho, hx, Sem.run_pure]
theorem exec_build {t : TypeId} {parts : List (Nat × Operand)} (ho : o.op = .build t parts.toArray) {vs : List (Nat × Value)} (hx : parts.map (fun (i, x) => (i, a.eval x)) = vs) (h : (Instr.build t vs.toArray).run P w = .ok v w) : (execOp a.eval o).run P w = .ok (.value v) w := by
  unfold execOp; simp only [ho, List.map_toArray, hx, Sem.run_bind, h, Result.andThen_ok, Sem.run_pure]
end
end Go.Proofs.YtkkgighgnbbgiaaDoor.Mem

namespace Go.Proofs.YtkkgighgnbbgiaaDoor
open Go.RowKit Mem
set_option linter.unusedVariables false
set_option linter.unusedSimpArgs false
def ReplR (o : Option (List EntryT)) (w : World) (e : Ending) (w' : World) : Prop := match o with
  | none => e = .returned (.tuple #[.slice none 0 0, .bool false]) ∧ New w w'
  | some m => ∃ A c, e = .returned (.tuple #[.slice A m.length c, .bool true]) ∧ Mine dEntry 37 w w' (.slice A m.length c) m
theorem ReplR.bad {o : Option (List EntryT)} {w w' : World} (h : o = none) (hm : New w w') : ReplR o w (.returned (.tuple #[.slice none 0 0, .bool false])) w' := by subst h; exact ⟨rfl, hm⟩
theorem ReplR.good {o : Option (List EntryT)} {m : List EntryT} {w w' : World} {A : Option Addr} {c : Nat} (h : o = some m) (hm : Mine dEntry 37 w w' (.slice A m.length c) m) : ReplR o w (.returned (.tuple #[.slice A m.length c, .bool true])) w' := by subst h; exact ⟨A, c, rfl, hm⟩
theorem find_neg {l : List EntL} (h : Ord l) {n : LB} (hn : hasE l n = false) : findE l n = -1 := by rw [find_place h, hn]; rfl
theorem find_pos {l : List EntL} (h : Ord l) {n : LB} (hn : hasE l n = true) : findE l n = (placeE l n : Int) := by rw [find_place h, hn]; rfl
theorem place_lt {l : List EntL} (h : Ord l) {n : LB} (hn : hasE l n = true) : placeE l n < l.length := ((place_at h n).1.mp hn).1
set_option maxHeartbeats 4000000 in
set_option maxRecDepth 100000 in
theorem l1Replay_calls {A : Option Addr} {c : Nat} {xs : List EntryT} {B : Nat → Prop} {w : World} (h : Row dEntry w B A xs.length xs) (hB : ∀ k, B k → k < w.heap.size) (hl : xs.length ≤ 1048576) (ho : Ord xs) (q : DirOpT) (hq1 : q.2.1.length ≤ 9223372036854775807) (hq2 : q.2.2.1.length ≤ 9223372036854775807) (hq3 : IntKind.i64.wrap q.2.2.2 = q.2.2.2) (nodes : Int) :
    Calls Tryd.prog 35 #[.slice A xs.length c, .agg #[.int .i64 q.1, .string ⟨q.2.1.toArray⟩, .string ⟨q.2.2.1.toArray⟩, .int .i64 q.2.2.2], .int .i64 nodes] w (ReplR (replayL xs q nodes) w) := by
  obtain ⟨kd, nm, tq, nd⟩ := q
  simp only at hq1 hq2 hq3 ⊢
  have HW := Sec.mk hq3
  have HR := Sec.mk h
  have HB := Sec.mk hB
  have HOR := Sec.mk ho
  have HRL : Sec (replayL xs (kd, nm, tq, nd) nodes = if kd = 1 then (if goodL nm = true ∧ tq = [] ∧ 0 ≤ nd ∧ nd < nodes ∧ hasNode xs nd = false then some (withE xs nm nd) else none)
    else if kd = 4 then (if hasE xs nm = true ∧ goodL tq = true ∧ tq ≠ nm ∧ nd = 0 then some (withE (outE xs nm) tq ((xs[placeE xs nm]?.getD ([], 0)).2)) else none)
    else if kd = 5 then (if hasE xs nm = true ∧ tq = [] ∧ nd = 0 then some (outE xs nm) else none) else none) := ⟨rfl⟩
  generalize replayL xs (kd, nm, tq, nd) nodes = res at *
  have HBX := Sec.mk (Blk.new w 66 [.int .i64 kd, .string ⟨nm.toArray⟩, .string ⟨tq.toArray⟩, .int .i64 nd])
  have HM0 := Sec.mk ((Mod.refl (fun _ => False) w).alloc (.cells #[.int .i64 kd, .string ⟨nm.toArray⟩, .string ⟨tq.toArray⟩, .int .i64 nd] 66))
  have HR0 : Sec (∀ W, New w W → Row dEntry W B A xs.length xs) := ⟨fun W hW => HR.out.mod (fun _ h => h) (fun k hk => hW.block k (HB.out k hk) id)⟩
  have HB0 : Sec (∀ W, New w W → ∀ k, B k → k < W.heap.size) := ⟨fun W hW k hk => Nat.lt_of_lt_of_le (HB.out k hk) hW.size⟩
  clear h hB ho hq3
  go_enter Tryd.func35, Tryd.ntmps35
  go_wp2_with fail
  refine (l1Find_calls (HR0.out _ HM0.out) nm).mono ?_
  rintro e w1 ⟨rfl, hw1⟩
  have HM1 : Sec (New w w1) := ⟨by rw [hw1]; exact HM0.out⟩
  have HX1 : Sec (Blk w1 w.heap.size 66 [.int .i64 kd, .string ⟨nm.toArray⟩, .string ⟨tq.toArray⟩, .int .i64 nd]) := ⟨by rw [hw1]; exact HBX.out⟩
  have b0 : w1.cell? ⟨w.heap.size, 0, none⟩ = some (.int .i64 kd) := HX1.out.cell 0
  have b1 : w1.cell? ⟨w.heap.size, 1, none⟩ = some (.string ⟨nm.toArray⟩) := HX1.out.cell 1
  have b2 : w1.cell? ⟨w.heap.size, 2, none⟩ = some (.string ⟨tq.toArray⟩) := HX1.out.cell 2
  have b3 : w1.cell? ⟨w.heap.size, 3, none⟩ = some (.int .i64 nd) := HX1.out.cell 3
  clear hw1 HBX HM0
  by_cases hk1 : kd = 1
  · subst hk1
    have HR1 : Sec (res = if goodL nm = true ∧ tq = [] ∧ 0 ≤ nd ∧ nd < nodes ∧ hasNode xs nd = false then some (withE xs nm nd) else none) := ⟨HRL.out.trans (if_pos rfl)⟩
    clear HRL
    go_wp2_with fail
    refine (goodS_calls nm hq1 w1).mono ?_
    rintro e w2 ⟨rfl, rfl⟩
    by_cases hg : goodL nm = true
    rotate_left
    · have HE : Sec (res = none) := ⟨HR1.out.trans (if_neg (fun h => hg h.1))⟩
      have hg' : goodL nm = false := by simpa using hg
      rw [hg']
      clear hg hg'
      go_wp2
      go_ret2
      exact ReplR.bad HE.out HM1.out
    rw [hg]
    by_cases ht : tq = []
    rotate_left
    · have HE : Sec (res = none) := ⟨HR1.out.trans (if_neg (fun h => ht h.2.1))⟩
      have ht' : tq.isEmpty = false := by simpa using ht
      clear ht
      go_wp2
      go_ret2
      exact ReplR.bad HE.out HM1.out
    subst ht
    have hte : ([] : Bytes).isEmpty = true := rfl
    by_cases hn0 : 0 ≤ nd
    rotate_left
    · have HE : Sec (res = none) := ⟨HR1.out.trans (if_neg (fun h => hn0 h.2.2.1))⟩
      have hn0' : nd < 0 := by omega
      clear hn0
      go_wp2
      go_ret2
      exact ReplR.bad HE.out HM1.out
    have hn0' : ¬ nd < 0 := by omega
    by_cases hn1 : nd < nodes
    rotate_left
    · have HE : Sec (res = none) := ⟨HR1.out.trans (if_neg (fun h => hn1 h.2.2.2.1))⟩
      have hn1' : nodes ≤ nd := by omega
      clear hn1
      go_wp2
      go_ret2
      exact ReplR.bad HE.out HM1.out
    have hn1' : ¬ nodes ≤ nd := by omega
    have HR2 : Sec (res = if hasNode xs nd = false then some (withE xs nm nd) else none) := ⟨by
      rw [HR1.out]
      by_cases hh : hasNode xs nd = false
      · rw [if_pos hh, if_pos ⟨hg, rfl, hn0, hn1, hh⟩]
      · rw [if_neg hh, if_neg (fun h => hh h.2.2.2.2)]⟩
    clear HR1 hg
    go_wp2
    go_loopw [42] (fun i wr => ∃ k : Nat, k ≤ xs.length ∧ i = .int .i64 (k : Int) ∧ Sec (hasNode (xs.take k) nd = false) ∧ Sec (New w2 wr)) (fun i _ => xs.length - (intOf i).toNat)
    case atStart => exact ⟨0, Nat.zero_le _, rfl, ⟨rfl⟩, ⟨Mod.refl _ _⟩⟩
    case round =>
      obtain ⟨k, hk, rfl, HN, HM⟩ := hrel
      have c1 : wr.cell? ⟨w.heap.size, 1, none⟩ = some (.string ⟨nm.toArray⟩) := HM.out.cell_of b1
      have c3 : wr.cell? ⟨w.heap.size, 3, none⟩ = some (.int .i64 nd) := HM.out.cell_of b3
      have HMr := Sec.mk (HM1.out.transN HM.out)
      have hwr : w.heap.size < wr.heap.size := Nat.lt_of_lt_of_le HX1.out.lt HM.out.size
      by_cases hlt : k < xs.length
      · obtain ⟨ad, rfl, h0, h1, _, _⟩ := ent_at (HR0.out _ HMr.out) (w' := wr) (fun _ _ => rfl) hlt
        have HS := Sec.mk (hasNode_take (v := nd) hlt)
        have HT := Sec.mk (fun (hv : xs[k].2 = nd) => (hv ▸ hasNode_mem hlt : hasNode xs nd = true))
        have hki : (k : Int) < (xs.length : Int) := by omega
        have HM2 := Sec.mk (HM.out.alloc (.cells #[.string ⟨xs[k].1.toArray⟩, .int .i64 xs[k].2] 37))
        generalize xs[k].1 = zn at *
        generalize xs[k].2 = z at *
        by_cases he : z = nd
        · have HE : Sec (res = none) := ⟨HR2.out.trans (if_neg (by rw [HT.out he]; simp))⟩
          have hz : (z == nd) = true := by simp [he]
          clear he
          go_wp2
          go_ret2
          exact ReplR.bad HE.out (HM1.out.transN HM2.out)
        · have hz : (z == nd) = false := by simpa using he
          have HN' : Sec (hasNode (xs.take (k + 1)) nd = false) := ⟨by rw [HS.out, HN.out, decide_eq_false he]; rfl⟩
          clear he
          go_wp2
          go_roundw
          case rel => exact ⟨k + 1, by omega, by go_num, HN', HM2⟩
          case measure => simp [intOf]; omega
      · obtain rfl : k = xs.length := by omega
        rw [List.take_length] at HN
        have HE : Sec (res = some (withE xs nm nd)) := ⟨HR2.out.trans (if_pos HN.out)⟩
        go_wp2_with fail
        refine (l1With_calls (HR0.out _ HMr.out) (HB0.out _ HMr.out) hl nm hq1 nd HW.out HOR.out).mono ?_
        intro e w5 hret
        obtain ⟨A5, c5, rfl, hmine⟩ := hret.mine
        have HMI := Sec.mk (hmine.base HMr.out)
        clear hret hmine
        go_wp2
        go_ret2
        exact ReplR.good HE.out HMI.out
  have hk1b : (kd == 1) = false := by simpa using hk1
  have HRL2 := Sec.mk (HRL.out.trans (if_neg hk1))
  clear HRL hk1
  by_cases hk4 : kd = 4
  · subst hk4
    have HR1 := Sec.mk (HRL2.out.trans (if_pos rfl))
    clear HRL2
    cases hh : hasE xs nm
    · have HE : Sec (res = none) := ⟨HR1.out.trans (if_neg (by rw [hh]; simp))⟩
      rw [find_neg HOR.out hh]
      clear hh HR1
      go_wp2
      go_ret2
      exact ReplR.bad HE.out HM1.out
    have hpl := place_lt HOR.out hh
    have HH := Sec.mk hh
    rw [find_pos HOR.out hh]
    clear hh
    have HGD : Sec ((xs[placeE xs nm]?.getD ([], 0)).2 = (xs[placeE xs nm]'hpl).2) := ⟨by rw [List.getElem?_eq_getElem hpl]; rfl⟩
    have hpi : (placeE xs nm : Int) < (xs.length : Int) := by omega
    have hpn : ¬ ((placeE xs nm : Int) < 0) := by omega
    obtain ⟨ad, rfl, hx0, hx1, hxn, hxw⟩ := ent_at (HR0.out _ HM1.out) (w' := w1) (fun _ _ => rfl) hpl
    have HXW := Sec.mk hxw
    generalize (xs[placeE xs nm]'hpl).2 = u at *
    generalize placeE xs nm = pl at *
    clear hxw hxn hx0
    go_wp2_with fail
    refine (goodS_calls tq hq2 w1).mono ?_
    rintro e w2 ⟨rfl, rfl⟩
    by_cases hg : goodL tq = true
    rotate_left
    · have HE : Sec (res = none) := ⟨HR1.out.trans (if_neg (fun h => hg h.2.1))⟩
      have hg' : goodL tq = false := by simpa using hg
      rw [hg']
      clear hg hg'
      go_wp2
      go_ret2
      exact ReplR.bad HE.out HM1.out
    rw [hg]
    by_cases ht : tq = nm
    · have HE : Sec (res = none) := ⟨HR1.out.trans (if_neg (fun h => h.2.2.1 ht))⟩
      have ht' : (tq == nm) = true := by simp [ht]
      clear ht
      go_wp2
      go_ret2
      exact ReplR.bad HE.out HM1.out
    have ht' : (tq == nm) = false := by simpa using ht
    by_cases hn : nd = 0
    rotate_left
    · have HE : Sec (res = none) := ⟨HR1.out.trans (if_neg (fun h => hn h.2.2.2))⟩
      have hn' : (nd != 0) = true := by simpa using hn
      clear hn
      go_wp2
      go_ret2
      exact ReplR.bad HE.out HM1.out
    have HE : Sec (res = some (withE (outE xs nm) tq u)) := ⟨by rw [HR1.out, if_pos ⟨HH.out, hg, ht, hn⟩, HGD.out]⟩
    subst hn
    clear hg ht HR1 HGD
    go_wp2
    have HWO := Sec.mk (fun W (hW : New w W) => l1Without_calls (c := c) (HR0.out W hW) (HB0.out W hW) hl nm)
    have HORO := Sec.mk (ord_out HOR.out nm)
    have hol := outE_len xs nm
    generalize outE xs nm = ys at *
    have HX2 : Sec (∀ W, New w2 W → W.cell? ⟨w.heap.size, 1, none⟩ = some (.string ⟨nm.toArray⟩) ∧ W.cell? ⟨w.heap.size, 2, none⟩ = some (.string ⟨tq.toArray⟩)) := ⟨fun W h => ⟨h.cell_of b1, h.cell_of b2⟩⟩
    have HSS : Sec (New w2 w2.drew) := ⟨(Mod.refl _ _).drew⟩
    refine reg_start [] (fun W => Sec (New w2 W)) (by kernel_rfl) ?_
    refine reg_take (.slice (some ad) xs.length c) (i := 0) (n := 85) HSS rfl (by kernel_rfl) (by kernel_rfl) (by kernel_rfl) (by kernel_rfl) (fun _ _ _ h => h) (fun W hW => exec_move rfl rfl) ?_
    simp only [Act.put, List.setIfInBounds_toArray, List.set_cons_zero, List.set_cons_succ]
    refine reg_take (.pointer (some ⟨w.heap.size, 1, none⟩)) (i := 1) (n := 86) HSS rfl (by kernel_rfl) (by kernel_rfl) (by kernel_rfl) (by kernel_rfl) (fun _ _ _ h => h) (fun W hW => exec_field rfl rfl (fptDirOp1 _ _)) ?_
    simp only [Act.put, List.setIfInBounds_toArray, List.set_cons_zero, List.set_cons_succ]
    refine reg_take (.string ⟨nm.toArray⟩) (i := 2) (n := 87) HSS rfl (by kernel_rfl) (by kernel_rfl) (by kernel_rfl) (by kernel_rfl) (fun _ _ _ h => h) (fun W hW => exec_load rfl rfl (ldStr (HX2.out W hW.out).1)) ?_
    simp only [Act.put, List.setIfInBounds_toArray, List.set_cons_zero, List.set_cons_succ]
    refine reg_take (.pointer (some ⟨w.heap.size, 2, none⟩)) (i := 4) (n := 89) HSS rfl (by kernel_rfl) (by kernel_rfl) (by kernel_rfl) (by kernel_rfl) (fun _ _ _ h => h) (fun W hW => exec_field rfl rfl (fptDirOp2 _ _)) ?_
    simp only [Act.put, List.setIfInBounds_toArray, List.set_cons_zero, List.set_cons_succ]
    refine reg_take (.string ⟨tq.toArray⟩) (i := 5) (n := 90) HSS rfl (by kernel_rfl) (by kernel_rfl) (by kernel_rfl) (by kernel_rfl) (fun _ _ _ h => h) (fun W hW => exec_load rfl rfl (ldStr (HX2.out W hW.out).2)) ?_
    simp only [Act.put, List.setIfInBounds_toArray, List.set_cons_zero, List.set_cons_succ]
    refine reg_take (.int .i64 u) (i := 6) (n := 91) HSS rfl (by kernel_rfl) (by kernel_rfl) (by kernel_rfl) (by kernel_rfl) (fun _ _ _ h => h) (fun W hW => exec_move rfl rfl) ?_
    simp only [Act.put, List.setIfInBounds_toArray, List.set_cons_zero, List.set_cons_succ]
    refine reg_step (i := 3) rfl (by kernel_rfl) (fun K hK => ?_)
    refine wp_call (n := 88) (vals := [.slice (some ad) xs.length c, .string ⟨nm.toArray⟩]) rfl rfl rfl (by kernel_rfl) (HWO.out _ (HM1.out.transN HSS.out)) ?_
    intro e w3 hret
    obtain ⟨A3, c3, rfl, hmine⟩ := hret.mine
    have HSS : Sec (New w2 w3) := ⟨HSS.out.transN hmine.new⟩
    have HY := Sec.mk hmine.row
    refine ⟨_, rfl, hK.out _ _ (fun _ => HSS) ?_⟩
    clear hret hmine
    clear hK K
    simp only [Act.put, List.setIfInBounds_toArray, List.set_cons_zero, List.set_cons_succ]
    refine reg_step (i := 7) rfl (by kernel_rfl) (fun K hK => ?_)
    refine wp_call (n := 92) (vals := [.slice A3 ys.length c3, .string ⟨tq.toArray⟩, .int .i64 u]) rfl rfl rfl (by kernel_rfl) (l1With_calls (c := c3) HY.out (fun k hk => hk.2) (by omega) tq hq2 u HXW.out HORO.out) ?_
    intro e w4 hret
    obtain ⟨A4, c4, rfl, hmine⟩ := hret.mine
    have HMI := Sec.mk (hmine.base (HM1.out.transN HSS.out))
    have HSS : Sec (New w2 w4) := ⟨HSS.out.transN hmine.new⟩
    refine ⟨_, rfl, hK.out _ _ (fun _ => HSS) ?_⟩
    clear hret hmine
    clear hK K
    simp only [Act.put, List.setIfInBounds_toArray, List.set_cons_zero, List.set_cons_succ]
    refine reg_take (.slice A4 (withE ys tq u).length c4) (i := 8) (n := 6) HSS rfl (by kernel_rfl) (by kernel_rfl) (by kernel_rfl) (by kernel_rfl) (fun _ _ _ h => h) (fun W hW => exec_assign rfl rfl) ?_
    simp only [Act.put, List.setIfInBounds_toArray, List.set_cons_zero, List.set_cons_succ]
    refine reg_take (.bool true) (i := 9) (n := 7) HSS rfl (by kernel_rfl) (by kernel_rfl) (by kernel_rfl) (by kernel_rfl) (fun _ _ _ h => h) (fun W hW => exec_assign rfl rfl) ?_
    simp only [Act.put, List.setIfInBounds_toArray, List.set_cons_zero, List.set_cons_succ]
    refine reg_done (by kernel_rfl) ?_ _
    go_wp2
    go_ret2
    exact ReplR.good HE.out HMI.out
  have hk4b : (kd == 4) = false := by simpa using hk4
  have HRL3 := Sec.mk (HRL2.out.trans (if_neg hk4))
  clear HRL2 hk4
  by_cases hk5 : kd = 5
  · subst hk5
    have HR1 := Sec.mk (HRL3.out.trans (if_pos rfl))
    clear HRL3
    cases hh : hasE xs nm
    · have HE : Sec (res = none) := ⟨HR1.out.trans (if_neg (by rw [hh]; simp))⟩
      rw [find_neg HOR.out hh]
      clear hh HR1
      go_wp2
      go_ret2
      exact ReplR.bad HE.out HM1.out
    have HH := Sec.mk hh
    rw [find_pos HOR.out hh]
    clear hh
    have hpn : ¬ ((placeE xs nm : Int) < 0) := by omega
    generalize placeE xs nm = pl at *
    by_cases ht : tq = []
    rotate_left
    · have HE : Sec (res = none) := ⟨HR1.out.trans (if_neg (fun h => ht h.2.1))⟩
      have ht' : tq.isEmpty = false := by simpa using ht
      clear ht
      go_wp2
      go_ret2
      exact ReplR.bad HE.out HM1.out
    subst ht
    by_cases hn : nd = 0
    rotate_left
    · have HE : Sec (res = none) := ⟨HR1.out.trans (if_neg (fun h => hn h.2.2))⟩
      have hn' : (nd != 0) = true := by simpa using hn
      clear hn
      go_wp2
      go_ret2
      exact ReplR.bad HE.out HM1.out
    have HE : Sec (res = some (outE xs nm)) := ⟨by rw [HR1.out, if_pos ⟨HH.out, rfl, hn⟩]⟩
    subst hn
    clear HR1
    go_wp2_with fail
    refine (l1Without_calls (HR0.out _ HM1.out) (HB0.out _ HM1.out) hl nm).mono ?_
    intro e w4 hret
    obtain ⟨A4, c4, rfl, hmine⟩ := hret.mine
    have HMI := Sec.mk (hmine.base HM1.out)
    clear hret hmine
    go_wp2
    go_ret2
    exact ReplR.good HE.out HMI.out
  have hk5b : (kd == 5) = false := by simpa using hk5
  have HE : Sec (res = none) := ⟨HRL3.out.trans (if_neg hk5)⟩
  clear hk5
  go_wp2
  go_ret2
  exact ReplR.bad HE.out HM1.out
end Go.Proofs.YtkkgighgnbbgiaaDoor

namespace Go.Proofs.YtkkgighgnbbgiaaDoor
open Go.RowKit Mem
set_option linter.unusedVariables false
set_option linter.unusedSimpArgs false
set_option maxHeartbeats 8000000 in
set_option maxRecDepth 100000 in
theorem diskValidS_v {w : World} {v : Value} {x : DiskT} (h : RdV true dDisk w v x) : Calls Tryd.prog 16 #[v] w (Ret (.bool (DiskValidL x)) w) := by
  have hqw := okDisk h
  obtain ⟨v0, v1, v2, v3, rfl, k0, k1, k2, k3⟩ := rdDisk h
  obtain ⟨nodes, names, kept, pend, quota⟩ := x
  simp only at k0 k1 k2 k3 hqw ⊢
  have HI := Sec.mk (DiskValidL_iff (nodes, names, kept, pend, quota))
  have HF : Sec (¬ diskOk (nodes, names, kept, pend, quota) → DiskValidL (nodes, names, kept, pend, quota) = false) := ⟨DiskValidL_not⟩
  have HD : Sec (diskOk (nodes, names, kept, pend, quota) ↔ (0 ≤ quota ∧ quota ≤ 1000000 ∧ nodes.length ≤ 600 ∧ pend.length ≤ 1000 ∧ (∀ k, (hk : k < nodes.length) → nodeOk nodes[k] = true) ∧ sumD nodes ≤ 200000 ∧ inOrdL names nodes.length = true ∧ inOrdL kept nodes.length = true ∧ replaysL nodes.length kept pend = some names)) := ⟨Iff.rfl⟩
  generalize diskOk (nodes, names, kept, pend, quota) = OKD at *
  generalize DiskValidL (nodes, names, kept, pend, quota) = r at *
  obtain ⟨A0, c0, rfl, hc0, hr0⟩ := k0.slice
  obtain ⟨A1, c1, rfl, hc1, hr1⟩ := k1.slice
  obtain ⟨A2, c2, rfl, hc2, hr2⟩ := k2.slice
  obtain ⟨A3, c3, rfl, hc3, hr3⟩ := k3.slice
  have hm0 := hr0.2.1
  have hm1 := hr1.2.1
  have hm2 := hr2.2.1
  have hm3 := hr3.2.1
  have HR0 := Sec.mk hr0
  have HR1 := Sec.mk hr1
  have HR2 := Sec.mk hr2
  have HR3 := Sec.mk hr3
  have HBX := Sec.mk (Blk.new w 27 [.slice A0 nodes.length c0, .slice A1 names.length c1, .slice A2 kept.length c2, .slice A3 pend.length c3, .int .i64 quota])
  have HM0 := Sec.mk ((Mod.refl (fun _ => False) w).alloc (.cells #[.slice A0 nodes.length c0, .slice A1 names.length c1, .slice A2 kept.length c2, .slice A3 pend.length c3, .int .i64 quota] 27))
  clear h k0 k1 k2 k3 hr0 hr1 hr2 hr3 hqw
  by_cases hq0 : 0 ≤ quota
  rotate_left
  · have HE : Sec (r = false) := ⟨HF.out (fun h => hq0 (HD.out.1 h).1)⟩
    have hq0' : quota < 0 := by omega
    clear hq0
    go_enter Tryd.func16, Tryd.ntmps16
    go_wp2
    go_ret
    exact ⟨by rw [HE.out]; rfl, HM0.out⟩
  have hq0' : ¬ quota < 0 := by omega
  by_cases hq1 : quota ≤ 1000000
  rotate_left
  · have HE : Sec (r = false) := ⟨HF.out (fun h => hq1 (HD.out.1 h).2.1)⟩
    have hq1' : 1000000 < quota := by omega
    clear hq1
    go_enter Tryd.func16, Tryd.ntmps16
    go_wp2
    go_ret
    exact ⟨by rw [HE.out]; rfl, HM0.out⟩
  have hq1' : ¬ 1000000 < quota := by omega
  by_cases hn : nodes.length ≤ 600
  rotate_left
  · have HE : Sec (r = false) := ⟨HF.out (fun h => hn (HD.out.1 h).2.2.1)⟩
    have hn' : (600 : Int) < (nodes.length : Int) := by omega
    clear hn
    go_enter Tryd.func16, Tryd.ntmps16
    go_wp2
    go_ret
    exact ⟨by rw [HE.out]; rfl, HM0.out⟩
  have hn' : ¬ (600 : Int) < (nodes.length : Int) := by omega
  by_cases hp : pend.length ≤ 1000
  rotate_left
  · have HE : Sec (r = false) := ⟨HF.out (fun h => hp (HD.out.1 h).2.2.2.1)⟩
    have hp' : (1000 : Int) < (pend.length : Int) := by omega
    clear hp
    go_enter Tryd.func16, Tryd.ntmps16
    go_wp2
    go_ret
    exact ⟨by rw [HE.out]; rfl, HM0.out⟩
  have hp' : ¬ (1000 : Int) < (pend.length : Int) := by omega
  go_enter Tryd.func16, Tryd.ntmps16
  go_wp2
  go_loopw [3, 34] (fun t i wr => ∃ k : Nat, k ≤ nodes.length ∧ i = .int .i64 (k : Int) ∧ t = .int .i64 ((sumD (nodes.take k) : Nat) : Int) ∧ sumD (nodes.take k) ≤ k * 40000 ∧ Sec (∀ j, j < k → (hj : j < nodes.length) → nodeOk nodes[j] = true) ∧ Sec (Blk wr w.heap.size 27 [.slice A0 nodes.length c0, .slice A1 names.length c1, .slice A2 kept.length c2, .slice A3 pend.length c3, .int .i64 quota]) ∧ Sec (New w wr)) (fun _ i _ => nodes.length - (intOf i).toNat)
  case atStart => exact ⟨0, Nat.zero_le _, rfl, rfl, by simp [sumD], ⟨fun j h => absurd h (Nat.not_lt_zero _)⟩, HBX, HM0⟩
  case round =>
    obtain ⟨k, hk, rfl, rfl, hsum, HN, HBr, HMr⟩ := hrel
    clear HBX HM0
    by_cases hlt : k < nodes.length
    · obtain ⟨ad, A', c', rfl, h0, h1, hcc, hcm, hrow, hw⟩ := node_at HR0.out (w' := wr) (fun i hi => HMr.out.block i hi id) hlt
      have hki : (k : Int) < (nodes.length : Int) := by omega
      have HST := Sec.mk (sumD_take hlt)
      have HOKN : Sec (nodeOk nodes[k] = decide (nodes[k].1.length ≤ 40000 ∧ 0 ≤ nodes[k].2 ∧ nodes[k].2 ≤ nodes[k].1.length)) := ⟨rfl⟩
      have HBAD : Sec (¬ nodeOk nodes[k] = true → r = false) := ⟨fun h => HF.out (fun hh => h ((HD.out.1 hh).2.2.2.2.1 k hlt))⟩
      have HNX : Sec (nodeOk nodes[k] = true → ∀ j, j < k + 1 → (hj : j < nodes.length) → nodeOk nodes[j] = true) := ⟨fun h j hj hjl => by rcases Nat.lt_succ_iff_lt_or_eq.1 hj with h' | rfl; exact HN.out j h' hjl; exact h⟩
      obtain ⟨⟨dt, sf⟩, hx⟩ : ∃ q, q = nodes[k] := ⟨_, rfl⟩
      rw [← hx] at h0 h1 HST HOKN HBAD HNX
      clear hx hrow hw
      simp only at h0 h1 HST HOKN
      generalize hss : sumD (nodes.take k) = s at *
      generalize nodeOk (dt, sf) = okn at *
      have HMa := Sec.mk (HMr.out.alloc (.cells #[.slice A' dt.length c', .int .i64 sf] 49))
      by_cases g0 : dt.length ≤ 40000
      rotate_left
      · have HE : Sec (r = false) := ⟨HBAD.out (by rw [HOKN.out]; simp only [decide_eq_true_eq]; exact fun h => g0 h.1)⟩
        have g0' : (40000 : Int) < (dt.length : Int) := by omega
        clear g0
        go_wp2
        go_ret
        exact ⟨by rw [HE.out]; rfl, HMa.out⟩
      have g0' : ¬ (40000 : Int) < (dt.length : Int) := by omega
      by_cases g1 : 0 ≤ sf
      rotate_left
      · have HE : Sec (r = false) := ⟨HBAD.out (by rw [HOKN.out]; simp only [decide_eq_true_eq]; exact fun h => g1 h.2.1)⟩
        have g1' : sf < 0 := by omega
        clear g1
        go_wp2
        go_ret
        exact ⟨by rw [HE.out]; rfl, HMa.out⟩
      have g1' : ¬ sf < 0 := by omega
      by_cases g2 : sf ≤ (dt.length : Int)
      rotate_left
      · have HE : Sec (r = false) := ⟨HBAD.out (by rw [HOKN.out]; simp only [decide_eq_true_eq]; exact fun h => g2 h.2.2)⟩
        have g2' : (dt.length : Int) < sf := by omega
        clear g2
        go_wp2
        go_ret
        exact ⟨by rw [HE.out]; rfl, HMa.out⟩
      have g2' : ¬ (dt.length : Int) < sf := by omega
      have HNX2 := Sec.mk (HNX.out (by rw [HOKN.out]; exact decide_eq_true ⟨g0, g1, g2⟩))
      have HBa := Sec.mk (HBr.out.alloc (.cells #[.slice A' dt.length c', .int .i64 sf] 49))
      go_wp2
      go_roundw
      case rel => exact ⟨k + 1, by omega, by go_num, by rw [HST.out]; congr 1, by rw [HST.out]; omega, HNX2, HBa, HMa⟩
      case measure => simp [intOf]; omega
    · obtain rfl : k = nodes.length := by omega
      have hsl : nodes.take nodes.length = nodes := List.take_length
      rw [hsl] at hsum ⊢
      clear hsl
      have hwr : w.heap.size < wr.heap.size := HBr.out.lt
      have p1 : wr.cell? ⟨w.heap.size, 1, none⟩ = some (.slice A1 names.length c1) := HBr.out.cell 1
      have p0 : wr.cell? ⟨w.heap.size, 0, none⟩ = some (.slice A0 nodes.length c0) := HBr.out.cell 0
      have p2 : wr.cell? ⟨w.heap.size, 2, none⟩ = some (.slice A2 kept.length c2) := HBr.out.cell 2
      have p3 : wr.cell? ⟨w.heap.size, 3, none⟩ = some (.slice A3 pend.length c3) := HBr.out.cell 3
      by_cases hs2 : sumD nodes ≤ 200000
      rotate_left
      · have HE : Sec (r = false) := ⟨HF.out (fun h => hs2 (HD.out.1 h).2.2.2.2.2.1)⟩
        have hs2' : (200000 : Int) < ((sumD nodes : Nat) : Int) := by omega
        clear hs2
        go_wp2
        go_ret
        exact ⟨by rw [HE.out]; rfl, HMr.out⟩
      have hs2' : ¬ (200000 : Int) < ((sumD nodes : Nat) : Int) := by omega
      have HNALL : Sec (∀ j, (hj : j < nodes.length) → nodeOk nodes[j] = true) := ⟨fun j hj => HN.out j hj hj⟩
      clear HN
      generalize hsd : sumD nodes = sd at *
      go_wp2_with fail
      refine (l1InOrder_calls (HR1.out.mod (w' := wr) (fun _ h => h) (fun k hk => HMr.out.block k hk id)) (fun k hk => Nat.lt_of_lt_of_le hk HMr.out.size) (nodes.length : Int)).mono ?_
      rintro e w2 ⟨rfl, hm2⟩
      have HM2 := Sec.mk (HMr.out.transN hm2)
      have HB2 := Sec.mk (HBr.out.mod hm2 id)
      clear hm2 p0 p1 p2 p3
      have p0 : w2.cell? ⟨w.heap.size, 0, none⟩ = some (.slice A0 nodes.length c0) := HB2.out.cell 0
      have p2 : w2.cell? ⟨w.heap.size, 2, none⟩ = some (.slice A2 kept.length c2) := HB2.out.cell 2
      by_cases hio : inOrdL names (nodes.length : Int) = true
      rotate_left
      · have HE : Sec (r = false) := ⟨HF.out (fun h => hio (HD.out.1 h).2.2.2.2.2.2.1)⟩
        have hio' : inOrdL names (nodes.length : Int) = false := by simpa using hio
        rw [hio']
        clear hio hio'
        go_wp2
        go_ret
        exact ⟨by rw [HE.out]; rfl, HM2.out⟩
      rw [hio]
      go_wp2_with fail
      refine (l1InOrder_calls (HR2.out.mod (w' := w2) (fun _ h => h) (fun k hk => HM2.out.block k hk id)) (fun k hk => Nat.lt_of_lt_of_le hk HM2.out.size) (nodes.length : Int)).mono ?_
      rintro e w3 ⟨rfl, hm3⟩
      have HM3 := Sec.mk (HM2.out.transN hm3)
      have HB3 := Sec.mk (HB2.out.mod hm3 id)
      clear hm3 p0 p2
      have p0 : w3.cell? ⟨w.heap.size, 0, none⟩ = some (.slice A0 nodes.length c0) := HB3.out.cell 0
      have p1 : w3.cell? ⟨w.heap.size, 1, none⟩ = some (.slice A1 names.length c1) := HB3.out.cell 1
      have p2 : w3.cell? ⟨w.heap.size, 2, none⟩ = some (.slice A2 kept.length c2) := HB3.out.cell 2
      have p3 : w3.cell? ⟨w.heap.size, 3, none⟩ = some (.slice A3 pend.length c3) := HB3.out.cell 3
      by_cases hik : inOrdL kept (nodes.length : Int) = true
      rotate_left
      · have HE : Sec (r = false) := ⟨HF.out (fun h => hik (HD.out.1 h).2.2.2.2.2.2.2.1)⟩
        have hik' : inOrdL kept (nodes.length : Int) = false := by simpa using hik
        rw [hik']
        clear hik hik'
        go_wp2
        go_ret
        exact ⟨by rw [HE.out]; rfl, HM3.out⟩
      rw [hik]
      have HALL : Sec (replaysL nodes.length kept pend = some names → r = true) := ⟨fun h => HI.out.2 (HD.out.2 ⟨hq0, hq1, hn, hp, HNALL.out, hs2, hio, hik, h⟩)⟩
      have HNON : Sec (replaysL nodes.length kept pend ≠ some names → r = false) := ⟨fun h => HF.out (fun hh => h (HD.out.1 hh).2.2.2.2.2.2.2.2)⟩
      have HOK := Sec.mk (inOrdL_ord hik)
      have hk300 : kept.length ≤ 300 := ((inOrdL_iff kept nodes.length).1 hik).1
      have hn300 : names.length ≤ 300 := ((inOrdL_iff names nodes.length).1 hio).1
      clear hio hik HI HF HD HNALL HMr HBr HM2 HB2
      go_wp2
      go_loopw [6, 86] (fun l i wr => ∃ (k : Nat) (A' : Option Addr) (c' : Nat) (cur : List EntryT), k ≤ pend.length ∧ i = .int .i64 (k : Int) ∧ l = .slice A' cur.length c' ∧ Sec (Row dEntry wr (· < wr.heap.size) A' cur.length cur) ∧ Sec (Ord cur) ∧ cur.length ≤ 300 ∧ Sec (replaysL nodes.length kept pend = replaysL nodes.length cur (pend.drop k)) ∧ Sec (Blk wr w.heap.size 27 [.slice A0 nodes.length c0, .slice A1 names.length c1, .slice A2 kept.length c2, .slice A3 pend.length c3, .int .i64 quota]) ∧ Sec (New w wr)) (fun _ i _ => pend.length - (intOf i).toNat)
      case atStart => exact ⟨0, A2, c2, kept, Nat.zero_le _, rfl, rfl, ⟨HR2.out.mod (fun k hk => Nat.lt_of_lt_of_le hk HM3.out.size) (fun k hk => HM3.out.block k hk id)⟩, HOK, hk300, ⟨by rw [List.drop_zero]⟩, HB3, HM3⟩
      case round =>
        obtain ⟨k, A', c', cur, hk, rfl, rfl, HC, HOC, hcl, HP, HBr, HMr⟩ := hrel
        have hwr : w.heap.size < wr.heap.size := HBr.out.lt
        have q0 : wr.cell? ⟨w.heap.size, 0, none⟩ = some (.slice A0 nodes.length c0) := HBr.out.cell 0
        have q1 : wr.cell? ⟨w.heap.size, 1, none⟩ = some (.slice A1 names.length c1) := HBr.out.cell 1
        by_cases hlt : k < pend.length
        · obtain ⟨ad, rfl, d0, d1, d2, d3, g0, g1, g2, g3⟩ := dop_at HR3.out (w' := wr) (fun i hi => HMr.out.block i hi id) hlt
          have hki : (k : Int) < (pend.length : Int) := by omega
          have HS := Sec.mk (HP.out.trans (replaysL_at hlt))
          have HG := Sec.mk (And.intro g0 (And.intro g1 (And.intro g2 g3)))
          clear g0 g1 g2 g3 HP
          have HPX : Sec (∃ q : DirOpT, q = pend[k]) := ⟨⟨_, rfl⟩⟩
          obtain ⟨q, hq⟩ := HPX.out
          rw [← hq] at d0 d1 d2 d3 HG HS
          clear hq HPX
          have HBa := Sec.mk (HBr.out.alloc (.cells #[.int .i64 q.1, .string ⟨q.2.1.toArray⟩, .string ⟨q.2.2.1.toArray⟩, .int .i64 q.2.2.2] 66))
          have HMa := Sec.mk (HMr.out.alloc (.cells #[.int .i64 q.1, .string ⟨q.2.1.toArray⟩, .string ⟨q.2.2.1.toArray⟩, .int .i64 q.2.2.2] 66))
          have HCa := Sec.mk (HC.out.mod (w' := wr.alloc (.cells #[.int .i64 q.1, .string ⟨q.2.1.toArray⟩, .string ⟨q.2.2.1.toArray⟩, .int .i64 q.2.2.2] 66)) (B' := (· < wr.heap.size)) (fun _ h => h) (fun k hk => Below.heap_alloc _ _ _ hk))
          go_wp2_with fail
          refine (l1Replay_calls HCa.out (fun k hk => Nat.lt_of_lt_of_le hk (by simp)) (by omega) HOC.out q HG.out.2.1 HG.out.2.2.1 HG.out.2.2.2 (nodes.length : Int)).mono ?_
          intro e w5 hr5
          have HRO := Sec.mk (fun m (h : replayL cur q nodes.length = some m) => replayL_ord HOC.out h)
          generalize replayL cur q (nodes.length : Int) = res at *
          cases res with
          | none =>
            obtain ⟨rfl, hm5⟩ := hr5
            have HE : Sec (r = false) := ⟨HNON.out (by rw [HS.out]; simp)⟩
            have HM5 := Sec.mk (HMa.out.transN hm5)
            clear hm5
            go_wp2
            go_ret
            exact ⟨by rw [HE.out]; rfl, HM5.out⟩
          | some m =>
            obtain ⟨A5, c5, rfl, hmine⟩ := hr5
            have HM5 := Sec.mk (HMa.out.transN hmine.new)
            have HB5 := Sec.mk (HBa.out.mod hmine.new id)
            have HC5 := Sec.mk (hmine.row.mod (B' := (· < w5.heap.size)) (fun _ h => h.2) (fun _ _ => rfl))
            have hyc := hmine.len.2.1
            clear hmine
            by_cases hml : m.length ≤ 300
            rotate_left
            · have HE : Sec (r = false) := ⟨HNON.out (by rw [HS.out]; simp only [if_neg hml]; simp)⟩
              have hml' : (300 : Int) < (m.length : Int) := by omega
              clear hml
              go_wp2
              go_ret
              exact ⟨by rw [HE.out]; rfl, HM5.out⟩
            have hml' : ¬ (300 : Int) < (m.length : Int) := by omega
            have HS' : Sec (replaysL nodes.length kept pend = replaysL nodes.length m (pend.drop (k + 1))) := ⟨by rw [HS.out]; simp only [if_pos hml]⟩
            have HO5 := Sec.mk (HRO.out m rfl)
            go_wp2
            go_roundw
            case rel => exact ⟨k + 1, A5, c5, m, by omega, by go_num, rfl, HC5, HO5, hml, HS', HB5, HM5⟩
            case measure => simp [intOf]; omega
        · obtain rfl : k = pend.length := by omega
          rw [List.drop_length] at HP
          have HS : Sec (replaysL nodes.length kept pend = some cur) := ⟨HP.out⟩
          go_wp2_with fail
          refine (l1Same_calls HC.out (HR1.out.mod (w' := wr) (fun k hk => Nat.lt_of_lt_of_le hk HMr.out.size) (fun k hk => HMr.out.block k hk id)) (fun k hk => hk)).mono ?_
          rintro e w5 ⟨rfl, hm5⟩
          have HM5 := Sec.mk (HMr.out.transN hm5)
          clear hm5
          by_cases hcn : cur = names
          · have HE : Sec (r = true) := ⟨HALL.out (by rw [HS.out, hcn])⟩
            rw [decide_eq_true hcn]
            clear hcn
            go_wp2
            go_ret
            exact ⟨by rw [HE.out]; rfl, HM5.out⟩
          · have HE : Sec (r = false) := ⟨HNON.out (by rw [HS.out]; intro h; exact hcn (Option.some.inj h))⟩
            rw [decide_eq_false hcn]
            clear hcn
            go_wp2
            go_ret
            exact ⟨by rw [HE.out]; rfl, HM5.out⟩
end Go.Proofs.YtkkgighgnbbgiaaDoor
