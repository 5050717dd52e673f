/- Two lists of entries compared. -/
import Derived.Test.YtinfibggdbakoaaDiskB
namespace Go.Proofs.Ytinfibggdbakoaa
open Go.RowKit Mem
set_option linter.unusedVariables false
set_option linter.unusedSimpArgs false
theorem aggNe (xs ys : Bytes) (a b : Int) (w : World) : (binOp .neq 70 (.agg #[.string ⟨xs.toArray⟩, .int .i64 a]) (.agg #[.string ⟨ys.toArray⟩, .int .i64 b])).run Try.prog w = .ok (.bool (decide (((xs, a) : EntryT) ≠ (ys, b)))) w := by
  by_cases h1 : xs = ys
  · by_cases h2 : a = b
    · subst h1; subst h2; simp; go_simp
    · subst h1; have : (a == b) = false := by simpa using h2
      simp [h2]; go_simp
  · have : (xs == ys) = false := by simpa using h1
    simp [h1]; go_simp
set_option maxHeartbeats 2000000 in
set_option maxRecDepth 100000 in
theorem l1Same_calls {A A' : Option Addr} {c c' : Nat} {xs ys : List EntryT} {B : Nat → Prop} {w : World} (h : Row dEntry w B A xs.length xs) (h' : Row dEntry w B A' ys.length ys) (hB : ∀ k, B k → k < w.heap.size) :
    Calls Try.prog 28 #[.slice A xs.length c, .slice A' ys.length c'] w (Ret (.bool (decide (xs = ys))) w) := by
  have hl := h.2.1
  have HR := Sec.mk h
  have HR' := Sec.mk h'
  have HB := Sec.mk hB
  clear h h' hB
  by_cases hne : xs.length = ys.length
  rotate_left
  · have hnb : ((xs.length : Int) != (ys.length : Int)) = true := by simp; omega
    have HE : Sec (decide (xs = ys) = false) := ⟨by simp [show xs ≠ ys from fun e => hne (by rw [e])]⟩
    clear hne
    go_enter Try.func28, Try.ntmps28
    go_wp2
    go_ret
    exact ⟨by rw [HE.out]; rfl, Mod.refl _ _⟩
  have hnb : ((xs.length : Int) != (ys.length : Int)) = false := by simp [hne]
  have HNE := Sec.mk hne
  clear hne
  go_enter Try.func28, Try.ntmps28
  go_wp2
  go_loopw [13] (fun i wr => ∃ k : Nat, k ≤ xs.length ∧ i = .int .i64 (k : Int) ∧ Sec (xs.take k = ys.take k) ∧ Sec (New w wr)) (fun i _ => xs.length - (intOf i).toNat)
  case atStart => exact ⟨0, Nat.zero_le _, rfl, ⟨by simp⟩, ⟨Mod.refl _ _⟩⟩
  case round =>
    obtain ⟨k, hk, rfl, HT, HM⟩ := hrel
    by_cases hlt : k < xs.length
    · have hlt2 : k < ys.length := by rw [← HNE.out]; exact hlt
      obtain ⟨ad, rfl, hx0, hx1, _, _⟩ := ent_at HR.out (w' := wr) (fun i hi => HM.out.block i (HB.out i hi) id) hlt
      obtain ⟨ad', rfl, hy0, hy1, _, _⟩ := ent_at HR'.out (w' := wr) (fun i hi => HM.out.block i (HB.out i hi) id) hlt2
      have HXY : Sec (xs[k] = ys[k] → xs.take (k + 1) = ys.take (k + 1)) := ⟨fun h => by rw [List.take_succ_eq_append_getElem hlt, List.take_succ_eq_append_getElem hlt2, HT.out, h]⟩
      have HNQ : Sec (xs[k] ≠ ys[k] → decide (xs = ys) = false) := ⟨fun h => by simp only [decide_eq_false_iff_not]; intro e; exact h (by subst e; rfl)⟩
      have hki : (k : Int) < (xs.length : Int) := by omega
      have hkj : (k : Int) < (ys.length : Int) := by omega
      obtain ⟨⟨z, a⟩, hx⟩ : ∃ q, q = xs[k] := ⟨_, rfl⟩
      obtain ⟨⟨z', a'⟩, hy⟩ : ∃ q, q = ys[k] := ⟨_, rfl⟩
      rw [← hx] at hx0 hx1 HXY HNQ
      rw [← hy] at hy0 hy1 HXY HNQ
      simp only at hx0 hx1 hy0 hy1
      clear hx hy HT
      by_cases he : z = z'
      · have hz : (z == z') = true := by simp [he]
        by_cases hv : a = a'
        · have hvb : (a != a') = false := by simp [hv]
          have HT' := Sec.mk (HXY.out (by rw [he, hv]))
          clear he hv HXY HNQ
          go_wp2
          go_quiet (fail)
          go_wp2
          go_roundw
          case rel => exact ⟨k + 1, by omega, by go_num, HT', ⟨HM.out.drewN _⟩⟩
          case measure => simp [intOf]; omega
        · have hvb : (a != a') = true := by simpa using hv
          have HE := Sec.mk (HNQ.out (fun h => hv (congrArg (fun x : EntryT => x.2) h)))
          clear he hv HXY HNQ
          go_wp2
          go_quiet (fail)
          go_wp2
          go_ret
          exact ⟨by rw [HE.out]; rfl, HM.out.drewN _⟩
      · have hz : (z == z') = false := by simpa using he
        have HE := Sec.mk (HNQ.out (fun h => he (congrArg (fun x : EntryT => x.1) h)))
        clear he HXY HNQ
        go_wp2
        go_quiet (fail)
        go_wp2
        go_ret
        exact ⟨by rw [HE.out]; rfl, HM.out.drewN _⟩
    · obtain rfl : k = xs.length := by omega
      have HE : Sec (decide (xs = ys) = true) := ⟨by
        have h1 := HT.out
        rw [List.take_of_length_le (by omega), List.take_of_length_le (by rw [← HNE.out]; omega)] at h1
        simp [h1]⟩
      go_wp2
      go_ret
      exact ⟨by rw [HE.out]; rfl, HM.out⟩
set_option maxHeartbeats 2000000 in
set_option maxRecDepth 100000 in
theorem sameEntries_calls {A A' : Option Addr} {c c' : Nat} {xs ys : List EntryT} {B : Nat → Prop} {w : World} (h : Row dEntry w B A xs.length xs) (h' : Row dEntry w B A' ys.length ys) (hB : ∀ k, B k → k < w.heap.size) :
    Calls Try.prog 34 #[.slice A xs.length c, .slice A' ys.length c'] w (Ret (.bool (decide (xs = ys))) w) := by
  have hl := h.2.1
  have HR := Sec.mk h
  have HR' := Sec.mk h'
  have HB := Sec.mk hB
  clear h h' hB
  by_cases hne : xs.length = ys.length
  rotate_left
  · have hnb : ((xs.length : Int) != (ys.length : Int)) = true := by simp; omega
    have HE : Sec (decide (xs = ys) = false) := ⟨by simp [show xs ≠ ys from fun e => hne (by rw [e])]⟩
    clear hne
    go_enter Try.func34, Try.ntmps34
    go_wp2
    go_ret
    exact ⟨by rw [HE.out]; rfl, Mod.refl _ _⟩
  have hnb : ((xs.length : Int) != (ys.length : Int)) = false := by simp [hne]
  have HNE := Sec.mk hne
  clear hne
  go_enter Try.func34, Try.ntmps34
  go_wp2
  go_loopw [13] (fun i wr => ∃ k : Nat, k ≤ xs.length ∧ i = .int .i64 (k : Int) ∧ Sec (xs.take k = ys.take k) ∧ Sec (New w wr)) (fun i _ => xs.length - (intOf i).toNat)
  case atStart => exact ⟨0, Nat.zero_le _, rfl, ⟨by simp⟩, ⟨Mod.refl _ _⟩⟩
  case round =>
    obtain ⟨k, hk, rfl, HT, HM⟩ := hrel
    by_cases hlt : k < xs.length
    · have hlt2 : k < ys.length := by rw [← HNE.out]; exact hlt
      obtain ⟨ad, rfl, hx0, hx1, _, _⟩ := ent_at HR.out (w' := wr) (fun i hi => HM.out.block i (HB.out i hi) id) hlt
      obtain ⟨ad', rfl, hy0, hy1, _, _⟩ := ent_at HR'.out (w' := wr) (fun i hi => HM.out.block i (HB.out i hi) id) hlt2
      have HXY : Sec (xs[k] = ys[k] → xs.take (k + 1) = ys.take (k + 1)) := ⟨fun h => by rw [List.take_succ_eq_append_getElem hlt, List.take_succ_eq_append_getElem hlt2, HT.out, h]⟩
      have HNQ : Sec (xs[k] ≠ ys[k] → decide (xs = ys) = false) := ⟨fun h => by simp only [decide_eq_false_iff_not]; intro e; exact h (by subst e; rfl)⟩
      have hki : (k : Int) < (xs.length : Int) := by omega
      have hkj : (k : Int) < (ys.length : Int) := by omega
      obtain ⟨⟨z, a⟩, hx⟩ : ∃ q, q = xs[k] := ⟨_, rfl⟩
      obtain ⟨⟨z', a'⟩, hy⟩ : ∃ q, q = ys[k] := ⟨_, rfl⟩
      rw [← hx] at hx0 hx1 HXY HNQ
      rw [← hy] at hy0 hy1 HXY HNQ
      simp only at hx0 hx1 hy0 hy1
      clear hx hy HT
      have hag := fun w => aggNe z z' a a' w
      by_cases he : ((z, a) : EntryT) = (z', a')
      · have HT' := Sec.mk (HXY.out he)
        rw [decide_eq_false (fun h => h he)] at hag
        clear he HXY HNQ
        go_wp2
        go_quiet (fail)
        go_wp2
        go_roundw
        case rel => exact ⟨k + 1, by omega, by go_num, HT', ⟨HM.out.drewN _⟩⟩
        case measure => simp [intOf]; omega
      · have HE := Sec.mk (HNQ.out he)
        rw [decide_eq_true he] at hag
        clear he HXY HNQ
        go_wp2
        go_quiet (fail)
        go_wp2
        go_ret
        exact ⟨by rw [HE.out]; rfl, HM.out.drewN _⟩
    · obtain rfl : k = xs.length := by omega
      have HE : Sec (decide (xs = ys) = true) := ⟨by
        have h1 := HT.out
        rw [List.take_of_length_le (by omega), List.take_of_length_le (by rw [← HNE.out]; omega)] at h1
        simp [h1]⟩
      go_wp2
      go_ret
      exact ⟨by rw [HE.out]; rfl, HM.out⟩
end Go.Proofs.Ytinfibggdbakoaa
