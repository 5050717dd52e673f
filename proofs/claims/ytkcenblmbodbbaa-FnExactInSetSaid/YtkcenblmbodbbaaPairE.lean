/- Rows of pairs compared. -/
import Derived.Test.YtkcenblmbodbbaaPair
import Derived.Deep.RegionHeld3
namespace Go.Proofs.Ytkcenblmbodbbaa
open Go.RowKit Mem
set_option linter.unusedVariables false

theorem pair_eq {p q : Int × Int} (h1 : p.1 = q.1) (h2 : p.2 = q.2) : p = q := by cases p; cases q; simp_all
set_option maxHeartbeats 400000 in
theorem eqPair_calls (a b a' b' : Int) (w : World) :
    Calls Try.prog 86 #[.agg #[.int .u32 a, .int .u32 b], .agg #[.int .u32 a', .int .u32 b']] w (Ret (.bool (decide ((a, b) = (a', b')))) w) := by
  by_cases h1 : a = a'
  · by_cases h2 : b = b'
    · subst h1; subst h2
      go_enter Try.func86, Try.ntmps86
      go_wp2
      go_ret
      exact ⟨by simp, ((Mod.refl _ _).alloc _).alloc _⟩
    · subst h1
      have hb : (b != b') = true := by simpa using h2
      have HN : Sec (¬ ((a, b) = (a, b'))) := ⟨fun e => h2 (by injection e)⟩
      clear h2
      go_enter Try.func86, Try.ntmps86
      go_wp2
      go_ret
      exact ⟨by simp [HN.out], ((Mod.refl _ _).alloc _).alloc _⟩
  · have hb : (a != a') = true := by simpa using h1
    have HN : Sec (¬ ((a, b) = (a', b'))) := ⟨fun e => h1 (by injection e)⟩
    clear h1
    go_enter Try.func86, Try.ntmps86
    go_wp2
    go_ret
    exact ⟨by simp [HN.out], ((Mod.refl _ _).alloc _).alloc _⟩

theorem eqPair_as (r : Bool) {p q : Int × Int} (hr : Sec (decide (p = q) = r)) (w : World) :
    Calls Try.prog 86 #[.agg #[.int .u32 p.1, .int .u32 p.2], .agg #[.int .u32 q.1, .int .u32 q.2]] w (Ret (.bool r) w) := by
  rw [← hr.out]; exact eqPair_calls _ _ _ _ _
set_option maxHeartbeats 1000000 in
set_option maxRecDepth 100000 in
theorem eqPairS_calls {A A' : Option Addr} {c c' : Nat} {xs ys : List (Int × Int)} {B : Nat → Prop} {w : World} (h : Row tPair w B A xs.length xs) (h' : Row tPair w B A' ys.length ys) (hB : ∀ k, B k → k < w.heap.size) :
    Calls Try.prog 28 #[.slice A xs.length c, .slice A' ys.length c'] w (Ret (.bool (decide (xs = ys))) w) := by
  have hl := h.2.1
  have HR := Sec.mk h
  have HR' := Sec.mk h'
  clear h h'
  by_cases hne : xs.length = ys.length
  · have hnb : ((xs.length : Int) != (ys.length : Int)) = false := by simp [hne]
    have HNE := Sec.mk hne
    clear hne
    go_enter Try.func28, Try.ntmps28
    go_wp2
    go_loopw [5] (fun i wr => ∃ k : Nat, k ≤ xs.length ∧ i = .int .i64 k ∧ Sec (xs.take k = ys.take k) ∧ Sec (New w wr)) (fun i _ => xs.length - (intOf i).toNat)
    case atStart => exact ⟨0, Nat.zero_le _, rfl, Sec.mk (by simp), Sec.mk (Mod.refl _ _)⟩
    case round =>
      obtain ⟨k, hk, rfl, HT, HM⟩ := hrel
      by_cases hlt : k < xs.length
      · obtain ⟨ad, rfl, hx0, hx1, _⟩ := pair_at HR.out (fun i hi => HM.out.block i (hB i hi) id) hlt
        obtain ⟨ad', rfl, hy0, hy1, _⟩ := pair_at HR'.out (fun i hi => HM.out.block i (hB i hi) id) (k := k) (by rw [← HNE.out]; exact hlt)
        have hi1 : (k : Int) < (xs.length : Int) := by omega
        have hi2 : (k : Int) < (ys.length : Int) := by rw [← HNE.out]; omega
        by_cases he : xs[k] = ys[k]
        · have HE : Sec (decide (xs[k] = ys[k]) = true) := ⟨by simp [he]⟩
          have HXY := Sec.mk he
          clear he
          go_wp2
          go_region_held3 (fun w' => w'.cell? (ad.add (k * 2)) = some (.int .u32 xs[k].1) ∧ w'.cell? ⟨(ad.add (k * 2)).block, (ad.add (k * 2)).off + 1, none⟩ = some (.int .u32 xs[k].2) ∧ w'.cell? (ad'.add (k * 2)) = some (.int .u32 ys[k].1) ∧ w'.cell? ⟨(ad'.add (k * 2)).block, (ad'.add (k * 2)).off + 1, none⟩ = some (.int .u32 ys[k].2))
            (first | go_keep | (refine ⟨hm2.cell_of ?_, hm2.cell_of ?_, hm2.cell_of ?_, hm2.cell_of ?_⟩ <;> assumption) | (go_split_ands; refine ⟨hm2.cell_of ?_, hm2.cell_of ?_, hm2.cell_of ?_, hm2.cell_of ?_⟩ <;> assumption))
            ((go_at_call 86; refine (eqPair_as true HE _).mono ?_; rintro e w2 ⟨rfl, hm2⟩))
          have HM2 := Sec.mk (HM.out.drew.transN hm2)
          clear hm2
          go_wp2
          go_roundw
          case rel => exact ⟨k + 1, by omega, by go_num, ⟨by rw [List.take_succ_eq_append_getElem hlt, List.take_succ_eq_append_getElem (by rw [← HNE.out]; exact hlt), HT.out, HXY.out]⟩, HM2⟩
          case measure => simp [intOf]; omega
        · have HE : Sec (decide (xs[k] = ys[k]) = false) := ⟨by simp [he]⟩
          have HXY : Sec (¬ xs = ys) := ⟨fun e => he (by subst e; rfl)⟩
          clear he
          go_wp2
          go_region_held3 (fun w' => w'.cell? (ad.add (k * 2)) = some (.int .u32 xs[k].1) ∧ w'.cell? ⟨(ad.add (k * 2)).block, (ad.add (k * 2)).off + 1, none⟩ = some (.int .u32 xs[k].2) ∧ w'.cell? (ad'.add (k * 2)) = some (.int .u32 ys[k].1) ∧ w'.cell? ⟨(ad'.add (k * 2)).block, (ad'.add (k * 2)).off + 1, none⟩ = some (.int .u32 ys[k].2))
            (first | go_keep | (refine ⟨hm2.cell_of ?_, hm2.cell_of ?_, hm2.cell_of ?_, hm2.cell_of ?_⟩ <;> assumption) | (go_split_ands; refine ⟨hm2.cell_of ?_, hm2.cell_of ?_, hm2.cell_of ?_, hm2.cell_of ?_⟩ <;> assumption))
            ((go_at_call 86; refine (eqPair_as false HE _).mono ?_; rintro e w2 ⟨rfl, hm2⟩))
          have HM2 := Sec.mk (HM.out.drew.transN hm2)
          clear hm2
          go_wp2
          go_ret
          exact ⟨by simp [HXY.out], HM2.out⟩
      · have he : xs = ys := by
          have h1 := HT.out
          rw [List.take_of_length_le (by omega), List.take_of_length_le (by rw [← HNE.out]; omega)] at h1
          exact h1
        have HE := Sec.mk he
        clear he
        go_wp2
        go_ret
        exact ⟨by simp [HE.out], HM.out⟩
  · have hnb : ((xs.length : Int) != (ys.length : Int)) = true := by simp; omega
    go_enter Try.func28, Try.ntmps28
    go_wp2
    go_ret
    exact ⟨by simp [show xs ≠ ys from fun e => hne (by rw [e])], Mod.refl _ _⟩
end Go.Proofs.Ytkcenblmbodbbaa
