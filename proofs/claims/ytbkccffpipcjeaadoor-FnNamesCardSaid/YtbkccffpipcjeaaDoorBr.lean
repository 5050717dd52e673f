/- What stands in brackets. -/
import Derived.Test.YtbkccffpipcjeaaDoorSplitS
import Derived.Test.YtbkccffpipcjeaaDoorPureRead
namespace Go.Proofs.YtbkccffpipcjeaaDoor
open Go.RowKit Mem
set_option linter.unusedVariables false
def BrV (x : Option Bytes) : Value := match x with | none => .tuple #[.string ⟨#[]⟩, .bool false] | some y => .tuple #[.string ⟨y.toArray⟩, .bool true]
set_option maxHeartbeats 1000000 in
set_option maxRecDepth 100000 in
theorem l6Brackets_calls (xs : Bytes) (hx : xs.length ≤ 34359738368) (w : World) : Calls Tryd.prog 29 #[.string ⟨xs.toArray⟩] w (Ret (BrV (brL xs)) w) := by
  have hsz : (⟨xs.toArray⟩ : ByteArray).size = xs.length := by simp [ByteArray.size]
  have HD : Sec (brL xs = if 2 ≤ xs.length ∧ xs[0]? = some 40 ∧ xs[xs.length - 1]? = some 41 then some ((xs.take (xs.length - 1)).drop 1) else none) := ⟨rfl⟩
  by_cases h2 : xs.length < 2
  · have h2i : (xs.length : Int) < 2 := by omega
    have HE : Sec (brL xs = none) := ⟨by rw [HD.out, if_neg (by omega)]⟩
    go_enter Tryd.func29, Tryd.ntmps29
    go_wp2
    go_ret2
    rw [HE.out]
    exact ⟨rfl, Mod.refl _ _⟩
  have h2i : ¬ (xs.length : Int) < 2 := by omega
  have hg0 := strIdx_run xs 0 (by omega)
  have hg1 := strIdx_run xs (xs.length - 1) (by omega)
  rw [show (((xs.length - 1 : Nat)) : Int) = (xs.length : Int) - 1 by omega] at hg1
  simp only [Int.ofNat_zero] at hg0
  have E0 : Sec (xs[0]? = some xs[0]) := ⟨List.getElem?_eq_getElem _⟩
  have E1 : Sec (xs[xs.length - 1]? = some xs[xs.length - 1]) := ⟨List.getElem?_eq_getElem _⟩
  have e3 := ba_ext xs 1 (xs.length - 1)
  generalize xs[0] = b0 at *
  generalize xs[xs.length - 1] = b1 at *
  by_cases h0 : b0 = 40
  · by_cases h1 : b1 = 41
    · subst h0
      subst h1
      have HE : Sec (brL xs = some ((xs.take (xs.length - 1)).drop 1)) := ⟨by rw [HD.out, if_pos ⟨by omega, E0.out, E1.out⟩]⟩
      have hq0 : ((40 : UInt8).toNat : Int) = 40 := rfl
      have hq1 : ((41 : UInt8).toNat : Int) = 41 := rfl
      rw [hq0] at hg0
      rw [hq1] at hg1
      have hb1 : (1 : Int) ≤ (xs.length : Int) - 1 := by omega
      have hb2 : (xs.length : Int) - 1 ≤ (xs.length : Int) := by omega
      have ht : ((xs.length : Int) - 1).toNat = xs.length - 1 := by omega
      go_enter Tryd.func29, Tryd.ntmps29
      go_wp2
      go_ret2
      refine ⟨?_, Mod.refl _ _⟩
      rw [HE.out, List.drop_one]
      rfl
    · have hn : ¬ ((b1.toNat : Int) = 41) := fun h => h1 (UInt8.toNat.inj (by show b1.toNat = 41; omega))
      have HE : Sec (brL xs = none) := ⟨by rw [HD.out, if_neg]; rintro ⟨_, _, h⟩; rw [E1.out] at h; exact h1 (Option.some.inj h)⟩
      subst h0
      clear h1
      go_enter Tryd.func29, Tryd.ntmps29
      go_wp2
      go_ret2
      rw [HE.out]
      exact ⟨rfl, Mod.refl _ _⟩
  · have hn : ¬ ((b0.toNat : Int) = 40) := fun h => h0 (UInt8.toNat.inj (by show b0.toNat = 40; omega))
    have HE : Sec (brL xs = none) := ⟨by rw [HD.out, if_neg]; rintro ⟨_, h, _⟩; rw [E0.out] at h; exact h0 (Option.some.inj h)⟩
    clear h0
    go_enter Tryd.func29, Tryd.ntmps29
    go_wp2
    go_ret2
    rw [HE.out]
    exact ⟨rfl, Mod.refl _ _⟩
set_option maxHeartbeats 1000000 in
set_option maxRecDepth 100000 in
theorem bracketed_calls (xs : Bytes) (hx : xs.length ≤ 34359738368) (w : World) : Calls Tryd.prog 32 #[.string ⟨xs.toArray⟩] w (Ret (BrV (brL xs)) w) := by
  have hsz : (⟨xs.toArray⟩ : ByteArray).size = xs.length := by simp [ByteArray.size]
  have HD : Sec (brL xs = if 2 ≤ xs.length ∧ xs[0]? = some 40 ∧ xs[xs.length - 1]? = some 41 then some ((xs.take (xs.length - 1)).drop 1) else none) := ⟨rfl⟩
  by_cases h2 : xs.length < 2
  · have h2i : (xs.length : Int) < 2 := by omega
    have HE : Sec (brL xs = none) := ⟨by rw [HD.out, if_neg (by omega)]⟩
    go_enter Tryd.func32, Tryd.ntmps32
    go_wp2
    go_ret2
    rw [HE.out]
    exact ⟨rfl, Mod.refl _ _⟩
  have h2i : ¬ (xs.length : Int) < 2 := by omega
  have hg0 := strIdx_run xs 0 (by omega)
  have hg1 := strIdx_run xs (xs.length - 1) (by omega)
  rw [show (((xs.length - 1 : Nat)) : Int) = (xs.length : Int) - 1 by omega] at hg1
  simp only [Int.ofNat_zero] at hg0
  have E0 : Sec (xs[0]? = some xs[0]) := ⟨List.getElem?_eq_getElem _⟩
  have E1 : Sec (xs[xs.length - 1]? = some xs[xs.length - 1]) := ⟨List.getElem?_eq_getElem _⟩
  have e3 := ba_ext xs 1 (xs.length - 1)
  generalize xs[0] = b0 at *
  generalize xs[xs.length - 1] = b1 at *
  by_cases h0 : b0 = 40
  · by_cases h1 : b1 = 41
    · subst h0
      subst h1
      have HE : Sec (brL xs = some ((xs.take (xs.length - 1)).drop 1)) := ⟨by rw [HD.out, if_pos ⟨by omega, E0.out, E1.out⟩]⟩
      have hq0 : ((40 : UInt8).toNat : Int) = 40 := rfl
      have hq1 : ((41 : UInt8).toNat : Int) = 41 := rfl
      rw [hq0] at hg0
      rw [hq1] at hg1
      have hb1 : (1 : Int) ≤ (xs.length : Int) - 1 := by omega
      have hb2 : (xs.length : Int) - 1 ≤ (xs.length : Int) := by omega
      have ht : ((xs.length : Int) - 1).toNat = xs.length - 1 := by omega
      go_enter Tryd.func32, Tryd.ntmps32
      go_wp2
      go_ret2
      refine ⟨?_, Mod.refl _ _⟩
      rw [HE.out, List.drop_one]
      rfl
    · have hn : ¬ ((b1.toNat : Int) = 41) := fun h => h1 (UInt8.toNat.inj (by show b1.toNat = 41; omega))
      have HE : Sec (brL xs = none) := ⟨by rw [HD.out, if_neg]; rintro ⟨_, _, h⟩; rw [E1.out] at h; exact h1 (Option.some.inj h)⟩
      subst h0
      clear h1
      go_enter Tryd.func32, Tryd.ntmps32
      go_wp2
      go_ret2
      rw [HE.out]
      exact ⟨rfl, Mod.refl _ _⟩
  · have hn : ¬ ((b0.toNat : Int) = 40) := fun h => h0 (UInt8.toNat.inj (by show b0.toNat = 40; omega))
    have HE : Sec (brL xs = none) := ⟨by rw [HD.out, if_neg]; rintro ⟨_, h, _⟩; rw [E0.out] at h; exact h0 (Option.some.inj h)⟩
    clear h0
    go_enter Tryd.func32, Tryd.ntmps32
    go_wp2
    go_ret2
    rw [HE.out]
    exact ⟨rfl, Mod.refl _ _⟩
end Go.Proofs.YtbkccffpipcjeaaDoor
