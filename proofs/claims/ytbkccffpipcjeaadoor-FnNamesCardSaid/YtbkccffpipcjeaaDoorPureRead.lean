/- Names of flags read back, in plain lists. -/
import Derived.Test.YtbkccffpipcjeaaDoorPureList
import Derived.Test.YtbkccffpipcjeaaDoorPureSplit
import Derived.Test.YtbkccffpipcjeaaDoorUpper
namespace Go.Proofs.YtbkccffpipcjeaaDoor
set_option linter.unusedVariables false
open Mem
/-- what stands between '(' and ')' -/
def brL (xs : Bytes) : Option Bytes := if 2 ≤ xs.length ∧ xs[0]? = some 40 ∧ xs[xs.length - 1]? = some 41 then some ((xs.take (xs.length - 1)).drop 1) else none
theorem brL_len {xs ys : Bytes} (h : brL xs = some ys) : ys.length ≤ xs.length := by
  unfold brL at h
  split at h
  · obtain rfl := Option.some.inj h
    simp; omega
  · cases h
def hit (w : Bytes) (k : Nat) : Prop := w = nameL k ∨ (k < 5 ∧ loL w = loL (nameL k))
instance (w : Bytes) (k : Nat) : Decidable (hit w k) := inferInstanceAs (Decidable (_ ∨ _))
theorem hit_small {w : Bytes} {k : Nat} (h : k < 5) : hit w k ↔ loL w = loL (nameL k) := ⟨fun hh => by rcases hh with rfl | ⟨_, h⟩; rfl; exact h, fun hh => .inr ⟨h, hh⟩⟩
theorem hit_big {w : Bytes} {k : Nat} (h : 5 ≤ k) : hit w k ↔ w = nameL k := ⟨fun hh => by rcases hh with h | ⟨h, _⟩; exact h; omega, .inl⟩
theorem lo_len (w : Bytes) : (loL w).length = w.length := by unfold loL; simp
theorem small_len : ∀ k, k < 5 → 5 ≤ (nameL k).length := by decide
theorem small_inj : ∀ j, j < 5 → ∀ k, k < 5 → loL (nameL j) = loL (nameL k) → j = k := by decide
theorem big_one (k : Nat) (h : 5 ≤ k) : nameL k = [UInt8.ofNat (97 + k - 5)] := by
  unfold nameL; rw [if_neg (by omega), if_neg (by omega), if_neg (by omega), if_neg (by omega), if_neg (by omega)]
theorem hit_uniq {w : Bytes} {j k : Nat} (hj : j < 31) (hk : k < 31) (h1 : hit w j) (h2 : hit w k) : j = k := by
  have hl : ∀ k, k < 5 → hit w k → 5 ≤ w.length := fun k hk h => by
    have := congrArg List.length ((hit_small hk).1 h)
    rw [lo_len, lo_len] at this
    have := small_len k hk; omega
  have hb : ∀ k, 5 ≤ k → hit w k → w.length = 1 := fun k hk h => by rw [(hit_big hk).1 h, big_one k hk]; rfl
  rcases Nat.lt_or_ge j 5 with a | a <;> rcases Nat.lt_or_ge k 5 with b | b
  · exact small_inj j a k b (((hit_small a).1 h1).symm.trans ((hit_small b).1 h2))
  · have := hl j a h1; have := hb k b h2; omega
  · have := hl k b h2; have := hb j a h1; omega
  · have := ((hit_big a).1 h1).symm.trans ((hit_big b).1 h2)
    rw [big_one j a, big_one k b] at this
    have := congrArg UInt8.toNat (List.cons.inj this).1
    rw [UInt8.toNat_ofNat', UInt8.toNat_ofNat'] at this
    omega
def bitL (w : Bytes) : Option Nat := (List.range 31).find? fun k => decide (hit w k)
theorem bitL_some {w : Bytes} {k : Nat} (hk : k < 31) (h : hit w k) : bitL w = some k := by
  unfold bitL
  cases hq : (List.range 31).find? fun k => decide (hit w k) with
  | none => exact absurd (List.find?_eq_none.1 hq k (by simpa using hk)) (by simpa using h)
  | some j =>
    have h1 := List.find?_some hq
    have h2 : j < 31 := by simpa using List.mem_of_find?_eq_some hq
    rw [hit_uniq h2 hk (by simpa using h1) h]
theorem bitL_none {w : Bytes} (h : ∀ k, k < 31 → ¬ hit w k) : bitL w = none := by
  unfold bitL
  rw [List.find?_eq_none]
  intro k hk
  simpa using h k (by simpa using hk)
theorem bitL_lt {w : Bytes} {k : Nat} (h : bitL w = some k) : k < 31 := by simpa using List.mem_of_find?_eq_some h
/-- the last of the first k names that fits -/
def lastHit (w : Bytes) : Nat → Int
  | 0 => -1
  | k + 1 => if hit w k then (k : Int) else lastHit w k
theorem lastHit_none {w : Bytes} : ∀ k, (∀ j, j < k → ¬ hit w j) → lastHit w k = -1
  | 0, _ => rfl
  | k + 1, h => by unfold lastHit; rw [if_neg (h k (by omega))]; exact lastHit_none k (fun j hj => h j (by omega))
theorem lastHit_some {w : Bytes} {j : Nat} (hh : hit w j) : ∀ k, k ≤ 31 → j < k → lastHit w k = j
  | 0, _, h => absurd h (Nat.not_lt_zero _)
  | k + 1, h31, hj => by
    unfold lastHit
    by_cases hk : hit w k
    · rw [if_pos hk, hit_uniq (by omega) (by omega) hk hh]
    · rw [if_neg hk]
      exact lastHit_some hh k (by omega) (by rcases Nat.lt_succ_iff_lt_or_eq.1 hj with h | rfl; exact h; exact absurd hh hk)
theorem lastHit_is (w : Bytes) : lastHit w 31 = match bitL w with | some k => (k : Int) | none => -1 := by
  cases hq : bitL w with
  | none =>
    refine lastHit_none 31 fun j hj hh => ?_
    rw [bitL_some hj hh] at hq; cases hq
  | some k =>
    have hk := bitL_lt hq
    unfold bitL at hq
    exact lastHit_some (by simpa using List.find?_some hq) 31 (by omega) hk
theorem bitL_letter (b : UInt8) (h1 : 97 ≤ b.toNat) (h2 : b.toNat ≤ 122) : bitL [b] = some (5 + b.toNat - 97) := by
  refine bitL_some (by omega) ((hit_big (by omega)).2 ?_)
  rw [big_one _ (by omega)]
  congr 1
  apply UInt8.toNat.inj
  rw [UInt8.toNat_ofNat']
  omega
theorem bitL_other {w : Bytes} (h5 : ∀ j, j < 5 → upL w ≠ upL (nameL j)) (hw : ∀ b, w = [b] → ¬ (97 ≤ b.toNat ∧ b.toNat ≤ 122)) : bitL w = none := by
  refine bitL_none fun k hk hh => ?_
  rcases Nat.lt_or_ge k 5 with a | a
  · exact h5 k a ((upL_iff _ _).2 ((hit_small a).1 hh))
  · have := (hit_big a).1 hh
    rw [big_one k a] at this
    refine hw _ this ?_
    rw [UInt8.toNat_ofNat']; omega
theorem bitL_small {w : Bytes} {j : Nat} (hj : j < 5) (h : upL w = upL (nameL j)) : bitL w = some j := bitL_some (by omega) ((hit_small hj).2 ((upL_iff _ _).1 h))
def foldL : Nat → List Bytes → Bool × Int
  | acc, [] => (true, (acc : Int))
  | acc, w :: ws => match bitL w with
    | none => (false, 0)
    | some k => foldL (acc ||| 2 ^ k) ws
def ReadListL (xs : Bytes) : Bool × Int := match brL xs with
  | none => (false, 0)
  | some [] => (true, 0)
  | some ys => foldL 0 (splitL 32 ys)
end Go.Proofs.YtbkccffpipcjeaaDoor
