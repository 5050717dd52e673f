/- The list of flags' names, in plain lists. -/
import Derived.Test.YtbkccffpipcjeaaDoorPureFlag
import Derived.Lib.Join
namespace Go.Proofs.YtbkccffpipcjeaaDoor
set_option linter.unusedVariables false
open Mem
/-- the name of bit k -/
def nameL (k : Nat) : Bytes :=
  if k = 0 then [92, 65, 110, 115, 119, 101, 114, 101, 100] else if k = 1 then [92, 70, 108, 97, 103, 103, 101, 100] else if k = 2 then [92, 68, 101, 108, 101, 116, 101, 100]
  else if k = 3 then [92, 83, 101, 101, 110] else if k = 4 then [92, 68, 114, 97, 102, 116] else [UInt8.ofNat (97 + k - 5)]
theorem nameL_ne (k : Nat) : nameL k ≠ [] := by unfold nameL; (repeat' split) <;> simp
theorem nameL_len (k : Nat) : (nameL k).length ≤ 9 := by unfold nameL; (repeat' split) <;> simp
/-- the names of the bits below k -/
def namesTo (f k : Nat) : List Bytes := ((List.range k).filter fun k => f.testBit k).map nameL
theorem namesTo_zero (f : Nat) : namesTo f 0 = [] := rfl
theorem namesTo_succ (f k : Nat) : namesTo f (k + 1) = namesTo f k ++ (if f.testBit k then [nameL k] else []) := by
  unfold namesTo
  rw [List.range_succ, List.filter_append, List.map_append]
  congr 1
  cases h : f.testBit k <;> simp [h]
theorem namesTo_len (f k : Nat) : (namesTo f k).length ≤ k := by
  unfold namesTo; rw [List.length_map]; exact Nat.le_trans (List.length_filter_le _ _) (by simp)
def joinSp (xs : List Bytes) : Bytes := Lib.join xs [32]
theorem joinSp_nil : joinSp [] = [] := rfl
theorem joinSp_snoc (xs : List Bytes) (y : Bytes) : joinSp (xs ++ [y]) = if xs = [] then y else joinSp xs ++ [32] ++ y := by
  cases xs with
  | nil => simp [joinSp, Lib.join_one]
  | cons x r =>
    rw [if_neg (by simp)]
    unfold joinSp
    rw [List.cons_append, Lib.join_cons, Lib.join_cons]
    have h := Lib.joinTail_take_succ [32] (r ++ [y]) r.length y (by simp)
    rw [show (r ++ [y]).take (r.length + 1) = r ++ [y] by rw [List.take_of_length_le (by simp)], List.take_left' rfl] at h
    rw [h]; simp
theorem joinSp_ne (xs : List Bytes) (h : xs ≠ []) (hx : ∀ x, x ∈ xs → x ≠ []) : joinSp xs ≠ [] := by
  cases xs with
  | nil => exact absurd rfl h
  | cons x r =>
    unfold joinSp
    rw [Lib.join_cons]
    intro he
    exact hx x (List.mem_cons_self ..) (List.append_eq_nil_iff.1 he).1
theorem namesTo_ne (f k : Nat) : ∀ x, x ∈ namesTo f k → x ≠ [] := by
  intro x hx
  unfold namesTo at hx
  obtain ⟨j, _, rfl⟩ := List.mem_map.1 hx
  exact nameL_ne j
theorem joinSp_len (f k : Nat) : (joinSp (namesTo f k)).length ≤ 10 * k := by
  induction k with
  | zero => simp [namesTo_zero, joinSp_nil]
  | succ k ih =>
    rw [namesTo_succ]
    cases h : f.testBit k
    · simp; omega
    · simp only [if_true]
      rw [joinSp_snoc]
      have := nameL_len k
      split
      · omega
      · simp only [List.length_append, List.length_singleton]; omega
def FlagListL (f : Nat) : Bytes := [40] ++ joinSp (namesTo f 31) ++ [41]
end Go.Proofs.YtbkccffpipcjeaaDoor
