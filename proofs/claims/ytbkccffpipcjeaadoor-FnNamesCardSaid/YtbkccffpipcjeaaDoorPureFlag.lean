/- The letters of flags, in plain lists. -/
import Derived.Test.YtbkccffpipcjeaaDoorMem
namespace Go.Proofs.YtbkccffpipcjeaaDoor
set_option linter.unusedVariables false
open Mem
/-- the letter of bit k, 0 for none -/
def letOf (k : Nat) : Nat := if k = 0 then 82 else if k = 1 then 70 else if k = 2 then 84 else if k = 3 then 83 else if k = 4 then 68 else if k < 31 then 97 + k - 5 else 0
/-- the letters in their order, each with its bit -/
def lets : List (Nat × Nat) := [(68, 4), (70, 1), (82, 0), (83, 3), (84, 2)] ++ (List.range 26).map fun k => (97 + k, 5 + k)
def flagsL (f : Nat) : Bytes := (lets.filter fun p => f.testBit p.2).map fun p => UInt8.ofNat p.1
/-- the letters of the bits whose letter is b -/
def rowOf (f b : Nat) : Bytes := ((List.range 31).filter fun k => decide (letOf k = b) && f.testBit k).map fun _ => UInt8.ofNat b
theorem lets_len : lets.length = 31 := by decide
theorem lets_all : (List.range' 65 58).flatMap (fun b => ((List.range 31).filter fun k => decide (letOf k = b)).map fun k => (b, k)) = lets := by decide +kernel
theorem rowOf_all (f : Nat) : (List.range' 65 58).flatMap (rowOf f) = flagsL f := by
  unfold flagsL
  rw [← lets_all, List.filter_flatMap, List.map_flatMap]
  congr 1
  funext b
  unfold rowOf
  rw [List.filter_map, List.map_map, List.filter_filter]
  have : (fun k => decide (letOf k = b) && f.testBit k) = fun k => ((fun p : Nat × Nat => f.testBit p.2) ∘ fun k => (b, k)) k && decide (letOf k = b) := by funext k; simp [Bool.and_comm]
  rw [this]
  rfl
theorem flagsL_len (f : Nat) : (flagsL f).length ≤ 31 := by
  unfold flagsL
  rw [List.length_map, ← lets_len]
  exact List.length_filter_le _ _
/-- the first k letters' -/
def flagsTo (f k : Nat) : Bytes := ((lets.take k).filter fun p => f.testBit p.2).map fun p => UInt8.ofNat p.1
theorem flagsTo_all (f : Nat) : flagsTo f 31 = flagsL f := rfl
theorem flagsTo_zero (f : Nat) : flagsTo f 0 = [] := rfl
theorem flagsTo_succ (f : Nat) {k : Nat} (h : k < lets.length) : flagsTo f (k + 1) = flagsTo f k ++ (if f.testBit lets[k].2 then [UInt8.ofNat lets[k].1] else []) := by
  unfold flagsTo
  rw [List.take_succ_eq_append_getElem h, List.filter_append, List.map_append]
  congr 1
  cases hb : f.testBit lets[k].2 <;> simp [hb]
/-- rows of the bytes below b, then the row of b up to bit k -/
def rowsTo (f b : Nat) : Bytes := (List.range' 65 (b - 65)).flatMap (rowOf f)
def rowTo (f b k : Nat) : Bytes := ((List.range k).filter fun k => decide (letOf k = b) && f.testBit k).map fun _ => UInt8.ofNat b
theorem rowTo_zero (f b : Nat) : rowTo f b 0 = [] := rfl
theorem rowTo_succ (f b k : Nat) : rowTo f b (k + 1) = rowTo f b k ++ (if letOf k = b ∧ f.testBit k = true then [UInt8.ofNat b] else []) := by
  unfold rowTo
  rw [List.range_succ, List.filter_append, List.map_append]
  congr 1
  by_cases h : letOf k = b <;> cases hb : f.testBit k <;> simp [h, hb]
theorem rowsTo_start (f : Nat) : rowsTo f 65 = [] := rfl
theorem rowsTo_succ (f b : Nat) (h : 65 ≤ b) : rowsTo f (b + 1) = rowsTo f b ++ rowOf f b := by
  unfold rowsTo
  rw [show b + 1 - 65 = (b - 65) + 1 by omega, List.range'_concat, List.flatMap_append]
  simp only [List.flatMap_cons, List.flatMap_nil, List.append_nil]
  rw [show 65 + 1 * (b - 65) = b by omega]
theorem rowsTo_end (f : Nat) : rowsTo f 123 = flagsL f := rowOf_all f
theorem rowTo_len (f b k : Nat) : (rowTo f b k).length ≤ k := by
  unfold rowTo; rw [List.length_map]; exact Nat.le_trans (List.length_filter_le _ _) (by simp)
theorem rowsTo_len (f b : Nat) : (rowsTo f b).length ≤ 31 * (b - 65) := by
  by_cases h : b ≤ 65
  · have : b - 65 = 0 := by omega
    unfold rowsTo; rw [this]; simp
  · obtain ⟨d, rfl⟩ : ∃ d, b = 65 + d := ⟨b - 65, by omega⟩
    clear h
    induction d with
    | zero => simp [rowsTo]
    | succ d ih =>
      rw [show 65 + (d + 1) = (65 + d) + 1 by omega, rowsTo_succ f _ (by omega), List.length_append]
      have h1 := rowTo_len f (65 + d) 31
      have h2 : rowOf f (65 + d) = rowTo f (65 + d) 31 := rfl
      rw [h2]; omega
end Go.Proofs.YtbkccffpipcjeaaDoor
