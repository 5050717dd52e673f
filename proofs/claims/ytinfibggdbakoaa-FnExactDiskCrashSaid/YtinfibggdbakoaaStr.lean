/- Strings: read at a place, joined, cut; rows of strings. -/
import Derived.Test.YtinfibggdbakoaaMem3
import Derived.Test.YtinfibggdbakoaaReg
import Derived.Test.YtinfibggdbakoaaProg
import Derived.WalkKit
namespace Go.Proofs.Ytinfibggdbakoaa
open Go.RowKit Mem
set_option linter.unusedVariables false
theorem strIdx_run (xs : Bytes) (k : Nat) (h : k < xs.length) (w : World) : (Instr.index 9 (.string ⟨xs.toArray⟩) (.int .i64 (k : Int))).run Try.prog w = .ok (.int .u8 (xs[k].toNat : Int)) w := by
  have h0 : (0 : Int) ≤ (k : Int) := by omega
  have h1 : (k : Int) < (xs.length : Int) := by omega
  have hsz : (⟨xs.toArray⟩ : ByteArray).size = xs.length := by simp [ByteArray.size]
  have hg : (⟨xs.toArray⟩ : ByteArray).get! k = xs[k] := by simp [ByteArray.get!, h]
  go_simp
  show ((xs.toArray[k]'(by simpa using h)).toNat : Int) = _
  simp
theorem ba_app (xs ys : Bytes) : (⟨xs.toArray⟩ : ByteArray) ++ ⟨ys.toArray⟩ = ⟨(xs ++ ys).toArray⟩ := ByteArray.ext (by rw [ByteArray.data_append]; simp)
theorem elt_str : Elt Try.prog 9 Ty.string.sz (.string ⟨#[]⟩) := Elt.of (b := 16) (by kernel_rfl) rfl (by decide) (by decide)
def toS (xs : Bytes) : ByteArray := ⟨xs.toArray⟩
theorem row_str (w : World) (e : TypeId) (s : ByteArray) : Row Ty.string (w.alloc (.cells #[.string s] e)) (· = w.heap.size) (some ⟨w.heap.size, 0, none⟩) 1 [s] := by
  refine ⟨rfl, by omega, fun _ => ⟨_, rfl, rfl, fun j x hj => ?_⟩⟩
  have hj0 : j = 0 := by have := (List.getElem?_eq_some_iff.1 hj).1; simp at this; exact this
  subst hj0
  have hx : x = s := by simpa using hj.symm
  subst hx
  refine ⟨[.string x], rfl, fun i u hu => ?_⟩
  rw [show 0 * Ty.string.sz + i = i by omega, add_own, cell_of_row _ _ i _ e (0, 0) (heap_alloc_new w _)]
  simpa using hu
theorem ba_ext (xs : Bytes) (i j : Nat) : (⟨xs.toArray⟩ : ByteArray).extract i j = ⟨((xs.take j).drop i).toArray⟩ := by
  apply ByteArray.ext
  rw [ByteArray.data_extract]
  simp [List.drop_take]
theorem row_of_strings (w : World) (e : TypeId) (ss : List ByteArray) (h : ss.length ≤ 9223372036854775807) : Row Ty.string (w.alloc (.cells (ss.map Value.string).toArray e)) (· = w.heap.size) (some ⟨w.heap.size, 0, none⟩) ss.length ss := by
  refine ⟨rfl, h, fun _ => ⟨_, rfl, rfl, fun j x hj => ⟨[.string x], rfl, fun i u hu => ?_⟩⟩⟩
  have hi : i = 0 := by have := (List.getElem?_eq_some_iff.1 hu).1; simpa using this
  subst hi
  rw [show j * Ty.string.sz + 0 = j from Nat.mul_one j, add_own, cell_of_row _ _ j _ e (0, 0) (heap_alloc_new w _)]
  rw [List.getElem?_toArray, List.getElem?_map, hj]
  simpa using hu
end Go.Proofs.Ytinfibggdbakoaa
