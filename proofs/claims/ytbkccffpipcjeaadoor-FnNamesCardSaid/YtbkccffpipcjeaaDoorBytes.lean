/- The laws' own helpers over bytes: toByteS copies, eqByteS compares. -/
import Derived.Test.YtbkccffpipcjeaaDoorProg
import Derived.Test.YtbkccffpipcjeaaDoorMem
import Derived.KernelRfl
import Derived.BigQuiet
import Derived.Deep.QuietTactic
import Derived.Deep.LoopGhost
namespace Go.Proofs.YtbkccffpipcjeaaDoor
open Go.RowKit Mem
set_option linter.unusedVariables false

theorem elt_byte : Elt Tryd.prog 5 1 (.int .u8 0) := Elt.of (b := 1) (by kernel_rfl) rfl (by decide) (by decide)

theorem set_prefix {α : Type} (xs ys : List α) (k : Nat) (hk : k < xs.length) (hl : ys.length = xs.length) (h : ys.take k = xs.take k) : (ys.set k xs[k]).take (k + 1) = xs.take (k + 1) := by
  rw [List.take_succ_eq_append_getElem (by rw [List.length_set]; omega), List.take_succ_eq_append_getElem hk, List.take_set_of_le (Nat.le_refl _), h]
  simp

end Go.Proofs.YtbkccffpipcjeaaDoor
