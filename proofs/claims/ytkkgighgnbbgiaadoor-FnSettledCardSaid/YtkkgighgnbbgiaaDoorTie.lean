/-
  DERIVED. GIVEN WITH THE SEED: THE PROGRAM's TIES (one call each: nine closed facts by the kernel) AND EACH ROW's TIE, after the 31st guide's Derived/Test/Toyas{Tie, Card}.lean. No idea stands in it: it is a product of the set-up. Laid BY PROGRAM, IN A SANDBOX (cutbox-door.mjs). By AI agents, Wed Nov 11 2026. No macro, syntax, notation, axiom, sorry.
-/
import Derived.Test.YtkkgighgnbbgiaaDoorRows
import Derived.LaidByTextLater
import Derived.SevenTiedAt
import Derived.LaidSub
import Derived.LaidOnce
namespace Go.Proofs.YtkkgighgnbbgiaaDoor
open Go
set_option maxRecDepth 100000
theorem seatTie1 : Tryd.prog.laidByTextLater [("loop.example/s02349/impl.errKind", Rows.laid_loop_example_s02349_impl_errKind), ("loop.example/s02349/impl.errName", Rows.laid_loop_example_s02349_impl_errName), ("loop.example/s02349/impl.errMissing", Rows.laid_loop_example_s02349_impl_errMissing), ("loop.example/s02349/impl.errSpace", Rows.laid_loop_example_s02349_impl_errSpace), ("loop.example/s02349/impl.errFull", Rows.laid_loop_example_s02349_impl_errFull)] [.sentinel, .sentinel, .sentinel, .sentinel, .sentinel] true :=
  Program.laidByTextLater_by_one 104 8 2 (by kernel_rfl) (by kernel_rfl) (by kernel_rfl) (by kernel_rfl) (by kernel_rfl) (by kernel_rfl) (fun _ _ => by kernel_rfl)
theorem noOwnUnsafe : Tryd.pinned.checked.prog.headLifts.contains "ownunsafe" = false := by kernel_rfl
theorem tie : Tryd.prog.laidByTextLater [("loop.example/s02349/impl.errKind", Rows.laid_loop_example_s02349_impl_errKind), ("loop.example/s02349/impl.errName", Rows.laid_loop_example_s02349_impl_errName), ("loop.example/s02349/impl.errMissing", Rows.laid_loop_example_s02349_impl_errMissing), ("loop.example/s02349/impl.errSpace", Rows.laid_loop_example_s02349_impl_errSpace), ("loop.example/s02349/impl.errFull", Rows.laid_loop_example_s02349_impl_errFull)] [.sentinel, .sentinel, .sentinel, .sentinel, .sentinel] true :=
  Program.laidByTextLater.sub seatTie1 ["loop.example/s02349/impl.errKind", "loop.example/s02349/impl.errName", "loop.example/s02349/impl.errMissing", "loop.example/s02349/impl.errSpace", "loop.example/s02349/impl.errFull"] (by kernel_rfl) (by kernel_rfl)
theorem fnSettled_row_tie : Rows.fnSettledRow.laidByTextAt .later Tryd.pinned [.sentinel, .sentinel, .sentinel, .sentinel, .sentinel] true :=
  OpenClaim.laidByTextAt_later rfl rfl tie noOwnUnsafe
theorem fnSettledUpto_row_tie : Rows.fnSettledUptoRow.laidByTextAt .later Tryd.pinned [.sentinel, .sentinel, .sentinel, .sentinel, .sentinel] true :=
  OpenClaim.laidByTextAt_later rfl rfl tie noOwnUnsafe
end Go.Proofs.YtkkgighgnbbgiaaDoor
