/- Closed facts on the whole program, each by itself. A library variable's cell, out of the world's shape. -/
import Derived.Test.YtciiejkfppnimaaProg
import Derived.JoinedOf
import Derived.KernelRfl
import Derived.Test.YtciiejkfppnimaaPk9
import Derived.HandedShaped
import Derived.Shelf.Vars
namespace Go.Proofs.Ytciiejkfppnimaa.Facts
theorem laidOut : laidOutB Try.prog = true := by kernel_rfl
theorem rowed : mapsRowed Try.prog = true := by kernel_rfl
theorem stops : (Try.prog.stops == []) = true := by kernel_rfl
theorem knobs : (Try.prog.stopKnobs == []) = true := by kernel_rfl
theorem keys : Try.prog.plainKeys = true := by kernel_rfl
theorem heard : Try.prog.stopsHeard = true := by kernel_rfl
theorem enter : Try.prog.mayEnter = true := by kernel_rfl
theorem lifts : Try.prog.liftsFinal = false := by kernel_rfl
theorem make : Try.prog.make = some .cut := by kernel_rfl
end Go.Proofs.Ytciiejkfppnimaa.Facts

namespace Go.Proofs.Ytciiejkfppnimaa
open Go.RowKit Mem
theorem intAt0_of_shaped {w : World} (h : w.ShapedOpen Try.prog) : IntAt0 w :=
  Go.Proofs.cell_of_shapedOpen_int (zero := #[.int .i64 0]) (t := 3) h (of_decide_eq_true (by kernel_rfl)) (by kernel_rfl) rfl (by kernel_rfl) (by kernel_rfl) Try.underlying3
end Go.Proofs.Ytciiejkfppnimaa
