/- Closed facts on the whole program, each by itself. -/
import Derived.Test.YtciiejkfppnimaaProg
import Derived.JoinedOf
import Derived.KernelRfl
namespace Go.Proofs.Ytciiejkfppnimaa.Facts
theorem laidOut : laidOutB Try.prog = true := by kernel_rfl
theorem rowed : mapsRowed Try.prog = true := by kernel_rfl
theorem stops : (Try.prog.stops == []) = true := by kernel_rfl
theorem knobs : (Try.prog.stopKnobs == []) = true := by kernel_rfl
theorem keys : Try.prog.plainKeys = true := by kernel_rfl
theorem heard : Try.prog.stopsHeard = true := by kernel_rfl
theorem enter : Try.prog.mayEnter = true := by kernel_rfl
theorem lifts : Try.prog.liftsFinal = false := by kernel_rfl
theorem make : Try.prog.make = some .cut := by kernel_rfl
end Go.Proofs.Ytciiejkfppnimaa.Facts
