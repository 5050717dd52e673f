/- Closed facts on the whole program, each by itself. -/
import Derived.Test.YtkkgighgnbbgiaaDoorProg
import Derived.JoinedOf
import Derived.KernelRfl
namespace Go.Proofs.YtkkgighgnbbgiaaDoor.Facts
theorem laidOut : laidOutB Tryd.prog = true := by kernel_rfl
theorem rowed : mapsRowed Tryd.prog = true := by kernel_rfl
theorem stops : (Tryd.prog.stops == []) = true := by kernel_rfl
theorem knobs : (Tryd.prog.stopKnobs == []) = true := by kernel_rfl
theorem keys : Tryd.prog.plainKeys = true := by kernel_rfl
theorem heard : Tryd.prog.stopsHeard = true := by kernel_rfl
theorem enter : Tryd.prog.mayEnter = true := by kernel_rfl
theorem lifts : Tryd.prog.liftsFinal = false := by kernel_rfl
theorem make : Tryd.prog.make = some .cut := by kernel_rfl
end Go.Proofs.YtkkgighgnbbgiaaDoor.Facts
