/- Closed facts on the whole program, each by itself. -/
import Derived.Test.YtkkgighgnbbgiaaGreatDoorProg
import Derived.JoinedOf
import Derived.KernelRfl
namespace Go.Proofs.YtkkgighgnbbgiaaGreatDoor.Facts
theorem laidOut : laidOutB Tryz.prog = true := by kernel_rfl
theorem rowed : mapsRowed Tryz.prog = true := by kernel_rfl
theorem stops : (Tryz.prog.stops == []) = true := by kernel_rfl
theorem knobs : (Tryz.prog.stopKnobs == []) = true := by kernel_rfl
theorem keys : Tryz.prog.plainKeys = true := by kernel_rfl
theorem heard : Tryz.prog.stopsHeard = true := by kernel_rfl
theorem enter : Tryz.prog.mayEnter = true := by kernel_rfl
theorem lifts : Tryz.prog.liftsFinal = false := by kernel_rfl
theorem make : Tryz.prog.make = some .cut := by kernel_rfl
end Go.Proofs.YtkkgighgnbbgiaaGreatDoor.Facts
