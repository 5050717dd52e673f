/-
  DERIVED. GIVEN WITH THE SEED: THE CARDS: each row of YtkkgighgnbbgiaaGreatDoorRows.lean that lists a variable, with what it lists TIED to the program's text (the seventh form; the later family's looks); each row that meets fmt, with fmt's text TOLD by the authors' own Lean function (tested against real Go, not proved from fmt's source: count such statements apart). THE CARD IS WHAT COUNTS. Prove the row's statement (the work); the ties are given (YtkkgighgnbbgiaaGreatDoorTie.lean); close each card by the builder's one call (the guide's Derived/Test/ToyasCard.lean, 'card_holds'). Laid BY PROGRAM, IN A SANDBOX (cutbox-door.mjs). By AI agents, Wed Nov 11 2026. No macro, syntax, notation, axiom, sorry.
-/
import Derived.Test.YtkkgighgnbbgiaaGreatDoorRows
import GoSem.ClaimSeven
namespace Go.Proofs.YtkkgighgnbbgiaaGreatDoor
namespace Rows

/-- THE TIED CARD OF 'laws.FnExactDiskDo'. -/
def fnExactDiskDoCard : Claim7 := { stood := { row := fnExactDiskDoRow, standIns := [], harness := (true, "ee41d7a86a0658c1be6c7268b1c750658d21df7c371de16d2a7a526391e639bb"), looks := true }, kinds := [], alts := [], laidByText := true, laidKinds := [.sentinel, .sentinel, .sentinel, .sentinel, .sentinel], laidTests := true, laidLooks := .later }
def FnExactDiskDoCardSaid : Prop := Claim7.holds Tryz.pinned (.plain (OpenSpec.ofChange fnExactDiskDoSpec)) fnExactDiskDoCard

/-- THE SECOND FORM's CARD OF 'laws.FnExactDiskDo'. -/
def fnExactDiskDoUptoCard : Claim7 := { stood := { row := fnExactDiskDoUptoRow, standIns := [], harness := (true, "ee41d7a86a0658c1be6c7268b1c750658d21df7c371de16d2a7a526391e639bb"), looks := true }, kinds := [], alts := [], laidByText := true, laidKinds := [.sentinel, .sentinel, .sentinel, .sentinel, .sentinel], laidTests := true, laidLooks := .later }
def FnExactDiskDoUptoCardSaid : Prop := Claim7.holds Tryz.pinned (.plain (OpenSpec.upto fnExactDiskDoSpec)) fnExactDiskDoUptoCard
end Rows
end Go.Proofs.YtkkgighgnbbgiaaGreatDoor
