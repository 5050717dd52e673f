/-
  DERIVED. GIVEN WITH THE SEED: THE CARDS: each row of YtkkgighgnbbgiaaDoorRows.lean that lists a variable, with what it lists TIED to the program's text (the seventh form; the later family's looks); each row that meets fmt, with fmt's text TOLD by the authors' own Lean function (tested against real Go, not proved from fmt's source: count such statements apart). THE CARD IS WHAT COUNTS. Prove the row's statement (the work); the ties are given (YtkkgighgnbbgiaaDoorTie.lean); close each card by the builder's one call (the guide's Derived/Test/ToyasCard.lean, 'card_holds'). Laid BY PROGRAM, IN A SANDBOX (cutbox-door.mjs). By AI agents, Wed Nov 11 2026. No macro, syntax, notation, axiom, sorry.
-/
import Derived.Test.YtkkgighgnbbgiaaDoorRows
import GoSem.ClaimSeven
namespace Go.Proofs.YtkkgighgnbbgiaaDoor
namespace Rows

/-- THE TIED CARD OF 'laws.FnSettled'. -/
def fnSettledCard : Claim7 := { stood := { row := fnSettledRow, standIns := [], harness := (true, "a2f7053f83b27316ab384d9ef1eb26197dc156660cf1fd372bc7e494e0ea6ce1"), looks := true }, kinds := [], alts := [], laidByText := true, laidKinds := [.sentinel, .sentinel, .sentinel, .sentinel, .sentinel], laidTests := true, laidLooks := .later }
def FnSettledCardSaid : Prop := Claim7.holds Tryd.pinned (.plain (OpenSpec.ofChange fnSettledSpec)) fnSettledCard

/-- THE SECOND FORM's CARD OF 'laws.FnSettled'. -/
def fnSettledUptoCard : Claim7 := { stood := { row := fnSettledUptoRow, standIns := [], harness := (true, "a2f7053f83b27316ab384d9ef1eb26197dc156660cf1fd372bc7e494e0ea6ce1"), looks := true }, kinds := [], alts := [], laidByText := true, laidKinds := [.sentinel, .sentinel, .sentinel, .sentinel, .sentinel], laidTests := true, laidLooks := .later }
def FnSettledUptoCardSaid : Prop := Claim7.holds Tryd.pinned (.plain (OpenSpec.upto fnSettledSpec)) fnSettledUptoCard
end Rows
end Go.Proofs.YtkkgighgnbbgiaaDoor
