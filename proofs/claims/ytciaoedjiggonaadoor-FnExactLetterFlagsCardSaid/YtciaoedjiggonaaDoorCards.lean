/-
  DERIVED. GIVEN WITH THE SEED: THE CARDS: each row of YtciaoedjiggonaaDoorRows.lean that lists a variable, with what it lists TIED to the program's text (the seventh form; the later family's looks); each row that meets fmt, with fmt's text TOLD by the authors' own Lean function (tested against real Go, not proved from fmt's source: count such statements apart). THE CARD IS WHAT COUNTS. Prove the row's statement (the work); the ties are given (YtciaoedjiggonaaDoorTie.lean); close each card by the builder's one call (the guide's Derived/Test/ToyasCard.lean, 'card_holds'). Laid BY PROGRAM, IN A SANDBOX (cutbox-door.mjs). By AI agents, Wed Nov 11 2026. No macro, syntax, notation, axiom, sorry.
-/
import Derived.Test.YtciaoedjiggonaaDoorRows
import GoSem.ClaimSeven
namespace Go.Proofs.YtciaoedjiggonaaDoor
namespace Rows

/-- THE TIED CARD OF 'laws.FnExactFlagLetters'. -/
def fnExactFlagLettersCard : Claim7 := { stood := { row := fnExactFlagLettersRow, standIns := [], harness := (true, "3d90164d84311c2720276f92df4f6996eedb8e640d5cf5a6b0dca2dc7ce1c1c3"), looks := false }, kinds := [], alts := [], laidByText := true, laidKinds := [.widerDeep], laidTests := true, laidLooks := .later }
def FnExactFlagLettersCardSaid : Prop := Claim7.holds Tryd.pinned (.plain (OpenSpec.ofChange fnExactFlagLettersSpec)) fnExactFlagLettersCard

/-- THE TIED CARD OF 'laws.FnExactLetterFlags'. -/
def fnExactLetterFlagsCard : Claim7 := { stood := { row := fnExactLetterFlagsRow, standIns := [], harness := (true, "3d90164d84311c2720276f92df4f6996eedb8e640d5cf5a6b0dca2dc7ce1c1c3"), looks := false }, kinds := [], alts := [], laidByText := true, laidKinds := [.widerDeep], laidTests := true, laidLooks := .later }
def FnExactLetterFlagsCardSaid : Prop := Claim7.holds Tryd.pinned (.plain (OpenSpec.ofChange fnExactLetterFlagsSpec)) fnExactLetterFlagsCard

/-- THE SECOND FORM's CARD OF 'laws.FnExactFlagLetters'. -/
def fnExactFlagLettersUptoCard : Claim7 := { stood := { row := fnExactFlagLettersUptoRow, standIns := [], harness := (true, "3d90164d84311c2720276f92df4f6996eedb8e640d5cf5a6b0dca2dc7ce1c1c3"), looks := false }, kinds := [], alts := [], laidByText := true, laidKinds := [.widerDeep], laidTests := true, laidLooks := .later }
def FnExactFlagLettersUptoCardSaid : Prop := Claim7.holds Tryd.pinned (.plain (OpenSpec.upto fnExactFlagLettersSpec)) fnExactFlagLettersUptoCard

/-- THE SECOND FORM's CARD OF 'laws.FnExactLetterFlags'. -/
def fnExactLetterFlagsUptoCard : Claim7 := { stood := { row := fnExactLetterFlagsUptoRow, standIns := [], harness := (true, "3d90164d84311c2720276f92df4f6996eedb8e640d5cf5a6b0dca2dc7ce1c1c3"), looks := false }, kinds := [], alts := [], laidByText := true, laidKinds := [.widerDeep], laidTests := true, laidLooks := .later }
def FnExactLetterFlagsUptoCardSaid : Prop := Claim7.holds Tryd.pinned (.plain (OpenSpec.upto fnExactLetterFlagsSpec)) fnExactLetterFlagsUptoCard
end Rows
end Go.Proofs.YtciaoedjiggonaaDoor
