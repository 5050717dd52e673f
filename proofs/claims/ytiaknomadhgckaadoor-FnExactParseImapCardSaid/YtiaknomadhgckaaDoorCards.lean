/-
  DERIVED. GIVEN WITH THE SEED: THE CARDS: each row of YtiaknomadhgckaaDoorRows.lean that lists a variable, with what it lists TIED to the program's text (the seventh form; the later family's looks); each row that meets fmt, with fmt's text TOLD by the authors' own Lean function (tested against real Go, not proved from fmt's source: count such statements apart). THE CARD IS WHAT COUNTS. Prove the row's statement (the work); the ties are given (YtiaknomadhgckaaDoorTie.lean); close each card by the builder's one call (the guide's Derived/Test/ToyasCard.lean, 'card_holds'). Laid BY PROGRAM, IN A SANDBOX (cutbox-door.mjs). By AI agents, Wed Nov 11 2026. No macro, syntax, notation, axiom, sorry.
-/
import Derived.Test.YtiaknomadhgckaaDoorRows
import GoSem.ClaimSeven
namespace Go.Proofs.YtiaknomadhgckaaDoor
namespace Rows

/-- THE TIED CARD OF 'laws.FnExactFormat'. -/
def fnExactFormatCard : Claim7 := { stood := { row := fnExactFormatRow, standIns := [], harness := (true, "30f0914d5093d70b8106d8388ef73d2e86672d679e9a132d787d4bd5450ed2b6"), looks := false }, kinds := [], alts := [], laidByText := true, laidKinds := [.data, .data, .data], laidTests := true, laidLooks := .later }
def FnExactFormatCardSaid : Prop := Claim7.holds Tryd.pinned (.plain (OpenSpec.ofChange fnExactFormatSpec)) fnExactFormatCard

/-- THE TIED CARD OF 'laws.FnExactParseImap'. -/
def fnExactParseImapCard : Claim7 := { stood := { row := fnExactParseImapRow, standIns := [], harness := (true, "30f0914d5093d70b8106d8388ef73d2e86672d679e9a132d787d4bd5450ed2b6"), looks := false }, kinds := [], alts := [], laidByText := true, laidKinds := [.data, .data, .pinned], laidTests := true, laidLooks := .later }
def FnExactParseImapCardSaid : Prop := Claim7.holds Tryd.pinned (.plain (OpenSpec.ofChange fnExactParseImapSpec)) fnExactParseImapCard

/-- THE SECOND FORM's CARD OF 'laws.FnExactFormat'. -/
def fnExactFormatUptoCard : Claim7 := { stood := { row := fnExactFormatUptoRow, standIns := [], harness := (true, "30f0914d5093d70b8106d8388ef73d2e86672d679e9a132d787d4bd5450ed2b6"), looks := false }, kinds := [], alts := [], laidByText := true, laidKinds := [.data, .data, .data], laidTests := true, laidLooks := .later }
def FnExactFormatUptoCardSaid : Prop := Claim7.holds Tryd.pinned (.plain (OpenSpec.upto fnExactFormatSpec)) fnExactFormatUptoCard

/-- THE SECOND FORM's CARD OF 'laws.FnExactParseImap'. -/
def fnExactParseImapUptoCard : Claim7 := { stood := { row := fnExactParseImapUptoRow, standIns := [], harness := (true, "30f0914d5093d70b8106d8388ef73d2e86672d679e9a132d787d4bd5450ed2b6"), looks := false }, kinds := [], alts := [], laidByText := true, laidKinds := [.data, .data, .pinned], laidTests := true, laidLooks := .later }
def FnExactParseImapUptoCardSaid : Prop := Claim7.holds Tryd.pinned (.plain (OpenSpec.upto fnExactParseImapSpec)) fnExactParseImapUptoCard
end Rows
end Go.Proofs.YtiaknomadhgckaaDoor
