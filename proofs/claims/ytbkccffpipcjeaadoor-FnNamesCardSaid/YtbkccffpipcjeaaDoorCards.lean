/-
  DERIVED. GIVEN WITH THE SEED: THE CARDS: each row of YtbkccffpipcjeaaDoorRows.lean that lists a variable, with what it lists TIED to the program's text (the seventh form; the later family's looks); each row that meets fmt, with fmt's text TOLD by the authors' own Lean function (tested against real Go, not proved from fmt's source: count such statements apart). THE CARD IS WHAT COUNTS. Prove the row's statement (the work); the ties are given (YtbkccffpipcjeaaDoorTie.lean); close each card by the builder's one call (the guide's Derived/Test/ToyasCard.lean, 'card_holds'). Laid BY PROGRAM, IN A SANDBOX (cutbox-door.mjs). By AI agents, Wed Nov 11 2026. No macro, syntax, notation, axiom, sorry.
-/
import Derived.Test.YtbkccffpipcjeaaDoorRows
import GoSem.ClaimSeven
namespace Go.Proofs.YtbkccffpipcjeaaDoor
namespace Rows

/-- THE TIED CARD OF 'laws.FnExactFlagList'. -/
def fnExactFlagListCard : Claim7 := { stood := { row := fnExactFlagListRow, standIns := [], harness := (true, "adb6589f144f95c7b57d0c408307f61751fe9545d4fc827ea494e2ee733e5267"), looks := true }, kinds := [], alts := [], laidByText := true, laidKinds := [.data], laidTests := true, laidLooks := .later }
def FnExactFlagListCardSaid : Prop := Claim7.holds Tryd.pinned (.plain (OpenSpec.ofChange fnExactFlagListSpec)) fnExactFlagListCard

/-- THE TIED CARD OF 'laws.FnExactMailName'. -/
def fnExactMailNameCard : Claim7 := { stood := { row := fnExactMailNameRow, standIns := [], harness := (true, "adb6589f144f95c7b57d0c408307f61751fe9545d4fc827ea494e2ee733e5267"), looks := true }, kinds := [], alts := [], laidByText := true, laidKinds := [.data, .data, .data, .widerDeep], laidTests := true, laidLooks := .later }
def FnExactMailNameCardSaid : Prop := Claim7.holds Tryd.pinned (.plain (OpenSpec.ofChange fnExactMailNameSpec)) fnExactMailNameCard

/-- THE TIED CARD OF 'laws.FnExactReadFlagList'. -/
def fnExactReadFlagListCard : Claim7 := { stood := { row := fnExactReadFlagListRow, standIns := [], harness := (true, "adb6589f144f95c7b57d0c408307f61751fe9545d4fc827ea494e2ee733e5267"), looks := true }, kinds := [], alts := [], laidByText := true, laidKinds := [.data, .data, .pinned], laidTests := true, laidLooks := .later }
def FnExactReadFlagListCardSaid : Prop := Claim7.holds Tryd.pinned (.plain (OpenSpec.ofChange fnExactReadFlagListSpec)) fnExactReadFlagListCard

/-- THE TIED CARD OF 'laws.FnExactReadMailName'. -/
def fnExactReadMailNameCard : Claim7 := { stood := { row := fnExactReadMailNameRow, standIns := [], harness := (true, "adb6589f144f95c7b57d0c408307f61751fe9545d4fc827ea494e2ee733e5267"), looks := true }, kinds := [], alts := [], laidByText := true, laidKinds := [.data, .data, .data, .sentinel, .sentinel, .widerDeep], laidTests := true, laidLooks := .later }
def FnExactReadMailNameCardSaid : Prop := Claim7.holds Tryd.pinned (.plain (OpenSpec.ofChange fnExactReadMailNameSpec)) fnExactReadMailNameCard

/-- THE TIED CARD OF 'laws.FnNames'. -/
def fnNamesCard : Claim7 := { stood := { row := fnNamesRow, standIns := [], harness := (true, "adb6589f144f95c7b57d0c408307f61751fe9545d4fc827ea494e2ee733e5267"), looks := true }, kinds := [], alts := [], laidByText := true, laidKinds := [.data, .data, .data, .data, .sentinel, .sentinel, .widerDeep, .data, .pinned], laidTests := true, laidLooks := .later }
def FnNamesCardSaid : Prop := Claim7.holds Tryd.pinned (.plain (OpenSpec.ofChange fnNamesSpec)) fnNamesCard

/-- THE SECOND FORM's CARD OF 'laws.FnExactFlagList'. -/
def fnExactFlagListUptoCard : Claim7 := { stood := { row := fnExactFlagListUptoRow, standIns := [], harness := (true, "adb6589f144f95c7b57d0c408307f61751fe9545d4fc827ea494e2ee733e5267"), looks := true }, kinds := [], alts := [], laidByText := true, laidKinds := [.data], laidTests := true, laidLooks := .later }
def FnExactFlagListUptoCardSaid : Prop := Claim7.holds Tryd.pinned (.plain (OpenSpec.upto fnExactFlagListSpec)) fnExactFlagListUptoCard

/-- THE SECOND FORM's CARD OF 'laws.FnExactMailName'. -/
def fnExactMailNameUptoCard : Claim7 := { stood := { row := fnExactMailNameUptoRow, standIns := [], harness := (true, "adb6589f144f95c7b57d0c408307f61751fe9545d4fc827ea494e2ee733e5267"), looks := true }, kinds := [], alts := [], laidByText := true, laidKinds := [.data, .data, .data, .widerDeep], laidTests := true, laidLooks := .later }
def FnExactMailNameUptoCardSaid : Prop := Claim7.holds Tryd.pinned (.plain (OpenSpec.upto fnExactMailNameSpec)) fnExactMailNameUptoCard

/-- THE SECOND FORM's CARD OF 'laws.FnExactReadFlagList'. -/
def fnExactReadFlagListUptoCard : Claim7 := { stood := { row := fnExactReadFlagListUptoRow, standIns := [], harness := (true, "adb6589f144f95c7b57d0c408307f61751fe9545d4fc827ea494e2ee733e5267"), looks := true }, kinds := [], alts := [], laidByText := true, laidKinds := [.data, .data, .pinned], laidTests := true, laidLooks := .later }
def FnExactReadFlagListUptoCardSaid : Prop := Claim7.holds Tryd.pinned (.plain (OpenSpec.upto fnExactReadFlagListSpec)) fnExactReadFlagListUptoCard

/-- THE SECOND FORM's CARD OF 'laws.FnExactReadMailName'. -/
def fnExactReadMailNameUptoCard : Claim7 := { stood := { row := fnExactReadMailNameUptoRow, standIns := [], harness := (true, "adb6589f144f95c7b57d0c408307f61751fe9545d4fc827ea494e2ee733e5267"), looks := true }, kinds := [], alts := [], laidByText := true, laidKinds := [.data, .data, .data, .sentinel, .sentinel, .widerDeep], laidTests := true, laidLooks := .later }
def FnExactReadMailNameUptoCardSaid : Prop := Claim7.holds Tryd.pinned (.plain (OpenSpec.upto fnExactReadMailNameSpec)) fnExactReadMailNameUptoCard

/-- THE SECOND FORM's CARD OF 'laws.FnNames'. -/
def fnNamesUptoCard : Claim7 := { stood := { row := fnNamesUptoRow, standIns := [], harness := (true, "adb6589f144f95c7b57d0c408307f61751fe9545d4fc827ea494e2ee733e5267"), looks := true }, kinds := [], alts := [], laidByText := true, laidKinds := [.data, .data, .data, .data, .sentinel, .sentinel, .widerDeep, .data, .pinned], laidTests := true, laidLooks := .later }
def FnNamesUptoCardSaid : Prop := Claim7.holds Tryd.pinned (.plain (OpenSpec.upto fnNamesSpec)) fnNamesUptoCard
end Rows
end Go.Proofs.YtbkccffpipcjeaaDoor
