/-
  No cell of these rows narrows 'for every input' (looked for: loops, veiled, ifaces, maps, wideKeys, modest, calm, conditions, laid).
  DERIVED. THE GIVEN ROWS OF THIS SEAT. 6 by the template 'for every input the law returns true; each argument reads behind the call as it read before'; 0 by the template 'total and deterministic' (their statements: YtciaoedjiggonaaTotals.lean).
  GIVEN WITH THE SEED: the statements are not yours to turn. If you find one false, say at which input.
  Laid BY PROGRAM, IN A SANDBOX (cutbox-rows.mjs): the forced cells as the released guide's own fill.sh prints them over the translation d992c4128fa6449d… (all of the seat's roots in one cut). By AI agents, Wed Nov 11 2026. No macro, syntax, notation, axiom, sorry.
-/
import Derived.Test.YtciaoedjiggonaaChecked
import GoSem.Claim
import GoSem.ClaimJoined
import GoSem.ClaimMapViews
import Derived.JoinedTies
import Derived.KernelRfl
namespace Go.Proofs.Ytciaoedjiggonaa
/- THE CELL 'sum', in the pinned program and in every row, IS THE sha256 OF THE DUMP (.gsa) THAT YtciaoedjiggonaaProg.lean LOADS. Nothing in Lean hashes anything: it is a label: what it is worth is what the hold of that sum in a sandbox is worth. -/
noncomputable def Try.pinned : Pinned := { name := "ytciaoedjiggonaa", sum := "d992c4128fa6449d791ba196aa1c967df10013cfeed12e387a619159d7280089", checked := Try.checked }
namespace Rows
def none {H : Type} : Left H := { results := [], args := [] }

/-- 'laws.FnQuotes': WHATEVER THE INPUT: true; the input reads as it did. -/
def fnQuotesSpec : ChangeSpec := { name := "fnQuotes", fn := fun _ => fun
  | [d1, d2] => { results := [.lit (.bool true)], args := [d1, d2] }
  | _ => none }
def fnQuotesRow : OpenClaim := { program := "ytciaoedjiggonaa", sum := "d992c4128fa6449d791ba196aa1c967df10013cfeed12e387a619159d7280089", func := "loop.example/s02349/laws.FnQuotes", spec := "fnQuotes", inPlace := ["internal/bytealg.IndexByte"], unfollowed := true, recurses := true, apart := false }
def FnQuotesSaid : Prop := fnQuotesRow.holds Try.pinned (OpenSpec.ofChange fnQuotesSpec)

/-- ITS FALSE NEIGHBOUR: 'it returns false'. Refute it at one input. -/
def fnQuotesWrong : ChangeSpec := { name := "fnQuotes", fn := fun _ => fun
  | [d1, d2] => { results := [.lit (.bool false)], args := [d1, d2] }
  | _ => none }
def FnQuotesWrongFalsely : Prop := fnQuotesRow.holds Try.pinned (OpenSpec.ofChange fnQuotesWrong)

/-- 'laws.FnLogs': WHATEVER THE INPUT: true; the input reads as it did. -/
def fnLogsSpec : ChangeSpec := { name := "fnLogs", fn := fun _ => fun
  | [d] => { results := [.lit (.bool true)], args := [d] }
  | _ => none }
def fnLogsRow : OpenClaim := { program := "ytciaoedjiggonaa", sum := "d992c4128fa6449d791ba196aa1c967df10013cfeed12e387a619159d7280089", func := "loop.example/s02349/laws.FnLogs", spec := "fnLogs", apart := false }
def FnLogsSaid : Prop := fnLogsRow.holds Try.pinned (OpenSpec.ofChange fnLogsSpec)

/-- ITS FALSE NEIGHBOUR: 'it returns false'. Refute it at one input. -/
def fnLogsWrong : ChangeSpec := { name := "fnLogs", fn := fun _ => fun
  | [d] => { results := [.lit (.bool false)], args := [d] }
  | _ => none }
def FnLogsWrongFalsely : Prop := fnLogsRow.holds Try.pinned (OpenSpec.ofChange fnLogsWrong)

/-- 'laws.FnExactUnframe': WHATEVER THE INPUT: true; the input reads as it did. -/
def fnExactUnframeSpec : ChangeSpec := { name := "fnExactUnframe", fn := fun _ => fun
  | [d] => { results := [.lit (.bool true)], args := [d] }
  | _ => none }
def fnExactUnframeRow : OpenClaim := { program := "ytciaoedjiggonaa", sum := "d992c4128fa6449d791ba196aa1c967df10013cfeed12e387a619159d7280089", func := "loop.example/s02349/laws.FnExactUnframe", spec := "fnExactUnframe", apart := false }
def FnExactUnframeSaid : Prop := fnExactUnframeRow.holds Try.pinned (OpenSpec.ofChange fnExactUnframeSpec)

/-- ITS FALSE NEIGHBOUR: 'it returns false'. Refute it at one input. -/
def fnExactUnframeWrong : ChangeSpec := { name := "fnExactUnframe", fn := fun _ => fun
  | [d] => { results := [.lit (.bool false)], args := [d] }
  | _ => none }
def FnExactUnframeWrongFalsely : Prop := fnExactUnframeRow.holds Try.pinned (OpenSpec.ofChange fnExactUnframeWrong)

/-- 'laws.FnExactMboxSplit': WHATEVER THE INPUT: true; the input reads as it did. -/
def fnExactMboxSplitSpec : ChangeSpec := { name := "fnExactMboxSplit", fn := fun _ => fun
  | [d] => { results := [.lit (.bool true)], args := [d] }
  | _ => none }
def fnExactMboxSplitRow : OpenClaim := { program := "ytciaoedjiggonaa", sum := "d992c4128fa6449d791ba196aa1c967df10013cfeed12e387a619159d7280089", func := "loop.example/s02349/laws.FnExactMboxSplit", spec := "fnExactMboxSplit", inPlace := ["internal/bytealg.IndexByte"], unfollowed := true, recurses := true, apart := false }
def FnExactMboxSplitSaid : Prop := fnExactMboxSplitRow.holds Try.pinned (OpenSpec.ofChange fnExactMboxSplitSpec)

/-- ITS FALSE NEIGHBOUR: 'it returns false'. Refute it at one input. -/
def fnExactMboxSplitWrong : ChangeSpec := { name := "fnExactMboxSplit", fn := fun _ => fun
  | [d] => { results := [.lit (.bool false)], args := [d] }
  | _ => none }
def FnExactMboxSplitWrongFalsely : Prop := fnExactMboxSplitRow.holds Try.pinned (OpenSpec.ofChange fnExactMboxSplitWrong)

/-- 'laws.FnExactParsePop': WHATEVER THE INPUT: true; the input reads as it did. -/
def fnExactParsePopSpec : ChangeSpec := { name := "fnExactParsePop", fn := fun _ => fun
  | [d] => { results := [.lit (.bool true)], args := [d] }
  | _ => none }
def fnExactParsePopRow : OpenClaim := { program := "ytciaoedjiggonaa", sum := "d992c4128fa6449d791ba196aa1c967df10013cfeed12e387a619159d7280089", func := "loop.example/s02349/laws.FnExactParsePop", spec := "fnExactParsePop", inPlace := ["internal/bytealg.IndexByteString", "internal/bytealg.IndexString"], named := ["internal/bytealg.MaxLen"], apart := false }
def FnExactParsePopSaid : Prop := fnExactParsePopRow.holds Try.pinned (OpenSpec.ofChange fnExactParsePopSpec)

/-- ITS FALSE NEIGHBOUR: 'it returns false'. Refute it at one input. -/
def fnExactParsePopWrong : ChangeSpec := { name := "fnExactParsePop", fn := fun _ => fun
  | [d] => { results := [.lit (.bool false)], args := [d] }
  | _ => none }
def FnExactParsePopWrongFalsely : Prop := fnExactParsePopRow.holds Try.pinned (OpenSpec.ofChange fnExactParsePopWrong)

/-- 'laws.FnExactCut': WHATEVER THE INPUT: true; the input reads as it did. -/
def fnExactCutSpec : ChangeSpec := { name := "fnExactCut", fn := fun _ => fun
  | [d1, d2] => { results := [.lit (.bool true)], args := [d1, d2] }
  | _ => none }
def fnExactCutRow : OpenClaim := { program := "ytciaoedjiggonaa", sum := "d992c4128fa6449d791ba196aa1c967df10013cfeed12e387a619159d7280089", func := "loop.example/s02349/laws.FnExactCut", spec := "fnExactCut", inPlace := ["internal/bytealg.IndexByte", "internal/bytealg.Index"], unfollowed := true, recurses := true, named := ["internal/bytealg.MaxLen"], apart := false }
def FnExactCutSaid : Prop := fnExactCutRow.holds Try.pinned (OpenSpec.ofChange fnExactCutSpec)

/-- ITS FALSE NEIGHBOUR: 'it returns false'. Refute it at one input. -/
def fnExactCutWrong : ChangeSpec := { name := "fnExactCut", fn := fun _ => fun
  | [d1, d2] => { results := [.lit (.bool false)], args := [d1, d2] }
  | _ => none }
def FnExactCutWrongFalsely : Prop := fnExactCutRow.holds Try.pinned (OpenSpec.ofChange fnExactCutWrong)

/- THE SECOND FORM. 'bulk': how many values and letters a reading holds, each counted each time it is reached (what is shared counts as often as it is met; a slice's spare places count too). A statement '..UptoSaid' is the law's where the arguments, and the package variables that the reading takes, are together of bulk at most 1048576: NARROWER than '..Said'. Prove '..Said' where nothing that the law and all that it calls make is longer than what came in: it says more and counts as full. Else prove '..UptoSaid'. A law counts once. -/
mutual
def uptoBulk {H : Type} : DataW H → Nat
  | .lit (.string bytes) => bytes.length + 1
  | .lit _ => 1
  | .nil => 1
  | .ptr d => uptoBulk d + 1
  | .slice elems spare => uptoBulkAll elems + uptoBulkAll spare + 1
  | .agg parts => uptoBulkAll parts + 1
  | .iface _ d => uptoBulk d + 1
  | .map entries => uptoBulkEntries entries + 1
  | .held _ => 1
def uptoBulkAll {H : Type} : List (DataW H) → Nat
  | [] => 0
  | d :: r => uptoBulk d + uptoBulkAll r
def uptoBulkEntries {H : Type} : List (Lit × DataW H) → Nat
  | [] => 0
  | x :: r => uptoBulkEntry x + uptoBulkEntries r
def uptoBulkEntry {H : Type} : Lit × DataW H → Nat
  | (.string bytes, d) => bytes.length + uptoBulk d + 1
  | (_, d) => uptoBulk d + 1
 end
def uptoSmall : (H : Type) → List (DataW H) → Bool := fun _ ds => decide (uptoBulkAll ds ≤ 1048576)
def OpenSpec.upto (s : _root_.Go.ChangeSpec) : _root_.Go.OpenSpec := { _root_.Go.OpenSpec.ofChange s with cond := some uptoSmall }

/-- 'laws.FnQuotes', WHERE WHAT IT READS IS OF BULK AT MOST 1048576: true; the input reads as it did. -/
def fnQuotesUptoRow : OpenClaim := { program := "ytciaoedjiggonaa", sum := "d992c4128fa6449d791ba196aa1c967df10013cfeed12e387a619159d7280089", func := "loop.example/s02349/laws.FnQuotes", spec := "fnQuotes", inPlace := ["internal/bytealg.IndexByte"], unfollowed := true, recurses := true, apart := false, narrowed := true }
def FnQuotesUptoSaid : Prop := fnQuotesUptoRow.holds Try.pinned (OpenSpec.upto fnQuotesSpec)

/-- 'laws.FnLogs', WHERE WHAT IT READS IS OF BULK AT MOST 1048576: true; the input reads as it did. -/
def fnLogsUptoRow : OpenClaim := { program := "ytciaoedjiggonaa", sum := "d992c4128fa6449d791ba196aa1c967df10013cfeed12e387a619159d7280089", func := "loop.example/s02349/laws.FnLogs", spec := "fnLogs", apart := false, narrowed := true }
def FnLogsUptoSaid : Prop := fnLogsUptoRow.holds Try.pinned (OpenSpec.upto fnLogsSpec)

/-- 'laws.FnExactUnframe', WHERE WHAT IT READS IS OF BULK AT MOST 1048576: true; the input reads as it did. -/
def fnExactUnframeUptoRow : OpenClaim := { program := "ytciaoedjiggonaa", sum := "d992c4128fa6449d791ba196aa1c967df10013cfeed12e387a619159d7280089", func := "loop.example/s02349/laws.FnExactUnframe", spec := "fnExactUnframe", apart := false, narrowed := true }
def FnExactUnframeUptoSaid : Prop := fnExactUnframeUptoRow.holds Try.pinned (OpenSpec.upto fnExactUnframeSpec)

/-- 'laws.FnExactMboxSplit', WHERE WHAT IT READS IS OF BULK AT MOST 1048576: true; the input reads as it did. -/
def fnExactMboxSplitUptoRow : OpenClaim := { program := "ytciaoedjiggonaa", sum := "d992c4128fa6449d791ba196aa1c967df10013cfeed12e387a619159d7280089", func := "loop.example/s02349/laws.FnExactMboxSplit", spec := "fnExactMboxSplit", inPlace := ["internal/bytealg.IndexByte"], unfollowed := true, recurses := true, apart := false, narrowed := true }
def FnExactMboxSplitUptoSaid : Prop := fnExactMboxSplitUptoRow.holds Try.pinned (OpenSpec.upto fnExactMboxSplitSpec)

/-- 'laws.FnExactParsePop', WHERE WHAT IT READS IS OF BULK AT MOST 1048576: true; the input reads as it did. -/
def fnExactParsePopUptoRow : OpenClaim := { program := "ytciaoedjiggonaa", sum := "d992c4128fa6449d791ba196aa1c967df10013cfeed12e387a619159d7280089", func := "loop.example/s02349/laws.FnExactParsePop", spec := "fnExactParsePop", inPlace := ["internal/bytealg.IndexByteString", "internal/bytealg.IndexString"], named := ["internal/bytealg.MaxLen"], apart := false, narrowed := true }
def FnExactParsePopUptoSaid : Prop := fnExactParsePopUptoRow.holds Try.pinned (OpenSpec.upto fnExactParsePopSpec)

/-- 'laws.FnExactCut', WHERE WHAT IT READS IS OF BULK AT MOST 1048576: true; the input reads as it did. -/
def fnExactCutUptoRow : OpenClaim := { program := "ytciaoedjiggonaa", sum := "d992c4128fa6449d791ba196aa1c967df10013cfeed12e387a619159d7280089", func := "loop.example/s02349/laws.FnExactCut", spec := "fnExactCut", inPlace := ["internal/bytealg.IndexByte", "internal/bytealg.Index"], unfollowed := true, recurses := true, named := ["internal/bytealg.MaxLen"], apart := false, narrowed := true }
def FnExactCutUptoSaid : Prop := fnExactCutUptoRow.holds Try.pinned (OpenSpec.upto fnExactCutSpec)

end Rows
end Go.Proofs.Ytciaoedjiggonaa
