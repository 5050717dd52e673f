/-
  No cell of these rows narrows 'for every input' (looked for: loops, veiled, ifaces, maps, wideKeys, modest, calm, conditions, laid).
  DERIVED. THE GIVEN ROWS OF THIS SEAT. 17 by the template 'for every input the law returns true; each argument reads behind the call as it read before'; 0 by the template 'total and deterministic' (their statements: YtkcenblmbodbbaaTotals.lean).
  GIVEN WITH THE SEED: the statements are not yours to turn. If you find one false, say at which input.
  Laid BY PROGRAM, IN A SANDBOX (cutbox-rows.mjs): the forced cells as the released guide's own fill.sh prints them over the translation 0b2f8bd355d8b16d… (all of the seat's roots in one cut). By AI agents, Wed Nov 11 2026. No macro, syntax, notation, axiom, sorry.
-/
import Derived.Test.YtkcenblmbodbbaaChecked
import GoSem.Claim
import GoSem.ClaimJoined
import GoSem.ClaimMapViews
import Derived.JoinedTies
import Derived.KernelRfl
namespace Go.Proofs.Ytkcenblmbodbbaa
/- THE CELL 'sum', in the pinned program and in every row, IS THE sha256 OF THE DUMP (.gsa) THAT YtkcenblmbodbbaaProg.lean LOADS. Nothing in Lean hashes anything: it is a label: what it is worth is what the hold of that sum in a sandbox is worth. -/
noncomputable def Try.pinned : Pinned := { name := "ytkcenblmbodbbaa", sum := "0b2f8bd355d8b16de48154fc386da2037da8ec5ace391cdc5d8dd15a5bf70d77", checked := Try.checked }
namespace Rows
def none {H : Type} : Left H := { results := [], args := [] }

/-- 'laws.FnExactConstants': WHATEVER THE INPUT: true; the input reads as it did. -/
def fnExactConstantsSpec : ChangeSpec := { name := "fnExactConstants", fn := fun _ => fun
  | [] => { results := [.lit (.bool true)], args := [] }
  | _ => none }
def fnExactConstantsRow : OpenClaim := { program := "ytkcenblmbodbbaa", sum := "0b2f8bd355d8b16de48154fc386da2037da8ec5ace391cdc5d8dd15a5bf70d77", func := "loop.example/s02349/laws.FnExactConstants", spec := "fnExactConstants", apart := false }
def FnExactConstantsSaid : Prop := fnExactConstantsRow.holds Try.pinned (OpenSpec.ofChange fnExactConstantsSpec)

/-- ITS FALSE NEIGHBOUR: 'it returns false'. Refute it at one input. -/
def fnExactConstantsWrong : ChangeSpec := { name := "fnExactConstants", fn := fun _ => fun
  | [] => { results := [.lit (.bool false)], args := [] }
  | _ => none }
def FnExactConstantsWrongFalsely : Prop := fnExactConstantsRow.holds Try.pinned (OpenSpec.ofChange fnExactConstantsWrong)

/-- 'laws.FnExactCrc': WHATEVER THE INPUT: true; the input reads as it did. -/
def fnExactCrcSpec : ChangeSpec := { name := "fnExactCrc", fn := fun _ => fun
  | [d] => { results := [.lit (.bool true)], args := [d] }
  | _ => none }
def fnExactCrcRow : OpenClaim := { program := "ytkcenblmbodbbaa", sum := "0b2f8bd355d8b16de48154fc386da2037da8ec5ace391cdc5d8dd15a5bf70d77", func := "loop.example/s02349/laws.FnExactCrc", spec := "fnExactCrc", apart := false }
def FnExactCrcSaid : Prop := fnExactCrcRow.holds Try.pinned (OpenSpec.ofChange fnExactCrcSpec)

/-- ITS FALSE NEIGHBOUR: 'it returns false'. Refute it at one input. -/
def fnExactCrcWrong : ChangeSpec := { name := "fnExactCrc", fn := fun _ => fun
  | [d] => { results := [.lit (.bool false)], args := [d] }
  | _ => none }
def FnExactCrcWrongFalsely : Prop := fnExactCrcRow.holds Try.pinned (OpenSpec.ofChange fnExactCrcWrong)

/-- 'laws.FnExactInSet': WHATEVER THE INPUT: true; the input reads as it did. -/
def fnExactInSetSpec : ChangeSpec := { name := "fnExactInSet", fn := fun _ => fun
  | [d1, d2, d3] => { results := [.lit (.bool true)], args := [d1, d2, d3] }
  | _ => none }
def fnExactInSetRow : OpenClaim := { program := "ytkcenblmbodbbaa", sum := "0b2f8bd355d8b16de48154fc386da2037da8ec5ace391cdc5d8dd15a5bf70d77", func := "loop.example/s02349/laws.FnExactInSet", spec := "fnExactInSet", apart := false }
def FnExactInSetSaid : Prop := fnExactInSetRow.holds Try.pinned (OpenSpec.ofChange fnExactInSetSpec)

/-- ITS FALSE NEIGHBOUR: 'it returns false'. Refute it at one input. -/
def fnExactInSetWrong : ChangeSpec := { name := "fnExactInSet", fn := fun _ => fun
  | [d1, d2, d3] => { results := [.lit (.bool false)], args := [d1, d2, d3] }
  | _ => none }
def FnExactInSetWrongFalsely : Prop := fnExactInSetRow.holds Try.pinned (OpenSpec.ofChange fnExactInSetWrong)

/-- 'laws.FnExactQuote': WHATEVER THE INPUT: true; the input reads as it did. -/
def fnExactQuoteSpec : ChangeSpec := { name := "fnExactQuote", fn := fun _ => fun
  | [d] => { results := [.lit (.bool true)], args := [d] }
  | _ => none }
def fnExactQuoteRow : OpenClaim := { program := "ytkcenblmbodbbaa", sum := "0b2f8bd355d8b16de48154fc386da2037da8ec5ace391cdc5d8dd15a5bf70d77", func := "loop.example/s02349/laws.FnExactQuote", spec := "fnExactQuote", inPlace := ["internal/bytealg.IndexByte"], unfollowed := true, recurses := true, apart := false }
def FnExactQuoteSaid : Prop := fnExactQuoteRow.holds Try.pinned (OpenSpec.ofChange fnExactQuoteSpec)

/-- ITS FALSE NEIGHBOUR: 'it returns false'. Refute it at one input. -/
def fnExactQuoteWrong : ChangeSpec := { name := "fnExactQuote", fn := fun _ => fun
  | [d] => { results := [.lit (.bool false)], args := [d] }
  | _ => none }
def FnExactQuoteWrongFalsely : Prop := fnExactQuoteRow.holds Try.pinned (OpenSpec.ofChange fnExactQuoteWrong)

/-- 'laws.FnExactUnquote': WHATEVER THE INPUT: true; the input reads as it did. -/
def fnExactUnquoteSpec : ChangeSpec := { name := "fnExactUnquote", fn := fun _ => fun
  | [d] => { results := [.lit (.bool true)], args := [d] }
  | _ => none }
def fnExactUnquoteRow : OpenClaim := { program := "ytkcenblmbodbbaa", sum := "0b2f8bd355d8b16de48154fc386da2037da8ec5ace391cdc5d8dd15a5bf70d77", func := "loop.example/s02349/laws.FnExactUnquote", spec := "fnExactUnquote", inPlace := ["internal/bytealg.IndexByte"], unfollowed := true, recurses := true, apart := false }
def FnExactUnquoteSaid : Prop := fnExactUnquoteRow.holds Try.pinned (OpenSpec.ofChange fnExactUnquoteSpec)

/-- ITS FALSE NEIGHBOUR: 'it returns false'. Refute it at one input. -/
def fnExactUnquoteWrong : ChangeSpec := { name := "fnExactUnquote", fn := fun _ => fun
  | [d] => { results := [.lit (.bool false)], args := [d] }
  | _ => none }
def FnExactUnquoteWrongFalsely : Prop := fnExactUnquoteRow.holds Try.pinned (OpenSpec.ofChange fnExactUnquoteWrong)

/-- 'laws.FnExactMboxEntry': WHATEVER THE INPUT: true; the input reads as it did. -/
def fnExactMboxEntrySpec : ChangeSpec := { name := "fnExactMboxEntry", fn := fun _ => fun
  | [d] => { results := [.lit (.bool true)], args := [d] }
  | _ => none }
def fnExactMboxEntryRow : OpenClaim := { program := "ytkcenblmbodbbaa", sum := "0b2f8bd355d8b16de48154fc386da2037da8ec5ace391cdc5d8dd15a5bf70d77", func := "loop.example/s02349/laws.FnExactMboxEntry", spec := "fnExactMboxEntry", inPlace := ["internal/bytealg.IndexByte"], unfollowed := true, recurses := true, apart := false }
def FnExactMboxEntrySaid : Prop := fnExactMboxEntryRow.holds Try.pinned (OpenSpec.ofChange fnExactMboxEntrySpec)

/-- ITS FALSE NEIGHBOUR: 'it returns false'. Refute it at one input. -/
def fnExactMboxEntryWrong : ChangeSpec := { name := "fnExactMboxEntry", fn := fun _ => fun
  | [d] => { results := [.lit (.bool false)], args := [d] }
  | _ => none }
def FnExactMboxEntryWrongFalsely : Prop := fnExactMboxEntryRow.holds Try.pinned (OpenSpec.ofChange fnExactMboxEntryWrong)

/-- 'laws.FnQuotes': WHATEVER THE INPUT: true; the input reads as it did. -/
def fnQuotesSpec : ChangeSpec := { name := "fnQuotes", fn := fun _ => fun
  | [d1, d2] => { results := [.lit (.bool true)], args := [d1, d2] }
  | _ => none }
def fnQuotesRow : OpenClaim := { program := "ytkcenblmbodbbaa", sum := "0b2f8bd355d8b16de48154fc386da2037da8ec5ace391cdc5d8dd15a5bf70d77", func := "loop.example/s02349/laws.FnQuotes", spec := "fnQuotes", inPlace := ["internal/bytealg.IndexByte"], unfollowed := true, recurses := true, apart := false }
def FnQuotesSaid : Prop := fnQuotesRow.holds Try.pinned (OpenSpec.ofChange fnQuotesSpec)

/-- ITS FALSE NEIGHBOUR: 'it returns false'. Refute it at one input. -/
def fnQuotesWrong : ChangeSpec := { name := "fnQuotes", fn := fun _ => fun
  | [d1, d2] => { results := [.lit (.bool false)], args := [d1, d2] }
  | _ => none }
def FnQuotesWrongFalsely : Prop := fnQuotesRow.holds Try.pinned (OpenSpec.ofChange fnQuotesWrong)

/-- 'laws.FnExactFrame': WHATEVER THE INPUT: true; the input reads as it did. -/
def fnExactFrameSpec : ChangeSpec := { name := "fnExactFrame", fn := fun _ => fun
  | [d] => { results := [.lit (.bool true)], args := [d] }
  | _ => none }
def fnExactFrameRow : OpenClaim := { program := "ytkcenblmbodbbaa", sum := "0b2f8bd355d8b16de48154fc386da2037da8ec5ace391cdc5d8dd15a5bf70d77", func := "loop.example/s02349/laws.FnExactFrame", spec := "fnExactFrame", apart := false }
def FnExactFrameSaid : Prop := fnExactFrameRow.holds Try.pinned (OpenSpec.ofChange fnExactFrameSpec)

/-- ITS FALSE NEIGHBOUR: 'it returns false'. Refute it at one input. -/
def fnExactFrameWrong : ChangeSpec := { name := "fnExactFrame", fn := fun _ => fun
  | [d] => { results := [.lit (.bool false)], args := [d] }
  | _ => none }
def FnExactFrameWrongFalsely : Prop := fnExactFrameRow.holds Try.pinned (OpenSpec.ofChange fnExactFrameWrong)

/-- 'laws.FnLogs': WHATEVER THE INPUT: true; the input reads as it did. -/
def fnLogsSpec : ChangeSpec := { name := "fnLogs", fn := fun _ => fun
  | [d] => { results := [.lit (.bool true)], args := [d] }
  | _ => none }
def fnLogsRow : OpenClaim := { program := "ytkcenblmbodbbaa", sum := "0b2f8bd355d8b16de48154fc386da2037da8ec5ace391cdc5d8dd15a5bf70d77", func := "loop.example/s02349/laws.FnLogs", spec := "fnLogs", apart := false }
def FnLogsSaid : Prop := fnLogsRow.holds Try.pinned (OpenSpec.ofChange fnLogsSpec)

/-- ITS FALSE NEIGHBOUR: 'it returns false'. Refute it at one input. -/
def fnLogsWrong : ChangeSpec := { name := "fnLogs", fn := fun _ => fun
  | [d] => { results := [.lit (.bool false)], args := [d] }
  | _ => none }
def FnLogsWrongFalsely : Prop := fnLogsRow.holds Try.pinned (OpenSpec.ofChange fnLogsWrong)

/-- 'laws.FnExactUnframe': WHATEVER THE INPUT: true; the input reads as it did. -/
def fnExactUnframeSpec : ChangeSpec := { name := "fnExactUnframe", fn := fun _ => fun
  | [d] => { results := [.lit (.bool true)], args := [d] }
  | _ => none }
def fnExactUnframeRow : OpenClaim := { program := "ytkcenblmbodbbaa", sum := "0b2f8bd355d8b16de48154fc386da2037da8ec5ace391cdc5d8dd15a5bf70d77", func := "loop.example/s02349/laws.FnExactUnframe", spec := "fnExactUnframe", apart := false }
def FnExactUnframeSaid : Prop := fnExactUnframeRow.holds Try.pinned (OpenSpec.ofChange fnExactUnframeSpec)

/-- ITS FALSE NEIGHBOUR: 'it returns false'. Refute it at one input. -/
def fnExactUnframeWrong : ChangeSpec := { name := "fnExactUnframe", fn := fun _ => fun
  | [d] => { results := [.lit (.bool false)], args := [d] }
  | _ => none }
def FnExactUnframeWrongFalsely : Prop := fnExactUnframeRow.holds Try.pinned (OpenSpec.ofChange fnExactUnframeWrong)

/-- 'laws.FnExactMboxSplit': WHATEVER THE INPUT: true; the input reads as it did. -/
def fnExactMboxSplitSpec : ChangeSpec := { name := "fnExactMboxSplit", fn := fun _ => fun
  | [d] => { results := [.lit (.bool true)], args := [d] }
  | _ => none }
def fnExactMboxSplitRow : OpenClaim := { program := "ytkcenblmbodbbaa", sum := "0b2f8bd355d8b16de48154fc386da2037da8ec5ace391cdc5d8dd15a5bf70d77", func := "loop.example/s02349/laws.FnExactMboxSplit", spec := "fnExactMboxSplit", inPlace := ["internal/bytealg.IndexByte"], unfollowed := true, recurses := true, apart := false }
def FnExactMboxSplitSaid : Prop := fnExactMboxSplitRow.holds Try.pinned (OpenSpec.ofChange fnExactMboxSplitSpec)

/-- ITS FALSE NEIGHBOUR: 'it returns false'. Refute it at one input. -/
def fnExactMboxSplitWrong : ChangeSpec := { name := "fnExactMboxSplit", fn := fun _ => fun
  | [d] => { results := [.lit (.bool false)], args := [d] }
  | _ => none }
def FnExactMboxSplitWrongFalsely : Prop := fnExactMboxSplitRow.holds Try.pinned (OpenSpec.ofChange fnExactMboxSplitWrong)

/-- 'laws.FnExactParsePop': WHATEVER THE INPUT: true; the input reads as it did. -/
def fnExactParsePopSpec : ChangeSpec := { name := "fnExactParsePop", fn := fun _ => fun
  | [d] => { results := [.lit (.bool true)], args := [d] }
  | _ => none }
def fnExactParsePopRow : OpenClaim := { program := "ytkcenblmbodbbaa", sum := "0b2f8bd355d8b16de48154fc386da2037da8ec5ace391cdc5d8dd15a5bf70d77", func := "loop.example/s02349/laws.FnExactParsePop", spec := "fnExactParsePop", inPlace := ["internal/bytealg.IndexByteString", "internal/bytealg.IndexString"], named := ["internal/bytealg.MaxLen"], apart := false }
def FnExactParsePopSaid : Prop := fnExactParsePopRow.holds Try.pinned (OpenSpec.ofChange fnExactParsePopSpec)

/-- ITS FALSE NEIGHBOUR: 'it returns false'. Refute it at one input. -/
def fnExactParsePopWrong : ChangeSpec := { name := "fnExactParsePop", fn := fun _ => fun
  | [d] => { results := [.lit (.bool false)], args := [d] }
  | _ => none }
def FnExactParsePopWrongFalsely : Prop := fnExactParsePopRow.holds Try.pinned (OpenSpec.ofChange fnExactParsePopWrong)

/-- 'laws.FnExactCut': WHATEVER THE INPUT: true; the input reads as it did. -/
def fnExactCutSpec : ChangeSpec := { name := "fnExactCut", fn := fun _ => fun
  | [d1, d2] => { results := [.lit (.bool true)], args := [d1, d2] }
  | _ => none }
def fnExactCutRow : OpenClaim := { program := "ytkcenblmbodbbaa", sum := "0b2f8bd355d8b16de48154fc386da2037da8ec5ace391cdc5d8dd15a5bf70d77", func := "loop.example/s02349/laws.FnExactCut", spec := "fnExactCut", inPlace := ["internal/bytealg.IndexByte", "internal/bytealg.Index"], unfollowed := true, recurses := true, named := ["internal/bytealg.MaxLen"], apart := false }
def FnExactCutSaid : Prop := fnExactCutRow.holds Try.pinned (OpenSpec.ofChange fnExactCutSpec)

/-- ITS FALSE NEIGHBOUR: 'it returns false'. Refute it at one input. -/
def fnExactCutWrong : ChangeSpec := { name := "fnExactCut", fn := fun _ => fun
  | [d1, d2] => { results := [.lit (.bool false)], args := [d1, d2] }
  | _ => none }
def FnExactCutWrongFalsely : Prop := fnExactCutRow.holds Try.pinned (OpenSpec.ofChange fnExactCutWrong)

/-- 'laws.FnExactDiskValid': WHATEVER THE INPUT: true; the input reads as it did. -/
def fnExactDiskValidSpec : ChangeSpec := { name := "fnExactDiskValid", fn := fun _ => fun
  | [d] => { results := [.lit (.bool true)], args := [d] }
  | _ => none }
def fnExactDiskValidRow : OpenClaim := { program := "ytkcenblmbodbbaa", sum := "0b2f8bd355d8b16de48154fc386da2037da8ec5ace391cdc5d8dd15a5bf70d77", func := "loop.example/s02349/laws.FnExactDiskValid", spec := "fnExactDiskValid", unfollowed := true, recurses := true, apart := false }
def FnExactDiskValidSaid : Prop := fnExactDiskValidRow.holds Try.pinned (OpenSpec.ofChange fnExactDiskValidSpec)

/-- ITS FALSE NEIGHBOUR: 'it returns false'. Refute it at one input. -/
def fnExactDiskValidWrong : ChangeSpec := { name := "fnExactDiskValid", fn := fun _ => fun
  | [d] => { results := [.lit (.bool false)], args := [d] }
  | _ => none }
def FnExactDiskValidWrongFalsely : Prop := fnExactDiskValidRow.holds Try.pinned (OpenSpec.ofChange fnExactDiskValidWrong)

/-- 'laws.FnPieces': WHATEVER THE INPUT: true; the input reads as it did. -/
def fnPiecesSpec : ChangeSpec := { name := "fnPieces", fn := fun _ => fun
  | [d] => { results := [.lit (.bool true)], args := [d] }
  | _ => none }
def fnPiecesRow : OpenClaim := { program := "ytkcenblmbodbbaa", sum := "0b2f8bd355d8b16de48154fc386da2037da8ec5ace391cdc5d8dd15a5bf70d77", func := "loop.example/s02349/laws.FnPieces", spec := "fnPieces", inPlace := ["internal/bytealg.IndexByte", "internal/bytealg.Index"], unfollowed := true, recurses := true, named := ["internal/bytealg.MaxLen"], apart := false }
def FnPiecesSaid : Prop := fnPiecesRow.holds Try.pinned (OpenSpec.ofChange fnPiecesSpec)

/-- ITS FALSE NEIGHBOUR: 'it returns false'. Refute it at one input. -/
def fnPiecesWrong : ChangeSpec := { name := "fnPieces", fn := fun _ => fun
  | [d] => { results := [.lit (.bool false)], args := [d] }
  | _ => none }
def FnPiecesWrongFalsely : Prop := fnPiecesRow.holds Try.pinned (OpenSpec.ofChange fnPiecesWrong)

/-- 'laws.FnExactDiskRead': WHATEVER THE INPUT: true; the input reads as it did. -/
def fnExactDiskReadSpec : ChangeSpec := { name := "fnExactDiskRead", fn := fun _ => fun
  | [d1, d2] => { results := [.lit (.bool true)], args := [d1, d2] }
  | _ => none }
def fnExactDiskReadRow : OpenClaim := { program := "ytkcenblmbodbbaa", sum := "0b2f8bd355d8b16de48154fc386da2037da8ec5ace391cdc5d8dd15a5bf70d77", func := "loop.example/s02349/laws.FnExactDiskRead", spec := "fnExactDiskRead", unfollowed := true, recurses := true, apart := false }
def FnExactDiskReadSaid : Prop := fnExactDiskReadRow.holds Try.pinned (OpenSpec.ofChange fnExactDiskReadSpec)

/-- ITS FALSE NEIGHBOUR: 'it returns false'. Refute it at one input. -/
def fnExactDiskReadWrong : ChangeSpec := { name := "fnExactDiskRead", fn := fun _ => fun
  | [d1, d2] => { results := [.lit (.bool false)], args := [d1, d2] }
  | _ => none }
def FnExactDiskReadWrongFalsely : Prop := fnExactDiskReadRow.holds Try.pinned (OpenSpec.ofChange fnExactDiskReadWrong)

/-- 'laws.FnExactDiskCrash': WHATEVER THE INPUT: true; the input reads as it did. -/
def fnExactDiskCrashSpec : ChangeSpec := { name := "fnExactDiskCrash", fn := fun _ => fun
  | [d1, d2, d3] => { results := [.lit (.bool true)], args := [d1, d2, d3] }
  | _ => none }
def fnExactDiskCrashRow : OpenClaim := { program := "ytkcenblmbodbbaa", sum := "0b2f8bd355d8b16de48154fc386da2037da8ec5ace391cdc5d8dd15a5bf70d77", func := "loop.example/s02349/laws.FnExactDiskCrash", spec := "fnExactDiskCrash", unfollowed := true, recurses := true, apart := false }
def FnExactDiskCrashSaid : Prop := fnExactDiskCrashRow.holds Try.pinned (OpenSpec.ofChange fnExactDiskCrashSpec)

/-- ITS FALSE NEIGHBOUR: 'it returns false'. Refute it at one input. -/
def fnExactDiskCrashWrong : ChangeSpec := { name := "fnExactDiskCrash", fn := fun _ => fun
  | [d1, d2, d3] => { results := [.lit (.bool false)], args := [d1, d2, d3] }
  | _ => none }
def FnExactDiskCrashWrongFalsely : Prop := fnExactDiskCrashRow.holds Try.pinned (OpenSpec.ofChange fnExactDiskCrashWrong)

/- THE SECOND FORM. 'bulk': how many values and letters a reading holds, each counted each time it is reached (what is shared counts as often as it is met; a slice's spare places count too). A statement '..UptoSaid' is the law's where the arguments, and the package variables that the reading takes, are together of bulk at most 1048576: NARROWER than '..Said'. Prove '..Said' where nothing that the law and all that it calls make is longer than what came in: it says more and counts as full. Else prove '..UptoSaid'. A law counts once. -/
mutual
def uptoBulk {H : Type} : DataW H → Nat
  | .lit (.string bytes) => bytes.length + 1
  | .lit _ => 1
  | .nil => 1
  | .ptr d => uptoBulk d + 1
  | .slice elems spare => uptoBulkAll elems + uptoBulkAll spare + 1
  | .agg parts => uptoBulkAll parts + 1
  | .iface _ d => uptoBulk d + 1
  | .map entries => uptoBulkEntries entries + 1
  | .held _ => 1
def uptoBulkAll {H : Type} : List (DataW H) → Nat
  | [] => 0
  | d :: r => uptoBulk d + uptoBulkAll r
def uptoBulkEntries {H : Type} : List (Lit × DataW H) → Nat
  | [] => 0
  | x :: r => uptoBulkEntry x + uptoBulkEntries r
def uptoBulkEntry {H : Type} : Lit × DataW H → Nat
  | (.string bytes, d) => bytes.length + uptoBulk d + 1
  | (_, d) => uptoBulk d + 1
 end
def uptoSmall : (H : Type) → List (DataW H) → Bool := fun _ ds => decide (uptoBulkAll ds ≤ 1048576)
def OpenSpec.upto (s : _root_.Go.ChangeSpec) : _root_.Go.OpenSpec := { _root_.Go.OpenSpec.ofChange s with cond := some uptoSmall }

/-- 'laws.FnExactConstants', WHERE WHAT IT READS IS OF BULK AT MOST 1048576: true; the input reads as it did. -/
def fnExactConstantsUptoRow : OpenClaim := { program := "ytkcenblmbodbbaa", sum := "0b2f8bd355d8b16de48154fc386da2037da8ec5ace391cdc5d8dd15a5bf70d77", func := "loop.example/s02349/laws.FnExactConstants", spec := "fnExactConstants", apart := false, narrowed := true }
def FnExactConstantsUptoSaid : Prop := fnExactConstantsUptoRow.holds Try.pinned (OpenSpec.upto fnExactConstantsSpec)

/-- 'laws.FnExactCrc', WHERE WHAT IT READS IS OF BULK AT MOST 1048576: true; the input reads as it did. -/
def fnExactCrcUptoRow : OpenClaim := { program := "ytkcenblmbodbbaa", sum := "0b2f8bd355d8b16de48154fc386da2037da8ec5ace391cdc5d8dd15a5bf70d77", func := "loop.example/s02349/laws.FnExactCrc", spec := "fnExactCrc", apart := false, narrowed := true }
def FnExactCrcUptoSaid : Prop := fnExactCrcUptoRow.holds Try.pinned (OpenSpec.upto fnExactCrcSpec)

/-- 'laws.FnExactInSet', WHERE WHAT IT READS IS OF BULK AT MOST 1048576: true; the input reads as it did. -/
def fnExactInSetUptoRow : OpenClaim := { program := "ytkcenblmbodbbaa", sum := "0b2f8bd355d8b16de48154fc386da2037da8ec5ace391cdc5d8dd15a5bf70d77", func := "loop.example/s02349/laws.FnExactInSet", spec := "fnExactInSet", apart := false, narrowed := true }
def FnExactInSetUptoSaid : Prop := fnExactInSetUptoRow.holds Try.pinned (OpenSpec.upto fnExactInSetSpec)

/-- 'laws.FnExactQuote', WHERE WHAT IT READS IS OF BULK AT MOST 1048576: true; the input reads as it did. -/
def fnExactQuoteUptoRow : OpenClaim := { program := "ytkcenblmbodbbaa", sum := "0b2f8bd355d8b16de48154fc386da2037da8ec5ace391cdc5d8dd15a5bf70d77", func := "loop.example/s02349/laws.FnExactQuote", spec := "fnExactQuote", inPlace := ["internal/bytealg.IndexByte"], unfollowed := true, recurses := true, apart := false, narrowed := true }
def FnExactQuoteUptoSaid : Prop := fnExactQuoteUptoRow.holds Try.pinned (OpenSpec.upto fnExactQuoteSpec)

/-- 'laws.FnExactUnquote', WHERE WHAT IT READS IS OF BULK AT MOST 1048576: true; the input reads as it did. -/
def fnExactUnquoteUptoRow : OpenClaim := { program := "ytkcenblmbodbbaa", sum := "0b2f8bd355d8b16de48154fc386da2037da8ec5ace391cdc5d8dd15a5bf70d77", func := "loop.example/s02349/laws.FnExactUnquote", spec := "fnExactUnquote", inPlace := ["internal/bytealg.IndexByte"], unfollowed := true, recurses := true, apart := false, narrowed := true }
def FnExactUnquoteUptoSaid : Prop := fnExactUnquoteUptoRow.holds Try.pinned (OpenSpec.upto fnExactUnquoteSpec)

/-- 'laws.FnExactMboxEntry', WHERE WHAT IT READS IS OF BULK AT MOST 1048576: true; the input reads as it did. -/
def fnExactMboxEntryUptoRow : OpenClaim := { program := "ytkcenblmbodbbaa", sum := "0b2f8bd355d8b16de48154fc386da2037da8ec5ace391cdc5d8dd15a5bf70d77", func := "loop.example/s02349/laws.FnExactMboxEntry", spec := "fnExactMboxEntry", inPlace := ["internal/bytealg.IndexByte"], unfollowed := true, recurses := true, apart := false, narrowed := true }
def FnExactMboxEntryUptoSaid : Prop := fnExactMboxEntryUptoRow.holds Try.pinned (OpenSpec.upto fnExactMboxEntrySpec)

/-- 'laws.FnQuotes', WHERE WHAT IT READS IS OF BULK AT MOST 1048576: true; the input reads as it did. -/
def fnQuotesUptoRow : OpenClaim := { program := "ytkcenblmbodbbaa", sum := "0b2f8bd355d8b16de48154fc386da2037da8ec5ace391cdc5d8dd15a5bf70d77", func := "loop.example/s02349/laws.FnQuotes", spec := "fnQuotes", inPlace := ["internal/bytealg.IndexByte"], unfollowed := true, recurses := true, apart := false, narrowed := true }
def FnQuotesUptoSaid : Prop := fnQuotesUptoRow.holds Try.pinned (OpenSpec.upto fnQuotesSpec)

/-- 'laws.FnExactFrame', WHERE WHAT IT READS IS OF BULK AT MOST 1048576: true; the input reads as it did. -/
def fnExactFrameUptoRow : OpenClaim := { program := "ytkcenblmbodbbaa", sum := "0b2f8bd355d8b16de48154fc386da2037da8ec5ace391cdc5d8dd15a5bf70d77", func := "loop.example/s02349/laws.FnExactFrame", spec := "fnExactFrame", apart := false, narrowed := true }
def FnExactFrameUptoSaid : Prop := fnExactFrameUptoRow.holds Try.pinned (OpenSpec.upto fnExactFrameSpec)

/-- 'laws.FnLogs', WHERE WHAT IT READS IS OF BULK AT MOST 1048576: true; the input reads as it did. -/
def fnLogsUptoRow : OpenClaim := { program := "ytkcenblmbodbbaa", sum := "0b2f8bd355d8b16de48154fc386da2037da8ec5ace391cdc5d8dd15a5bf70d77", func := "loop.example/s02349/laws.FnLogs", spec := "fnLogs", apart := false, narrowed := true }
def FnLogsUptoSaid : Prop := fnLogsUptoRow.holds Try.pinned (OpenSpec.upto fnLogsSpec)

/-- 'laws.FnExactUnframe', WHERE WHAT IT READS IS OF BULK AT MOST 1048576: true; the input reads as it did. -/
def fnExactUnframeUptoRow : OpenClaim := { program := "ytkcenblmbodbbaa", sum := "0b2f8bd355d8b16de48154fc386da2037da8ec5ace391cdc5d8dd15a5bf70d77", func := "loop.example/s02349/laws.FnExactUnframe", spec := "fnExactUnframe", apart := false, narrowed := true }
def FnExactUnframeUptoSaid : Prop := fnExactUnframeUptoRow.holds Try.pinned (OpenSpec.upto fnExactUnframeSpec)

/-- 'laws.FnExactMboxSplit', WHERE WHAT IT READS IS OF BULK AT MOST 1048576: true; the input reads as it did. -/
def fnExactMboxSplitUptoRow : OpenClaim := { program := "ytkcenblmbodbbaa", sum := "0b2f8bd355d8b16de48154fc386da2037da8ec5ace391cdc5d8dd15a5bf70d77", func := "loop.example/s02349/laws.FnExactMboxSplit", spec := "fnExactMboxSplit", inPlace := ["internal/bytealg.IndexByte"], unfollowed := true, recurses := true, apart := false, narrowed := true }
def FnExactMboxSplitUptoSaid : Prop := fnExactMboxSplitUptoRow.holds Try.pinned (OpenSpec.upto fnExactMboxSplitSpec)

/-- 'laws.FnExactParsePop', WHERE WHAT IT READS IS OF BULK AT MOST 1048576: true; the input reads as it did. -/
def fnExactParsePopUptoRow : OpenClaim := { program := "ytkcenblmbodbbaa", sum := "0b2f8bd355d8b16de48154fc386da2037da8ec5ace391cdc5d8dd15a5bf70d77", func := "loop.example/s02349/laws.FnExactParsePop", spec := "fnExactParsePop", inPlace := ["internal/bytealg.IndexByteString", "internal/bytealg.IndexString"], named := ["internal/bytealg.MaxLen"], apart := false, narrowed := true }
def FnExactParsePopUptoSaid : Prop := fnExactParsePopUptoRow.holds Try.pinned (OpenSpec.upto fnExactParsePopSpec)

/-- 'laws.FnExactCut', WHERE WHAT IT READS IS OF BULK AT MOST 1048576: true; the input reads as it did. -/
def fnExactCutUptoRow : OpenClaim := { program := "ytkcenblmbodbbaa", sum := "0b2f8bd355d8b16de48154fc386da2037da8ec5ace391cdc5d8dd15a5bf70d77", func := "loop.example/s02349/laws.FnExactCut", spec := "fnExactCut", inPlace := ["internal/bytealg.IndexByte", "internal/bytealg.Index"], unfollowed := true, recurses := true, named := ["internal/bytealg.MaxLen"], apart := false, narrowed := true }
def FnExactCutUptoSaid : Prop := fnExactCutUptoRow.holds Try.pinned (OpenSpec.upto fnExactCutSpec)

/-- 'laws.FnExactDiskValid', WHERE WHAT IT READS IS OF BULK AT MOST 1048576: true; the input reads as it did. -/
def fnExactDiskValidUptoRow : OpenClaim := { program := "ytkcenblmbodbbaa", sum := "0b2f8bd355d8b16de48154fc386da2037da8ec5ace391cdc5d8dd15a5bf70d77", func := "loop.example/s02349/laws.FnExactDiskValid", spec := "fnExactDiskValid", unfollowed := true, recurses := true, apart := false, narrowed := true }
def FnExactDiskValidUptoSaid : Prop := fnExactDiskValidUptoRow.holds Try.pinned (OpenSpec.upto fnExactDiskValidSpec)

/-- 'laws.FnPieces', WHERE WHAT IT READS IS OF BULK AT MOST 1048576: true; the input reads as it did. -/
def fnPiecesUptoRow : OpenClaim := { program := "ytkcenblmbodbbaa", sum := "0b2f8bd355d8b16de48154fc386da2037da8ec5ace391cdc5d8dd15a5bf70d77", func := "loop.example/s02349/laws.FnPieces", spec := "fnPieces", inPlace := ["internal/bytealg.IndexByte", "internal/bytealg.Index"], unfollowed := true, recurses := true, named := ["internal/bytealg.MaxLen"], apart := false, narrowed := true }
def FnPiecesUptoSaid : Prop := fnPiecesUptoRow.holds Try.pinned (OpenSpec.upto fnPiecesSpec)

/-- 'laws.FnExactDiskRead', WHERE WHAT IT READS IS OF BULK AT MOST 1048576: true; the input reads as it did. -/
def fnExactDiskReadUptoRow : OpenClaim := { program := "ytkcenblmbodbbaa", sum := "0b2f8bd355d8b16de48154fc386da2037da8ec5ace391cdc5d8dd15a5bf70d77", func := "loop.example/s02349/laws.FnExactDiskRead", spec := "fnExactDiskRead", unfollowed := true, recurses := true, apart := false, narrowed := true }
def FnExactDiskReadUptoSaid : Prop := fnExactDiskReadUptoRow.holds Try.pinned (OpenSpec.upto fnExactDiskReadSpec)

/-- 'laws.FnExactDiskCrash', WHERE WHAT IT READS IS OF BULK AT MOST 1048576: true; the input reads as it did. -/
def fnExactDiskCrashUptoRow : OpenClaim := { program := "ytkcenblmbodbbaa", sum := "0b2f8bd355d8b16de48154fc386da2037da8ec5ace391cdc5d8dd15a5bf70d77", func := "loop.example/s02349/laws.FnExactDiskCrash", spec := "fnExactDiskCrash", unfollowed := true, recurses := true, apart := false, narrowed := true }
def FnExactDiskCrashUptoSaid : Prop := fnExactDiskCrashUptoRow.holds Try.pinned (OpenSpec.upto fnExactDiskCrashSpec)

end Rows
end Go.Proofs.Ytkcenblmbodbbaa
