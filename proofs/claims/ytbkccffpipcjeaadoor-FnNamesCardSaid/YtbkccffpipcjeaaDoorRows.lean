/-
  NARROWER THAN 'FOR EVERY INPUT', by the rows' own cells (each row's printed sentence says how): FnExactFlagList: laid · FnExactMailName: laid · FnExactReadFlagList: laid · FnExactReadMailName: laid · FnNames: laid.
  DERIVED. THE GIVEN ROWS OF THIS SEAT. 5 by the template 'for every input the law returns true; each argument reads behind the call as it read before'; 0 by the template 'total and deterministic' (their statements: YtbkccffpipcjeaaDoorTotals.lean).
  GIVEN WITH THE SEED: the statements are not yours to turn. If you find one false, say at which input.
  Laid BY PROGRAM, IN A SANDBOX (cutbox-rows.mjs): the forced cells as the released guide's own fill.sh prints them over the translation c21d8885bef411ac… (all of the seat's roots in one cut). By AI agents, Wed Nov 11 2026. No macro, syntax, notation, axiom, sorry.
-/
import Derived.Test.YtbkccffpipcjeaaDoorChecked
import GoSem.PinnedTables
import GoSem.Claim
import GoSem.ClaimJoined
import GoSem.ClaimMapViews
import Derived.JoinedTies
import Derived.KernelRfl
namespace Go.Proofs.YtbkccffpipcjeaaDoor
/- THE CELL 'sum', in the pinned program and in every row, IS THE sha256 OF THE DUMP (.gsa) THAT YtbkccffpipcjeaaDoorProg.lean LOADS. Nothing in Lean hashes anything: it is a label: what it is worth is what the hold of that sum in a sandbox is worth. -/
noncomputable def Tryd.pinned : Pinned := { name := "ytbkccffpipcjeaadoor", sum := "c21d8885bef411ac755cd11d39e2a8109a4bd17c3a6075cbcdcecdeee4ad9fe2", checked := Tryd.checked }
namespace Rows
def none {H : Type} : Left H := { results := [], args := [] }

/- WHAT THE LISTED PACKAGE-LEVEL VARIABLES READ AS WHEN THE CALL BEGINS. Each datum BY PROGRAM (the guide's laid-datum.mjs) off the statement by which the dump's own 'gosem.cut.vars' lays the variable. In a bare row this is a premise. The card (YtbkccffpipcjeaaDoorCards.lean) ties it to the program's text. -/
def laid_loop_example_s02349_impl_flagNames {H : Type} : DataW H := .slice [.lit (.string [92, 65, 110, 115, 119, 101, 114, 101, 100]), .lit (.string [92, 70, 108, 97, 103, 103, 101, 100]), .lit (.string [92, 68, 101, 108, 101, 116, 101, 100]), .lit (.string [92, 83, 101, 101, 110]), .lit (.string [92, 68, 114, 97, 102, 116])] []
def laid_math_bits_deBruijn32tab {H : Type} : DataW H := .agg [.lit (.int .u8 0), .lit (.int .u8 1), .lit (.int .u8 28), .lit (.int .u8 2), .lit (.int .u8 29), .lit (.int .u8 14), .lit (.int .u8 24), .lit (.int .u8 3), .lit (.int .u8 30), .lit (.int .u8 22), .lit (.int .u8 20), .lit (.int .u8 15), .lit (.int .u8 25), .lit (.int .u8 17), .lit (.int .u8 4), .lit (.int .u8 8), .lit (.int .u8 31), .lit (.int .u8 27), .lit (.int .u8 13), .lit (.int .u8 23), .lit (.int .u8 21), .lit (.int .u8 19), .lit (.int .u8 16), .lit (.int .u8 7), .lit (.int .u8 26), .lit (.int .u8 12), .lit (.int .u8 18), .lit (.int .u8 6), .lit (.int .u8 11), .lit (.int .u8 5), .lit (.int .u8 10), .lit (.int .u8 9)]
def laid_math_bits_deBruijn64tab {H : Type} : DataW H := .agg [.lit (.int .u8 0), .lit (.int .u8 1), .lit (.int .u8 56), .lit (.int .u8 2), .lit (.int .u8 57), .lit (.int .u8 49), .lit (.int .u8 28), .lit (.int .u8 3), .lit (.int .u8 61), .lit (.int .u8 58), .lit (.int .u8 42), .lit (.int .u8 50), .lit (.int .u8 38), .lit (.int .u8 29), .lit (.int .u8 17), .lit (.int .u8 4), .lit (.int .u8 62), .lit (.int .u8 47), .lit (.int .u8 59), .lit (.int .u8 36), .lit (.int .u8 45), .lit (.int .u8 43), .lit (.int .u8 51), .lit (.int .u8 22), .lit (.int .u8 53), .lit (.int .u8 39), .lit (.int .u8 33), .lit (.int .u8 30), .lit (.int .u8 24), .lit (.int .u8 18), .lit (.int .u8 12), .lit (.int .u8 5), .lit (.int .u8 63), .lit (.int .u8 55), .lit (.int .u8 48), .lit (.int .u8 27), .lit (.int .u8 60), .lit (.int .u8 41), .lit (.int .u8 37), .lit (.int .u8 16), .lit (.int .u8 46), .lit (.int .u8 35), .lit (.int .u8 44), .lit (.int .u8 21), .lit (.int .u8 52), .lit (.int .u8 32), .lit (.int .u8 23), .lit (.int .u8 11), .lit (.int .u8 54), .lit (.int .u8 26), .lit (.int .u8 40), .lit (.int .u8 15), .lit (.int .u8 34), .lit (.int .u8 20), .lit (.int .u8 31), .lit (.int .u8 10), .lit (.int .u8 25), .lit (.int .u8 14), .lit (.int .u8 19), .lit (.int .u8 9), .lit (.int .u8 13), .lit (.int .u8 8), .lit (.int .u8 7), .lit (.int .u8 6)]
def laid_internal_strconv_uint64pow10 {H : Type} : DataW H := .agg [.lit (.int .u64 1), .lit (.int .u64 10), .lit (.int .u64 100), .lit (.int .u64 1000), .lit (.int .u64 10000), .lit (.int .u64 100000), .lit (.int .u64 1000000), .lit (.int .u64 10000000), .lit (.int .u64 100000000), .lit (.int .u64 1000000000), .lit (.int .u64 10000000000), .lit (.int .u64 100000000000), .lit (.int .u64 1000000000000), .lit (.int .u64 10000000000000), .lit (.int .u64 100000000000000), .lit (.int .u64 1000000000000000), .lit (.int .u64 10000000000000000), .lit (.int .u64 100000000000000000), .lit (.int .u64 1000000000000000000), .lit (.int .u64 10000000000000000000)]
def laid_loop_example_s02349_impl_letters {H : Type} : DataW H := .agg [.agg [.lit (.int .u8 68), .lit (.int .u32 16)], .agg [.lit (.int .u8 70), .lit (.int .u32 2)], .agg [.lit (.int .u8 82), .lit (.int .u32 1)], .agg [.lit (.int .u8 83), .lit (.int .u32 8)], .agg [.lit (.int .u8 84), .lit (.int .u32 4)]]
def laid_unicode_utf8_acceptRanges {H : Type} : DataW H := .agg [.agg [.lit (.int .u8 128), .lit (.int .u8 191)], .agg [.lit (.int .u8 160), .lit (.int .u8 191)], .agg [.lit (.int .u8 128), .lit (.int .u8 159)], .agg [.lit (.int .u8 144), .lit (.int .u8 191)], .agg [.lit (.int .u8 128), .lit (.int .u8 143)], .agg [.lit (.int .u8 0), .lit (.int .u8 0)], .agg [.lit (.int .u8 0), .lit (.int .u8 0)], .agg [.lit (.int .u8 0), .lit (.int .u8 0)], .agg [.lit (.int .u8 0), .lit (.int .u8 0)], .agg [.lit (.int .u8 0), .lit (.int .u8 0)], .agg [.lit (.int .u8 0), .lit (.int .u8 0)], .agg [.lit (.int .u8 0), .lit (.int .u8 0)], .agg [.lit (.int .u8 0), .lit (.int .u8 0)], .agg [.lit (.int .u8 0), .lit (.int .u8 0)], .agg [.lit (.int .u8 0), .lit (.int .u8 0)], .agg [.lit (.int .u8 0), .lit (.int .u8 0)]]
/-- One of Go's own tables, pinned by name: the form's constant. -/
def laid_unicode_utf8_first : DataW Unit := Go.Pinned.utf8First
def laid_strconv_ErrRange {H : Type} : DataW H := .iface "*errors.errorString" (.ptr (.agg [.lit (.string [118, 97, 108, 117, 101, 32, 111, 117, 116, 32, 111, 102, 32, 114, 97, 110, 103, 101])]))
def laid_strconv_ErrSyntax {H : Type} : DataW H := .iface "*errors.errorString" (.ptr (.agg [.lit (.string [105, 110, 118, 97, 108, 105, 100, 32, 115, 121, 110, 116, 97, 120])]))

/-- 'laws.FnExactFlagList': WHATEVER THE INPUT: true; the input reads as it did. -/
def fnExactFlagListSpec : ChangeSpec := { name := "fnExactFlagList", vars := ["loop.example/s02349/impl.flagNames"], fn := fun _ => fun
  | [d, g1] => { results := [.lit (.bool true)], args := [d], vars := [g1] }
  | _ => none }
def fnExactFlagListRow : OpenClaim := { program := "ytbkccffpipcjeaadoor", sum := "c21d8885bef411ac755cd11d39e2a8109a4bd17c3a6075cbcdcecdeee4ad9fe2", func := "loop.example/s02349/laws.FnExactFlagList", spec := "fnExactFlagList", inPlace := ["internal/abi.NoEscape", "internal/bytealg.MakeNoZero"], named := ["loop.example/s02349/impl.flagNames"], apart := false, laid := [("loop.example/s02349/impl.flagNames", laid_loop_example_s02349_impl_flagNames)] }
def FnExactFlagListSaid : Prop := fnExactFlagListRow.holds Tryd.pinned (OpenSpec.ofChange fnExactFlagListSpec)

/-- ITS FALSE NEIGHBOUR: 'it returns false'. Refute it at one input. -/
def fnExactFlagListWrong : ChangeSpec := { name := "fnExactFlagList", vars := ["loop.example/s02349/impl.flagNames"], fn := fun _ => fun
  | [d, g1] => { results := [.lit (.bool false)], args := [d], vars := [g1] }
  | _ => none }
def FnExactFlagListWrongFalsely : Prop := fnExactFlagListRow.holds Tryd.pinned (OpenSpec.ofChange fnExactFlagListWrong)

/-- 'laws.FnExactMailName': WHATEVER THE INPUT: true; the input reads as it did. -/
def fnExactMailNameSpec : ChangeSpec := { name := "fnExactMailName", vars := ["loop.example/s02349/impl.letters"], fn := fun _ => fun
  | [d1, d2, d3, g1] => { results := [.lit (.bool true)], args := [d1, d2, d3], vars := [g1] }
  | _ => none }
def fnExactMailNameRow : OpenClaim := { program := "ytbkccffpipcjeaadoor", sum := "c21d8885bef411ac755cd11d39e2a8109a4bd17c3a6075cbcdcecdeee4ad9fe2", func := "loop.example/s02349/laws.FnExactMailName", spec := "fnExactMailName", named := ["internal/strconv.uint64pow10", "math/bits.deBruijn32tab", "math/bits.deBruijn64tab", "loop.example/s02349/impl.letters"], apart := false, laid := [("math/bits.deBruijn32tab", laid_math_bits_deBruijn32tab), ("math/bits.deBruijn64tab", laid_math_bits_deBruijn64tab), ("internal/strconv.uint64pow10", laid_internal_strconv_uint64pow10), ("loop.example/s02349/impl.letters", laid_loop_example_s02349_impl_letters)] }
def FnExactMailNameSaid : Prop := fnExactMailNameRow.holds Tryd.pinned (OpenSpec.ofChange fnExactMailNameSpec)

/-- ITS FALSE NEIGHBOUR: 'it returns false'. Refute it at one input. -/
def fnExactMailNameWrong : ChangeSpec := { name := "fnExactMailName", vars := ["loop.example/s02349/impl.letters"], fn := fun _ => fun
  | [d1, d2, d3, g1] => { results := [.lit (.bool false)], args := [d1, d2, d3], vars := [g1] }
  | _ => none }
def FnExactMailNameWrongFalsely : Prop := fnExactMailNameRow.holds Tryd.pinned (OpenSpec.ofChange fnExactMailNameWrong)

/-- 'laws.FnExactReadFlagList': WHATEVER THE INPUT: true; the input reads as it did. -/
def fnExactReadFlagListSpec : ChangeSpec := { name := "fnExactReadFlagList", vars := ["loop.example/s02349/impl.flagNames"], fn := fun _ => fun
  | [d, g1] => { results := [.lit (.bool true)], args := [d], vars := [g1] }
  | _ => none }
def fnExactReadFlagListRow : OpenClaim := { program := "ytbkccffpipcjeaadoor", sum := "c21d8885bef411ac755cd11d39e2a8109a4bd17c3a6075cbcdcecdeee4ad9fe2", func := "loop.example/s02349/laws.FnExactReadFlagList", spec := "fnExactReadFlagList", inPlace := ["internal/bytealg.CountString", "internal/bytealg.IndexByteString", "internal/bytealg.IndexString"], named := ["unicode/utf8.first", "unicode/utf8.acceptRanges", "internal/bytealg.MaxLen", "loop.example/s02349/impl.flagNames"], apart := false, laid := [("unicode/utf8.acceptRanges", laid_unicode_utf8_acceptRanges), ("loop.example/s02349/impl.flagNames", laid_loop_example_s02349_impl_flagNames), ("unicode/utf8.first", laid_unicode_utf8_first)] }
def FnExactReadFlagListSaid : Prop := fnExactReadFlagListRow.holds Tryd.pinned (OpenSpec.ofChange fnExactReadFlagListSpec)

/-- ITS FALSE NEIGHBOUR: 'it returns false'. Refute it at one input. -/
def fnExactReadFlagListWrong : ChangeSpec := { name := "fnExactReadFlagList", vars := ["loop.example/s02349/impl.flagNames"], fn := fun _ => fun
  | [d, g1] => { results := [.lit (.bool false)], args := [d], vars := [g1] }
  | _ => none }
def FnExactReadFlagListWrongFalsely : Prop := fnExactReadFlagListRow.holds Tryd.pinned (OpenSpec.ofChange fnExactReadFlagListWrong)

/-- 'laws.FnExactReadMailName': WHATEVER THE INPUT: true; the input reads as it did. -/
def fnExactReadMailNameSpec : ChangeSpec := { name := "fnExactReadMailName", vars := ["loop.example/s02349/impl.letters"], fn := fun _ => fun
  | [d, g1] => { results := [.lit (.bool true)], args := [d], vars := [g1] }
  | _ => none }
def fnExactReadMailNameRow : OpenClaim := { program := "ytbkccffpipcjeaadoor", sum := "c21d8885bef411ac755cd11d39e2a8109a4bd17c3a6075cbcdcecdeee4ad9fe2", func := "loop.example/s02349/laws.FnExactReadMailName", spec := "fnExactReadMailName", inPlace := ["internal/bytealg.IndexByteString", "internal/bytealg.IndexString"], named := ["internal/bytealg.MaxLen", "strconv.ErrSyntax", "strconv.ErrRange", "internal/strconv.uint64pow10", "math/bits.deBruijn32tab", "math/bits.deBruijn64tab", "loop.example/s02349/impl.letters"], apart := false, laid := [("math/bits.deBruijn32tab", laid_math_bits_deBruijn32tab), ("math/bits.deBruijn64tab", laid_math_bits_deBruijn64tab), ("internal/strconv.uint64pow10", laid_internal_strconv_uint64pow10), ("strconv.ErrRange", laid_strconv_ErrRange), ("strconv.ErrSyntax", laid_strconv_ErrSyntax), ("loop.example/s02349/impl.letters", laid_loop_example_s02349_impl_letters)] }
def FnExactReadMailNameSaid : Prop := fnExactReadMailNameRow.holds Tryd.pinned (OpenSpec.ofChange fnExactReadMailNameSpec)

/-- ITS FALSE NEIGHBOUR: 'it returns false'. Refute it at one input. -/
def fnExactReadMailNameWrong : ChangeSpec := { name := "fnExactReadMailName", vars := ["loop.example/s02349/impl.letters"], fn := fun _ => fun
  | [d, g1] => { results := [.lit (.bool false)], args := [d], vars := [g1] }
  | _ => none }
def FnExactReadMailNameWrongFalsely : Prop := fnExactReadMailNameRow.holds Tryd.pinned (OpenSpec.ofChange fnExactReadMailNameWrong)

/-- 'laws.FnNames': WHATEVER THE INPUT: true; the input reads as it did. -/
def fnNamesSpec : ChangeSpec := { name := "fnNames", vars := ["loop.example/s02349/impl.flagNames", "loop.example/s02349/impl.letters"], fn := fun _ => fun
  | [d, g1, g2] => { results := [.lit (.bool true)], args := [d], vars := [g1, g2] }
  | _ => none }
def fnNamesRow : OpenClaim := { program := "ytbkccffpipcjeaadoor", sum := "c21d8885bef411ac755cd11d39e2a8109a4bd17c3a6075cbcdcecdeee4ad9fe2", func := "loop.example/s02349/laws.FnNames", spec := "fnNames", inPlace := ["internal/abi.NoEscape", "internal/bytealg.MakeNoZero", "internal/bytealg.CountString", "internal/bytealg.IndexByteString", "internal/bytealg.IndexString"], named := ["loop.example/s02349/impl.flagNames", "unicode/utf8.first", "unicode/utf8.acceptRanges", "internal/bytealg.MaxLen", "loop.example/s02349/impl.letters", "internal/strconv.uint64pow10", "math/bits.deBruijn32tab", "math/bits.deBruijn64tab", "strconv.ErrSyntax", "strconv.ErrRange"], apart := false, laid := [("math/bits.deBruijn32tab", laid_math_bits_deBruijn32tab), ("math/bits.deBruijn64tab", laid_math_bits_deBruijn64tab), ("internal/strconv.uint64pow10", laid_internal_strconv_uint64pow10), ("unicode/utf8.acceptRanges", laid_unicode_utf8_acceptRanges), ("strconv.ErrRange", laid_strconv_ErrRange), ("strconv.ErrSyntax", laid_strconv_ErrSyntax), ("loop.example/s02349/impl.letters", laid_loop_example_s02349_impl_letters), ("loop.example/s02349/impl.flagNames", laid_loop_example_s02349_impl_flagNames), ("unicode/utf8.first", laid_unicode_utf8_first)] }
def FnNamesSaid : Prop := fnNamesRow.holds Tryd.pinned (OpenSpec.ofChange fnNamesSpec)

/-- ITS FALSE NEIGHBOUR: 'it returns false'. Refute it at one input. -/
def fnNamesWrong : ChangeSpec := { name := "fnNames", vars := ["loop.example/s02349/impl.flagNames", "loop.example/s02349/impl.letters"], fn := fun _ => fun
  | [d, g1, g2] => { results := [.lit (.bool false)], args := [d], vars := [g1, g2] }
  | _ => none }
def FnNamesWrongFalsely : Prop := fnNamesRow.holds Tryd.pinned (OpenSpec.ofChange fnNamesWrong)

/- THE SECOND FORM. 'bulk': how many values and letters a reading holds, each counted each time it is reached (what is shared counts as often as it is met; a slice's spare places count too). A statement '..UptoSaid' is the law's where the arguments, and the package variables that the reading takes, are together of bulk at most 1048576: NARROWER than '..Said'. Prove '..Said' where nothing that the law and all that it calls make is longer than what came in: it says more and counts as full. Else prove '..UptoSaid'. A law counts once. -/
mutual
def uptoBulk {H : Type} : DataW H → Nat
  | .lit (.string bytes) => bytes.length + 1
  | .lit _ => 1
  | .nil => 1
  | .ptr d => uptoBulk d + 1
  | .slice elems spare => uptoBulkAll elems + uptoBulkAll spare + 1
  | .agg parts => uptoBulkAll parts + 1
  | .iface _ d => uptoBulk d + 1
  | .map entries => uptoBulkEntries entries + 1
  | .held _ => 1
def uptoBulkAll {H : Type} : List (DataW H) → Nat
  | [] => 0
  | d :: r => uptoBulk d + uptoBulkAll r
def uptoBulkEntries {H : Type} : List (Lit × DataW H) → Nat
  | [] => 0
  | x :: r => uptoBulkEntry x + uptoBulkEntries r
def uptoBulkEntry {H : Type} : Lit × DataW H → Nat
  | (.string bytes, d) => bytes.length + uptoBulk d + 1
  | (_, d) => uptoBulk d + 1
 end
def uptoSmall : (H : Type) → List (DataW H) → Bool := fun _ ds => decide (uptoBulkAll ds ≤ 1048576)
def OpenSpec.upto (s : _root_.Go.ChangeSpec) : _root_.Go.OpenSpec := { _root_.Go.OpenSpec.ofChange s with cond := some uptoSmall }

/-- 'laws.FnExactFlagList', WHERE WHAT IT READS IS OF BULK AT MOST 1048576: true; the input reads as it did. -/
def fnExactFlagListUptoRow : OpenClaim := { program := "ytbkccffpipcjeaadoor", sum := "c21d8885bef411ac755cd11d39e2a8109a4bd17c3a6075cbcdcecdeee4ad9fe2", func := "loop.example/s02349/laws.FnExactFlagList", spec := "fnExactFlagList", inPlace := ["internal/abi.NoEscape", "internal/bytealg.MakeNoZero"], named := ["loop.example/s02349/impl.flagNames"], apart := false, laid := [("loop.example/s02349/impl.flagNames", laid_loop_example_s02349_impl_flagNames)], narrowed := true }
def FnExactFlagListUptoSaid : Prop := fnExactFlagListUptoRow.holds Tryd.pinned (OpenSpec.upto fnExactFlagListSpec)

/-- 'laws.FnExactMailName', WHERE WHAT IT READS IS OF BULK AT MOST 1048576: true; the input reads as it did. -/
def fnExactMailNameUptoRow : OpenClaim := { program := "ytbkccffpipcjeaadoor", sum := "c21d8885bef411ac755cd11d39e2a8109a4bd17c3a6075cbcdcecdeee4ad9fe2", func := "loop.example/s02349/laws.FnExactMailName", spec := "fnExactMailName", named := ["internal/strconv.uint64pow10", "math/bits.deBruijn32tab", "math/bits.deBruijn64tab", "loop.example/s02349/impl.letters"], apart := false, laid := [("math/bits.deBruijn32tab", laid_math_bits_deBruijn32tab), ("math/bits.deBruijn64tab", laid_math_bits_deBruijn64tab), ("internal/strconv.uint64pow10", laid_internal_strconv_uint64pow10), ("loop.example/s02349/impl.letters", laid_loop_example_s02349_impl_letters)], narrowed := true }
def FnExactMailNameUptoSaid : Prop := fnExactMailNameUptoRow.holds Tryd.pinned (OpenSpec.upto fnExactMailNameSpec)

/-- 'laws.FnExactReadFlagList', WHERE WHAT IT READS IS OF BULK AT MOST 1048576: true; the input reads as it did. -/
def fnExactReadFlagListUptoRow : OpenClaim := { program := "ytbkccffpipcjeaadoor", sum := "c21d8885bef411ac755cd11d39e2a8109a4bd17c3a6075cbcdcecdeee4ad9fe2", func := "loop.example/s02349/laws.FnExactReadFlagList", spec := "fnExactReadFlagList", inPlace := ["internal/bytealg.CountString", "internal/bytealg.IndexByteString", "internal/bytealg.IndexString"], named := ["unicode/utf8.first", "unicode/utf8.acceptRanges", "internal/bytealg.MaxLen", "loop.example/s02349/impl.flagNames"], apart := false, laid := [("unicode/utf8.acceptRanges", laid_unicode_utf8_acceptRanges), ("loop.example/s02349/impl.flagNames", laid_loop_example_s02349_impl_flagNames), ("unicode/utf8.first", laid_unicode_utf8_first)], narrowed := true }
def FnExactReadFlagListUptoSaid : Prop := fnExactReadFlagListUptoRow.holds Tryd.pinned (OpenSpec.upto fnExactReadFlagListSpec)

/-- 'laws.FnExactReadMailName', WHERE WHAT IT READS IS OF BULK AT MOST 1048576: true; the input reads as it did. -/
def fnExactReadMailNameUptoRow : OpenClaim := { program := "ytbkccffpipcjeaadoor", sum := "c21d8885bef411ac755cd11d39e2a8109a4bd17c3a6075cbcdcecdeee4ad9fe2", func := "loop.example/s02349/laws.FnExactReadMailName", spec := "fnExactReadMailName", inPlace := ["internal/bytealg.IndexByteString", "internal/bytealg.IndexString"], named := ["internal/bytealg.MaxLen", "strconv.ErrSyntax", "strconv.ErrRange", "internal/strconv.uint64pow10", "math/bits.deBruijn32tab", "math/bits.deBruijn64tab", "loop.example/s02349/impl.letters"], apart := false, laid := [("math/bits.deBruijn32tab", laid_math_bits_deBruijn32tab), ("math/bits.deBruijn64tab", laid_math_bits_deBruijn64tab), ("internal/strconv.uint64pow10", laid_internal_strconv_uint64pow10), ("strconv.ErrRange", laid_strconv_ErrRange), ("strconv.ErrSyntax", laid_strconv_ErrSyntax), ("loop.example/s02349/impl.letters", laid_loop_example_s02349_impl_letters)], narrowed := true }
def FnExactReadMailNameUptoSaid : Prop := fnExactReadMailNameUptoRow.holds Tryd.pinned (OpenSpec.upto fnExactReadMailNameSpec)

/-- 'laws.FnNames', WHERE WHAT IT READS IS OF BULK AT MOST 1048576: true; the input reads as it did. -/
def fnNamesUptoRow : OpenClaim := { program := "ytbkccffpipcjeaadoor", sum := "c21d8885bef411ac755cd11d39e2a8109a4bd17c3a6075cbcdcecdeee4ad9fe2", func := "loop.example/s02349/laws.FnNames", spec := "fnNames", inPlace := ["internal/abi.NoEscape", "internal/bytealg.MakeNoZero", "internal/bytealg.CountString", "internal/bytealg.IndexByteString", "internal/bytealg.IndexString"], named := ["loop.example/s02349/impl.flagNames", "unicode/utf8.first", "unicode/utf8.acceptRanges", "internal/bytealg.MaxLen", "loop.example/s02349/impl.letters", "internal/strconv.uint64pow10", "math/bits.deBruijn32tab", "math/bits.deBruijn64tab", "strconv.ErrSyntax", "strconv.ErrRange"], apart := false, laid := [("math/bits.deBruijn32tab", laid_math_bits_deBruijn32tab), ("math/bits.deBruijn64tab", laid_math_bits_deBruijn64tab), ("internal/strconv.uint64pow10", laid_internal_strconv_uint64pow10), ("unicode/utf8.acceptRanges", laid_unicode_utf8_acceptRanges), ("strconv.ErrRange", laid_strconv_ErrRange), ("strconv.ErrSyntax", laid_strconv_ErrSyntax), ("loop.example/s02349/impl.letters", laid_loop_example_s02349_impl_letters), ("loop.example/s02349/impl.flagNames", laid_loop_example_s02349_impl_flagNames), ("unicode/utf8.first", laid_unicode_utf8_first)], narrowed := true }
def FnNamesUptoSaid : Prop := fnNamesUptoRow.holds Tryd.pinned (OpenSpec.upto fnNamesSpec)

end Rows
end Go.Proofs.YtbkccffpipcjeaaDoor
