/-
  NARROWER THAN 'FOR EVERY INPUT', by the rows' own cells (each row's printed sentence says how): FnExactFlagLetters: laid · FnExactLetterFlags: laid.
  DERIVED. THE GIVEN ROWS OF THIS SEAT. 2 by the template 'for every input the law returns true; each argument reads behind the call as it read before'; 0 by the template 'total and deterministic' (their statements: YtciaoedjiggonaaDoorTotals.lean).
  GIVEN WITH THE SEED: the statements are not yours to turn. If you find one false, say at which input.
  Laid BY PROGRAM, IN A SANDBOX (cutbox-rows.mjs): the forced cells as the released guide's own fill.sh prints them over the translation d7bb3fbc901c01e9… (all of the seat's roots in one cut). By AI agents, Wed Nov 11 2026. No macro, syntax, notation, axiom, sorry.
-/
import Derived.Test.YtciaoedjiggonaaDoorChecked
import GoSem.Claim
import GoSem.ClaimJoined
import GoSem.ClaimMapViews
import Derived.JoinedTies
import Derived.KernelRfl
namespace Go.Proofs.YtciaoedjiggonaaDoor
/- THE CELL 'sum', in the pinned program and in every row, IS THE sha256 OF THE DUMP (.gsa) THAT YtciaoedjiggonaaDoorProg.lean LOADS. Nothing in Lean hashes anything: it is a label: what it is worth is what the hold of that sum in a sandbox is worth. -/
noncomputable def Tryd.pinned : Pinned := { name := "ytciaoedjiggonaadoor", sum := "d7bb3fbc901c01e92f5f224b865f974307adaa1e536fcf721d64181ea80b8226", checked := Tryd.checked }
namespace Rows
def none {H : Type} : Left H := { results := [], args := [] }

/- WHAT THE LISTED PACKAGE-LEVEL VARIABLES READ AS WHEN THE CALL BEGINS. Each datum BY PROGRAM (the guide's laid-datum.mjs) off the statement by which the dump's own 'gosem.cut.vars' lays the variable. In a bare row this is a premise. The card (YtciaoedjiggonaaDoorCards.lean) ties it to the program's text. -/
def laid_loop_example_s02349_impl_letters {H : Type} : DataW H := .agg [.agg [.lit (.int .u8 68), .lit (.int .u32 16)], .agg [.lit (.int .u8 70), .lit (.int .u32 2)], .agg [.lit (.int .u8 82), .lit (.int .u32 1)], .agg [.lit (.int .u8 83), .lit (.int .u32 8)], .agg [.lit (.int .u8 84), .lit (.int .u32 4)]]

/-- 'laws.FnExactFlagLetters': WHATEVER THE INPUT: true; the input reads as it did. -/
def fnExactFlagLettersSpec : ChangeSpec := { name := "fnExactFlagLetters", vars := ["loop.example/s02349/impl.letters"], fn := fun _ => fun
  | [d, g1] => { results := [.lit (.bool true)], args := [d], vars := [g1] }
  | _ => none }
def fnExactFlagLettersRow : OpenClaim := { program := "ytciaoedjiggonaadoor", sum := "d7bb3fbc901c01e92f5f224b865f974307adaa1e536fcf721d64181ea80b8226", func := "loop.example/s02349/laws.FnExactFlagLetters", spec := "fnExactFlagLetters", named := ["loop.example/s02349/impl.letters"], apart := false, laid := [("loop.example/s02349/impl.letters", laid_loop_example_s02349_impl_letters)] }
def FnExactFlagLettersSaid : Prop := fnExactFlagLettersRow.holds Tryd.pinned (OpenSpec.ofChange fnExactFlagLettersSpec)

/-- ITS FALSE NEIGHBOUR: 'it returns false'. Refute it at one input. -/
def fnExactFlagLettersWrong : ChangeSpec := { name := "fnExactFlagLetters", vars := ["loop.example/s02349/impl.letters"], fn := fun _ => fun
  | [d, g1] => { results := [.lit (.bool false)], args := [d], vars := [g1] }
  | _ => none }
def FnExactFlagLettersWrongFalsely : Prop := fnExactFlagLettersRow.holds Tryd.pinned (OpenSpec.ofChange fnExactFlagLettersWrong)

/-- 'laws.FnExactLetterFlags': WHATEVER THE INPUT: true; the input reads as it did. -/
def fnExactLetterFlagsSpec : ChangeSpec := { name := "fnExactLetterFlags", vars := ["loop.example/s02349/impl.letters"], fn := fun _ => fun
  | [d, g1] => { results := [.lit (.bool true)], args := [d], vars := [g1] }
  | _ => none }
def fnExactLetterFlagsRow : OpenClaim := { program := "ytciaoedjiggonaadoor", sum := "d7bb3fbc901c01e92f5f224b865f974307adaa1e536fcf721d64181ea80b8226", func := "loop.example/s02349/laws.FnExactLetterFlags", spec := "fnExactLetterFlags", named := ["loop.example/s02349/impl.letters"], apart := false, laid := [("loop.example/s02349/impl.letters", laid_loop_example_s02349_impl_letters)] }
def FnExactLetterFlagsSaid : Prop := fnExactLetterFlagsRow.holds Tryd.pinned (OpenSpec.ofChange fnExactLetterFlagsSpec)

/-- ITS FALSE NEIGHBOUR: 'it returns false'. Refute it at one input. -/
def fnExactLetterFlagsWrong : ChangeSpec := { name := "fnExactLetterFlags", vars := ["loop.example/s02349/impl.letters"], fn := fun _ => fun
  | [d, g1] => { results := [.lit (.bool false)], args := [d], vars := [g1] }
  | _ => none }
def FnExactLetterFlagsWrongFalsely : Prop := fnExactLetterFlagsRow.holds Tryd.pinned (OpenSpec.ofChange fnExactLetterFlagsWrong)

/- THE SECOND FORM. 'bulk': how many values and letters a reading holds, each counted each time it is reached (what is shared counts as often as it is met; a slice's spare places count too). A statement '..UptoSaid' is the law's where the arguments, and the package variables that the reading takes, are together of bulk at most 1048576: NARROWER than '..Said'. Prove '..Said' where nothing that the law and all that it calls make is longer than what came in: it says more and counts as full. Else prove '..UptoSaid'. A law counts once. -/
mutual
def uptoBulk {H : Type} : DataW H → Nat
  | .lit (.string bytes) => bytes.length + 1
  | .lit _ => 1
  | .nil => 1
  | .ptr d => uptoBulk d + 1
  | .slice elems spare => uptoBulkAll elems + uptoBulkAll spare + 1
  | .agg parts => uptoBulkAll parts + 1
  | .iface _ d => uptoBulk d + 1
  | .map entries => uptoBulkEntries entries + 1
  | .held _ => 1
def uptoBulkAll {H : Type} : List (DataW H) → Nat
  | [] => 0
  | d :: r => uptoBulk d + uptoBulkAll r
def uptoBulkEntries {H : Type} : List (Lit × DataW H) → Nat
  | [] => 0
  | x :: r => uptoBulkEntry x + uptoBulkEntries r
def uptoBulkEntry {H : Type} : Lit × DataW H → Nat
  | (.string bytes, d) => bytes.length + uptoBulk d + 1
  | (_, d) => uptoBulk d + 1
 end
def uptoSmall : (H : Type) → List (DataW H) → Bool := fun _ ds => decide (uptoBulkAll ds ≤ 1048576)
def OpenSpec.upto (s : _root_.Go.ChangeSpec) : _root_.Go.OpenSpec := { _root_.Go.OpenSpec.ofChange s with cond := some uptoSmall }

/-- 'laws.FnExactFlagLetters', WHERE WHAT IT READS IS OF BULK AT MOST 1048576: true; the input reads as it did. -/
def fnExactFlagLettersUptoRow : OpenClaim := { program := "ytciaoedjiggonaadoor", sum := "d7bb3fbc901c01e92f5f224b865f974307adaa1e536fcf721d64181ea80b8226", func := "loop.example/s02349/laws.FnExactFlagLetters", spec := "fnExactFlagLetters", named := ["loop.example/s02349/impl.letters"], apart := false, laid := [("loop.example/s02349/impl.letters", laid_loop_example_s02349_impl_letters)], narrowed := true }
def FnExactFlagLettersUptoSaid : Prop := fnExactFlagLettersUptoRow.holds Tryd.pinned (OpenSpec.upto fnExactFlagLettersSpec)

/-- 'laws.FnExactLetterFlags', WHERE WHAT IT READS IS OF BULK AT MOST 1048576: true; the input reads as it did. -/
def fnExactLetterFlagsUptoRow : OpenClaim := { program := "ytciaoedjiggonaadoor", sum := "d7bb3fbc901c01e92f5f224b865f974307adaa1e536fcf721d64181ea80b8226", func := "loop.example/s02349/laws.FnExactLetterFlags", spec := "fnExactLetterFlags", named := ["loop.example/s02349/impl.letters"], apart := false, laid := [("loop.example/s02349/impl.letters", laid_loop_example_s02349_impl_letters)], narrowed := true }
def FnExactLetterFlagsUptoSaid : Prop := fnExactLetterFlagsUptoRow.holds Tryd.pinned (OpenSpec.upto fnExactLetterFlagsSpec)

end Rows
end Go.Proofs.YtciaoedjiggonaaDoor
