/-
  NARROWER THAN 'FOR EVERY INPUT', by the rows' own cells (each row's printed sentence says how): FnSettled: ifaces, laid.
  DERIVED. THE GIVEN ROWS OF THIS SEAT. 1 by the template 'for every input the law returns true; each argument reads behind the call as it read before'; 0 by the template 'total and deterministic' (their statements: YtkkgighgnbbgiaaDoorTotals.lean).
  GIVEN WITH THE SEED: the statements are not yours to turn. If you find one false, say at which input.
  Laid BY PROGRAM, IN A SANDBOX (cutbox-rows.mjs): the forced cells as the released guide's own fill.sh prints them over the translation 956e934c289bcbaf… (all of the seat's roots in one cut). By AI agents, Wed Nov 11 2026. No macro, syntax, notation, axiom, sorry.
-/
import Derived.Test.YtkkgighgnbbgiaaDoorChecked
import GoSem.Claim
import GoSem.ClaimJoined
import GoSem.ClaimMapViews
import Derived.JoinedTies
import Derived.KernelRfl
namespace Go.Proofs.YtkkgighgnbbgiaaDoor
/- THE CELL 'sum', in the pinned program and in every row, IS THE sha256 OF THE DUMP (.gsa) THAT YtkkgighgnbbgiaaDoorProg.lean LOADS. Nothing in Lean hashes anything: it is a label: what it is worth is what the hold of that sum in a sandbox is worth. -/
noncomputable def Tryd.pinned : Pinned := { name := "ytkkgighgnbbgiaadoor", sum := "956e934c289bcbafa0fbe8545551cc189517170a49d6e1ed41276446a5af36e9", checked := Tryd.checked }
namespace Rows
def none {H : Type} : Left H := { results := [], args := [] }

/- WHAT THE LISTED PACKAGE-LEVEL VARIABLES READ AS WHEN THE CALL BEGINS. Each datum BY PROGRAM (the guide's laid-datum.mjs) off the statement by which the dump's own 'gosem.cut.vars' lays the variable. In a bare row this is a premise. The card (YtkkgighgnbbgiaaDoorCards.lean) ties it to the program's text. -/
def laid_loop_example_s02349_impl_errKind {H : Type} : DataW H := .iface "*errors.errorString" (.ptr (.agg [.lit (.string [107, 105, 110, 100])]))
def laid_loop_example_s02349_impl_errName {H : Type} : DataW H := .iface "*errors.errorString" (.ptr (.agg [.lit (.string [110, 97, 109, 101])]))
def laid_loop_example_s02349_impl_errMissing {H : Type} : DataW H := .iface "*errors.errorString" (.ptr (.agg [.lit (.string [109, 105, 115, 115, 105, 110, 103])]))
def laid_loop_example_s02349_impl_errSpace {H : Type} : DataW H := .iface "*errors.errorString" (.ptr (.agg [.lit (.string [115, 112, 97, 99, 101])]))
def laid_loop_example_s02349_impl_errFull {H : Type} : DataW H := .iface "*errors.errorString" (.ptr (.agg [.lit (.string [102, 117, 108, 108])]))

/-- 'laws.FnSettled': WHATEVER THE INPUT: true; the input reads as it did. -/
def fnSettledSpec : ChangeSpec := { name := "fnSettled", vars := ["loop.example/s02349/impl.errKind", "loop.example/s02349/impl.errName", "loop.example/s02349/impl.errMissing", "loop.example/s02349/impl.errFull", "loop.example/s02349/impl.errSpace"], fn := fun _ => fun
  | [d1, d2, g1, g2, g3, g4, g5] => { results := [.lit (.bool true)], args := [d1, d2], vars := [g1, g2, g3, g4, g5] }
  | _ => none }
def fnSettledRow : OpenClaim := { program := "ytkkgighgnbbgiaadoor", sum := "956e934c289bcbafa0fbe8545551cc189517170a49d6e1ed41276446a5af36e9", func := "loop.example/s02349/laws.FnSettled", spec := "fnSettled", inPlace := ["internal/reflectlite.TypeOf"], unfollowed := true, recurses := true, named := ["loop.example/s02349/impl.errKind", "loop.example/s02349/impl.errName", "loop.example/s02349/impl.errMissing", "loop.example/s02349/impl.errFull", "loop.example/s02349/impl.errSpace"], ifaces := true, apart := false, laid := [("loop.example/s02349/impl.errKind", laid_loop_example_s02349_impl_errKind), ("loop.example/s02349/impl.errName", laid_loop_example_s02349_impl_errName), ("loop.example/s02349/impl.errMissing", laid_loop_example_s02349_impl_errMissing), ("loop.example/s02349/impl.errSpace", laid_loop_example_s02349_impl_errSpace), ("loop.example/s02349/impl.errFull", laid_loop_example_s02349_impl_errFull)] }
def FnSettledSaid : Prop := fnSettledRow.holds Tryd.pinned (OpenSpec.ofChange fnSettledSpec)

/-- ITS FALSE NEIGHBOUR: 'it returns false'. Refute it at one input. -/
def fnSettledWrong : ChangeSpec := { name := "fnSettled", vars := ["loop.example/s02349/impl.errKind", "loop.example/s02349/impl.errName", "loop.example/s02349/impl.errMissing", "loop.example/s02349/impl.errFull", "loop.example/s02349/impl.errSpace"], fn := fun _ => fun
  | [d1, d2, g1, g2, g3, g4, g5] => { results := [.lit (.bool false)], args := [d1, d2], vars := [g1, g2, g3, g4, g5] }
  | _ => none }
def FnSettledWrongFalsely : Prop := fnSettledRow.holds Tryd.pinned (OpenSpec.ofChange fnSettledWrong)

/- THE SECOND FORM. 'bulk': how many values and letters a reading holds, each counted each time it is reached (what is shared counts as often as it is met; a slice's spare places count too). A statement '..UptoSaid' is the law's where the arguments, and the package variables that the reading takes, are together of bulk at most 1048576: NARROWER than '..Said'. Prove '..Said' where nothing that the law and all that it calls make is longer than what came in: it says more and counts as full. Else prove '..UptoSaid'. A law counts once. -/
mutual
def uptoBulk {H : Type} : DataW H → Nat
  | .lit (.string bytes) => bytes.length + 1
  | .lit _ => 1
  | .nil => 1
  | .ptr d => uptoBulk d + 1
  | .slice elems spare => uptoBulkAll elems + uptoBulkAll spare + 1
  | .agg parts => uptoBulkAll parts + 1
  | .iface _ d => uptoBulk d + 1
  | .map entries => uptoBulkEntries entries + 1
  | .held _ => 1
def uptoBulkAll {H : Type} : List (DataW H) → Nat
  | [] => 0
  | d :: r => uptoBulk d + uptoBulkAll r
def uptoBulkEntries {H : Type} : List (Lit × DataW H) → Nat
  | [] => 0
  | x :: r => uptoBulkEntry x + uptoBulkEntries r
def uptoBulkEntry {H : Type} : Lit × DataW H → Nat
  | (.string bytes, d) => bytes.length + uptoBulk d + 1
  | (_, d) => uptoBulk d + 1
 end
def uptoSmall : (H : Type) → List (DataW H) → Bool := fun _ ds => decide (uptoBulkAll ds ≤ 1048576)
def OpenSpec.upto (s : _root_.Go.ChangeSpec) : _root_.Go.OpenSpec := { _root_.Go.OpenSpec.ofChange s with cond := some uptoSmall }

/-- 'laws.FnSettled', WHERE WHAT IT READS IS OF BULK AT MOST 1048576: true; the input reads as it did. -/
def fnSettledUptoRow : OpenClaim := { program := "ytkkgighgnbbgiaadoor", sum := "956e934c289bcbafa0fbe8545551cc189517170a49d6e1ed41276446a5af36e9", func := "loop.example/s02349/laws.FnSettled", spec := "fnSettled", inPlace := ["internal/reflectlite.TypeOf"], unfollowed := true, recurses := true, named := ["loop.example/s02349/impl.errKind", "loop.example/s02349/impl.errName", "loop.example/s02349/impl.errMissing", "loop.example/s02349/impl.errFull", "loop.example/s02349/impl.errSpace"], ifaces := true, apart := false, laid := [("loop.example/s02349/impl.errKind", laid_loop_example_s02349_impl_errKind), ("loop.example/s02349/impl.errName", laid_loop_example_s02349_impl_errName), ("loop.example/s02349/impl.errMissing", laid_loop_example_s02349_impl_errMissing), ("loop.example/s02349/impl.errSpace", laid_loop_example_s02349_impl_errSpace), ("loop.example/s02349/impl.errFull", laid_loop_example_s02349_impl_errFull)], narrowed := true }
def FnSettledUptoSaid : Prop := fnSettledUptoRow.holds Tryd.pinned (OpenSpec.upto fnSettledSpec)

end Rows
end Go.Proofs.YtkkgighgnbbgiaaDoor
