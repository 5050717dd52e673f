/- Marks over bytes, the number given as an integer. -/
import Derived.Test.YtciiejkfppnimaaValB
import Derived.Test.YtciiejkfppnimaaFld
namespace Go.Proofs.Ytciiejkfppnimaa
open Go.RowKit Mem
set_option linter.unusedVariables false
theorem markByteS_i {w : World} {F : List Nat} {v : Value} {x : Bytes} (h : OwF false dBS w F v x) (q : Int) (k : Nat) (hq : q = (k : Int)) (hk : k + cntBS x ≤ 1152921504606846976) :
    Calls Try.prog 17 #[v, .int .i64 q] w (Marks false dBS w F v (k + cntBS x) (mkBS1 k x)) := by subst hq; exact markByteS_f h k hk
theorem heldByteS_i {w : World} {v : Value} {x : Bytes} (h : RdV false dBS w v x) (q : Int) (k : Nat) (hq : q = (k : Int)) (hx : x = mkBS1 k x) (hk : k + cntBS x ≤ 1152921504606846976) :
    Calls Try.prog 38 #[v, .int .i64 q] w (Ret (.int .i64 ((k + cntBS x : Nat) : Int)) w) := by subst hq; exact heldByteS_v h k hx hk
end Go.Proofs.Ytciiejkfppnimaa
