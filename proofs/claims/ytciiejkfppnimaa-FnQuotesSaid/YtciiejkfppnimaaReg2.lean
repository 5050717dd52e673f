/- More single steps for drawn regions. -/
import Derived.Test.YtciiejkfppnimaaReg
import Derived.Test.YtciiejkfppnimaaProg
import Derived.WalkKit
namespace Go.Proofs.Ytciiejkfppnimaa.Mem
open Go.RowKit
set_option linter.unusedVariables false
section
variable {P : Program} {o : Oper} {a : Act} {w : World} {v : Value}
theorem exec_nil {x : Operand} {ad : Addr} (ho : o.op = .nilCheck x) (hx : a.eval x = .pointer (some ad)) : (execOp a.eval o).run P w = .ok (.value (.pointer (some ad))) w := by
  unfold execOp; simp only [ho, hx, Sem.run_pure]
theorem exec_len {k : Nat} {t : TypeId} {A : Option Addr} {n c : Nat} (ho : o.op = .call { callee := .builtin .len, args := #[.tmp k], argTypes := #[t] }) (hx : a.eval (.tmp k) = .slice A n c) (h : ∀ ty, (invoke (.builtin .len #[t] ty #[false]) #[.slice A n c]).run P w = .ok (.value (.int .i64 (n : Int))) w) : (execOp a.eval o).run P w = .ok (.value (.int .i64 (n : Int))) w := by
  unfold execOp; simp only [ho, resolve, Sem.run_bind, Sem.run_pure, Result.andThen_ok, List.map_toArray, List.map_cons, List.map_nil, hx, h]
theorem exec_build {t : TypeId} {parts : List (Nat × Operand)} (ho : o.op = .build t parts.toArray) {vs : List (Nat × Value)} (hx : parts.map (fun (i, x) => (i, a.eval x)) = vs) (h : (Instr.build t vs.toArray).run P w = .ok v w) : (execOp a.eval o).run P w = .ok (.value v) w := by
  unfold execOp; simp only [ho, List.map_toArray, hx, Sem.run_bind, h, Result.andThen_ok, Sem.run_pure]
end
theorem lenBS (A : Option Addr) (n c : Nat) (w : World) (ty : TypeId) : (invoke (.builtin .len #[22] ty #[false]) #[.slice A n c]).run Try.prog w = .ok (.value (.int .i64 (n : Int))) w := by
  go_simp
end Go.Proofs.Ytciiejkfppnimaa.Mem
