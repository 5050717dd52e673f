/- The laws' own comparisons. -/
import Derived.Test.YtciiejkfppnimaaBss
import Derived.Test.YtciiejkfppnimaaReg
namespace Go.Proofs.Ytciiejkfppnimaa
open Go.RowKit Mem
set_option linter.unusedVariables false

set_option maxHeartbeats 400000 in
theorem sameBytes_calls {A A' : Option Addr} {n m c c' : Nat} {xs ys : Bytes} {B B' : Nat → Prop} {w : World} (h : Row Ty.byte w B A n xs) (h' : Row Ty.byte w B' A' m ys) :
    Calls Try.prog 7 #[.slice A n c, .slice A' m c'] w fun e w' => e = .returned (.bool (decide (xs = ys))) ∧ w' = w := by
  have h1 := h.conv (P := Try.prog) Try.underlying22 Try.underlying5 Try.underlying9 c
  have h2 := h'.conv (P := Try.prog) Try.underlying22 Try.underlying5 Try.underlying9 c'
  clear h h'
  by_cases he : xs = ys
  · subst he
    go_enter Try.func7, Try.ntmps7
    go_wp2
    go_ret
    exact ⟨by simp, rfl⟩
  · have hz : (xs == ys) = false := by simpa using he
    have HE := Sec.mk he
    clear he
    go_enter Try.func7, Try.ntmps7
    go_wp2
    go_ret
    exact ⟨by simp [HE.out], rfl⟩
end Go.Proofs.Ytciiejkfppnimaa
