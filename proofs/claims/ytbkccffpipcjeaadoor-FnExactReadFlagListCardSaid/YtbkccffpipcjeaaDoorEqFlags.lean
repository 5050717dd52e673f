/- Two results compared. -/
import Derived.Test.YtbkccffpipcjeaaDoorLetS
namespace Go.Proofs.YtbkccffpipcjeaaDoor
open Go.RowKit Mem
set_option linter.unusedVariables false
set_option maxHeartbeats 1000000 in
set_option maxRecDepth 100000 in
theorem eqFlags_calls (x y : Bool × Int) (w : World) : Calls Tryd.prog 14 #[FlagsV x, FlagsV y] w (Ret (.bool (decide (x = y))) w) := by
  obtain ⟨b, n⟩ := x
  obtain ⟨b', n'⟩ := y
  unfold FlagsV
  by_cases hn : n = n'
  · have hq : (n != n') = false := by simp [hn]
    have HD : Sec (decide ((b, n) = (b', n')) = (b == b')) := ⟨by cases b <;> cases b' <;> simp [hn]⟩
    rw [HD.out]
    clear hn
    cases b <;> cases b'
    all_goals
      go_enter Tryd.func14, Tryd.ntmps14
      go_wp2
      go_ret
      exact ⟨rfl, ((Mod.refl _ _).alloc _).alloc _⟩
  · have hq : (n != n') = true := by simpa using hn
    have HD : Sec (decide ((b, n) = (b', n')) = false) := ⟨by simp [hn]⟩
    rw [HD.out]
    clear hn
    cases b <;> cases b'
    all_goals
      go_enter Tryd.func14, Tryd.ntmps14
      go_wp2
      go_ret
      exact ⟨rfl, ((Mod.refl _ _).alloc _).alloc _⟩
end Go.Proofs.YtbkccffpipcjeaaDoor
