/- Both frames by value. -/
import Derived.Test.YtkcenblmbodbbaaFrame
import Derived.Test.YtkcenblmbodbbaaValB
namespace Go.Proofs.Ytkcenblmbodbbaa
open Go.RowKit Mem
def FrameL (x : List Bytes) : Bytes := logL x
theorem Frame_cnt (x : List Bytes) (_h : szBSS x ≤ 1048576) : cntBS (FrameL x) ≤ 40000 := by
  unfold FrameL logL cntBS
  split
  · rename_i h; exact h.2
  · simp
theorem specFrame_v {w : World} {v : Value} {x : List Bytes} (h : RdV false dBSS w v x) (_ : szBSS x ≤ 1048576) : Calls Try.prog 41 #[v] w (RetV false dBS w (FrameL x)) := by
  obtain ⟨A, c, rfl, hc, hr⟩ := h.slice
  exact (frameSpec_calls hr (fun _ h => h)).mono fun _ _ h => h.toV
theorem implFrame_v {w : World} {v : Value} {x : List Bytes} (h : RdV false dBSS w v x) (_ : szBSS x ≤ 1048576) : Calls Try.prog 43 #[v] w (RetV false dBS w (FrameL x)) := by
  obtain ⟨A, c, rfl, hc, hr⟩ := h.slice
  exact (frameImpl_calls hr (fun _ h => h)).mono fun _ _ h => h.toV
end Go.Proofs.Ytkcenblmbodbbaa
