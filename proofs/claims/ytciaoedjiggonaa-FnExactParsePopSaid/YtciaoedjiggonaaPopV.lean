/- Both readings of a POP line by value. -/
import Derived.Test.YtciaoedjiggonaaPopI
namespace Go.Proofs.Ytciaoedjiggonaa
open Go.RowKit Mem
abbrev ParsePopL (x : Bytes) : CmdT := PopL x
theorem PopL_form (x : Bytes) : ∃ k n, PopL x = popC k n := by
  unfold PopL
  repeat' split
  all_goals exact ⟨_, _, rfl⟩
theorem ParsePop_cnt (x : Bytes) (_ : szBS x ≤ 1048576) : cntCmd (ParsePopL x) ≤ 1048576 := by
  obtain ⟨k, n, h⟩ := PopL_form x
  show cntCmd (PopL x) ≤ _
  rw [h]
  simp [cntCmd, popC, cntPairS, cntBS, preS]
theorem specParsePop_v {w : World} {v : Value} {x : Bytes} (h : RdV false dBS w v x) (_ : szBS x ≤ 1048576) : Calls Try.prog 31 #[v] w (RetV true dCmd w (ParsePopL x)) := by
  obtain ⟨A, c, rfl, hc, hr⟩ := h.slice
  show Calls _ _ _ _ (RetV true dCmd w (PopL x))
  rw [← pop_is]
  exact popSpec_calls hr (fun _ h => h)
theorem implParsePop_v {w : World} {v : Value} {x : Bytes} (h : RdV false dBS w v x) (hs : szBS x ≤ 1048576) : Calls Try.prog 32 #[v] w (RetV true dCmd w (ParsePopL x)) := by
  obtain ⟨A, c, rfl, hc, hr⟩ := h.slice
  exact popImpl_calls hr (fun _ h => h) hs
end Go.Proofs.Ytciaoedjiggonaa
