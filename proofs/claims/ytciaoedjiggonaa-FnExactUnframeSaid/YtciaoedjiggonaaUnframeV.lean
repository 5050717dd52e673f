/- Both readings of a log by value. -/
import Derived.Test.YtciaoedjiggonaaUnframeI
namespace Go.Proofs.Ytciaoedjiggonaa
open Go.RowKit Mem
theorem unfr_cnt (f : Nat) : ∀ xs : Bytes, cntBSS (unfr f xs).1 ≤ (unfr f xs).2 ∧ (unfr f xs).2 ≤ xs.length := by
  induction f with
  | zero => intro xs; simp [unfr, cntBSS, preS_zero]
  | succ f ih =>
    intro xs
    by_cases h : okFirst xs
    · rw [unfr_some h]
      obtain ⟨h1, h2⟩ := ih (xs.drop (6 + firstN xs))
      have h4 := h.2.2.2.1
      have hl := recOf_len h4
      rw [List.length_drop] at h2
      refine ⟨?_, by show 6 + firstN xs + _ ≤ _; omega⟩
      show cntBSS (recOf xs :: _) ≤ 6 + firstN xs + _
      have : ∀ (a : Bytes) (l : List Bytes), cntBSS (a :: l) = a.length + cntBSS l := fun a l => by unfold cntBSS; simp [preS]
      rw [this, hl]; omega
    · rw [unfr_none h]; simp [cntBSS, preS_zero]
theorem Unframe_cnt (x : Bytes) (_ : szBS x ≤ 1048576) : cntLog (UnframeL x) ≤ 1048576 := by
  unfold UnframeL cntLog
  split
  · simp [cntBSS, preS_zero]
  · have := unfr_cnt x.length x
    show cntBSS (unfr x.length x).1 ≤ _
    omega
theorem specUnframe_v {w : World} {v : Value} {x : Bytes} (h : RdV false dBS w v x) (_ : szBS x ≤ 1048576) : Calls Try.prog 20 #[v] w (RetV true dLog w (UnframeL x)) := by
  obtain ⟨A, c, rfl, hc, hcc, hr⟩ := h.slice3
  exact unframeSpec_calls hr (fun _ h => h) hc hcc
theorem implUnframe_v {w : World} {v : Value} {x : Bytes} (h : RdV false dBS w v x) (_ : szBS x ≤ 1048576) : Calls Try.prog 18 #[v] w (RetV true dLog w (UnframeL x)) := by
  obtain ⟨A, c, rfl, hc, hcc, hr⟩ := h.slice3
  exact unframeImpl_calls hr (fun _ h => h) hc hcc
end Go.Proofs.Ytciaoedjiggonaa
