/- Both readings of an mbox text by value. -/
import Derived.Test.YtciiejkfppnimaaMboxI
namespace Go.Proofs.Ytciiejkfppnimaa
open Go.RowKit Mem
set_option linter.unusedVariables false
theorem cntSpanS_snoc (l : SpanST) (x : SpanT) : cntSpanS (l ++ [x]) = cntSpanS l + cntSpan x := by
  unfold cntSpanS preS
  rw [List.take_length, List.take_length]; simp
theorem unquote_le (t : List UInt8) : (unquote t).length ≤ t.length := by
  have := flatMap_len unquoteL 0 unquoteL_len (lines t)
  rw [lines_flat] at this
  unfold unquote; omega
theorem cntSpan_of {e : List UInt8} {stop : Nat} (h : entryOk e) : cntSpan (spanOf e stop) ≤ e.length := by
  have h0 := h.1
  have h1 := unquote_le (innerOf e)
  have h2 : (innerOf e).length = e.length - 1 - 10 := by unfold innerOf; rw [List.length_drop, List.length_take]; omega
  show 1 + 1 + (unquote (innerOf e)).length ≤ _
  omega
theorem specG_cnt : ∀ (r : List (List UInt8)) (cur : List UInt8) (at_ : Nat) (acc l : List SpanL), specG r cur at_ acc = some l → cntSpanS acc + cur.length ≤ at_ → cntSpanS l ≤ at_ + r.flatten.length
  | [], cur, at_, acc, l, h, hc => by
    rw [specG_end] at h
    split at h
    · split at h
      · rename_i hok
        obtain rfl := Option.some.inj h
        rw [cntSpanS_snoc]
        have := cntSpan_of (stop := at_) hok
        simp; omega
      · cases h
    · obtain rfl := Option.some.inj h
      simp; omega
  | x :: r, cur, at_, acc, l, h, hc => by
    rw [List.flatten_cons, List.length_append]
    by_cases hm : marks x = 0 ∧ 0 < at_
    · rw [specG_cut hm.1 hm.2] at h
      split at h
      · rename_i hok
        have h3 := cntSpan_of (stop := at_) hok
        have := specG_cnt r x (at_ + x.length) _ l h (by rw [cntSpanS_snoc]; omega)
        omega
      · cases h
    · rw [specG_on hm] at h
      have := specG_cnt r (cur ++ x) (at_ + x.length) acc l h (by rw [List.length_append]; omega)
      omega
abbrev MboxSplitL (x : Bytes) : SpansT := MboxL x
theorem MboxSplit_cnt (x : Bytes) (_ : szBS x ≤ 1048576) : cntSpans (MboxSplitL x) ≤ 1048576 := by
  show cntSpanS (MboxL x).2 ≤ _
  by_cases hb : 40000 < x.length
  · rw [MboxL_big hb]; simp [cntSpanS, preS]
  · cases h : specG (lines x) [] 0 [] with
    | none => rw [MboxL_none hb h]; simp [cntSpanS, preS]
    | some l =>
      rw [MboxL_some hb h]
      have := specG_cnt _ _ _ _ _ h (by simp [cntSpanS, preS])
      rw [lines_flat] at this
      show cntSpanS l ≤ _
      omega
theorem implMboxSplit_v {w : World} {v : Value} {x : Bytes} (h : RdV false dBS w v x) (_ : szBS x ≤ 1048576) : Calls Try.prog 11 #[v] w (RetV true dSpans w (MboxSplitL x)) := by
  obtain ⟨A, c, rfl, hc, hr⟩ := h.slice
  exact mboxImpl_calls hr (fun _ h => h) hc
end Go.Proofs.Ytciiejkfppnimaa
