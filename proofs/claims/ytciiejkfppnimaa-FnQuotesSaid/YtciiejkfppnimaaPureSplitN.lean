/- More on the places of the heads. -/
import Derived.Test.YtciiejkfppnimaaPureSplitM
namespace Go.Proofs.Ytciiejkfppnimaa
set_option linter.unusedVariables false
theorem startsL_app (a b : List (List UInt8)) : ∀ at_ : Nat, startsL (a ++ b) at_ = startsL a at_ ++ startsL b (at_ + a.flatten.length) := by
  induction a with
  | nil => intro at_; simp [startsL]
  | cons l r ih =>
    intro at_
    show (if marks l = 0 then at_ :: startsL (r ++ b) (at_ + l.length) else startsL (r ++ b) (at_ + l.length)) = _
    rw [ih, show startsL (l :: r) at_ = if marks l = 0 then at_ :: startsL r (at_ + l.length) else startsL r (at_ + l.length) from rfl]
    simp only [List.flatten_cons, List.length_append, Nat.add_assoc]
    split <;> simp
theorem startsL_step {ls : List (List UInt8)} {i : Nat} {l : List UInt8} (h : ls[i]? = some l) : startsL (ls.take (i + 1)) 0 = startsL (ls.take i) 0 ++ (if marks l = 0 then [(ls.take i).flatten.length] else []) ∧ (ls.take (i + 1)).flatten.length = (ls.take i).flatten.length + l.length := by
  have := (List.getElem?_eq_some_iff.1 h)
  have e : ls.take (i + 1) = ls.take i ++ [l] := by rw [List.take_succ_eq_append_getElem this.1, this.2]
  rw [e, startsL_app]
  refine ⟨?_, by simp⟩
  congr 1
  show (if marks l = 0 then (0 + (ls.take i).flatten.length) :: startsL [] _ else startsL [] _) = _
  rw [Nat.zero_add]; rfl
theorem marks0_len {l : List UInt8} (h : marks l = 0) : 5 ≤ l.length := by
  unfold marks at h
  split at h
  · rename_i hf
    have := isFrom_len hf
    rw [List.length_drop] at this
    omega
  · omega
theorem startsL_mem : ∀ (r : List (List UInt8)) (at_ s : Nat), s ∈ startsL r at_ → at_ ≤ s ∧ s + 5 ≤ at_ + r.flatten.length
  | [], at_, s, h => by simp [startsL] at h
  | l :: r, at_, s, h => by
    rw [show startsL (l :: r) at_ = if marks l = 0 then at_ :: startsL r (at_ + l.length) else startsL r (at_ + l.length) from rfl] at h
    rw [List.flatten_cons, List.length_append]
    by_cases hm : marks l = 0
    · rw [if_pos hm] at h
      have := marks0_len hm
      rcases List.mem_cons.1 h with rfl | h
      · exact ⟨Nat.le_refl _, by omega⟩
      · have := startsL_mem r _ s h; omega
    · rw [if_neg hm] at h
      have := startsL_mem r _ s h; omega
theorem startsL_pw : ∀ (r : List (List UInt8)) (at_ : Nat), (startsL r at_).Pairwise (· ≤ ·)
  | [], at_ => by simp [startsL]
  | l :: r, at_ => by
    rw [show startsL (l :: r) at_ = if marks l = 0 then at_ :: startsL r (at_ + l.length) else startsL r (at_ + l.length) from rfl]
    split
    · refine List.pairwise_cons.2 ⟨fun s hs => ?_, startsL_pw r _⟩
      have := startsL_mem r _ s hs; omega
    · exact startsL_pw r _
theorem starts_at {t : List UInt8} {k s : Nat} (h : (startsL (lines t) 0)[k]? = some s) : s + 5 ≤ t.length ∧ ∀ e, (startsL (lines t) 0)[k + 1]? = some e → s ≤ e ∧ e + 5 ≤ t.length := by
  have hb : ∀ s, s ∈ startsL (lines t) 0 → s + 5 ≤ t.length := fun s hs => by
    have := startsL_mem (lines t) 0 s hs; rw [lines_flat] at this; omega
  refine ⟨hb s (List.mem_of_getElem? h), fun e he => ⟨?_, hb e (List.mem_of_getElem? he)⟩⟩
  have h1 := List.getElem?_eq_some_iff.1 h
  have h2 := List.getElem?_eq_some_iff.1 he
  have := List.pairwise_iff_getElem.1 (startsL_pw (lines t) 0) k (k + 1) h1.1 h2.1 (by omega)
  rw [h1.2, h2.2] at this
  exact this
theorem starts_len (t : List UInt8) : (startsL (lines t) 0).length ≤ t.length := by
  have h1 : ∀ (r : List (List UInt8)) (a : Nat), (startsL r a).length ≤ r.length := by
    intro r
    induction r with
    | nil => intro a; simp [startsL]
    | cons l r ih =>
      intro a
      rw [show startsL (l :: r) a = if marks l = 0 then a :: startsL r (a + l.length) else startsL r (a + l.length) from rfl]
      have := ih (a + l.length)
      split <;> simp <;> omega
  exact Nat.le_trans (h1 _ 0) (lines_count t)
/-- one step of the program's round -/
def stopAt (t : List UInt8) (st : List Nat) (k : Nat) : Nat := (st[k + 1]?).getD t.length
theorem entG_step {t : List UInt8} {st : List Nat} {k s : Nat} {acc : List SpanL} (h : st[k]? = some s) :
    entG t (st.drop k) acc = if entryOk (pieceOf t s (stopAt t st k)) then entG t (st.drop (k + 1)) (acc ++ [((s : Int), (stopAt t st k : Int), unquote (innerOf (pieceOf t s (stopAt t st k))))]) else none := by
  have h1 := List.getElem?_eq_some_iff.1 h
  have hd : st.drop k = s :: st.drop (k + 1) := by rw [List.drop_eq_getElem_cons h1.1, h1.2]
  unfold stopAt
  rw [hd]
  cases h2 : st[k + 1]? with
  | none =>
    have : st.length ≤ k + 1 := by simpa using h2
    rw [List.drop_eq_nil_of_le this]
    rfl
  | some e =>
    have h3 := List.getElem?_eq_some_iff.1 h2
    have hd2 : st.drop (k + 1) = e :: st.drop (k + 2) := by rw [List.drop_eq_getElem_cons h3.1, h3.2]
    rw [hd2]
    rfl
theorem MboxL_prog {t : List UInt8} (h : ¬ 40000 < t.length) : MboxL t = match (if t = [] ∨ (startsL (lines t) 0).head? = some 0 then entG t (startsL (lines t) 0) [] else none) with | some l => (true, l) | none => (false, []) := by
  unfold MboxL
  rw [if_neg h]
  by_cases ht : t = []
  · subst ht; rfl
  · rw [specG_start ht]
    by_cases h0 : (startsL (lines t) 0).head? = some 0
    · rw [if_pos h0, if_pos (.inr h0)]
      cases entG t (startsL (lines t) 0) [] <;> rfl
    · rw [if_neg h0, if_neg (fun h => h.elim ht h0)]
end Go.Proofs.Ytciiejkfppnimaa
