/- Lines, quoting and its undoing in plain lists. -/
namespace Go.Proofs.Ytciiejkfppnimaa
abbrev LBytes := List UInt8
def linesAux : List UInt8 → List UInt8 → List (List UInt8)
  | [], cur => if cur = [] then [] else [cur]
  | b :: bs, cur => if b = 10 then (cur ++ [b]) :: linesAux bs [] else linesAux bs (cur ++ [b])
def lines (t : List UInt8) : List (List UInt8) := linesAux t []
def gts : List UInt8 → Nat
  | [] => 0
  | b :: r => if b = 62 then gts r + 1 else 0
def fromB : List UInt8 := [70, 114, 111, 109, 32]
def isFrom (l : List UInt8) : Bool := decide (l.take 5 = fromB)
def marks (l : List UInt8) : Int := if isFrom (l.drop (gts l)) then (gts l : Int) else -1
def quoteL (l : List UInt8) : List UInt8 := if 0 ≤ marks l then 62 :: l else l
def unquoteL (l : List UInt8) : List UInt8 := if 0 < marks l then l.tail else l
def quote (t : List UInt8) : List UInt8 := (lines t).flatMap quoteL
def unquote (t : List UInt8) : List UInt8 := (lines t).flatMap unquoteL

theorem gts_le : ∀ l, gts l ≤ l.length
  | [] => by simp [gts]
  | b :: r => by have := gts_le r; simp only [gts, List.length_cons]; split <;> omega
theorem gts_at : ∀ (l : List UInt8) (i : Nat) (h : i < l.length), i < gts l → l[i] = 62
  | [], i, h, _ => by simp at h
  | b :: r, 0, _, hi => by
    simp only [gts] at hi
    split at hi
    · assumption
    · omega
  | b :: r, i + 1, h, hi => by
    simp only [gts] at hi
    split at hi
    · exact gts_at r i (by simpa using h) (by omega)
    · omega
theorem gts_end : ∀ (l : List UInt8) (h : gts l < l.length), l[gts l] ≠ 62
  | [], h => by simp [gts] at h
  | b :: r, h => by
    by_cases hb : b = 62
    · have h' : gts r < r.length := by simp [gts, hb] at h; exact h
      have := gts_end r h'
      simpa [gts, hb] using this
    · simp [gts, hb]
theorem gts_eq (l : List UInt8) (n : Nat) (hn : n ≤ l.length) (h1 : ∀ i (h : i < l.length), i < n → l[i] = 62) (h2 : ∀ h : n < l.length, l[n] ≠ 62) : gts l = n := by
  rcases Nat.lt_trichotomy (gts l) n with h | h | h
  · exact absurd (h1 (gts l) (by omega) h) (gts_end l (by omega))
  · exact h
  · have := gts_le l
    exact absurd (gts_at l n (by omega) h) (h2 (by omega))
theorem isFrom_len {l : List UInt8} (h : isFrom l = true) : 5 ≤ l.length := by
  unfold isFrom at h
  have h1 := of_decide_eq_true h
  have h2 := congrArg List.length h1
  simp [fromB] at h2
  omega

/-- a line's length, and the rest -/
def lineLen (t : List UInt8) : Nat := match t.findIdx? (· == 10) with | some i => i + 1 | none => t.length
theorem linesAux_step : ∀ (t cur : List UInt8), t ≠ [] → linesAux t cur = (cur ++ t.take (lineLen t)) :: linesAux (t.drop (lineLen t)) []
  | [], cur, h => absurd rfl h
  | b :: bs, cur, _ => by
    rw [show linesAux (b :: bs) cur = if b = 10 then (cur ++ [b]) :: linesAux bs [] else linesAux bs (cur ++ [b]) from rfl]
    by_cases hb : b = 10
    · have h1 : lineLen (b :: bs) = 1 := by simp [lineLen, List.findIdx?_cons, hb]
      rw [if_pos hb, h1]
      simp
    · have h1 : lineLen (b :: bs) = lineLen bs + 1 := by
        simp only [lineLen, List.findIdx?_cons, show (b == 10) = false by simpa using hb]
        cases h : bs.findIdx? (· == 10) <;> simp
      rw [if_neg hb, h1]
      by_cases he : bs = []
      · subst he
        simp [linesAux, lineLen]
      · rw [linesAux_step bs (cur ++ [b]) he]
        simp
theorem lines_step (t : List UInt8) (h : t ≠ []) : lines t = t.take (lineLen t) :: lines (t.drop (lineLen t)) := by
  unfold lines
  rw [linesAux_step t [] h]
  simp
theorem lines_nil : lines [] = [] := rfl
theorem lineLen_pos {t : List UInt8} (h : t ≠ []) : 0 < lineLen t := by
  unfold lineLen
  split
  · omega
  · exact List.length_pos_iff.2 h
theorem lineLen_le (t : List UInt8) : lineLen t ≤ t.length := by
  unfold lineLen
  split
  · rename_i i h
    have := List.findIdx?_eq_some_iff_findIdx_eq.1 h
    omega
  · exact Nat.le_refl _
theorem linesAux_flat : ∀ (t cur : List UInt8), (linesAux t cur).flatten = cur ++ t
  | [], cur => by unfold linesAux; split <;> simp_all
  | b :: bs, cur => by
    unfold linesAux
    split
    · simp [linesAux_flat bs []]
    · simp [linesAux_flat bs (cur ++ [b])]
theorem lines_flat (t : List UInt8) : (lines t).flatten = t := by simpa [lines] using linesAux_flat t []
theorem quoteL_len (l : List UInt8) : (quoteL l).length ≤ l.length + 1 := by unfold quoteL; split <;> simp
theorem unquoteL_len (l : List UInt8) : (unquoteL l).length ≤ l.length := by unfold unquoteL; split <;> simp
theorem flatMap_len (f : List UInt8 → List UInt8) (c : Nat) (hf : ∀ l, (f l).length ≤ l.length + c) : ∀ ls : List (List UInt8), (ls.flatMap f).length ≤ ls.flatten.length + c * ls.length
  | [] => by simp
  | l :: ls => by
    have := flatMap_len f c hf ls
    have := hf l
    simp only [List.flatMap_cons, List.length_append, List.flatten_cons, List.length_cons, Nat.mul_add]
    omega
theorem linesAux_count : ∀ (t cur : List UInt8), (linesAux t cur).length ≤ t.length + (if cur = [] then 0 else 1)
  | [], cur => by simp only [linesAux]; split <;> simp
  | b :: bs, cur => by
    rw [show linesAux (b :: bs) cur = if b = 10 then (cur ++ [b]) :: linesAux bs [] else linesAux bs (cur ++ [b]) from rfl]
    have h1 := linesAux_count bs []
    have h2 := linesAux_count bs (cur ++ [b])
    simp only [if_true] at h1
    rw [if_neg (by simp)] at h2
    split
    · simp only [List.length_cons]; omega
    · simp only [List.length_cons]; omega
theorem lines_count (t : List UInt8) : (lines t).length ≤ t.length := by simpa [lines] using linesAux_count t []
theorem take_at_len {ls : List (List UInt8)} {i : Nat} {l : List UInt8} (h : ls[i]? = some l) : (ls.take i).flatten.length + l.length ≤ ls.flatten.length := by
  have h1 : ls.take (i + 1) = ls.take i ++ [l] := by
    have := (List.getElem?_eq_some_iff.1 h)
    rw [List.take_succ_eq_append_getElem this.1, this.2]
  have h2 := congrArg (fun x : List (List UInt8) => x.flatten.length) (List.take_append_drop (i + 1) ls)
  simp only [h1, List.flatten_append, List.length_append, List.flatten_cons, List.flatten_nil, List.append_nil] at h2
  omega
theorem lines_prefix {f : List UInt8 → List UInt8} {c : Nat} (hf : ∀ l, (f l).length ≤ l.length + c) {t : List UInt8} {i : Nat} {l : List UInt8} (h : (lines t)[i]? = some l) : (((lines t).take i).flatMap f).length + l.length ≤ t.length + c * t.length := by
  have h1 := flatMap_len f c hf ((lines t).take i)
  have h2 := take_at_len h
  rw [lines_flat] at h2
  have h3 := lines_count t
  have h4 : ((lines t).take i).length ≤ t.length := by rw [List.length_take]; omega
  have h5 := Nat.mul_le_mul_left c h4
  omega
theorem flatMap_snoc {f : List UInt8 → List UInt8} {ls : List (List UInt8)} {i : Nat} {l : List UInt8} (h : ls[i]? = some l) : (ls.take (i + 1)).flatMap f = (ls.take i).flatMap f ++ f l := by
  have := (List.getElem?_eq_some_iff.1 h)
  rw [List.take_succ_eq_append_getElem this.1, this.2]
  simp
end Go.Proofs.Ytciiejkfppnimaa
namespace Go.Proofs.Ytciiejkfppnimaa
theorem quote_len (t : List UInt8) : (quote t).length ≤ t.length + t.length := by
  have := flatMap_len quoteL 1 quoteL_len (lines t)
  rw [lines_flat] at this
  have := lines_count t
  unfold quote; omega
theorem unquote_len (t : List UInt8) : (unquote t).length ≤ t.length + t.length := by
  have := flatMap_len unquoteL 0 unquoteL_len (lines t)
  rw [lines_flat] at this
  unfold unquote; omega
end Go.Proofs.Ytciiejkfppnimaa
