/- Quoting is undone, and a text of entries gives the bodies back: the plain law. -/
import Derived.Test.YtciiejkfppnimaaPureSplitM
namespace Go.Proofs.Ytciiejkfppnimaa
set_option linter.unusedVariables false
abbrev LY := List UInt8
def NoNl (p : LY) : Prop := ∀ x, x ∈ p → x ≠ 10
def IsLine (l : LY) : Prop := ∃ p, l = p ++ [10] ∧ NoNl p
theorem linesAux_line : ∀ (p r cur : LY), NoNl p → linesAux (p ++ 10 :: r) cur = (cur ++ p ++ [10]) :: linesAux r []
  | [], r, cur, _ => by
    show (if (10 : UInt8) = 10 then (cur ++ [10]) :: linesAux r [] else _) = _
    simp
  | b :: p, r, cur, h => by
    have hb : b ≠ 10 := h b (by simp)
    show (if b = 10 then _ else linesAux (p ++ 10 :: r) (cur ++ [b])) = _
    rw [if_neg hb, linesAux_line p r (cur ++ [b]) (fun x hx => h x (by simp [hx]))]
    simp
theorem linesAux_tail : ∀ (p cur : LY), NoNl p → linesAux p cur = if cur ++ p = [] then [] else [cur ++ p]
  | [], cur, _ => by simp [linesAux]
  | b :: p, cur, h => by
    have hb : b ≠ 10 := h b (by simp)
    show (if b = 10 then _ else linesAux p (cur ++ [b])) = _
    rw [if_neg hb, linesAux_tail p (cur ++ [b]) (fun x hx => h x (by simp [hx]))]
    simp
def tailOf (tl : LY) : List LY := if tl = [] then [] else [tl]
theorem lines_flatten : ∀ (ls : List LY) (r : LY), (∀ l, l ∈ ls → IsLine l) → lines (ls.flatten ++ r) = ls ++ lines r
  | [], r, _ => rfl
  | l :: ls, r, h => by
    obtain ⟨p, rfl, hp⟩ := h l (by simp)
    have ih := lines_flatten ls r (fun l hl => h l (by simp [hl]))
    unfold lines at *
    rw [List.flatten_cons, List.append_assoc, List.append_assoc, List.singleton_append, linesAux_line p _ [] hp, ih]
    simp
theorem lines_tail {p : LY} (h : NoNl p) : lines p = tailOf p := by
  unfold lines tailOf
  rw [linesAux_tail p [] h]
  rfl
theorem lines_shape : ∀ (t cur : LY), NoNl cur → ∃ ls tl, linesAux t cur = ls ++ tailOf tl ∧ (∀ l, l ∈ ls → IsLine l) ∧ NoNl tl
  | [], cur, h => ⟨[], cur, by rw [linesAux_tail [] cur (by intro x hx; cases hx)]; simp [tailOf], (by intro l hl; cases hl), h⟩
  | b :: t, cur, h => by
    by_cases hb : b = 10
    · subst hb
      obtain ⟨ls, tl, h1, h2, h3⟩ := lines_shape t [] (by intro x hx; cases hx)
      refine ⟨(cur ++ [10]) :: ls, tl, ?_, ?_, h3⟩
      · show (if (10 : UInt8) = 10 then (cur ++ [10]) :: linesAux t [] else _) = _
        rw [if_pos rfl, h1]; rfl
      · intro l hl
        rcases List.mem_cons.1 hl with rfl | hl
        · exact ⟨cur, rfl, h⟩
        · exact h2 l hl
    · obtain ⟨ls, tl, h1, h2, h3⟩ := lines_shape t (cur ++ [b]) (by
        intro x hx
        rcases List.mem_append.1 hx with hx | hx
        · exact h x hx
        · rw [List.mem_singleton.1 hx]; exact hb)
      refine ⟨ls, tl, ?_, h2, h3⟩
      show (if b = 10 then _ else linesAux t (cur ++ [b])) = _
      rw [if_neg hb, h1]
theorem lines_is (t : LY) : ∃ ls tl, lines t = ls ++ tailOf tl ∧ t = ls.flatten ++ tl ∧ (∀ l, l ∈ ls → IsLine l) ∧ NoNl tl := by
  obtain ⟨ls, tl, h1, h2, h3⟩ := lines_shape t [] (by intro x hx; cases hx)
  refine ⟨ls, tl, h1, ?_, h2, h3⟩
  have := lines_flat t
  have h1' : lines t = ls ++ tailOf tl := h1
  rw [h1', List.flatten_append] at this
  rw [← this]
  unfold tailOf
  split
  · rename_i he; rw [he]; simp
  · simp
theorem gts_cons (l : LY) : gts (62 :: l) = gts l + 1 := by simp [gts]
theorem marks_cons {l : LY} (h : 0 ≤ marks l) : marks (62 :: l) = marks l + 1 := by
  unfold marks at h ⊢
  rw [gts_cons, List.drop_succ_cons]
  by_cases hf : isFrom (l.drop (gts l)) = true
  · rw [if_pos hf, if_pos hf]; omega
  · rw [if_neg hf] at h; omega
theorem marks_ge (l : LY) : -1 ≤ marks l := by unfold marks; split <;> omega
theorem unquoteL_quoteL (l : LY) : unquoteL (quoteL l) = l := by
  unfold quoteL
  by_cases h : 0 ≤ marks l
  · rw [if_pos h]
    unfold unquoteL
    rw [if_pos (by rw [marks_cons h]; omega)]
    rfl
  · rw [if_neg h]
    unfold unquoteL
    rw [if_neg (by omega)]
theorem marks_quoteL (l : LY) : marks (quoteL l) ≠ 0 := by
  unfold quoteL
  by_cases h : 0 ≤ marks l
  · rw [if_pos h, marks_cons h]; omega
  · rw [if_neg h]; omega
theorem isLine_quoteL {l : LY} (h : IsLine l) : IsLine (quoteL l) := by
  obtain ⟨p, rfl, hp⟩ := h
  unfold quoteL
  split
  · refine ⟨62 :: p, by simp, fun x hx => ?_⟩
    rcases List.mem_cons.1 hx with rfl | hx
    · decide
    · exact hp x hx
  · exact ⟨p, rfl, hp⟩
theorem noNl_quoteL {l : LY} (h : NoNl l) : NoNl (quoteL l) := by
  unfold quoteL
  split
  · intro x hx
    rcases List.mem_cons.1 hx with rfl | hx
    · decide
    · exact h x hx
  · exact h
theorem quoteL_nil : quoteL [] = [] := by decide
theorem quoteL_ne {l : LY} (h : l ≠ []) : quoteL l ≠ [] := by unfold quoteL; split <;> simp [h]
theorem tailOf_quote (tl : LY) : tailOf (quoteL tl) = (tailOf tl).map quoteL := by
  unfold tailOf
  by_cases h : tl = []
  · subst h; rw [quoteL_nil]; rfl
  · rw [if_neg h, if_neg (quoteL_ne h)]; rfl
theorem quote_is {t : LY} {ls : List LY} {tl : LY} (h : lines t = ls ++ tailOf tl) : quote t = (ls.map quoteL).flatten ++ quoteL tl := by
  unfold quote
  rw [h, List.flatMap_append]
  congr 1
  unfold tailOf
  by_cases h : tl = []
  · subst h; rw [quoteL_nil]; rfl
  · rw [if_neg h]; simp
theorem lines_quote (t : LY) : lines (quote t) = (lines t).map quoteL := by
  obtain ⟨ls, tl, h1, h2, h3, h4⟩ := lines_is t
  rw [quote_is h1, lines_flatten _ _ (fun l hl => by obtain ⟨m, hm, rfl⟩ := List.mem_map.1 hl; exact isLine_quoteL (h3 m hm)), lines_tail (noNl_quoteL h4), h1, tailOf_quote, List.map_append]
theorem unquote_map (ls : List LY) : (ls.map quoteL).flatMap unquoteL = ls.flatten := by
  induction ls with
  | nil => rfl
  | cons l r ih => rw [List.map_cons, List.flatMap_cons, unquoteL_quoteL, ih, List.flatten_cons]
/-- quoting is undone -/
theorem unquote_quote (t : LY) : unquote (quote t) = t := by
  unfold unquote
  rw [lines_quote, unquote_map, lines_flat]
theorem gts_snoc : ∀ l : LY, gts (l ++ [10]) = gts l
  | [] => rfl
  | b :: r => by
    simp only [List.cons_append, gts, gts_snoc r]
theorem isFrom_snoc (y : LY) : isFrom (y ++ [10]) = isFrom y := by
  unfold isFrom
  by_cases h : 5 ≤ y.length
  · rw [List.take_append_of_le_length h]
  · have h1 : y.take 5 ≠ fromB := fun e => by have := congrArg List.length e; rw [List.length_take] at this; simp [fromB] at this; omega
    have h2 : (y ++ [10]).take 5 ≠ fromB := fun e => by
      have hl := congrArg List.length e
      rw [List.length_take, List.length_append] at hl
      simp [fromB] at hl
      have h4 : y.length = 4 := by omega
      have hg : ((y ++ [10]).take 5)[4]? = some 32 := by rw [e]; rfl
      rw [List.getElem?_take_of_lt (by omega), List.getElem?_append_right (by omega), h4] at hg
      simp at hg
    rw [decide_eq_false h1, decide_eq_false h2]
theorem marks_snoc (l : LY) : marks (l ++ [10]) = marks l := by
  unfold marks
  rw [gts_snoc, List.drop_append_of_le_length (gts_le l), isFrom_snoc]
theorem quoteL_snoc (l : LY) : quoteL (l ++ [10]) = quoteL l ++ [10] := by
  unfold quoteL
  rw [marks_snoc]
  split <;> simp
/-- a body with its line end -/
def bareL (t : LY) : Bool := match t.getLast? with | some b => b != 10 | none => false
def finL (t : LY) : LY := if bareL t then t ++ [10] else t
theorem fin_shape (t : LY) : ∃ ls, lines (finL t) = ls ∧ (∀ l, l ∈ ls → IsLine l) ∧ quote (finL t) = quote t ++ (if bareL t then [10] else []) := by
  obtain ⟨ls, tl, h1, h2, h3, h4⟩ := lines_is t
  by_cases hn : tl = []
  · subst hn
    have hb : bareL t = false := by
      unfold bareL
      rw [h2, List.append_nil]
      rcases List.eq_nil_or_concat ls with rfl | ⟨r, l, rfl⟩
      · rfl
      · obtain ⟨p, rfl, hp⟩ := h3 l (by simp)
        simp
    refine ⟨ls, ?_, h3, ?_⟩
    · unfold finL; rw [hb]; simpa [tailOf] using h1
    · unfold finL; rw [hb]; simp
  · have hb : bareL t = true := by
      unfold bareL
      obtain ⟨r, b, rfl⟩ : ∃ r b, tl = r ++ [b] := by
        rcases List.eq_nil_or_concat tl with h | ⟨r, b, h⟩
        · exact absurd h hn
        · exact ⟨r, b, by simpa using h⟩
      rw [h2, ← List.append_assoc, List.getLast?_append]
      simp only [List.getLast?_singleton, Option.some_or]
      have := h4 b (by simp)
      simpa using this
    have hft : finL t = (ls ++ [tl ++ [10]]).flatten ++ [] := by unfold finL; rw [hb, if_pos rfl, h2]; simp
    have hal : ∀ l, l ∈ ls ++ [tl ++ [10]] → IsLine l := by
      intro l hl
      rcases List.mem_append.1 hl with hl | hl
      · exact h3 l hl
      · rw [List.mem_singleton.1 hl]; exact ⟨tl, rfl, h4⟩
    have hlf : lines (finL t) = ls ++ [tl ++ [10]] := by
      rw [hft, lines_flatten _ _ hal]; simp [lines_nil]
    refine ⟨_, hlf, hal, ?_⟩
    rw [quote_is h1, hb, if_pos rfl]
    unfold quote
    rw [hlf, List.flatMap_append, List.flatMap_singleton, quoteL_snoc]
    simp [List.flatMap_def]
theorem specG_run {R : List LY} : ∀ (M : List LY) (cur : LY) (at_ : Nat) (acc : List SpanL), (∀ m, m ∈ M → marks m ≠ 0) → specG (M ++ R) cur at_ acc = specG R (cur ++ M.flatten) (at_ + M.flatten.length) acc
  | [], cur, at_, acc, _ => by simp
  | m :: M, cur, at_, acc, h => by
    show (if marks m = 0 ∧ 0 < at_ then _ else specG (M ++ R) (cur ++ m) (at_ + m.length) acc) = _
    rw [if_neg (fun hh => h m (by simp) hh.1), specG_run M (cur ++ m) (at_ + m.length) acc (fun x hx => h x (by simp [hx]))]
    simp [Nat.add_assoc]
def entL (t : LY) : LY := fromMail ++ quote (finL t) ++ [10]
theorem entL_lines (t r : LY) : ∃ M, lines (entL t ++ r) = fromMail :: (M ++ lines r) ∧ (∀ m, m ∈ M → marks m ≠ 0) ∧ fromMail ++ M.flatten = entL t := by
  obtain ⟨ls, h1, h2, -⟩ := fin_shape t
  have hq : quote (finL t) = (ls.map quoteL).flatten := by unfold quote; rw [h1, List.flatMap_def]
  refine ⟨ls.map quoteL ++ [[10]], ?_, ?_, ?_⟩
  · have he : entL t ++ r = (fromMail :: (ls.map quoteL ++ [[10]])).flatten ++ r := by unfold entL; rw [hq]; simp
    rw [he, lines_flatten]
    · simp
    · intro l hl
      rcases List.mem_cons.1 hl with rfl | hl
      · exact ⟨[70, 114, 111, 109, 32, 109, 97, 105, 108], rfl, by unfold NoNl; decide⟩
      · rcases List.mem_append.1 hl with hl | hl
        · obtain ⟨m, hm, rfl⟩ := List.mem_map.1 hl; exact isLine_quoteL (h2 m hm)
        · rw [List.mem_singleton.1 hl]; exact ⟨[], rfl, by intro x hx; cases hx⟩
  · intro m hm
    rcases List.mem_append.1 hm with hm | hm
    · obtain ⟨l, hl, rfl⟩ := List.mem_map.1 hm; exact marks_quoteL l
    · rw [List.mem_singleton.1 hm]; decide
  · unfold entL; rw [hq]; simp
theorem entL_len (t : LY) : (entL t).length = (quote (finL t)).length + 11 := by unfold entL; simp [fromMail]
theorem entL_inner (t : LY) : innerOf (entL t) = quote (finL t) := by
  unfold innerOf
  have h : entL t = (fromMail ++ quote (finL t)) ++ [10] := rfl
  rw [entL_len, h, List.take_left' (by simp [fromMail])]
  rw [List.drop_left' (by rfl)]
theorem entL_ok (t : LY) : entryOk (entL t) := by
  have hl := entL_len t
  have hin : (((entL t).take ((entL t).length - 1)).drop 10) = quote (finL t) := entL_inner t
  refine ⟨by omega, ?_, ?_, ?_⟩
  · unfold entL; rw [List.append_assoc, List.take_left' (by rfl)]
  · have h : entL t = (fromMail ++ quote (finL t)) ++ [10] := rfl
    rw [h, List.getElem?_append_right (by simp)]
    simp
  · rw [hin]
    obtain ⟨ls, h1, h2, -⟩ := fin_shape t
    have hq : quote (finL t) = (ls.map quoteL).flatten := by unfold quote; rw [h1, List.flatMap_def]
    rw [hq]
    rcases List.eq_nil_or_concat ls with rfl | ⟨r, l, rfl⟩
    · left; rfl
    · right
      obtain ⟨p, hp, -⟩ := isLine_quoteL (h2 l (by simp))
      simp only [List.concat_eq_append, List.map_append, List.map_cons, List.map_nil, List.flatten_append, List.flatten_cons, List.flatten_nil, List.append_nil, hp]
      rw [← List.append_assoc, List.getElem?_append_right (by simp)]
      simp
theorem entL_span (t : LY) (a : Nat) : spanOf (entL t) (a + (entL t).length) = ((a : Int), ((a + (entL t).length : Nat) : Int), finL t) := by
  unfold spanOf
  rw [entL_inner, unquote_quote]
  congr 1
  omega
/-- the entries' places -/
def placesL : List LY → Nat → List SpanL
  | [], _ => []
  | t :: r, a => ((a : Int), ((a + (entL t).length : Nat) : Int), finL t) :: placesL r (a + (entL t).length)
theorem specG_entries : ∀ (bs : List LY) (cur : LY) (at_ : Nat) (acc : List SpanL), 0 < at_ → entryOk cur → specG (lines (bs.flatMap entL)) cur at_ acc = some (acc ++ spanOf cur at_ :: placesL bs at_)
  | [], cur, at_, acc, h0, hc => by
    show (if 0 < at_ then (if entryOk cur then some (acc ++ [spanOf cur at_]) else none) else some acc) = _
    rw [if_pos h0, if_pos hc]; rfl
  | t :: bs, cur, at_, acc, h0, hc => by
    obtain ⟨M, h1, h2, h3⟩ := entL_lines t (bs.flatMap entL)
    rw [List.flatMap_cons, h1]
    show (if marks fromMail = 0 ∧ 0 < at_ then (if entryOk cur then specG (M ++ lines (bs.flatMap entL)) fromMail (at_ + fromMail.length) (acc ++ [spanOf cur at_]) else none) else _) = _
    rw [if_pos ⟨by decide, h0⟩, if_pos hc, specG_run M _ _ _ h2, h3]
    have hl : at_ + fromMail.length + M.flatten.length = at_ + (entL t).length := by rw [← h3, List.length_append]; omega
    rw [hl, specG_entries bs (entL t) _ _ (by rw [entL_len]; omega) (entL_ok t), entL_span]
    show _ = some (acc ++ spanOf cur at_ :: ((at_ : Int), ((at_ + (entL t).length : Nat) : Int), finL t) :: placesL bs (at_ + (entL t).length))
    simp
theorem mbox_entries (bs : List LY) (h : (bs.flatMap entL).length ≤ 40000) : MboxL (bs.flatMap entL) = (true, placesL bs 0) := by
  unfold MboxL
  rw [if_neg (by omega)]
  cases bs with
  | nil => rfl
  | cons t bs =>
    obtain ⟨M, h1, h2, h3⟩ := entL_lines t (bs.flatMap entL)
    have hs : specG (lines ((t :: bs).flatMap entL)) [] 0 [] = some (placesL (t :: bs) 0) := by
      rw [List.flatMap_cons, h1]
      show (if marks fromMail = 0 ∧ 0 < 0 then _ else specG (M ++ lines (bs.flatMap entL)) ([] ++ fromMail) (0 + fromMail.length) []) = _
      rw [if_neg (fun hh => absurd hh.2 (Nat.lt_irrefl _)), specG_run M _ _ _ h2, List.nil_append, h3]
      have hl : 0 + fromMail.length + M.flatten.length = 0 + (entL t).length := by rw [← h3, List.length_append]; omega
      rw [hl, specG_entries bs (entL t) _ _ (by rw [entL_len]; omega) (entL_ok t), entL_span]
      rfl
    rw [hs]
end Go.Proofs.Ytciiejkfppnimaa
