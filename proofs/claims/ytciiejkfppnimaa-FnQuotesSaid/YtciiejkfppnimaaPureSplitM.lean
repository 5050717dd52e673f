/- An mbox text cut into its entries, in plain lists. -/
import Derived.Test.YtciiejkfppnimaaPureMbox
namespace Go.Proofs.Ytciiejkfppnimaa
set_option linter.unusedVariables false
abbrev SpanL := Int × (Int × List UInt8)
def fromMail : List UInt8 := [70, 114, 111, 109, 32, 109, 97, 105, 108, 10]
/-- is an entry well-formed -/
def entryOk (e : List UInt8) : Prop := 10 < e.length ∧ e.take 10 = fromMail ∧ e[e.length - 1]? = some 10 ∧ ((e.take (e.length - 1)).drop 10 = [] ∨ ((e.take (e.length - 1)).drop 10)[((e.take (e.length - 1)).drop 10).length - 1]? = some 10)
instance (e : List UInt8) : Decidable (entryOk e) := inferInstanceAs (Decidable (_ ∧ _))
def innerOf (e : List UInt8) : List UInt8 := (e.take (e.length - 1)).drop 10
def spanOf (e : List UInt8) (stop : Nat) : SpanL := ((stop : Int) - (e.length : Int), (stop : Int), unquote (innerOf e))
/-- the specification: cur is what stands since the last head, at is where we are -/
def specG : List (List UInt8) → List UInt8 → Nat → List SpanL → Option (List SpanL)
  | [], cur, at_, acc => if 0 < at_ then (if entryOk cur then some (acc ++ [spanOf cur at_]) else none) else some acc
  | l :: r, cur, at_, acc => if marks l = 0 ∧ 0 < at_ then (if entryOk cur then specG r l (at_ + l.length) (acc ++ [spanOf cur at_]) else none) else specG r (cur ++ l) (at_ + l.length) acc
/-- where the heads stand -/
def startsL : List (List UInt8) → Nat → List Nat
  | [], _ => []
  | l :: r, at_ => if marks l = 0 then at_ :: startsL r (at_ + l.length) else startsL r (at_ + l.length)
def pieceOf (t : List UInt8) (s e : Nat) : List UInt8 := (t.take e).drop s
/-- the program: from start to start -/
def entG (t : List UInt8) : List Nat → List SpanL → Option (List SpanL)
  | [], acc => some acc
  | [s], acc => if entryOk (pieceOf t s t.length) then some (acc ++ [((s : Int), (t.length : Int), unquote (innerOf (pieceOf t s t.length)))]) else none
  | s :: e :: r, acc => if entryOk (pieceOf t s e) then entG t (e :: r) (acc ++ [((s : Int), (e : Int), unquote (innerOf (pieceOf t s e)))]) else none
def MboxL (t : List UInt8) : Bool × List SpanL :=
  if 40000 < t.length then (false, []) else match specG (lines t) [] 0 [] with
  | some l => (true, l)
  | none => (false, [])
theorem pieceOf_len {t : List UInt8} {s e : Nat} (h1 : s ≤ e) (h2 : e ≤ t.length) : (pieceOf t s e).length = e - s := by
  unfold pieceOf; rw [List.length_drop, List.length_take]; omega
theorem spanOf_piece {t : List UInt8} {s e : Nat} (h1 : s ≤ e) (h2 : e ≤ t.length) : spanOf (pieceOf t s e) e = ((s : Int), (e : Int), unquote (innerOf (pieceOf t s e))) := by
  unfold spanOf; rw [pieceOf_len h1 h2]; congr 1; omega
theorem pieceOf_app {t l r : List UInt8} {s at_ : Nat} (hs : s ≤ at_) (h : t.drop at_ = l ++ r) (ha : at_ ≤ t.length) : pieceOf t s at_ ++ l = pieceOf t s (at_ + l.length) := by
  unfold pieceOf
  have h1 : t.take (at_ + l.length) = t.take at_ ++ l := by
    rw [List.take_add, h, List.take_left']
    rfl
  rw [h1, List.drop_append_of_le_length (by rw [List.length_take]; omega)]
theorem specG_is {t : List UInt8} : ∀ (r : List (List UInt8)) (s at_ : Nat) (acc : List SpanL), 0 < at_ → s ≤ at_ → at_ ≤ t.length → t.drop at_ = r.flatten → specG r (pieceOf t s at_) at_ acc = entG t (s :: startsL r at_) acc
  | [], s, at_, acc, h0, hs, ha, hr => by
    have : at_ = t.length := by
      have := congrArg List.length hr
      rw [List.length_drop] at this
      simp at this; omega
    subst this
    show (if 0 < t.length then (if entryOk (pieceOf t s t.length) then some (acc ++ [spanOf (pieceOf t s t.length) t.length]) else none) else some acc) = _
    rw [if_pos h0, spanOf_piece hs (Nat.le_refl _)]
    rfl
  | l :: r, s, at_, acc, h0, hs, ha, hr => by
    have hl : at_ + l.length ≤ t.length := by
      have := congrArg List.length hr
      rw [List.length_drop, List.flatten_cons, List.length_append] at this
      omega
    have hr2 : t.drop (at_ + l.length) = r.flatten := by
      rw [← List.drop_drop, hr, List.flatten_cons, List.drop_left']
      rfl
    show (if marks l = 0 ∧ 0 < at_ then (if entryOk (pieceOf t s at_) then specG r l (at_ + l.length) (acc ++ [spanOf (pieceOf t s at_) at_]) else none) else specG r (pieceOf t s at_ ++ l) (at_ + l.length) acc) = _
    by_cases hm : marks l = 0
    · rw [if_pos ⟨hm, h0⟩]
      have e1 : startsL (l :: r) at_ = at_ :: startsL r (at_ + l.length) := by show (if marks l = 0 then _ else _) = _; rw [if_pos hm]
      rw [e1]
      have e2 : entG t (s :: at_ :: startsL r (at_ + l.length)) acc = if entryOk (pieceOf t s at_) then entG t (at_ :: startsL r (at_ + l.length)) (acc ++ [((s : Int), (at_ : Int), unquote (innerOf (pieceOf t s at_)))]) else none := rfl
      rw [e2, spanOf_piece hs ha]
      have hp : l = pieceOf t at_ (at_ + l.length) := by
        have := pieceOf_app (s := at_) (Nat.le_refl _) (by rw [hr, List.flatten_cons]) ha
        rw [← this]
        have : pieceOf t at_ at_ = [] := List.eq_nil_of_length_eq_zero (by rw [pieceOf_len (Nat.le_refl _) ha]; omega)
        rw [this]; rfl
      have ih := specG_is r at_ (at_ + l.length) (acc ++ [((s : Int), (at_ : Int), unquote (innerOf (pieceOf t s at_)))]) (by omega) (by omega) hl hr2
      rw [← hp] at ih
      rw [ih]
    · rw [if_neg (fun h => hm h.1), pieceOf_app hs (by rw [hr, List.flatten_cons]) ha]
      have e1 : startsL (l :: r) at_ = startsL r (at_ + l.length) := by show (if marks l = 0 then _ else _) = _; rw [if_neg hm]
      rw [e1]
      exact specG_is r s (at_ + l.length) acc (by omega) (by omega) hl hr2
theorem findIdx_fm (r : List UInt8) : lineLen (fromMail ++ r) = 10 := by
  unfold lineLen fromMail
  simp [List.findIdx?_cons]
/-- the whole, as the program goes about it -/
theorem specG_start {t : List UInt8} (ht : t ≠ []) : specG (lines t) [] 0 [] = if (startsL (lines t) 0).head? = some 0 then entG t (startsL (lines t) 0) [] else none := by
  have hst := lines_step t ht
  have hp := lineLen_pos ht
  have hle := lineLen_le t
  rw [hst]
  have hll : (t.take (lineLen t)).length = lineLen t := by rw [List.length_take]; omega
  have h1 : specG (t.take (lineLen t) :: lines (t.drop (lineLen t))) [] 0 [] = specG (lines (t.drop (lineLen t))) (t.take (lineLen t)) (lineLen t) [] := by
    show (if marks (t.take (lineLen t)) = 0 ∧ 0 < 0 then _ else specG (lines (t.drop (lineLen t))) ([] ++ t.take (lineLen t)) (0 + (t.take (lineLen t)).length) []) = _
    rw [if_neg (fun h => absurd h.2 (Nat.lt_irrefl _)), hll, Nat.zero_add]; rfl
  have h2 : t.take (lineLen t) = pieceOf t 0 (lineLen t) := by unfold pieceOf; rw [List.drop_zero]
  have h3 := specG_is (t := t) (lines (t.drop (lineLen t))) 0 (lineLen t) [] hp (Nat.zero_le _) hle (by rw [lines_flat])
  rw [← h2] at h3
  rw [h1, h3]
  by_cases hm : marks (t.take (lineLen t)) = 0
  · have e1 : startsL (t.take (lineLen t) :: lines (t.drop (lineLen t))) 0 = 0 :: startsL (lines (t.drop (lineLen t))) (lineLen t) := by
      show (if marks (t.take (lineLen t)) = 0 then _ else _) = _
      rw [if_pos hm, hll, Nat.zero_add]
    rw [e1]
    exact (if_pos rfl).symm
  · have e1 : startsL (t.take (lineLen t) :: lines (t.drop (lineLen t))) 0 = startsL (lines (t.drop (lineLen t))) (lineLen t) := by
      show (if marks (t.take (lineLen t)) = 0 then _ else _) = _
      rw [if_neg hm, hll, Nat.zero_add]
    rw [e1]
    have hge : ∀ (r : List (List UInt8)) (a : Nat), 0 < a → (startsL r a).head? ≠ some 0 := by
      intro r
      induction r with
      | nil => intro a ha; simp [startsL]
      | cons l r ih =>
        intro a ha
        show (if marks l = 0 then a :: startsL r (a + l.length) else startsL r (a + l.length)).head? ≠ _
        split
        · simp; omega
        · exact ih _ (by omega)
    rw [if_neg (hge _ _ hp)]
    -- the first entry begins with a head, or is none
    have hno : ∀ e, e ≤ t.length → ¬ entryOk (pieceOf t 0 e) := by
      intro e he hok
      have hk := hok.2.1
      have hlen := hok.1
      unfold pieceOf at hk hlen
      rw [List.drop_zero] at hk hlen
      rw [List.length_take] at hlen
      rw [List.take_take, Nat.min_eq_left (by omega)] at hk
      have ht2 : t = fromMail ++ t.drop 10 := by rw [← hk]; exact (List.take_append_drop 10 t).symm
      have hlL : lineLen t = 10 := by rw [ht2]; exact findIdx_fm _
      rw [hlL, hk] at hm
      exact hm (by decide)
    cases hs : startsL (lines (t.drop (lineLen t))) (lineLen t) with
    | nil =>
      show (if entryOk (pieceOf t 0 t.length) then _ else none) = none
      rw [if_neg (hno _ (Nat.le_refl _))]
    | cons e r =>
      show (if entryOk (pieceOf t 0 e) then _ else none) = none
      by_cases he : e ≤ t.length
      · rw [if_neg (hno _ he)]
      · have : pieceOf t 0 e = pieceOf t 0 t.length := by unfold pieceOf; rw [List.take_of_length_le (by omega), List.take_length]
        rw [this, if_neg (hno _ (Nat.le_refl _))]
end Go.Proofs.Ytciiejkfppnimaa
