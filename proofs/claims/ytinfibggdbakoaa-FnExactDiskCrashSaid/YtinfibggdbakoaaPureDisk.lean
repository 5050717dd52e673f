/- A directory's entries in order, in plain lists: found, bound, left, replayed. -/
import Derived.Sort.Walk0
namespace Go.Proofs.Ytinfibggdbakoaa
set_option linter.unusedVariables false
abbrev LB := List UInt8
abbrev EntL := LB × Int
abbrev DopL := Int × LB × LB × Int
abbrev NodL := LB × Int
theorem bl_eq (x y : LB) : Op.bytesLess x y = decide (x < y) := bytesLess_eq x y
theorem lb_irr (a : LB) : ¬ a < a := List.lt_irrefl a
theorem lb_trans {a b c : LB} (h : a < b) (k : b < c) : a < c := List.lt_trans h k
theorem lb_tri {a b : LB} (h : ¬ a < b) (k : ¬ b < a) : a = b := List.le_antisymm (List.not_lt.1 k) (List.not_lt.1 h)
theorem lb_asym {a b : LB} (h : a < b) : ¬ b < a := fun k => lb_irr a (lb_trans h k)
def goodL (s : LB) : Bool := decide (1 ≤ s.length) && decide (s.length ≤ 80) && s.all (fun b => decide (33 ≤ b.toNat ∧ b.toNat ≤ 126))
/-- in the order of their names -/
def Ord (l : List EntL) : Prop := l.Pairwise (fun a b => a.1 < b.1)
def lowE (l : List EntL) (n : LB) : List EntL := l.filter (fun e => decide (e.1 < n))
def highE (l : List EntL) (n : LB) : List EntL := l.filter (fun e => decide (n < e.1))
def withE (l : List EntL) (n : LB) (k : Int) : List EntL := lowE l n ++ (n, k) :: highE l n
def outE (l : List EntL) (n : LB) : List EntL := l.filter (fun e => decide (e.1 ≠ n))
/-- the first place of a name -/
def findG (n : LB) : List EntL → Nat → Int
  | [], _ => -1
  | e :: r, i => if e.1 = n then (i : Int) else findG n r (i + 1)
def findE (l : List EntL) (n : LB) : Int := findG n l 0
/-- how many names stand below -/
def placeE (l : List EntL) (n : LB) : Nat := l.countP (fun e => decide (e.1 < n))
def hasE (l : List EntL) (n : LB) : Bool := l.any (fun e => decide (e.1 = n))
def hasNode (l : List EntL) (k : Int) : Bool := l.any (fun e => decide (e.2 = k))
theorem outE_split {l : List EntL} (h : Ord l) (n : LB) : outE l n = lowE l n ++ highE l n := by
  induction l with
  | nil => rfl
  | cons e r ih =>
    have hr := (List.pairwise_cons.1 h).2
    have he := (List.pairwise_cons.1 h).1
    have ih := ih hr
    unfold outE lowE highE at ih ⊢
    by_cases h1 : e.1 < n
    · rw [List.filter_cons_of_pos (by simp; intro hh; rw [hh] at h1; exact lb_irr _ h1), List.filter_cons_of_pos (by simpa using h1), List.filter_cons_of_neg (by simpa using lb_asym h1), ih]; rfl
    · have hlow : r.filter (fun e => decide (e.1 < n)) = [] := by
        rw [List.filter_eq_nil_iff]; intro x hx; simp only [decide_eq_true_eq]; intro hh; exact h1 (lb_trans (he x hx) hh)
      rw [hlow, List.nil_append] at ih
      by_cases h2 : n < e.1
      · rw [List.filter_cons_of_pos (by simp; intro hh; rw [hh] at h2; exact lb_irr _ h2), List.filter_cons_of_neg (by simpa using h1), List.filter_cons_of_pos (by simpa using h2), hlow, ih]; rfl
      · rw [List.filter_cons_of_neg (by simp; exact lb_tri h1 h2), List.filter_cons_of_neg (by simpa using h1), List.filter_cons_of_neg (by simpa using h2), hlow, ih]; rfl
/-- below its place stand the lower names, from it on the others -/
theorem place_take {l : List EntL} (h : Ord l) (n : LB) : l.take (placeE l n) = lowE l n ∧ l.drop (placeE l n) = l.filter (fun e => decide (¬ e.1 < n)) := by
  induction l with
  | nil => exact ⟨rfl, rfl⟩
  | cons e r ih =>
    have hr := (List.pairwise_cons.1 h).2
    have he := (List.pairwise_cons.1 h).1
    have ih := ih hr
    unfold placeE lowE at ih ⊢
    by_cases h1 : e.1 < n
    · rw [List.countP_cons_of_pos (by simpa using h1), List.filter_cons_of_pos (by simpa using h1), List.filter_cons_of_neg (by simpa using h1)]
      exact ⟨by rw [List.take_succ_cons, ih.1], by rw [List.drop_succ_cons, ih.2]⟩
    · have hno : ∀ x ∈ r, ¬ x.1 < n := fun x hx hh => h1 (lb_trans (he x hx) hh)
      have hc : r.countP (fun e => decide (e.1 < n)) = 0 := by rw [List.countP_eq_zero]; intro x hx; simpa using hno x hx
      have hlow : r.filter (fun e => decide (e.1 < n)) = [] := by rw [List.filter_eq_nil_iff]; intro x hx; simpa using hno x hx
      have hhi : r.filter (fun e => decide (¬ e.1 < n)) = r := by rw [List.filter_eq_self]; intro x hx; simpa using hno x hx
      rw [List.countP_cons_of_neg (by simpa using h1), List.filter_cons_of_neg (by simpa using h1), List.filter_cons_of_pos (by simpa using h1), hc, hlow, hhi]
      exact ⟨rfl, rfl⟩
theorem placeE_le (l : List EntL) (n : LB) : placeE l n ≤ l.length := List.countP_le_length
/-- at its place stands the name, or a higher one -/
theorem place_at {l : List EntL} (h : Ord l) (n : LB) : (hasE l n = true ↔ ∃ hl : placeE l n < l.length, l[placeE l n].1 = n) ∧ (hasE l n = true → l.drop (placeE l n + 1) = highE l n) ∧ (hasE l n = false → l.drop (placeE l n) = highE l n) := by
  induction l with
  | nil => exact ⟨by simp [hasE], by simp [hasE], by simp [highE]⟩
  | cons e r ih =>
    have hr := (List.pairwise_cons.1 h).2
    have he := (List.pairwise_cons.1 h).1
    obtain ⟨i1, i2, i3⟩ := ih hr
    by_cases h1 : e.1 < n
    · have hp : placeE (e :: r) n = placeE r n + 1 := by unfold placeE; rw [List.countP_cons_of_pos (by simpa using h1)]
      have hh : hasE (e :: r) n = hasE r n := by
        unfold hasE
        rw [List.any_cons, show decide (e.1 = n) = false from by simp; intro hh; rw [hh] at h1; exact lb_irr _ h1, Bool.false_or]
      have hhi : highE (e :: r) n = highE r n := by unfold highE; rw [List.filter_cons_of_neg (by simpa using lb_asym h1)]
      rw [hp, hh, hhi]
      refine ⟨?_, by rw [List.drop_succ_cons]; exact i2, by rw [List.drop_succ_cons]; exact i3⟩
      rw [i1]
      constructor
      · rintro ⟨hl, hx⟩; exact ⟨by simp; omega, by simpa using hx⟩
      · rintro ⟨hl, hx⟩; exact ⟨by simp at hl; omega, by simpa using hx⟩
    · have hno : ∀ x ∈ r, ¬ x.1 < n := fun x hx hh => h1 (lb_trans (he x hx) hh)
      have hp : placeE (e :: r) n = 0 := by
        unfold placeE; rw [List.countP_cons_of_neg (by simpa using h1), List.countP_eq_zero]; intro x hx; simpa using hno x hx
      by_cases h2 : e.1 = n
      · have hall : highE (e :: r) n = r := by
          unfold highE
          rw [List.filter_cons_of_neg (by simp [h2, lb_irr]), List.filter_eq_self]
          intro x hx; have := he x hx; rw [h2] at this; simpa using this
        have hh : hasE (e :: r) n = true := by unfold hasE; simp [h2]
        rw [hp, hh, hall]
        exact ⟨⟨fun _ => ⟨by simp, h2⟩, fun _ => rfl⟩, fun _ => rfl, fun hf => (by cases hf)⟩
      · have hlt : n < e.1 := by
          rcases Decidable.em (n < e.1) with h | h
          · exact h
          · exact absurd (lb_tri h1 h) h2
        have hhi : ∀ x ∈ r, n < x.1 := fun x hx => lb_trans hlt (he x hx)
        have hall : highE (e :: r) n = e :: r := by
          unfold highE
          rw [List.filter_eq_self]
          intro x hx
          rcases List.mem_cons.1 hx with rfl | hx
          · simpa using hlt
          · simpa using hhi x hx
        have hh : hasE (e :: r) n = false := by
          unfold hasE
          rw [List.any_eq_false]
          intro x hx
          rcases List.mem_cons.1 hx with rfl | hx
          · simpa using h2
          · simp only [decide_eq_true_eq]; intro hh; have := hhi x hx; rw [hh] at this; exact lb_irr _ this
        rw [hp, hh, hall]
        refine ⟨⟨fun hf => (by cases hf), ?_⟩, fun hf => (by cases hf), fun _ => rfl⟩
        rintro ⟨hl, hx⟩
        exact absurd hx h2
theorem find_has (n : LB) : ∀ (l : List EntL) (i : Nat), (findG n l i = -1 ∧ hasE l n = false) ∨ (∃ j, j < l.length ∧ findG n l i = ((i + j : Nat) : Int) ∧ hasE l n = true ∧ ∃ e, l[j]? = some e ∧ e.1 = n)
  | [], i => .inl ⟨rfl, rfl⟩
  | e :: r, i => by
    by_cases h : e.1 = n
    · exact .inr ⟨0, by simp, by simp [findG, h], by simp [hasE, h], e, rfl, h⟩
    · have e1 : findG n (e :: r) i = findG n r (i + 1) := by simp [findG, h]
      have e2 : hasE (e :: r) n = hasE r n := by simp [hasE, h]
      rcases find_has n r (i + 1) with ⟨h1, h2⟩ | ⟨j, hj, h1, h2, x, hx, hxn⟩
      · exact .inl ⟨by rw [e1, h1], by rw [e2, h2]⟩
      · exact .inr ⟨j + 1, by simp; omega, by rw [e1, h1]; omega, by rw [e2, h2], x, by simpa using hx, hxn⟩
/-- where a list is in order, the first place of a name is its place -/
theorem find_place {l : List EntL} (h : Ord l) (n : LB) : findE l n = if hasE l n then (placeE l n : Int) else -1 := by
  rcases find_has n l 0 with ⟨h1, h2⟩ | ⟨j, hj, h1, h2, x, hx, hxn⟩
  · unfold findE; rw [h1, h2]; rfl
  · unfold findE; rw [h1, h2, if_pos rfl]
    obtain ⟨hp, hpe⟩ := (place_at h n).1.mp h2
    have hx' : l[j].1 = n := by
      have := (List.getElem?_eq_some_iff.1 hx).2; rw [this]; exact hxn
    have hpw := List.pairwise_iff_getElem.1 h
    rcases Nat.lt_trichotomy j (placeE l n) with hlt | heq | hgt
    · have := hpw j _ hj hp hlt; rw [hx', hpe] at this; exact absurd this (lb_irr _)
    · rw [heq]; simp
    · have := hpw _ j hp hj hgt; rw [hx', hpe] at this; exact absurd this (lb_irr _)
/-- the specification's way of binding: ahead of the first higher name -/
def withG (n : LB) (k : Int) : List EntL → Bool → List EntL
  | [], done => if done then [] else [(n, k)]
  | e :: r, done => if done = false ∧ n < e.1 then (n, k) :: e :: withG n k r true else e :: withG n k r done
theorem withG_true (n : LB) (k : Int) : ∀ l, withG n k l true = l
  | [] => rfl
  | e :: r => by unfold withG; rw [if_neg (by simp), withG_true n k r]
theorem withG_is {l : List EntL} (h : Ord l) (n : LB) (k : Int) (hno : hasE l n = false) : withG n k l false = withE l n k := by
  induction l with
  | nil => rfl
  | cons e r ih =>
    have hr := (List.pairwise_cons.1 h).2
    have he := (List.pairwise_cons.1 h).1
    have hne : e.1 ≠ n := by unfold hasE at hno; rw [List.any_cons, Bool.or_eq_false_iff] at hno; simpa using hno.1
    have hno2 : hasE r n = false := by unfold hasE at hno; rw [List.any_cons, Bool.or_eq_false_iff] at hno; exact hno.2
    have ih := ih hr hno2
    unfold withG
    by_cases h1 : n < e.1
    · rw [if_pos ⟨rfl, h1⟩, withG_true]
      unfold withE lowE highE
      have hlow : (e :: r).filter (fun x => decide (x.1 < n)) = [] := by
        rw [List.filter_eq_nil_iff]; intro x hx; simp only [decide_eq_true_eq]
        rcases List.mem_cons.1 hx with rfl | hx
        · exact lb_asym h1
        · exact lb_asym (lb_trans h1 (he x hx))
      have hhi : (e :: r).filter (fun x => decide (n < x.1)) = e :: r := by
        rw [List.filter_eq_self]; intro x hx
        rcases List.mem_cons.1 hx with rfl | hx
        · simpa using h1
        · simpa using lb_trans h1 (he x hx)
      rw [hlow, hhi]; rfl
    · have hlt : e.1 < n := by
        rcases Decidable.em (e.1 < n) with h | h
        · exact h
        · exact absurd (lb_tri h h1) hne
      rw [if_neg (fun hh => h1 hh.2), ih]
      unfold withE lowE highE
      rw [List.filter_cons_of_pos (by simpa using hlt), List.filter_cons_of_neg (by simpa using h1)]; rfl
theorem ord_sub {l m : List EntL} (h : Ord l) (hs : m.Sublist l) : Ord m := List.Pairwise.sublist hs h
theorem ord_out {l : List EntL} (h : Ord l) (n : LB) : Ord (outE l n) := ord_sub h List.filter_sublist
theorem ord_low {l : List EntL} (h : Ord l) (n : LB) : Ord (lowE l n) := ord_sub h List.filter_sublist
theorem ord_high {l : List EntL} (h : Ord l) (n : LB) : Ord (highE l n) := ord_sub h List.filter_sublist
theorem ord_with {l : List EntL} (h : Ord l) (n : LB) (k : Int) : Ord (withE l n k) := by
  unfold withE Ord
  rw [List.pairwise_append]
  have hl : ∀ x ∈ lowE l n, x.1 < n := fun x hx => by simpa using (List.mem_filter.1 hx).2
  have hh : ∀ x ∈ highE l n, n < x.1 := fun x hx => by simpa using (List.mem_filter.1 hx).2
  refine ⟨ord_low h n, List.pairwise_cons.2 ⟨fun x hx => hh x hx, ord_high h n⟩, fun a ha b hb => ?_⟩
  rcases List.mem_cons.1 hb with rfl | hb
  · exact hl a ha
  · exact lb_trans (hl a ha) (hh b hb)
theorem outE_has (l : List EntL) (n : LB) : hasE (outE l n) n = false := by
  unfold hasE outE
  rw [List.any_eq_false]
  intro x hx
  have := (List.mem_filter.1 hx).2
  simpa using this
theorem low_out (l : List EntL) (n : LB) : lowE (outE l n) n = lowE l n := by
  unfold lowE outE; rw [List.filter_filter]
  congr 1; funext e
  by_cases h : e.1 < n
  · have : e.1 ≠ n := fun hh => by rw [hh] at h; exact lb_irr _ h
    simp [h, this]
  · simp [h]
theorem high_out (l : List EntL) (n : LB) : highE (outE l n) n = highE l n := by
  unfold highE outE; rw [List.filter_filter]
  congr 1; funext e
  by_cases h : n < e.1
  · have : e.1 ≠ n := fun hh => by rw [hh] at h; exact lb_irr _ h
    simp [h, this]
  · simp [h]
/-- the specification's binding -/
theorem withS_is {l : List EntL} (h : Ord l) (n : LB) (k : Int) : withG n k (outE l n) false = withE l n k := by
  rw [withG_is (ord_out h n) n k (outE_has l n)]
  unfold withE; rw [low_out, high_out]
/-- the program's: over the name that is there, or between -/
theorem bind_there {l : List EntL} (h : Ord l) (n : LB) (k : Int) (ht : hasE l n = true) : l.set (placeE l n) (n, k) = withE l n k := by
  obtain ⟨hp, hpe⟩ := (place_at h n).1.mp ht
  rw [List.set_eq_take_append_cons_drop, if_pos hp, (place_take h n).1, (place_at h n).2.1 ht]; rfl
theorem bind_not {l : List EntL} (h : Ord l) (n : LB) (k : Int) (ht : hasE l n = false) : l.take (placeE l n) ++ (n, k) :: l.drop (placeE l n) = withE l n k := by
  rw [(place_take h n).1, (place_at h n).2.2 ht]; rfl
theorem leave_is {l : List EntL} (h : Ord l) (n : LB) (ht : hasE l n = true) : l.take (placeE l n) ++ l.drop (placeE l n + 1) = outE l n := by
  rw [(place_take h n).1, (place_at h n).2.1 ht, outE_split h n]
theorem withE_len {l : List EntL} (n : LB) (k : Int) : (withE l n k).length ≤ l.length + 1 := by
  unfold withE lowE highE
  rw [List.length_append, List.length_cons]
  have : (l.filter (fun e => decide (e.1 < n))).length + (l.filter (fun e => decide (n < e.1))).length ≤ l.length := by
    induction l with
    | nil => simp
    | cons e r ih =>
      by_cases h1 : e.1 < n
      · rw [List.filter_cons_of_pos (by simpa using h1), List.filter_cons_of_neg (by simpa using lb_asym h1)]; simp; omega
      · rw [List.filter_cons_of_neg (by simpa using h1), List.filter_cons]; split <;> simp <;> omega
  omega
theorem outE_len (l : List EntL) (n : LB) : (outE l n).length ≤ l.length := List.length_filter_le _ _
/-- an operation replayed -/
def replayL (l : List EntL) (o : DopL) (nodes : Int) : Option (List EntL) :=
  if o.1 = 1 then (if goodL o.2.1 = true ∧ o.2.2.1 = [] ∧ 0 ≤ o.2.2.2 ∧ o.2.2.2 < nodes ∧ hasNode l o.2.2.2 = false then some (withE l o.2.1 o.2.2.2) else none)
  else if o.1 = 4 then (if hasE l o.2.1 = true ∧ goodL o.2.2.1 = true ∧ o.2.2.1 ≠ o.2.1 ∧ o.2.2.2 = 0 then some (withE (outE l o.2.1) o.2.2.1 ((l[placeE l o.2.1]?.getD ([], 0)).2)) else none)
  else if o.1 = 5 then (if hasE l o.2.1 = true ∧ o.2.2.1 = [] ∧ o.2.2.2 = 0 then some (outE l o.2.1) else none)
  else none
theorem replayL_ord {l m : List EntL} {o : DopL} {nodes : Int} (h : Ord l) (hr : replayL l o nodes = some m) : Ord m := by
  unfold replayL at hr
  split at hr
  · split at hr
    · obtain rfl := Option.some.inj hr; exact ord_with h _ _
    · cases hr
  · split at hr
    · split at hr
      · obtain rfl := Option.some.inj hr; exact ord_with (ord_out h _) _ _
      · cases hr
    · split at hr
      · split at hr
        · obtain rfl := Option.some.inj hr; exact ord_out h _
        · cases hr
      · cases hr
theorem replayL_len {l m : List EntL} {o : DopL} {nodes : Int} (hr : replayL l o nodes = some m) : m.length ≤ l.length + 1 := by
  unfold replayL at hr
  split at hr
  · split at hr
    · obtain rfl := Option.some.inj hr; exact withE_len _ _
    · cases hr
  · split at hr
    · split at hr
      · obtain rfl := Option.some.inj hr
        refine Nat.le_trans (withE_len _ _) ?_
        have := outE_len l o.2.1; omega
      · cases hr
    · split at hr
      · split at hr
        · obtain rfl := Option.some.inj hr; have := outE_len l o.2.1; omega
        · cases hr
      · cases hr
/-- a list of names that is good -/
def inOrdL (l : List EntL) (nodes : Int) : Bool := decide (l.length ≤ 300) && l.all (fun e => goodL e.1 && decide (0 ≤ e.2 ∧ e.2 < nodes)) && decide (l.Pairwise (fun a b => a.1 < b.1 ∧ a.2 ≠ b.2))
theorem inOrdL_ord {l : List EntL} {nodes : Int} (h : inOrdL l nodes = true) : Ord l := by
  unfold inOrdL at h
  simp only [Bool.and_eq_true, decide_eq_true_eq] at h
  exact h.2.imp fun h => h.1
def replaysL (nodes : Int) : List EntL → List DopL → Option (List EntL)
  | l, [] => some l
  | l, o :: r => match replayL l o nodes with
    | none => none
    | some m => if m.length ≤ 300 then replaysL nodes m r else none
abbrev DiskL := List NodL × (List EntL × (List EntL × (List DopL × Int)))
def sumD (l : List NodL) : Nat := (l.map fun n => n.1.length).sum
def nodeOk (n : NodL) : Bool := decide (n.1.length ≤ 40000 ∧ 0 ≤ n.2 ∧ n.2 ≤ n.1.length)
def DiskValidL (d : DiskL) : Bool :=
  decide (0 ≤ d.2.2.2.2 ∧ d.2.2.2.2 ≤ 1000000 ∧ d.1.length ≤ 600 ∧ d.2.2.2.1.length ≤ 1000) && d.1.all nodeOk && decide (sumD d.1 ≤ 200000) && inOrdL d.2.1 d.1.length && inOrdL d.2.2.1 d.1.length &&
    (match replaysL d.1.length d.2.2.1 d.2.2.2.1 with | none => false | some l => decide (l = d.2.1))
end Go.Proofs.Ytinfibggdbakoaa
