/- A library of memory predicates over any program: what a value reads as, what it owns, how both are kept. -/
import Derived.WalkKit
import Derived.WalkSpells
import Derived.Deep.Draws
import Derived.Maps.AppendAt
import Derived.Deep.AppendLies
import Derived.OwnWalk
import Derived.Laws.BytesArg
import Derived.Lib.Hide
namespace Go.Proofs.YtiaknomadhgckaaDoor.Mem
open Go.RowKit
set_option linter.unusedVariables false
structure Sec (p : Prop) : Prop where mk :: (out : p)
/-! ### 1. what has changed between two worlds -/
structure Mod (S : Nat → Prop) (w w' : World) : Prop where
  os : w'.os = w.os
  tape : w'.tape = w.tape
  output : w'.output = w.output
  size : w.heap.size ≤ w'.heap.size
  block : ∀ k, k < w.heap.size → ¬ S k → w'.heap[k]? = w.heap[k]?
abbrev New (w w' : World) : Prop := Mod (fun _ => False) w w'
namespace Mod
variable {S T : Nat → Prop} {a b c w w' : World}
theorem refl (S : Nat → Prop) (w : World) : Mod S w w := ⟨rfl, rfl, rfl, Nat.le_refl _, fun _ _ _ => rfl⟩
theorem trans (h : Mod S a b) (k : Mod T b c) (hT : ∀ i, T i → i < a.heap.size → S i) : Mod S a c :=
  ⟨k.os.trans h.os, k.tape.trans h.tape, k.output.trans h.output, Nat.le_trans h.size k.size, fun i hi hs =>
    (k.block i (Nat.lt_of_lt_of_le hi h.size) (fun ht => hs (hT i ht hi))).trans (h.block i hi hs)⟩
theorem transN (h : Mod S a b) (k : New b c) : Mod S a c := h.trans k (fun _ h _ => h.elim)
theorem mono (h : Mod S a b) (hS : ∀ i, i < a.heap.size → S i → T i) : Mod T a b :=
  ⟨h.os, h.tape, h.output, h.size, fun i hi ht => h.block i hi (fun hs => ht (hS i hi hs))⟩
theorem ofNew (h : New a b) : Mod S a b := h.mono fun _ _ hf => hf.elim
theorem drew (h : Mod S a w) : Mod S a w.drew := ⟨h.os, h.tape, h.output, h.size, h.block⟩
theorem drewN (h : Mod S a w) (n : Nat) : Mod S a (w.drewN n) := ⟨h.os, h.tape, h.output, h.size, h.block⟩
theorem alloc (h : Mod S a w) (o : Obj) : Mod S a (w.alloc o) :=
  h.transN ⟨rfl, rfl, rfl, by simp, fun k hk _ => Below.heap_alloc _ _ _ hk⟩
theorem setCell (h : Mod S a w) {p : Addr} (hp : p.block < a.heap.size → S p.block) (u : Value) : Mod S a (w.setCell p u) :=
  h.trans (T := fun k => k = p.block) ⟨rfl, rfl, rfl, by simp [World.setCell], fun k hk hne => Below.heap_setCell _ _ _ _ hne⟩ (fun i hi hlt => by subst hi; exact hp hlt)
theorem grown (h : Mod S a w) {row : Option Nat} (hg : w.grownBy w' row) (hr : ∀ k, row = some k → k < a.heap.size → S k) : Mod S a w' :=
  h.trans (T := fun k => row = some k) ⟨hg.os, hg.tape, hg.output, hg.size, fun k hk hne => hg.block k hk (fun e => hne e.symm)⟩ (fun i hi hlt => hr i hi hlt)
theorem toBelow (h : New w w') : Below w.heap.size w w' := ⟨h.os, h.tape, h.output, h.size, fun k hk => h.block k hk id⟩
theorem cell (h : Mod S w w') {p : Addr} (hp : p.block < w.heap.size) (hS : ¬ S p.block) : w'.cell? p = w.cell? p := World.cell?_of_block (h.block _ hp hS)
theorem frozen (h : Mod S w w') {p : Addr} (hp : p.block < w.heap.size) (hS : ¬ S p.block) : w'.frozen? p = w.frozen? p := World.frozen?_of_block (h.block _ hp hS)
theorem cell_of (h : New w w') {p : Addr} {v : Value} (hc : w.cell? p = some v) : w'.cell? p = some v := (h.cell (World.block_lt_of_cell? w p hc) id).trans hc
end Mod
/-! ### 2. blocks known whole -/
def Blk (w : World) (g : Nat) (t : TypeId) (cs : List Value) : Prop := w.heap[g]? = some (.cells cs.toArray t (0, 0))
namespace Blk
variable {w w' : World} {g : Nat} {t : TypeId} {cs : List Value}
theorem lt (h : Blk w g t cs) : g < w.heap.size := (Array.getElem?_eq_some_iff.1 h).1
theorem cell (h : Blk w g t cs) (i : Nat) : w.cell? ⟨g, i, none⟩ = cs[i]? := by
  rw [cell_of_row w g i _ t (0, 0) h]; simp
theorem frozen (h : Blk w g t cs) (i : Nat) : w.frozen? ⟨g, i, none⟩ = false := frozen_of_row w g i _ t h
theorem new (w : World) (t : TypeId) (cs : List Value) : Blk (w.alloc (.cells cs.toArray t)) w.heap.size t cs := heap_alloc_new w _
theorem move (h : Blk w g t cs) (hb : w'.heap[g]? = w.heap[g]?) : Blk w' g t cs := hb.trans h
theorem alloc (h : Blk w g t cs) (o : Obj) : Blk (w.alloc o) g t cs := h.move (Below.heap_alloc w o g h.lt)
theorem drew (h : Blk w g t cs) : Blk w.drew g t cs := h
theorem drewN (h : Blk w g t cs) (n : Nat) : Blk (w.drewN n) g t cs := h
theorem mod {S : Nat → Prop} (h : Blk w g t cs) (hm : Mod S w w') (hS : ¬ S g) : Blk w' g t cs := h.move (hm.block g h.lt hS)
theorem set_ (h : Blk w g t cs) (i : Nat) (u : Value) : Blk (w.setCell ⟨g, i, none⟩ u) g t (cs.set i u) := by
  unfold Blk at h ⊢
  simp [World.setCell, Array.getElem?_modify, h]
theorem far (h : Blk w g t cs) {p : Addr} (hp : g ≠ p.block) (u : Value) : Blk (w.setCell p u) g t cs := h.move (Below.heap_setCell w p u g hp)
theorem grown {row : Option Nat} (h : Blk w g t cs) (hb : w.grownBy w' row) (hg : some g ≠ row) : Blk w' g t cs := h.move (hb.block g h.lt hg)
end Blk
theorem add_block (a : Addr) (n : Nat) : (a.add n).block = a.block := by unfold Addr.add; split <;> rfl
theorem add_add (a : Addr) (i j : Nat) : (a.add i).add j = a.add (i + j) := by
  unfold Addr.add
  by_cases hi : i = 0 <;> by_cases hj : j = 0 <;> simp [hi, hj, Nat.add_assoc]
theorem add_own (g j : Nat) : (⟨g, 0, none⟩ : Addr).add j = ⟨g, j, none⟩ := by unfold Addr.add; split <;> simp_all
/-! ### 3. kinds -/
structure Ty (α : Type) where
  sz : Nat
  K : World → (Nat → Prop) → α → List Value → Prop
  M : World → List Nat → α → List Value → Prop
  K_len : ∀ {w B x cs}, K w B x cs → cs.length = sz
  K_one : ∀ {w B x cs}, K w B x cs → ∀ u ∈ cs, u.oneCell' = true
  K_mod : ∀ {w w' : World} {B B' : Nat → Prop} {x cs}, K w B x cs → (∀ k, B k → B' k) → (∀ k, B k → w'.heap[k]? = w.heap[k]?) → K w' B' x cs
  M_K : ∀ {w F x cs}, M w F x cs → K w (· ∈ F) x cs
  M_mod : ∀ {w w' : World} {F x cs}, M w F x cs → (∀ k, k ∈ F → w'.heap[k]? = w.heap[k]?) → M w' F x cs
  M_lt : ∀ {w : World} {F x cs}, M w F x cs → ∀ k, k ∈ F → k < w.heap.size
  M_nd : ∀ {w F x cs}, M w F x cs → F.Nodup
def Row {α : Type} (d : Ty α) (w : World) (B : Nat → Prop) (A : Option Addr) (n : Nat) (xs : List α) : Prop :=
  xs.length = n ∧ n ≤ 9223372036854775807 ∧ (0 < n → ∃ ad, A = some ad ∧ B ad.block ∧ ∀ j x, xs[j]? = some x → ∃ c, d.K w B x c ∧ ∀ i u, c[i]? = some u → w.cell? (ad.add (j * d.sz + i)) = some u)
def Elems {α : Type} (d : Ty α) (w : World) (Fs : List (List Nat)) (xs : List α) (cs : List Value) : Prop :=
  ∃ (css : List (List Value)), cs = css.flatten ∧ css.length = xs.length ∧ Fs.length = xs.length ∧
    ∀ (j : Nat) (x : α), xs[j]? = some x → ∃ (c : List Value) (f : List Nat), css[j]? = some c ∧ Fs[j]? = some f ∧ d.M w f x c ∧ c.length = d.sz
def Own {α : Type} (d : Ty α) (e : TypeId) (w : World) (F : List Nat) (v : Value) (xs : List α) : Prop :=
  ∃ (inner : List Value) (Fs : List (List Nat)), w.ownsRow 0 e d.sz v xs.length inner ∧ Elems d w Fs xs inner ∧ F = v.ownBlock.toList ++ Fs.flatten ∧ F.Nodup
namespace Row
variable {α : Type} {d : Ty α} {w w' : World} {B B' : Nat → Prop} {A : Option Addr} {n : Nat} {xs : List α}
theorem mod (h : Row d w B A n xs) (hB : ∀ k, B k → B' k) (hb : ∀ k, B k → w'.heap[k]? = w.heap[k]?) : Row d w' B' A n xs :=
  ⟨h.1, h.2.1, fun hn => by
    obtain ⟨ad, e, hbl, hc⟩ := h.2.2 hn
    refine ⟨ad, e, hB _ hbl, fun j x hj => ?_⟩
    obtain ⟨c, hk, hcell⟩ := hc j x hj
    exact ⟨c, d.K_mod hk hB hb, fun i u hu => (World.cell?_of_block (by rw [add_block]; exact hb _ hbl)).trans (hcell i u hu)⟩⟩
theorem none_ (d : Ty α) (w : World) (B : Nat → Prop) (A : Option Addr) : Row d w B A 0 [] := ⟨rfl, by omega, fun h => absurd h (by omega)⟩
theorem at_ (h : Row d w B A n xs) {k : Nat} (hk : k < n) : ∃ ad c, ∃ hlt : k < xs.length, A = some ad ∧ B ad.block ∧ d.K w B xs[k] c ∧ ∀ i u, c[i]? = some u → w.cell? (ad.add (k * d.sz + i)) = some u := by
  obtain ⟨ad, e, hbl, hc⟩ := h.2.2 (by omega)
  have hl : k < xs.length := by have := h.1; omega
  obtain ⟨c, hK, hcell⟩ := hc k _ (List.getElem?_eq_getElem hl)
  exact ⟨ad, c, hl, e, hbl, hK, hcell⟩
theorem cut (h : Row d w B A n xs) {k m cap : Nat} (hk : k ≤ m) (hm : m ≤ n) (hc : n ≤ cap) :
    Row d w B (if cap = k then A else A.map (·.add (k * d.sz))) (m - k) ((xs.take m).drop k) := by
  refine ⟨by rw [List.length_drop, List.length_take, h.1]; omega, by have := h.2.1; omega, fun hn => ?_⟩
  obtain ⟨ad, rfl, hbl, hcell⟩ := h.2.2 (by omega)
  rw [if_neg (by omega)]
  refine ⟨ad.add (k * d.sz), rfl, by rw [add_block]; exact hbl, fun j x hj => ?_⟩
  rw [List.getElem?_drop] at hj
  have hj' : xs[k + j]? = some x := by
    rw [List.getElem?_take] at hj
    split at hj
    · exact hj
    · cases hj
  obtain ⟨c, hK, hu⟩ := hcell (k + j) x hj'
  refine ⟨c, hK, fun i u hi => ?_⟩
  rw [add_add, show k * d.sz + (j * d.sz + i) = (k + j) * d.sz + i by rw [Nat.add_mul]; omega]
  exact hu i u hi
end Row
theorem flatten_chunk {sz : Nat} : ∀ (css : List (List Value)), (∀ c ∈ css, c.length = sz) → ∀ (j : Nat) (c : List Value), css[j]? = some c →
    css.flatten = (css.take j).flatten ++ (c ++ (css.drop (j + 1)).flatten) ∧ (css.take j).flatten.length = j * sz
  | [], _, j, c, h => by simp at h
  | x :: css, hl, 0, c, h => by simp at h; subst h; simp
  | x :: css, hl, j + 1, c, h => by
    obtain ⟨h1, h2⟩ := flatten_chunk css (fun c hc => hl c (List.mem_cons_of_mem _ hc)) j c (by simpa using h)
    refine ⟨?_, ?_⟩
    · simp only [List.flatten_cons, List.take_succ_cons, List.drop_succ_cons, List.append_assoc]
      rw [← h1]
    · simp only [List.take_succ_cons, List.flatten_cons, List.length_append, h2, hl x List.mem_cons_self, Nat.add_mul]; omega
namespace Elems
variable {α : Type} {d : Ty α} {w w' : World} {Fs Gs : List (List Nat)} {xs ys : List α} {cs ds : List Value}
theorem nil (d : Ty α) (w : World) : Elems d w [] [] [] := ⟨[], rfl, rfl, rfl, fun j x h => by simp at h⟩
theorem all_len {css : List (List Value)} (hl : css.length = xs.length) (h : ∀ (j : Nat) (x : α), xs[j]? = some x → ∃ (c : List Value) (f : List Nat), css[j]? = some c ∧ Fs[j]? = some f ∧ d.M w f x c ∧ c.length = d.sz) : ∀ c ∈ css, c.length = d.sz := by
  intro c hc
  obtain ⟨j, hj, rfl⟩ := List.getElem_of_mem hc
  obtain ⟨c', f, h1, _, _, h4⟩ := h j xs[j] (List.getElem?_eq_getElem (by omega))
  rw [List.getElem?_eq_getElem hj] at h1
  obtain rfl := Option.some.inj h1
  exact h4
theorem clen (h : Elems d w Fs xs cs) : cs.length = xs.length * d.sz := by
  obtain ⟨css, rfl, h1, h2, h3⟩ := h
  have ha := all_len h1 h3
  rw [← h1]
  clear h1 h2 h3
  induction css with
  | nil => simp
  | cons c css ih => rw [List.flatten_cons, List.length_append, ih (fun c hc => ha c (List.mem_cons_of_mem _ hc)), ha c List.mem_cons_self, List.length_cons, Nat.add_mul]; omega
theorem one {x : α} {f : List Nat} {c : List Value} (h : d.M w f x c) : Elems d w [f] [x] c :=
  ⟨[c], by simp, rfl, rfl, fun j y hj => by
    cases j with
    | zero => simp at hj; subst hj; exact ⟨c, f, rfl, rfl, h, d.K_len (d.M_K h)⟩
    | succ j => simp at hj⟩
theorem append (h : Elems d w Fs xs cs) (k : Elems d w Gs ys ds) : Elems d w (Fs ++ Gs) (xs ++ ys) (cs ++ ds) := by
  obtain ⟨css, rfl, h1, h2, h3⟩ := h
  obtain ⟨dss, rfl, k1, k2, k3⟩ := k
  refine ⟨css ++ dss, by simp, by simp [h1, k1], by simp [h2, k2], fun j x hj => ?_⟩
  rcases Nat.lt_or_ge j xs.length with hlt | hge
  · rw [List.getElem?_append_left hlt] at hj
    rw [List.getElem?_append_left (by omega), List.getElem?_append_left (by omega)]
    exact h3 j x hj
  · rw [List.getElem?_append_right hge] at hj
    rw [List.getElem?_append_right (by omega), List.getElem?_append_right (by omega), h1, h2]
    exact k3 _ x hj
theorem mod (h : Elems d w Fs xs cs) (hb : ∀ k, k ∈ Fs.flatten → w'.heap[k]? = w.heap[k]?) : Elems d w' Fs xs cs := by
  obtain ⟨css, rfl, h1, h2, h3⟩ := h
  refine ⟨css, rfl, h1, h2, fun j x hj => ?_⟩
  obtain ⟨c, f, e1, e2, hm, hl⟩ := h3 j x hj
  exact ⟨c, f, e1, e2, d.M_mod hm (fun k hk => hb k (List.mem_flatten.2 ⟨f, List.mem_of_getElem? e2, hk⟩)), hl⟩
theorem lt (h : Elems d w Fs xs cs) : ∀ k, k ∈ Fs.flatten → k < w.heap.size := by
  obtain ⟨css, rfl, h1, h2, h3⟩ := h
  intro k hk
  obtain ⟨f, hf, hkf⟩ := List.mem_flatten.1 hk
  obtain ⟨j, hj, rfl⟩ := List.getElem_of_mem hf
  obtain ⟨c, f', _, hf', hm, _⟩ := h3 j xs[j] (List.getElem?_eq_getElem (by omega))
  rw [List.getElem?_eq_getElem hj] at hf'
  obtain rfl := Option.some.inj hf'
  exact d.M_lt hm k hkf
theorem ones (h : Elems d w Fs xs cs) : ∀ u ∈ cs, u.oneCell' = true := by
  obtain ⟨css, rfl, h1, h2, h3⟩ := h
  intro u hu
  obtain ⟨c, hc, huc⟩ := List.mem_flatten.1 hu
  obtain ⟨j, hj, rfl⟩ := List.getElem_of_mem hc
  obtain ⟨c', f, e1, _, hm, _⟩ := h3 j xs[j] (List.getElem?_eq_getElem (by omega))
  rw [List.getElem?_eq_getElem hj] at e1
  obtain rfl := Option.some.inj e1
  exact d.K_one (d.M_K hm) u huc
theorem at_ (h : Elems d w Fs xs cs) {j : Nat} {x : α} (hj : xs[j]? = some x) : ∃ c f, Fs[j]? = some f ∧ d.M w f x c ∧ c.length = d.sz ∧ ∃ l r, cs = l ++ (c ++ r) ∧ l.length = j * d.sz := by
  obtain ⟨css, rfl, h1, h2, h3⟩ := h
  obtain ⟨c, f, e1, e2, hm, hl⟩ := h3 j x hj
  obtain ⟨g1, g2⟩ := flatten_chunk css (all_len h1 h3) j c e1
  exact ⟨c, f, e2, hm, hl, _, _, g1, g2⟩
theorem set_ (h : Elems d w Fs xs cs) {j : Nat} (hj : j < xs.length) {l c r c' : List Value} (hcs : cs = l ++ (c ++ r)) (hl : l.length = j * d.sz) (hc : c.length = d.sz) {x' : α} {f' : List Nat} (hm' : d.M w f' x' c') :
    Elems d w (Fs.set j f') (xs.set j x') (l ++ (c' ++ r)) := by
  obtain ⟨css, rfl, h1, h2, h3⟩ := h
  have hjc : css[j]? = some css[j] := List.getElem?_eq_getElem (by omega)
  have ha := all_len h1 h3
  obtain ⟨g1, g2⟩ := flatten_chunk css ha j _ hjc
  have hll : l = (css.take j).flatten := by
    have := congrArg (List.take (j * d.sz)) (hcs.symm.trans g1)
    rw [← hl, List.take_left] at this
    rw [hl, ← g2, List.take_left] at this
    exact this
  have hrr : r = (css.drop (j + 1)).flatten := by
    have h0 := hcs.symm.trans g1
    rw [hll] at h0
    have h5 := List.append_cancel_left h0
    have h6 := congrArg (List.drop d.sz) h5
    rw [← hc, List.drop_left, hc, ← ha css[j] (List.getElem_mem _), List.drop_left] at h6
    exact h6
  have hlen' : c'.length = d.sz := d.K_len (d.M_K hm')
  refine ⟨css.set j c', ?_, by simp [h1], by simp [h2], fun i x hi => ?_⟩
  · rw [hll, hrr, List.set_eq_take_append_cons_drop, if_pos (by omega)]
    simp
  · by_cases hij : j = i
    · subst hij
      rw [List.getElem?_set_self (by omega)] at hi
      obtain rfl := Option.some.inj hi
      exact ⟨c', f', List.getElem?_set_self (by omega), List.getElem?_set_self (by omega), hm', hlen'⟩
    · rw [List.getElem?_set_ne hij] at hi
      rw [List.getElem?_set_ne hij, List.getElem?_set_ne hij]
      exact h3 i x hi
end Elems
namespace Own
variable {α : Type} {d : Ty α} {e : TypeId} {w w' : World} {F : List Nat} {v : Value} {xs : List α}
theorem nil (d : Ty α) (e : TypeId) (w : World) : Own d e w [] (.slice none 0 0) [] :=
  ⟨[], [], World.ownsRow_nil w 0 e d.sz, Elems.nil d w, rfl, List.nodup_nil⟩
theorem lt (h : Own d e w F v xs) : ∀ k, k ∈ F → k < w.heap.size := by
  obtain ⟨inner, Fs, ho, hE, rfl, hn⟩ := h
  intro k hk
  rcases List.mem_append.1 hk with hk | hk
  · exact (ho.lt k (by simpa using hk)).2
  · exact hE.lt k hk
theorem nd (h : Own d e w F v xs) : F.Nodup := by
  obtain ⟨inner, Fs, ho, hE, rfl, hn⟩ := h
  exact hn
theorem ownsRow_mod {size n base : Nat} {xs : List Value} (ho : w.ownsRow base e size v n xs) (hb : ∀ k, v.ownBlock = some k → w'.heap[k]? = w.heap[k]?) : w'.ownsRow base e size v n xs := by
  obtain ⟨h1, h2⟩ := ho
  refine ⟨h1, ?_⟩
  rcases h2 with h2 | ⟨g, cap, cur, rfl, hg, hh, r⟩
  · exact .inl h2
  · exact .inr ⟨g, cap, cur, rfl, hg, (hb g (by simp [Value.ownBlock])).trans hh, r⟩
theorem mod (h : Own d e w F v xs) (hb : ∀ k, k ∈ F → w'.heap[k]? = w.heap[k]?) : Own d e w' F v xs := by
  obtain ⟨inner, Fs, ho, hE, rfl, hn⟩ := h
  exact ⟨inner, Fs, ownsRow_mod ho (fun k hk => hb k (List.mem_append_left _ (by simp [hk]))), hE.mod (fun k hk => hb k (List.mem_append_right _ hk)), rfl, hn⟩
theorem keep {S : Nat → Prop} (h : Own d e w F v xs) (hm : Mod S w w') (hS : ∀ k, k ∈ F → ¬ S k) : Own d e w' F v xs :=
  h.mod fun k hk => hm.block k (h.lt k hk) (hS k hk)
theorem new (h : Own d e w F v xs) (hm : New w w') : Own d e w' F v xs := h.keep hm fun _ _ h => h
theorem form (h : Own d e w F v xs) : ∃ A c, v = .slice A xs.length c ∧ xs.length ≤ c ∧ c ≤ 9223372036854775807 := by
  obtain ⟨inner, Fs, ho, _⟩ := h
  rcases ho.2 with ⟨rfl, h0⟩ | ⟨g, cap, cur, rfl, _, _, hc, hm, _⟩
  · exact ⟨none, 0, by rw [h0], by omega, by omega⟩
  · exact ⟨_, _, rfl, hc, by unfold maxLen at hm; omega⟩
theorem len_le (h : Own d e w F v xs) : xs.length ≤ 9223372036854775807 := by
  obtain ⟨A, c, _, h1, h2⟩ := h.form; omega
theorem row (h : Own d e w F v xs) {A : Option Addr} {n c : Nat} (hv : v = .slice A n c) : Row d w (· ∈ F) A xs.length xs := by
  refine ⟨rfl, h.len_le, fun hn => ?_⟩
  obtain ⟨inner, Fs, ho, hE, rfl, hnd⟩ := h
  rcases ho.2 with ⟨_, h0⟩ | ⟨g, cap, cur, rfl, _, hh, hc, hm, hcs, ht⟩
  · omega
  · injection hv with hA
    subst hA
    refine ⟨_, rfl, by simp [Value.ownBlock], fun j x hj => ?_⟩
    obtain ⟨c, f, hf, hm, hlc, l, r, hcs', hl⟩ := hE.at_ hj
    refine ⟨c, d.K_mod (d.M_K hm) (fun k hk => List.mem_append_right _ (List.mem_flatten.2 ⟨f, List.mem_of_getElem? hf, hk⟩)) (fun _ _ => rfl), fun i u hu => ?_⟩
    refine ho.cells rfl _ _ ?_
    have hi : i < c.length := (List.getElem?_eq_some_iff.1 hu).1
    rw [hcs', List.getElem?_append_right (by omega), List.getElem?_append_left (by omega), hl, Nat.add_sub_cancel_left]
    exact hu
theorem reads (h : Own d e w F v xs) : ∃ A c, v = .slice A xs.length c ∧ xs.length ≤ c ∧ c ≤ 9223372036854775807 ∧ Row d w (· ∈ F) A xs.length xs := by
  obtain ⟨A, c, hv, h1, h2⟩ := h.form
  exact ⟨A, c, hv, h1, h2, h.row hv⟩
theorem block (h : Own d e w F v xs) {A : Option Addr} {n c : Nat} (hv : v = .slice A n c) : (A = none ∧ xs = []) ∨ ∃ g, A = some ⟨g, 0, none⟩ ∧ g ∈ F := by
  obtain ⟨inner, Fs, ho, hE, rfl, hnd⟩ := h
  rcases ho.2 with ⟨rfl, h0⟩ | ⟨g, cap, cur, rfl, _⟩
  · injection hv with hA; exact .inl ⟨hA.symm, List.eq_nil_of_length_eq_zero h0⟩
  · injection hv with hA; exact .inr ⟨g, hA.symm, by simp [Value.ownBlock]⟩
theorem own_mem (h : Own d e w F v xs) : ∀ k, v.ownBlock = some k → k ∈ F := by
  obtain ⟨inner, Fs, ho, hE, rfl, hnd⟩ := h
  intro k hk
  exact List.mem_append_left _ (by simp [hk])
end Own
/-! ### append -/
structure Elt (P : Program) (e : TypeId) (sz : Nat) (z : Value) : Prop where
  info : ∃ i, P.info? e = some i ∧ i.zero = some z ∧ i.size = sz ∧ i.bytes ≤ 4096
  cells : z.cells.size = sz
  pos : 0 < sz
theorem Elt.of {P : Program} {e : TypeId} {sz b : Nat} {z : Value} (h : (P.info? e).map (fun i => (i.zero, i.size, i.bytes)) = some (some z, sz, b)) (hc : z.cells.size = sz) (hp : 0 < sz) (hb : b ≤ 4096) : Elt P e sz z := by
  refine ⟨?_, hc, hp⟩
  cases hi : P.info? e with
  | none => rw [hi] at h; cases h
  | some i =>
    rw [hi] at h
    simp only [Option.map_some, Option.some.injEq, Prod.mk.injEq] at h
    exact ⟨i, rfl, h.1, h.2.1, by omega⟩
theorem run_append_of_nil {P : Program} (w : World) (base : Nat) (t ty e : TypeId) (i : TypeInfo) (size : Nat) (ht : P.underlying t = some (.slice e)) (hi : P.info? e = some i)
    (v : Value) (n : Nat) (xs : List Value) (hown : w.ownsRow base e size v n xs) (c : Nat) : (Builtin.append_ #[t, t] ty #[v, .slice none 0 c]).run P w = .ok v w := by
  rcases hown.2 with ⟨rfl, rfl⟩ | ⟨g, cap, cur, rfl, _, _, hnc, _⟩
  · simp [Builtin.append_, run_underlying ht, sizeOf, typeInfo, hi, Builtin.lenOf, Builtin.firstCells]
  · simp [Builtin.append_, run_underlying ht, sizeOf, typeInfo, hi, Builtin.lenOf, Builtin.firstCells, hnc, storeCells]
theorem run_append {P : Program} (w : World) {α : Type} {d : Ty α} {e : TypeId} (t ty : TypeId) {z : Value} (ht : P.underlying t = some (.slice e)) (hE : Elt P e d.sz z)
    {F : List Nat} {v : Value} {xs : List α} (hown : Own d e w F v xs) {A : Option Addr} {m c : Nat} {ys : List α} {Gs : List (List Nat)} {news : List Value}
    (hy : Elems d w Gs ys news) (hm : ys.length = m) (hA : 0 < m → ∃ ad, A = some ad ∧ ∀ j u, news[j]? = some u → w.cell? (ad.add j) = some u)
    (hnd : Gs.flatten.Nodup) (hdis : ∀ k, k ∈ Gs.flatten → k ∉ F) (hlen : xs.length + m ≤ 34359738368) :
    ∃ v' w' F', (Builtin.append_ #[t, t] ty #[v, .slice A m c]).run P w = .ok v' w' ∧ Own d e w' F' v' (xs ++ ys) ∧ Mod (fun k => v.ownBlock = some k) w w' ∧
      (∀ k, k ∈ F' → k ∈ F ∨ k ∈ Gs.flatten ∨ w.heap.size ≤ k) ∧ (v'.ownBlock = v.ownBlock ∨ v'.ownBlock = some w.heap.size) := by
  obtain ⟨⟨i, hi, hz, hs, hb⟩, hzc, hpos⟩ := hE
  obtain ⟨inner, Fs, ho, hEx, rfl, hFn⟩ := hown
  obtain ⟨hn1, hn2, hn3⟩ := List.nodup_append.1 hFn
  -- what follows for any v' that owns the joined row
  have fin : ∀ v' w', w'.ownsRow 0 e d.sz v' (xs.length + m) (inner ++ news) → w.grownBy w' v.ownBlock → (v'.ownBlock = v.ownBlock ∨ v'.ownBlock = some w.heap.size) →
      ∃ F', Own d e w' F' v' (xs ++ ys) ∧ Mod (fun k => v.ownBlock = some k) w w' ∧ (∀ k, k ∈ F' → k ∈ v.ownBlock.toList ++ Fs.flatten ∨ k ∈ Gs.flatten ∨ w.heap.size ≤ k) := by
    intro v' w' ho' hg hat
    have keepx : ∀ k, k ∈ Fs.flatten → w'.heap[k]? = w.heap[k]? := fun k hk => hg.block k (hEx.lt k hk) (fun he => hn3 k (by simp [← he]) k hk rfl)
    have keepy : ∀ k, k ∈ Gs.flatten → w'.heap[k]? = w.heap[k]? := fun k hk => hg.block k (hy.lt k hk) (fun he => hdis k hk (List.mem_append_left _ (by simp [← he])))
    have hnot : ∀ k, k ∈ v'.ownBlock.toList → k ∉ Fs.flatten ∧ k ∉ Gs.flatten := by
      intro k hk
      rcases hat with h | h
      · rw [h] at hk
        exact ⟨fun h1 => hn3 k hk k h1 rfl, fun h1 => hdis k h1 (List.mem_append_left _ hk)⟩
      · rw [h] at hk
        simp at hk
        subst hk
        exact ⟨fun h1 => absurd (hEx.lt _ h1) (by omega), fun h1 => absurd (hy.lt _ h1) (by omega)⟩
    refine ⟨v'.ownBlock.toList ++ (Fs ++ Gs).flatten, ⟨inner ++ news, Fs ++ Gs, by rw [List.length_append, hm]; exact ho', (hEx.mod keepx).append (hy.mod keepy), rfl, ?_⟩,
      ⟨hg.os, hg.tape, hg.output, hg.size, fun k hk hne => hg.block k hk (fun h => hne h.symm)⟩, fun k hk => ?_⟩
    · rw [List.flatten_append]
      refine List.nodup_append.2 ⟨?_, List.nodup_append.2 ⟨hn2, hnd, fun a ha b hb' hab => ?_⟩, fun a ha b hb' hab => ?_⟩
      · cases v'.ownBlock <;> simp
      · subst hab; exact hdis a hb' (List.mem_append_right _ ha)
      · subst hab
        rcases List.mem_append.1 hb' with h | h
        · exact (hnot a ha).1 h
        · exact (hnot a ha).2 h
    · rw [List.flatten_append] at hk
      rcases List.mem_append.1 hk with hk | hk
      · rcases hat with h | h
        · rw [h] at hk; exact .inl (List.mem_append_left _ hk)
        · rw [h] at hk; simp at hk; exact .inr (.inr (by omega))
      · rcases List.mem_append.1 hk with hk | hk
        · exact .inl (List.mem_append_right _ hk)
        · exact .inr (.inl hk)
  rcases A with _ | ad
  · have hm0 : m = 0 := by
      rcases Nat.eq_zero_or_pos m with h0 | h0
      · exact h0
      · obtain ⟨ad, h, _⟩ := hA h0; cases h
    subst hm0
    obtain rfl := List.eq_nil_of_length_eq_zero hm
    have hnn : news = [] := List.eq_nil_of_length_eq_zero (by rw [hy.clen]; simp)
    subst hnn
    have hr := run_append_of_nil (P := P) w 0 t ty e i d.sz ht hi v xs.length inner ho c
    obtain ⟨F', h1, h2, h3⟩ := fin v w (by simpa using ho) ⟨rfl, rfl, rfl, Nat.le_refl _, fun _ _ _ => rfl⟩ (.inl rfl)
    exact ⟨v, w, F', hr, h1, h2, h3, .inl rfl⟩
  · have hcells : ∀ j u, news[j]? = some u → w.cell? (ad.add j) = some u := by
      intro j u hu
      rcases Nat.eq_zero_or_pos m with h0 | h0
      · obtain rfl := List.eq_nil_of_length_eq_zero (hm.trans h0)
        have hnn : news = [] := List.eq_nil_of_length_eq_zero (by rw [hy.clen]; simp)
        subst hnn
        simp at hu
      · obtain ⟨ad', h, hc⟩ := hA h0
        injection h with h
        subst h
        exact hc j u hu
    obtain ⟨v', w', hr, h2, h3, h4, h5⟩ := run_append_own_at (P := P) w 0 t ty e i z d.sz i.bytes ht hi hz hs rfl hzc hpos v xs.length inner ho ad m c news (by rw [hy.clen, hm]) hcells hy.ones (by simp only [maxLen]; omega)
      (Nat.le_trans (Nat.mul_le_mul hlen hb) (by omega)) (Nat.zero_le _)
    obtain ⟨F', g1, g2, g3⟩ := fin v' w' h2 h3 h5
    exact ⟨v', w', F', hr, g1, g2, g3, h5⟩
theorem wp_append {P : Program} (w : World) {o : Oper} {a : Act} {K : Act → World → Prop} {Q : Exit → Act → World → Prop} (s x : Operand) (t : TypeId)
    (ho : o.op = .call { callee := .builtin .append, args := #[s, x], argTypes := #[t, t] })
    {α : Type} (d : Ty α) (e : TypeId) {z : Value} (ht : P.underlying t = some (.slice e)) (hE : Elt P e d.sz z)
    {F : List Nat} {v : Value} {xs : List α} (hs : a.eval s = v) (hown : Own d e w F v xs) {A : Option Addr} {m c : Nat} {ys : List α} {Gs : List (List Nat)} {news : List Value} (hx : a.eval x = .slice A m c)
    (hy : Elems d w Gs ys news) (hm : ys.length = m) (hA : 0 < m → ∃ ad, A = some ad ∧ ∀ j u, news[j]? = some u → w.cell? (ad.add j) = some u)
    (hnd : Gs.flatten.Nodup) (hdis : ∀ k, k ∈ Gs.flatten → k ∉ F) (hlen : xs.length + m ≤ 34359738368)
    (h : ∀ A' n' c' w' F', Own d e w' F' (.slice A' n' c') (xs ++ ys) → n' = (xs ++ ys).length → Mod (fun k => v.ownBlock = some k) w w' → (∀ k, k ∈ F' → k ∈ F ∨ k ∈ Gs.flatten ∨ w.heap.size ≤ k) → K (a.put o.dst (.slice A' n' c')) w') : o.wp P a w K Q := by
  obtain ⟨v', w', F', hrun, h2, h3, h4, _⟩ := run_append (P := P) w t o.type ht hE hown hy hm hA (c := c) hnd hdis hlen
  obtain ⟨A', c', rfl, _⟩ := h2.form
  unfold Oper.wp execOp
  simp only [ho, resolve, invoke, builtin, Sem.run_bind, Sem.run_pure, Result.andThen_ok, List.map_toArray, List.map_cons, List.map_nil, hs, hx, hrun]
  exact h A' _ c' w' F' h2 rfl h3 h4
theorem wpList_append {P : Program} (w : World) {ops : Array Oper} {rest : List Oper} {o : Oper} {a : Act} {Q : Exit → Act → World → Prop} (hgd : o.guard = none) (s x : Operand) (t : TypeId)
    (ho : o.op = .call { callee := .builtin .append, args := #[s, x], argTypes := #[t, t] })
    {α : Type} (d : Ty α) (e : TypeId) {z : Value} (ht : P.underlying t = some (.slice e)) (hE : Elt P e d.sz z)
    {F : List Nat} {v : Value} {xs : List α} (hs : a.eval s = v) (hown : Own d e w F v xs) {A : Option Addr} {m c : Nat} {ys : List α} {Gs : List (List Nat)} {news : List Value} (hx : a.eval x = .slice A m c)
    (hy : Elems d w Gs ys news) (hm : ys.length = m) (hA : 0 < m → ∃ ad, A = some ad ∧ ∀ j u, news[j]? = some u → w.cell? (ad.add j) = some u)
    (hnd : Gs.flatten.Nodup) (hdis : ∀ k, k ∈ Gs.flatten → k ∉ F) (hlen : xs.length + m ≤ 34359738368)
    (h : ∀ A' n' c' w' F', Own d e w' F' (.slice A' n' c') (xs ++ ys) → n' = (xs ++ ys).length → Mod (fun k => v.ownBlock = some k) w w' → (∀ k, k ∈ F' → k ∈ F ∨ k ∈ Gs.flatten ∨ w.heap.size ≤ k) → wpList P ops Q rest (a.put o.dst (.slice A' n' c')) w') : wpList P ops Q (o :: rest) a w :=
  wpList_plain hgd fun _ hK => wp_append w s x t ho d e ht hE hs hown hx hy hm hA hnd hdis hlen fun A' n' c' w' F' h2 hn h3 h4 => hK _ _ (h A' n' c' w' F' h2 hn h3 h4)
def Flat {α : Type} (d : Ty α) : Prop := ∀ w B x cs, d.K w B x cs → d.M w [] x cs
theorem flat_nil {n : Nat} : (List.replicate n ([] : List Nat)).flatten = [] := by
  induction n with
  | zero => rfl
  | succ n ih => rw [List.replicate_succ, List.flatten_cons, ih]; rfl
theorem Row.flat {α : Type} {d : Ty α} {w : World} {B : Nat → Prop} (hf : Flat d) : ∀ {xs : List α} {A : Option Addr} {n : Nat}, Row d w B A n xs →
    ∃ news, Elems d w (List.replicate n []) xs news ∧ (0 < n → ∃ ad, A = some ad ∧ ∀ j u, news[j]? = some u → w.cell? (ad.add j) = some u) := by
  intro xs A n h
  obtain ⟨rfl, hn, hc⟩ := h
  rcases Nat.eq_zero_or_pos xs.length with h0 | h0
  · obtain rfl := List.eq_nil_of_length_eq_zero h0
    exact ⟨[], Elems.nil d w, fun h => absurd h (by simp)⟩
  · obtain ⟨ad, rfl, hb, hcell⟩ := hc h0
    have key : ∀ m, m ≤ xs.length → ∃ news, Elems d w (List.replicate m []) (xs.take m) news ∧ ∀ j u, news[j]? = some u → w.cell? (ad.add j) = some u := by
      intro m
      induction m with
      | zero => intro _; exact ⟨[], Elems.nil d w, fun j u hj => by simp at hj⟩
      | succ m ih =>
        intro hm
        obtain ⟨news, hE, hu⟩ := ih (by omega)
        obtain ⟨c, hK, hcc⟩ := hcell m xs[m] (List.getElem?_eq_getElem (by omega))
        refine ⟨news ++ c, ?_, fun j u hj => ?_⟩
        · rw [List.take_succ_eq_append_getElem (by omega), List.replicate_succ']
          exact hE.append (Elems.one (hf _ _ _ _ hK))
        · have hcl := hE.clen
          rw [List.length_take, Nat.min_eq_left (by omega)] at hcl
          rcases Nat.lt_or_ge j news.length with hlt | hge
          · rw [List.getElem?_append_left hlt] at hj; exact hu j u hj
          · rw [List.getElem?_append_right hge] at hj
            have := hcc _ u hj
            rwa [hcl, Nat.add_sub_cancel' (by omega)] at this
    obtain ⟨news, hE, hu⟩ := key xs.length (Nat.le_refl _)
    rw [List.take_length] at hE
    exact ⟨news, hE, fun _ => ⟨ad, rfl, hu⟩⟩
/-! ### append to a row that is full and not the call's own -/
/-! ### make -/
theorem madeCells_flat (z : Array Value) (n sz : Nat) (hz : z.size = sz) (hp : 0 < sz) : (madeCells z (n * sz)).toList = (List.replicate n z.toList).flatten := by
  subst hz
  induction n with
  | zero => simp [madeCells]
  | succ n ih =>
    rw [List.replicate_succ', List.flatten_append, ← ih, List.flatten_singleton]
    apply List.ext_getElem?
    intro j
    rcases Nat.lt_or_ge j (n * z.size) with h1 | h1
    · rw [List.getElem?_append_left (by rw [Array.length_toList, size_madeCells]; exact h1)]
      have : j < (n + 1) * z.size := by rw [Nat.add_mul]; omega
      simp [madeCells, h1, this]
    · rw [List.getElem?_append_right (by rw [Array.length_toList, size_madeCells]; exact h1), Array.length_toList, size_madeCells]
      rcases Nat.lt_or_ge j ((n + 1) * z.size) with h2 | h2
      · have h3 : j - n * z.size < z.size := by rw [Nat.add_mul] at h2; omega
        have h4 : j % z.size = j - n * z.size := by
          rw [show j = j - n * z.size + z.size * n by rw [Nat.mul_comm z.size n]; omega, Nat.add_mul_mod_self_left, Nat.mod_eq_of_lt h3, Nat.mul_comm z.size n]; omega
        simp [madeCells, h2, h4, h3]
      · have h3 : ¬ j - n * z.size < z.size := by rw [Nat.add_mul] at h2; omega
        rw [List.getElem?_eq_none (by rw [Array.length_toList, size_madeCells]; exact h2), List.getElem?_eq_none (by rw [Array.length_toList]; omega)]
theorem Elems.replicate {α : Type} {d : Ty α} {w : World} {x : α} {c : List Value} (h : d.M w [] x c) (n : Nat) : Elems d w (List.replicate n []) (List.replicate n x) (List.replicate n c).flatten := by
  induction n with
  | zero => exact Elems.nil d w
  | succ n ih =>
    rw [List.replicate_succ', List.replicate_succ', List.replicate_succ', List.flatten_append, List.flatten_singleton]
    exact ih.append (Elems.one h)
theorem wpList_make {P : Program} (w : World) {ops : Array Oper} {rest : List Oper} {o : Oper} {a : Act} {Q : Exit → Act → World → Prop} (hgd : o.guard = none) (l : Operand) (t : TypeId)
    (ho : o.op = .makeSlice t l l) {α : Type} (d : Ty α) (e : TypeId) {z : Value} (ht : P.underlying t = some (.slice e)) (hE : Elt P e d.sz z) (x0 : α) (hx0 : ∀ w, d.M w [] x0 z.cells.toList)
    (n : Nat) (hn : a.eval l = .int .i64 (n : Int)) (hlen : n ≤ 34359738368)
    (h : ∀ w', Own d e w' [w.heap.size] (.slice (some ⟨w.heap.size, 0, none⟩) n n) (List.replicate n x0) → New w w' → wpList P ops Q rest (a.put o.dst (.slice (some ⟨w.heap.size, 0, none⟩) n n)) w') : wpList P ops Q (o :: rest) a w := by
  refine wpList_plain hgd fun K hK => ?_
  obtain ⟨⟨i, hi, hz, hs, hb⟩, hzc, hpos⟩ := hE
  obtain ⟨w', hr, h2, h3⟩ := run_make_full (P := P) w 0 t e i z d.sz ht hi hz hs .i64 .i64 n (Nat.le_trans (Nat.mul_le_mul hb hlen) (by omega)) (by simp only [maxLen]; omega) (Nat.zero_le _)
  unfold Oper.wp execOp
  simp only [ho, hn, Sem.run_bind, Sem.run_pure, Result.andThen_ok, hr]
  refine hK _ _ (h w' ⟨_, List.replicate n [], by rw [List.length_replicate]; exact h2, ?_, by rw [flat_nil]; rfl, by simp⟩ ⟨h3.os, h3.tape, h3.output, h3.size, fun k hk _ => h3.block k hk (by simp)⟩)
  rw [madeCells_flat _ n d.sz hzc hpos]
  exact Elems.replicate (hx0 w') n
/-! ### stores into a row of the call's own -/
theorem nodup_set {A : List Nat} {Fs : List (List Nat)} (hn : (A ++ Fs.flatten).Nodup) {j : Nat} {f f' : List Nat} (hf : Fs[j]? = some f) (hn' : f'.Nodup) (hm : ∀ k, k ∈ f' → k ∈ f ∨ k ∉ A ++ Fs.flatten) :
    (A ++ (Fs.set j f').flatten).Nodup ∧ ∀ k, k ∈ A ++ (Fs.set j f').flatten → k ∈ A ++ Fs.flatten ∨ k ∈ f' := by
  have hj : j < Fs.length := (List.getElem?_eq_some_iff.1 hf).1
  have hsplit : Fs = Fs.take j ++ f :: Fs.drop (j + 1) := by
    rw [← (List.getElem?_eq_some_iff.1 hf).2, ← List.drop_eq_getElem_cons hj, List.take_append_drop]
  have e1 : Fs.flatten = (Fs.take j).flatten ++ (f ++ (Fs.drop (j + 1)).flatten) := by
    conv => lhs; rw [hsplit]
    simp
  have e2 : (Fs.set j f').flatten = (Fs.take j).flatten ++ (f' ++ (Fs.drop (j + 1)).flatten) := by
    rw [List.set_eq_take_append_cons_drop, if_pos hj]; simp
  rw [e1] at hn hm
  rw [e1, e2]
  generalize (Fs.take j).flatten = X at *
  generalize (Fs.drop (j + 1)).flatten = Y at *
  simp only [List.nodup_append, List.mem_append] at hn hm ⊢
  obtain ⟨a1, ⟨a2, ⟨a3, a4, a5⟩, a6⟩, a7⟩ := hn
  refine ⟨⟨a1, ⟨a2, ⟨hn', a4, fun p hp q hq e => ?_⟩, fun p hp q hq e => ?_⟩, fun p hp q hq e => ?_⟩, fun k hk => ?_⟩
  · subst e
    rcases hm p hp with h | h
    · exact a5 p h p hq rfl
    · exact h (by simp [hq])
  · subst e
    rcases hq with hq | hq
    · rcases hm p hq with h | h
      · exact a6 p hp p (.inl h) rfl
      · exact h (by simp [hp])
    · exact a6 p hp p (.inr hq) rfl
  · subst e
    rcases hq with hq | hq | hq
    · exact a7 p hp p (.inl hq) rfl
    · rcases hm p hq with h | h
      · exact a7 p hp p (.inr (.inl h)) rfl
      · exact h (by simp [hp])
    · exact a7 p hp p (.inr (.inr hq)) rfl
  · rcases hk with hk | hk | hk | hk
    · simp [hk]
    · simp [hk]
    · simp [hk]
    · simp [hk]
theorem Own.elem {α : Type} {d : Ty α} {e : TypeId} {w : World} {F : List Nat} {A : Option Addr} {n cp : Nat} {xs : List α} (h : Own d e w F (.slice A n cp) xs) {j : Nat} (hj : j < xs.length) :
    ∃ g cs f, A = some ⟨g, 0, none⟩ ∧ g ∈ F ∧ g ∉ f ∧ (∀ k, k ∈ f → k ∈ F) ∧ d.M w f xs[j] cs ∧ cs.length = d.sz ∧ (∀ i, i < d.sz → w.cell? ⟨g, j * d.sz + i, none⟩ = cs[i]?) ∧ (∀ i, w.frozen? ⟨g, i, none⟩ = false) ∧
      ∀ i u x' f', i < d.sz → d.M (w.setCell ⟨g, j * d.sz + i, none⟩ u) f' x' (cs.set i u) → (∀ k, k ∈ f' → k ∈ f ∨ k ∉ F) →
        ∃ F', Own d e (w.setCell ⟨g, j * d.sz + i, none⟩ u) F' (.slice A n cp) (xs.set j x') ∧ g ∈ F' ∧ ∀ k, k ∈ F' → k ∈ F ∨ k ∈ f' := by
  obtain ⟨inner, Fs, ho, hE, rfl, hnd⟩ := h
  have ho' := ho
  rcases ho.2 with ⟨_, h0⟩ | ⟨g, cap, cur, hv, hg, hh, hnc, hm, hs, ht⟩
  · omega
  · injection hv with e1 e2 e3
    subst e1; subst e2; subst e3
    obtain ⟨c, f, hf, hM, hcl, l, r, hcs, hl⟩ := hE.at_ (List.getElem?_eq_getElem hj)
    have hgF : g ∈ (Value.slice (some ⟨g, 0, none⟩) xs.length cp).ownBlock.toList ++ Fs.flatten := by simp [Value.ownBlock]
    have hfin : ∀ k, k ∈ f → k ∈ Fs.flatten := fun k hk => List.mem_flatten.2 ⟨f, List.mem_of_getElem? hf, hk⟩
    have hgf : g ∉ f := fun hk => (List.nodup_append.1 hnd).2.2 g (by simp [Value.ownBlock]) g (hfin g hk) rfl
    have hill : inner.length = xs.length * d.sz := hE.clen
    refine ⟨g, c, f, rfl, hgF, hgf, fun k hk => List.mem_append_right _ (hfin k hk), hM, hcl, fun i hi => ?_, fun i => ho'.frozenAt i, fun i u x' f' hi hM' hdis => ?_⟩
    · rw [ho'.cellAt _ (by have := Nat.mul_le_mul_right d.sz (show j + 1 ≤ xs.length from hj); rw [Nat.add_mul] at this; omega), hcs,
        List.getElem?_append_right (by omega), List.getElem?_append_left (by omega), hl, Nat.add_sub_cancel_left]
    · obtain ⟨n1, n2⟩ := nodup_set hnd hf (d.M_nd hM') hdis
      refine ⟨_, ⟨l ++ (c.set i u ++ r), Fs.set j f', ?_, ?_, rfl, n1⟩, by simp [Value.ownBlock], n2⟩
      · have hst := ho'.stored (j * d.sz + i) u
        rw [List.length_set]
        have : inner.set (j * d.sz + i) u = l ++ (c.set i u ++ r) := by
          rw [hcs, List.set_append_right _ _ (by omega), hl, Nat.add_sub_cancel_left, List.set_append_left _ _ (by omega)]
        rw [← this]
        exact hst.1
      · have hE' : Elems d (w.setCell ⟨g, j * d.sz + i, none⟩ u) Fs xs inner := hE.mod fun k hk => Below.heap_setCell _ _ _ _ (fun e => (List.nodup_append.1 hnd).2.2 g (by simp [Value.ownBlock]) k hk e.symm)
        exact hE'.set_ hj hcs hl hcl hM'
def putRow (w : World) (g o : Nat) : Nat → List Value → World
  | _, [] => w
  | i, u :: us => putRow (w.setCell ⟨g, o + i, none⟩ u) g o (i + 1) us
theorem putRow_far {g o : Nat} : ∀ (us : List Value) (w : World) (i k : Nat), k ≠ g → (putRow w g o i us).heap[k]? = w.heap[k]?
  | [], _, _, _, _ => rfl
  | u :: us, w, i, k, h => (putRow_far us _ _ k h).trans (Below.heap_setCell _ _ _ _ h)
theorem putRow_owns {g n cp e sz : Nat} {o : Nat} : ∀ (us : List Value) (w : World) (i : Nat) (l pre post r : List Value), w.ownsRow 0 e sz (.slice (some ⟨g, 0, none⟩) n cp) n (l ++ (pre ++ (post ++ r))) → l.length = o → pre.length = i → post.length = us.length →
    (putRow w g o i us).ownsRow 0 e sz (.slice (some ⟨g, 0, none⟩) n cp) n (l ++ (pre ++ (us ++ r)))
  | [], w, i, l, pre, post, r, h, _, _, hp => by
    obtain rfl := List.eq_nil_of_length_eq_zero hp
    exact h
  | u :: us, w, i, l, pre, [], r, h, _, _, hp => by simp at hp
  | u :: us, w, i, l, pre, p :: post, r, h, hl, hi, hp => by
    have h1 := (h.stored (o + i) u).1
    have e1 : (l ++ (pre ++ (p :: post ++ r))).set (o + i) u = l ++ ((pre ++ [u]) ++ (post ++ r)) := by
      rw [List.set_append_right _ _ (by omega), hl, Nat.add_sub_cancel_left, List.set_append_right _ _ (by omega), hi, Nat.sub_self]
      simp
    rw [e1] at h1
    have := putRow_owns us _ (i + 1) l (pre ++ [u]) post r h1 hl (by simp [hi]) (by simpa using hp)
    simpa [putRow] using this
theorem Own.put {α : Type} {d : Ty α} {e : TypeId} {w : World} {F : List Nat} {A : Option Addr} {n cp : Nat} {xs : List α} (h : Own d e w F (.slice A n cp) xs) {j : Nat} (hj : j < xs.length) :
    ∃ (g : Nat) (f : List Nat), A = some ⟨g, 0, none⟩ ∧ g ∈ F ∧ g ∉ f ∧ (∀ k, k ∈ f → k ∈ F) ∧ (∀ i, i < d.sz → ∃ u, w.cell? ⟨g, j * d.sz + i, none⟩ = some u) ∧ (∀ i, w.frozen? ⟨g, i, none⟩ = false) ∧
      ∀ (cs' : List Value) (x' : α) (f' : List Nat), d.M (putRow w g (j * d.sz) 0 cs') f' x' cs' → (∀ k, k ∈ f' → k ∈ f ∨ k ∉ F) →
        ∃ F', Own d e (putRow w g (j * d.sz) 0 cs') F' (.slice A n cp) (xs.set j x') ∧ g ∈ F' ∧ ∀ k, k ∈ F' → k ∈ F ∨ k ∈ f' := by
  obtain ⟨inner, Fs, ho, hE, rfl, hnd⟩ := h
  have ho' := ho
  rcases ho.2 with ⟨_, h0⟩ | ⟨g, cap, cur, hv, hg, hh, hnc, hm, hs, ht⟩
  · omega
  · injection hv with e1 e2 e3
    subst e1; subst e2; subst e3
    obtain ⟨c, f, hf, hM, hcl, l, r, hcs, hl⟩ := hE.at_ (List.getElem?_eq_getElem hj)
    have hgF : g ∈ (Value.slice (some ⟨g, 0, none⟩) xs.length cp).ownBlock.toList ++ Fs.flatten := by simp [Value.ownBlock]
    have hfin : ∀ k, k ∈ f → k ∈ Fs.flatten := fun k hk => List.mem_flatten.2 ⟨f, List.mem_of_getElem? hf, hk⟩
    have hgf : g ∉ f := fun hk => (List.nodup_append.1 hnd).2.2 g (by simp [Value.ownBlock]) g (hfin g hk) rfl
    refine ⟨g, f, rfl, hgF, hgf, fun k hk => List.mem_append_right _ (hfin k hk), fun i hi => ?_, fun i => ho'.frozenAt i, fun cs' x' f' hM' hdis => ?_⟩
    · refine ⟨c[i], ?_⟩
      rw [ho'.cellAt _ (by have := Nat.mul_le_mul_right d.sz (show j + 1 ≤ xs.length from hj); rw [Nat.add_mul] at this; omega), hcs,
        List.getElem?_append_right (by omega), List.getElem?_append_left (by omega), hl, Nat.add_sub_cancel_left]
      exact List.getElem?_eq_getElem _
    · obtain ⟨n1, n2⟩ := nodup_set hnd hf (d.M_nd hM') hdis
      refine ⟨_, ⟨l ++ (cs' ++ r), Fs.set j f', ?_, ?_, rfl, n1⟩, by simp [Value.ownBlock], n2⟩
      · rw [List.length_set]
        have h1 := ho'
        rw [hcs] at h1
        have := putRow_owns (o := j * d.sz) cs' w 0 l [] c r (by simpa using h1) hl rfl (by rw [hcl, d.K_len (d.M_K hM')])
        simpa using this
      · have hE' : Elems d (putRow w g (j * d.sz) 0 cs') Fs xs inner := hE.mod fun k hk => putRow_far _ _ _ _ (fun e => (List.nodup_append.1 hnd).2.2 g (by simp [Value.ownBlock]) k hk e.symm)
        exact hE'.set_ hj hcs hl hcl hM'
/-! ### 4. the kinds -/
namespace Ty
def scalar {α : Type} (enc : α → Value) (h1 : ∀ x, (enc x).oneCell' = true) : Ty α where
  sz := 1
  K := fun _ _ x cs => cs = [enc x]
  M := fun _ F x cs => F = [] ∧ cs = [enc x]
  K_len := fun h => by rw [h]; rfl
  K_one := fun h u hu => by rw [h] at hu; rw [List.mem_singleton.1 hu]; exact h1 _
  K_mod := fun h _ _ => h
  M_K := fun h => h.2
  M_mod := fun h _ => h
  M_lt := fun h k hk => by rw [h.1] at hk; cases hk
  M_nd := fun h => by rw [h.1]; exact List.nodup_nil
def int (k : IntKind) : Ty Int where
  sz := 1
  K := fun _ _ x cs => cs = [.int k x] ∧ k.wrap x = x
  M := fun _ F x cs => F = [] ∧ cs = [.int k x] ∧ k.wrap x = x
  K_len := fun h => by rw [h.1]; rfl
  K_one := fun h u hu => by rw [h.1] at hu; rw [List.mem_singleton.1 hu]; rfl
  K_mod := fun h _ _ => h
  M_K := fun h => h.2
  M_mod := fun h _ => h
  M_lt := fun h k hk => by rw [h.1] at hk; cases hk
  M_nd := fun h => by rw [h.1]; exact List.nodup_nil
def byte : Ty UInt8 := scalar (fun b => .int .u8 (b.toNat : Int)) (fun _ => rfl)
def bool : Ty Bool := scalar Value.bool (fun _ => rfl)
def string : Ty ByteArray := scalar Value.string (fun _ => rfl)
def slice {α : Type} (e : TypeId) (d : Ty α) : Ty (List α) where
  sz := 1
  K := fun w B xs cs => ∃ A c, cs = [.slice A xs.length c] ∧ xs.length ≤ c ∧ c ≤ 9223372036854775807 ∧ Row d w B A xs.length xs
  M := fun w F xs cs => ∃ v, cs = [v] ∧ Own d e w F v xs
  K_len := by rintro w B x cs ⟨A, c, rfl, _⟩; rfl
  K_one := by rintro w B x cs ⟨A, c, rfl, _⟩ u hu; rw [List.mem_singleton.1 hu]; rfl
  K_mod := by rintro w w' B B' x cs ⟨A, c, rfl, h1, h2, hr⟩ hB hb; exact ⟨A, c, rfl, h1, h2, hr.mod hB hb⟩
  M_K := by rintro w F x cs ⟨v, rfl, h⟩; obtain ⟨A, c, rfl, h1, h2, hr⟩ := h.reads; exact ⟨A, c, rfl, h1, h2, hr⟩
  M_mod := by rintro w w' F x cs ⟨v, rfl, h⟩ hb; exact ⟨v, rfl, h.mod hb⟩
  M_lt := by rintro w F x cs ⟨v, rfl, h⟩; exact h.lt
  M_nd := by rintro w F x cs ⟨v, rfl, h⟩; exact h.nd
def pair {α β : Type} (a : Ty α) (b : Ty β) : Ty (α × β) where
  sz := a.sz + b.sz
  K := fun w B x cs => ∃ c0 c1, cs = c0 ++ c1 ∧ a.K w B x.1 c0 ∧ b.K w B x.2 c1
  M := fun w F x cs => ∃ c0 c1 F0 F1, cs = c0 ++ c1 ∧ F = F0 ++ F1 ∧ F.Nodup ∧ a.M w F0 x.1 c0 ∧ b.M w F1 x.2 c1
  K_len := by rintro w B x cs ⟨c0, c1, rfl, h0, h1⟩; rw [List.length_append, a.K_len h0, b.K_len h1]
  K_one := by
    rintro w B x cs ⟨c0, c1, rfl, h0, h1⟩ u hu
    rcases List.mem_append.1 hu with hu | hu
    · exact a.K_one h0 u hu
    · exact b.K_one h1 u hu
  K_mod := by rintro w w' B B' x cs ⟨c0, c1, rfl, h0, h1⟩ hB hb; exact ⟨c0, c1, rfl, a.K_mod h0 hB hb, b.K_mod h1 hB hb⟩
  M_K := by
    rintro w F x cs ⟨c0, c1, F0, F1, rfl, rfl, hn, h0, h1⟩
    exact ⟨c0, c1, rfl, a.K_mod (a.M_K h0) (fun k hk => List.mem_append_left _ hk) (fun _ _ => rfl), b.K_mod (b.M_K h1) (fun k hk => List.mem_append_right _ hk) (fun _ _ => rfl)⟩
  M_mod := by
    rintro w w' F x cs ⟨c0, c1, F0, F1, rfl, rfl, hn, h0, h1⟩ hb
    exact ⟨c0, c1, F0, F1, rfl, rfl, hn, a.M_mod h0 (fun k hk => hb k (List.mem_append_left _ hk)), b.M_mod h1 (fun k hk => hb k (List.mem_append_right _ hk))⟩
  M_lt := by
    rintro w F x cs ⟨c0, c1, F0, F1, rfl, rfl, hn, h0, h1⟩ k hk
    rcases List.mem_append.1 hk with hk | hk
    · exact a.M_lt h0 k hk
    · exact b.M_lt h1 k hk
  M_nd := by rintro w F x cs ⟨c0, c1, F0, F1, rfl, rfl, hn, h0, h1⟩; exact hn
end Ty
abbrev Bytes := List UInt8
structure Hdr where
  A : Option Addr
  n : Nat
  c : Nat
def Hdr.val (h : Hdr) : Value := .slice h.A h.n h.c
def Ty.hdr : Ty Hdr := Ty.scalar Hdr.val (fun _ => rfl)
def Hdrs (w : World) (B : Nat → Prop) (hs : List Hdr) (ls : List (List UInt8)) : Prop :=
  hs.length = ls.length ∧ ∀ (i : Nat) (h : Hdr) (l : List UInt8), hs[i]? = some h → ls[i]? = some l → l.length = h.n ∧ h.n ≤ h.c ∧ Row Ty.byte w B h.A h.n l
theorem Hdrs.nil (w : World) (B : Nat → Prop) : Hdrs w B [] [] := ⟨rfl, fun i h l hi => by simp at hi⟩
theorem flat_byte : Flat Ty.byte := fun _ _ _ _ h => ⟨rfl, h⟩
theorem flat_string : Flat Ty.string := fun _ _ _ _ h => ⟨rfl, h⟩
theorem Hdrs.at_ {w w' : World} {B C : Nat → Prop} {hs : List Hdr} {ls : List (List UInt8)} {A : Option Addr} {n : Nat} (H : Hdrs w B hs ls) (hr : Row Ty.hdr w' C A n hs) {k : Nat} (hk : k < ls.length) :
    ∃ ad A' c', A = some ad ∧ w'.cell? (ad.add k) = some (.slice A' ls[k].length c') ∧ ls[k].length ≤ c' ∧ Row Ty.byte w B A' ls[k].length ls[k] := by
  have hk' : k < hs.length := by rw [H.1]; exact hk
  obtain ⟨ad, c, hlt, rfl, hbl, hK, hc⟩ := hr.at_ (k := k) (by rw [← hr.1]; exact hk')
  have hK' : c = [hs[k].val] := hK
  subst hK'
  have h1 := hc 0 _ rfl
  rw [show k * Ty.hdr.sz + 0 = k from by show k * 1 + 0 = k; omega] at h1
  obtain ⟨g1, g2, g3⟩ := H.2 k hs[k] ls[k] (List.getElem?_eq_getElem _) (List.getElem?_eq_getElem _)
  refine ⟨ad, hs[k].A, hs[k].c, rfl, ?_, by omega, by rw [g1]; exact g3⟩
  rw [g1]; exact h1
theorem add_next (ad : Addr) (i j : Nat) : ad.add (i + (j + 1)) = ⟨(ad.add i).block, (ad.add i).off + (j + 1), none⟩ := by
  unfold Addr.add
  by_cases hi : i = 0
  · subst hi; simp
  · simp [hi, Nat.add_assoc]
theorem Row.cells_at {α : Type} {d : Ty α} {w w' : World} {B : Nat → Prop} {A : Option Addr} {n : Nat} {xs : List α} (h : Row d w B A n xs) (hb : ∀ k, B k → w'.heap[k]? = w.heap[k]?) {k : Nat} (hk : k < xs.length) :
    ∃ ad c, A = some ad ∧ d.K w B xs[k] c ∧ (∀ u, c[0]? = some u → w'.cell? (ad.add (k * d.sz)) = some u) ∧ ∀ j u, c[j + 1]? = some u → w'.cell? ⟨(ad.add (k * d.sz)).block, (ad.add (k * d.sz)).off + (j + 1), none⟩ = some u := by
  obtain ⟨ad, c, hlt, rfl, hbl, hK, hc⟩ := h.at_ (k := k) (by rw [← h.1]; exact hk)
  have key : ∀ i u, c[i]? = some u → w'.cell? (ad.add (k * d.sz + i)) = some u := fun i u hu => (World.cell?_of_block (by rw [add_block]; exact hb _ hbl)).trans (hc i u hu)
  exact ⟨ad, c, rfl, hK, fun u hu => key 0 u hu, fun j u hu => by rw [← add_next]; exact key (j + 1) u hu⟩
theorem New.app {α : Type} {d : Ty α} {e : TypeId} {w0 w w' : World} {F : List Nat} {v : Value} {xs : List α} (hn : New w0 w) (ho : Own d e w F v xs) (hF : ∀ k, k ∈ F → w0.heap.size ≤ k) (hm : Mod (fun k => v.ownBlock = some k) w w') : New w0 w' :=
  hn.trans hm fun i hi hlt => by have := hF i (ho.own_mem i hi); omega
theorem far_app {w0 w : World} {F F' G : List Nat} (hn : New w0 w) (hF : ∀ k, k ∈ F → w0.heap.size ≤ k) (hG : ∀ k, k ∈ G → w0.heap.size ≤ k) (h : ∀ k, k ∈ F' → k ∈ F ∨ k ∈ G ∨ w.heap.size ≤ k) : ∀ k, k ∈ F' → w0.heap.size ≤ k := fun k hk => by
  rcases h k hk with h | h | h
  · exact hF k h
  · exact hG k h
  · have := hn.size; omega
/-! ### 5. what a call comes to -/
def Ret (v : Value) (w : World) (e : Ending) (w' : World) : Prop := e = .returned v ∧ New w w'
def RetOwn {α : Type} (d : Ty α) (t : TypeId) (w : World) (xs : List α) (e : Ending) (w' : World) : Prop :=
  ∃ A c F, e = .returned (.slice A xs.length c) ∧ Own d t w' F (.slice A xs.length c) xs ∧ (∀ k, k ∈ F → w.heap.size ≤ k) ∧ New w w'
theorem RetOwn.of {α : Type} {d : Ty α} {t : TypeId} {w w' : World} {xs : List α} {v : Value} {F : List Nat} (ho : Own d t w' F v xs) (hf : ∀ k, k ∈ F → w.heap.size ≤ k) (hm : New w w') : RetOwn d t w xs (.returned v) w' := by
  obtain ⟨A, c, rfl, _⟩ := ho.form
  exact ⟨A, c, F, rfl, ho, hf, hm⟩
theorem Row.byte_at {w w' : World} {B : Nat → Prop} {A : Option Addr} {xs : Bytes} (h : Row Ty.byte w B A xs.length xs) (hb : ∀ k, B k → w'.heap[k]? = w.heap[k]?) {k : Nat} (hk : k < xs.length) :
    ∃ ad, A = some ad ∧ w'.cell? (ad.add k) = some (.int .u8 (xs[k].toNat : Int)) := by
  obtain ⟨ad, c, hlt, rfl, hbl, hK, hc⟩ := h.at_ hk
  have h0 : w'.cell? (ad.add k) = w.cell? (ad.add k) := World.cell?_of_block (by rw [add_block]; exact hb _ hbl)
  refine ⟨ad, rfl, ?_⟩
  rw [h0]
  have hK' : c = [Value.int .u8 (xs[k].toNat : Int)] := hK
  subst hK'
  have h1 := hc 0 _ rfl
  rwa [show k * Ty.byte.sz + 0 = k from by show k * 1 + 0 = k; omega] at h1
theorem Own.byte_elem {e : TypeId} {w : World} {F : List Nat} {A : Option Addr} {n cp : Nat} {xs : Bytes} (h : Own Ty.byte e w F (.slice A n cp) xs) {j : Nat} (hj : j < xs.length) :
    ∃ g, A = some ⟨g, 0, none⟩ ∧ g ∈ F ∧ w.cell? ⟨g, j, none⟩ = some (.int .u8 (xs[j].toNat : Int)) ∧ w.frozen? ⟨g, j, none⟩ = false ∧
      ∀ b : UInt8, ∃ F', Own Ty.byte e (w.setCell ⟨g, j, none⟩ (.int .u8 (b.toNat : Int))) F' (.slice A n cp) (xs.set j b) ∧ ∀ k, k ∈ F' → k ∈ F := by
  obtain ⟨g, cs, f, hA, hgF, hgf, hff, ⟨rfl, rfl⟩, _, hcell, hfz, hst⟩ := h.elem hj
  have hc0 := hcell 0 (by decide)
  simp only [show Ty.byte.sz = 1 from rfl, Nat.mul_one, Nat.add_zero] at hc0 hst
  refine ⟨g, hA, hgF, hc0, hfz j, fun b => ?_⟩
  obtain ⟨F', ho', hg', hF'⟩ := hst 0 (.int .u8 (b.toNat : Int)) b [] (by decide) ⟨rfl, rfl⟩ (by simp)
  exact ⟨F', ho', fun k hk => (hF' k hk).resolve_right (by simp)⟩
theorem Row.take {α : Type} {d : Ty α} {w : World} {B : Nat → Prop} {A : Option Addr} {n : Nat} {xs : List α} (h : Row d w B A n xs) {m : Nat} (hm : m ≤ n) : Row d w B A m (xs.take m) := by
  have h1 := h.cut (k := 0) (m := m) (cap := n + 1) (Nat.zero_le _) hm (by omega)
  rw [if_neg (by omega)] at h1
  have e : A.map (fun x : Addr => x.add (0 * d.sz)) = A := by cases A <;> simp [Addr.add]
  rw [e] at h1
  simpa using h1
theorem Row.const (w : World) (e : TypeId) (fr : Nat × Nat) (zs : Bytes) (hz : zs.length ≤ 34359738368) :
    Row Ty.byte (w.alloc (.cells (zs.map fun b => Value.int .u8 (b.toNat : Int)).toArray e fr)) (· = w.heap.size) (some ⟨w.heap.size, 0, none⟩) zs.length zs := by
  refine ⟨rfl, by omega, fun _ => ⟨_, rfl, rfl, fun j x hj => ⟨[.int .u8 (x.toNat : Int)], rfl, fun i u hu => ?_⟩⟩⟩
  have hi : i = 0 := by have := (List.getElem?_eq_some_iff.1 hu).1; simp at this; exact this
  subst hi
  have hu' : Value.int .u8 (x.toNat : Int) = u := by simpa using hu
  subst hu'
  rw [show (j * Ty.byte.sz + 0) = j from by show j * 1 + 0 = j; omega, add_own, cell_of_row _ _ j _ e fr (heap_alloc_new w _)]
  simp [hj]
theorem Own.lit (w : World) (e : TypeId) (zs : Bytes) (hz : zs.length ≤ 34359738368) :
    Own Ty.byte e (w.alloc (.cells (zs.map fun b => Value.int .u8 (b.toNat : Int)).toArray e)) [w.heap.size] (.slice (some ⟨w.heap.size, 0, none⟩) zs.length zs.length) zs := by
  refine ⟨zs.map fun b => Value.int .u8 (b.toNat : Int), List.replicate zs.length [], ?_, ?_, by rw [flat_nil]; rfl, by simp⟩
  · exact World.ownsRow_lit w _ zs.length (Nat.zero_le _) (by simp only [maxLen]; omega) (by simp [show Ty.byte.sz = 1 from rfl])
  · have key : ∀ zs : Bytes, ∀ w, Elems Ty.byte w (List.replicate zs.length []) zs (zs.map fun b => Value.int .u8 (b.toNat : Int)) := by
      intro zs w
      induction zs with
      | nil => exact Elems.nil _ _
      | cons z zs ih =>
        have := (Elems.one (d := Ty.byte) (w := w) (x := z) (f := []) (c := [Value.int .u8 (z.toNat : Int)]) ⟨rfl, rfl⟩).append ih
        simpa [List.replicate_succ] using this
    exact key zs _
theorem Row.plain {w : World} {B : Nat → Prop} {A : Option Addr} {n : Nat} {ys : Bytes} (h : Row Ty.byte w B A n ys) (h0 : 0 < n) :
    ∃ b off, A = some ⟨b, off, none⟩ ∧ B b ∧ ∀ i, i < n → w.cell? ⟨b, off + i, none⟩ = some (.int .u8 ((ys.map fun b : UInt8 => (b.toNat : Int)).getD i 0)) := by
  obtain ⟨rfl, hn, hc⟩ := h
  obtain ⟨ad, rfl, hb, hcell⟩ := hc h0
  have hat : ∀ i, i < ys.length → w.cell? (ad.add i) = some (.int .u8 ((ys.map fun b : UInt8 => (b.toNat : Int)).getD i 0)) := by
    intro i hi
    obtain ⟨cs, hK, hu⟩ := hcell i ys[i] (List.getElem?_eq_getElem hi)
    have hK' : cs = [Value.int .u8 (ys[i].toNat : Int)] := hK
    subst hK'
    have h1 := hu 0 _ rfl
    rw [show i * Ty.byte.sz + 0 = i from by show i * 1 + 0 = i; omega] at h1
    rw [h1]; simp [hi]
  obtain ⟨b, off, spot⟩ := ad
  have hsp : spot = none := by
    have := hat 0 h0
    cases spot with
    | none => rfl
    | some q => simp [World.cell?, Addr.add] at this; split at this <;> simp_all
  subst hsp
  have hat' : ∀ i, i < ys.length → w.cell? ⟨b, off + i, none⟩ = some (.int .u8 ((ys.map fun b : UInt8 => (b.toNat : Int)).getD i 0)) := by
    intro i hi
    have := hat i hi
    rwa [show (⟨b, off, none⟩ : Addr).add i = ⟨b, off + i, none⟩ from by unfold Addr.add; split <;> simp_all] at this
  exact ⟨b, off, rfl, hb, hat'⟩
theorem Row.conv {P : Program} {w : World} {B : Nat → Prop} {A : Option Addr} {n : Nat} {ys : Bytes} (h : Row Ty.byte w B A n ys) {src e dst : TypeId} (hs : P.underlying src = some (.slice e)) (he : P.underlying e = some (.int .u8))
    (hd : P.underlying dst = some .string) (c : Nat) : (convert src dst (.slice A n c)).run P w = .ok (.string ⟨ys.toArray⟩) w := by
  obtain ⟨rfl, hn, hc⟩ := h
  rcases Nat.eq_zero_or_pos ys.length with h0 | h0
  · obtain rfl := List.eq_nil_of_length_eq_zero h0
    rcases A with _ | ad
    · exact run_convert_bytes_nil w src e hs he _ _ dst hd
    · have hl : (loadCells ad 0).run P w = .ok #[] w := rfl
      rw [run_convert_bytes_string w src dst e _ _ c hs he hd]
      exact run_bytesToString w ad 0 c [] hl
  · obtain ⟨b, off, rfl, hb, hat'⟩ := Row.plain (w := w) (B := B) (A := A) ⟨rfl, hn, hc⟩ h0
    have := run_convert_bytes_arg (P := P) w src e hs he b off ys.length c (ys.map fun b : UInt8 => (b.toNat : Int)) (by simp) hat' dst hd
    rw [this]
    congr 3
    simp [strOfNums, Function.comp_def]
end Go.Proofs.YtiaknomadhgckaaDoor.Mem
