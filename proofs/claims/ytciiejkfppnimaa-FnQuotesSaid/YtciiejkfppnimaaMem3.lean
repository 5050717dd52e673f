/- Rows owned in a range of blocks, beside local cells. -/
import Derived.Test.YtciiejkfppnimaaMem2
import Derived.Laws.Rows
import Derived.Laws.Tables
namespace Go.Proofs.Ytciiejkfppnimaa.Mem
open Go.RowKit
set_option linter.unusedVariables false

/-- a row of the call's own whose blocks lie from lo on and below hi -/
def OwI {α : Type} (d : Ty α) (e : TypeId) (w : World) (lo hi : Nat) (v : Value) (xs : List α) : Prop := ∃ F, Own d e w F v xs ∧ ∀ k, k ∈ F → lo ≤ k ∧ k < hi
namespace OwI
variable {α : Type} {d : Ty α} {e : TypeId} {w w' : World} {lo hi lo' hi' : Nat} {v : Value} {xs : List α} {A : Option Addr} {n c : Nat}
theorem nil (d : Ty α) (e : TypeId) (w : World) (lo hi : Nat) : OwI d e w lo hi (.slice none 0 0) [] := ⟨[], Own.nil d e w, by simp⟩
theorem keep {S : Nat → Prop} (h : OwI d e w lo hi v xs) (hm : Mod S w w') (hS : ∀ k, lo ≤ k → k < hi → ¬ S k) : OwI d e w' lo hi v xs := by
  obtain ⟨F, ho, hF⟩ := h
  exact ⟨F, ho.keep hm fun k hk => hS k (hF k hk).1 (hF k hk).2, hF⟩
theorem new (h : OwI d e w lo hi v xs) (hm : New w w') : OwI d e w' lo hi v xs := h.keep hm fun _ _ _ h => h
theorem wide (h : OwI d e w lo hi v xs) (h1 : lo' ≤ lo) (h2 : hi ≤ hi') : OwI d e w lo' hi' v xs := by
  obtain ⟨F, ho, hF⟩ := h
  exact ⟨F, ho, fun k hk => ⟨Nat.le_trans h1 (hF k hk).1, Nat.lt_of_lt_of_le (hF k hk).2 h2⟩⟩
theorem len (h : OwI d e w lo hi (.slice A n c) xs) : n = xs.length ∧ n ≤ c ∧ c ≤ 9223372036854775807 := by
  obtain ⟨F, ho, hF⟩ := h
  obtain ⟨A', c', hv, h1, h2⟩ := ho.form
  injection hv with e1 e2 e3
  subst e3; exact ⟨e2, by omega, h2⟩
theorem form (h : OwI d e w lo hi v xs) : ∃ A c, v = .slice A xs.length c := by
  obtain ⟨F, ho, hF⟩ := h; obtain ⟨A, c, hv, _⟩ := ho.form; exact ⟨A, c, hv⟩
theorem row (h : OwI d e w lo hi (.slice A n c) xs) : Row d w (fun k => lo ≤ k ∧ k < hi) A n xs := by
  obtain rfl := h.len.1
  obtain ⟨F, ho, hF⟩ := h
  exact (ho.row rfl).mod hF (fun _ _ => rfl)
theorem rowlt (h : OwI d e w lo hi (.slice A n c) xs) : Row d w (· < w.heap.size) A n xs := by
  obtain rfl := h.len.1
  obtain ⟨F, ho, hF⟩ := h
  exact (ho.row rfl).mod ho.lt (fun _ _ => rfl)
end OwI
theorem Mine.owi {α : Type} {d : Ty α} {e : TypeId} {w0 w : World} {v : Value} {xs : List α} (h : Mine d e w0 w v xs) : OwI d e w w0.heap.size w.heap.size v xs := by
  obtain ⟨⟨F, ho, hF⟩, hn⟩ := h
  exact ⟨F, ho, fun k hk => ⟨hF k hk, ho.lt k hk⟩⟩
theorem OwI.ret {α : Type} {d : Ty α} {t : TypeId} {w w' : World} {lo hi : Nat} {xs : List α} {v : Value} (h : OwI d t w' lo hi v xs) (hl : w.heap.size ≤ lo) (hm : New w w') : RetOwn d t w xs (.returned v) w' := by
  obtain ⟨F, ho, hF⟩ := h
  exact RetOwn.of ho (fun k hk => Nat.le_trans hl (hF k hk).1) hm

/-- append of elements that lead nowhere -/
theorem wp_appI {P : Program} (w : World) {o : Oper} {a : Act} {K : Act → World → Prop} {Q : Exit → Act → World → Prop} (s x : Operand) (t : TypeId)
    (ho : o.op = .call { callee := .builtin .append, args := #[s, x], argTypes := #[t, t] })
    {α : Type} {d : Ty α} {e : TypeId} {z : Value} (ht : P.underlying t = some (.slice e)) (hE : Elt P e d.sz z) (hf : Flat d)
    {lo hi : Nat} {A A' : Option Addr} {n m c c' : Nat} {xs ys : List α} {B : Nat → Prop} (hs : a.eval s = .slice A n c) (hx : a.eval x = .slice A' m c') (hown : OwI d e w lo hi (.slice A n c) xs) (hy : Row d w B A' m ys)
    (hlo : lo ≤ w.heap.size) (hlen : xs.length + ys.length ≤ 34359738368)
    (h : ∀ A' n' c' w', OwI d e w' lo w'.heap.size (.slice A' n' c') (xs ++ ys) → Mod (fun k => lo ≤ k ∧ k < hi) w w' → K (a.put o.dst (.slice A' n' c')) w') : o.wp P a w K Q := by
  obtain ⟨news, hel, hA⟩ := hy.flat hf
  obtain ⟨F, ho2, hF⟩ := hown
  refine wp_append w s x t ho d e ht hE hs ho2 hx hel hy.1 hA (by rw [flat_nil]; exact List.nodup_nil) (by rw [flat_nil]; intro k hk; cases hk) (by have := hy.1; omega) ?_
  intro A2 n2 c2 w2 F2 ho3 hn2 hm2 hF2
  refine h _ _ _ _ ⟨F2, ho3, fun k hk => ⟨?_, ho3.lt k hk⟩⟩ (hm2.mono fun i _ hi => hF i (ho2.own_mem i hi))
  rcases hF2 k hk with h1 | h1 | h1
  · exact (hF k h1).1
  · rw [flat_nil] at h1; cases h1
  · omega
/-- append of one element that owns what it leads to -/
theorem wp_appO {P : Program} (w : World) {o : Oper} {a : Act} {K : Act → World → Prop} {Q : Exit → Act → World → Prop} (s x : Operand) (t : TypeId)
    (ho : o.op = .call { callee := .builtin .append, args := #[s, x], argTypes := #[t, t] })
    {α : Type} {d : Ty α} {e : TypeId} {z : Value} (ht : P.underlying t = some (.slice e)) (hE : Elt P e d.sz z)
    {lo hi : Nat} {A A' : Option Addr} {n c c' : Nat} {xs : List α} {y : α} {G : List Nat} {news : List Value} (hs : a.eval s = .slice A n c) (hx : a.eval x = .slice A' 1 c') (hown : OwI d e w lo hi (.slice A n c) xs)
    (hM : d.M w G y news) (hG : ∀ k, k ∈ G → hi ≤ k) (hA : ∃ ad, A' = some ad ∧ ∀ j u, news[j]? = some u → w.cell? (ad.add j) = some u)
    (hlo : lo ≤ hi) (hlo' : hi ≤ w.heap.size) (hlen : xs.length + 1 ≤ 34359738368)
    (h : ∀ A' n' c' w', OwI d e w' lo w'.heap.size (.slice A' n' c') (xs ++ [y]) → Mod (fun k => lo ≤ k ∧ k < hi) w w' → K (a.put o.dst (.slice A' n' c')) w') : o.wp P a w K Q := by
  obtain ⟨F, ho2, hF⟩ := hown
  refine wp_append w s x t ho d e ht hE hs ho2 hx (Elems.one hM) rfl (fun _ => hA) (by simpa using d.M_nd hM) (fun k hk hk2 => by simp at hk; have := hG k hk; have := (hF k hk2).2; omega) hlen ?_
  intro A2 n2 c2 w2 F2 ho3 hn2 hm2 hF2
  refine h _ _ _ _ ⟨F2, ho3, fun k hk => ⟨?_, ho3.lt k hk⟩⟩ (hm2.mono fun i _ hi => hF i (ho2.own_mem i hi))
  rcases hF2 k hk with h1 | h1 | h1
  · exact (hF k h1).1
  · simp at h1; have := hG k h1; omega
  · omega
section
variable {P : Program} {ops : Array Oper} {rest : List Oper} {o : Oper} {a : Act} {Q : Exit → Act → World → Prop} {K : Act → World → Prop} {E : Prop} {α : Type} {d : Ty α} {e : TypeId} {z : Value}
theorem step_of {w : World} (hg : o.guard = none) (h : o.wp P a w K Q) : if Region.wanted o (yielded ops a.tmps) = true then Oper.wp P o a w K Q else E := by
  have hw : Region.wanted o (yielded ops a.tmps) = true := by simp [Region.wanted, hg]
  rw [if_pos hw]; exact h
theorem wpList_appI (w : World) (hgd : o.guard = none) (s x : Operand) (t : TypeId)
    (ho : o.op = .call { callee := .builtin .append, args := #[s, x], argTypes := #[t, t] }) (ht : P.underlying t = some (.slice e)) (hE : Elt P e d.sz z) (hf : Flat d)
    {lo hi : Nat} {A A' : Option Addr} {n m c c' : Nat} {xs ys : List α} {B : Nat → Prop} (hs : a.eval s = .slice A n c) (hx : a.eval x = .slice A' m c') (hown : OwI d e w lo hi (.slice A n c) xs) (hy : Row d w B A' m ys)
    (hlo : lo ≤ w.heap.size) (hlen : xs.length + ys.length ≤ 34359738368)
    (h : ∀ A' n' c' w', OwI d e w' lo w'.heap.size (.slice A' n' c') (xs ++ ys) → Mod (fun k => lo ≤ k ∧ k < hi) w w' → wpList P ops Q rest (a.put o.dst (.slice A' n' c')) w') : wpList P ops Q (o :: rest) a w :=
  wpList_plain hgd fun _ hK => wp_appI w s x t ho ht hE hf hs hx hown hy hlo hlen fun A' n' c' w' h1 h2 => hK _ _ (h A' n' c' w' h1 h2)
theorem step_appI (w : World) (hgd : o.guard = none) (s x : Operand) (t : TypeId)
    (ho : o.op = .call { callee := .builtin .append, args := #[s, x], argTypes := #[t, t] }) (ht : P.underlying t = some (.slice e)) (hE : Elt P e d.sz z) (hf : Flat d)
    {lo hi : Nat} {A A' : Option Addr} {n m c c' : Nat} {xs ys : List α} {B : Nat → Prop} (hs : a.eval s = .slice A n c) (hx : a.eval x = .slice A' m c') (hown : OwI d e w lo hi (.slice A n c) xs) (hy : Row d w B A' m ys)
    (hlo : lo ≤ w.heap.size) (hlen : xs.length + ys.length ≤ 34359738368)
    (h : ∀ A' n' c' w', OwI d e w' lo w'.heap.size (.slice A' n' c') (xs ++ ys) → Mod (fun k => lo ≤ k ∧ k < hi) w w' → K (a.put o.dst (.slice A' n' c')) w') : if Region.wanted o (yielded ops a.tmps) = true then Oper.wp P o a w K Q else E :=
  step_of hgd (wp_appI w s x t ho ht hE hf hs hx hown hy hlo hlen h)
theorem wpList_appO (w : World) (hgd : o.guard = none) (s x : Operand) (t : TypeId)
    (ho : o.op = .call { callee := .builtin .append, args := #[s, x], argTypes := #[t, t] }) (ht : P.underlying t = some (.slice e)) (hE : Elt P e d.sz z)
    {lo hi : Nat} {A A' : Option Addr} {n c c' : Nat} {xs : List α} {y : α} {G : List Nat} {news : List Value} (hs : a.eval s = .slice A n c) (hx : a.eval x = .slice A' 1 c') (hown : OwI d e w lo hi (.slice A n c) xs)
    (hM : d.M w G y news) (hG : ∀ k, k ∈ G → hi ≤ k) (hA : ∃ ad, A' = some ad ∧ ∀ j u, news[j]? = some u → w.cell? (ad.add j) = some u)
    (hlo : lo ≤ hi) (hlo' : hi ≤ w.heap.size) (hlen : xs.length + 1 ≤ 34359738368)
    (h : ∀ A' n' c' w', OwI d e w' lo w'.heap.size (.slice A' n' c') (xs ++ [y]) → Mod (fun k => lo ≤ k ∧ k < hi) w w' → wpList P ops Q rest (a.put o.dst (.slice A' n' c')) w') : wpList P ops Q (o :: rest) a w :=
  wpList_plain hgd fun _ hK => wp_appO w s x t ho ht hE hs hx hown hM hG hA hlo hlo' hlen fun A' n' c' w' h1 h2 => hK _ _ (h A' n' c' w' h1 h2)
theorem step_appO (w : World) (hgd : o.guard = none) (s x : Operand) (t : TypeId)
    (ho : o.op = .call { callee := .builtin .append, args := #[s, x], argTypes := #[t, t] }) (ht : P.underlying t = some (.slice e)) (hE : Elt P e d.sz z)
    {lo hi : Nat} {A A' : Option Addr} {n c c' : Nat} {xs : List α} {y : α} {G : List Nat} {news : List Value} (hs : a.eval s = .slice A n c) (hx : a.eval x = .slice A' 1 c') (hown : OwI d e w lo hi (.slice A n c) xs)
    (hM : d.M w G y news) (hG : ∀ k, k ∈ G → hi ≤ k) (hA : ∃ ad, A' = some ad ∧ ∀ j u, news[j]? = some u → w.cell? (ad.add j) = some u)
    (hlo : lo ≤ hi) (hlo' : hi ≤ w.heap.size) (hlen : xs.length + 1 ≤ 34359738368)
    (h : ∀ A' n' c' w', OwI d e w' lo w'.heap.size (.slice A' n' c') (xs ++ [y]) → Mod (fun k => lo ≤ k ∧ k < hi) w w' → K (a.put o.dst (.slice A' n' c')) w') : if Region.wanted o (yielded ops a.tmps) = true then Oper.wp P o a w K Q else E :=
  step_of hgd (wp_appO w s x t ho ht hE hs hx hown hM hG hA hlo hlo' hlen h)
end
/-- a row of the call's own whose blocks meet X -/
def OwP {α : Type} (d : Ty α) (e : TypeId) (w : World) (X : Nat → Prop) (v : Value) (xs : List α) : Prop := ∃ F, Own d e w F v xs ∧ ∀ k, k ∈ F → X k
theorem OwP.keep {α : Type} {d : Ty α} {e : TypeId} {w w' : World} {X S : Nat → Prop} {v : Value} {xs : List α} (h : OwP d e w X v xs) (hm : Mod S w w') (hS : ∀ k, X k → ¬ S k) : OwP d e w' X v xs := by
  obtain ⟨F, ho, hF⟩ := h
  exact ⟨F, ho.keep hm fun k hk => hS k (hF k hk), hF⟩
theorem OwP.new {α : Type} {d : Ty α} {e : TypeId} {w w' : World} {X : Nat → Prop} {v : Value} {xs : List α} (h : OwP d e w X v xs) (hm : New w w') : OwP d e w' X v xs := h.keep hm fun _ _ h => h
theorem OwP.len {α : Type} {d : Ty α} {e : TypeId} {w : World} {X : Nat → Prop} {A : Option Addr} {n c : Nat} {xs : List α} (h : OwP d e w X (.slice A n c) xs) : n = xs.length ∧ n ≤ c ∧ c ≤ 9223372036854775807 := by
  obtain ⟨F, ho, hF⟩ := h
  obtain ⟨A', c', hv, h1, h2⟩ := ho.form
  injection hv with e1 e2 e3
  subst e3; exact ⟨e2, by omega, h2⟩
theorem OwP.row {α : Type} {d : Ty α} {e : TypeId} {w : World} {X : Nat → Prop} {A : Option Addr} {n c : Nat} {xs : List α} (h : OwP d e w X (.slice A n c) xs) : Row d w X A n xs := by
  obtain rfl := h.len.1
  obtain ⟨F, ho, hF⟩ := h
  exact (ho.row rfl).mod hF (fun _ _ => rfl)
theorem OwP.ret {α : Type} {d : Ty α} {t : TypeId} {w w' : World} {X : Nat → Prop} {xs : List α} {v : Value} (h : OwP d t w' X v xs) (hl : ∀ k, X k → w.heap.size ≤ k) (hm : New w w') : RetOwn d t w xs (.returned v) w' := by
  obtain ⟨F, ho, hF⟩ := h
  exact RetOwn.of ho (fun k hk => hl k (hF k hk)) hm
theorem Mine.owp {α : Type} {d : Ty α} {e : TypeId} {w0 w : World} {v : Value} {xs : List α} (h : Mine d e w0 w v xs) {X : Nat → Prop} (hX : ∀ k, w0.heap.size ≤ k → k < w.heap.size → X k) : OwP d e w X v xs := by
  obtain ⟨⟨F, ho, hF⟩, hn⟩ := h
  exact ⟨F, ho, fun k hk => hX k (hF k hk) (ho.lt k hk)⟩
theorem wp_appP {P : Program} (w : World) {o : Oper} {a : Act} {K : Act → World → Prop} {Q : Exit → Act → World → Prop} (s x : Operand) (t : TypeId)
    (ho : o.op = .call { callee := .builtin .append, args := #[s, x], argTypes := #[t, t] })
    {α : Type} {d : Ty α} {e : TypeId} {z : Value} (ht : P.underlying t = some (.slice e)) (hE : Elt P e d.sz z) (hf : Flat d)
    {X : Nat → Prop} {A A' : Option Addr} {n m c c' : Nat} {xs ys : List α} {B : Nat → Prop} (hs : a.eval s = .slice A n c) (hx : a.eval x = .slice A' m c') (hown : OwP d e w X (.slice A n c) xs) (hy : Row d w B A' m ys)
    (hX : ∀ k, w.heap.size ≤ k → X k) (hlen : xs.length + ys.length ≤ 34359738368)
    (h : ∀ A' n' c' w', OwP d e w' X (.slice A' n' c') (xs ++ ys) → Mod X w w' → K (a.put o.dst (.slice A' n' c')) w') : o.wp P a w K Q := by
  obtain ⟨news, hel, hA⟩ := hy.flat hf
  obtain ⟨F, ho2, hF⟩ := hown
  refine wp_append w s x t ho d e ht hE hs ho2 hx hel hy.1 hA (by rw [flat_nil]; exact List.nodup_nil) (by rw [flat_nil]; intro k hk; cases hk) (by have := hy.1; omega) ?_
  intro A2 n2 c2 w2 F2 ho3 hn2 hm2 hF2
  refine h _ _ _ _ ⟨F2, ho3, fun k hk => ?_⟩ (hm2.mono fun i _ hi => hF i (ho2.own_mem i hi))
  rcases hF2 k hk with h1 | h1 | h1
  · exact hF k h1
  · rw [flat_nil] at h1; cases h1
  · exact hX k (by omega)
theorem wp_appPO {P : Program} (w : World) {o : Oper} {a : Act} {K : Act → World → Prop} {Q : Exit → Act → World → Prop} (s x : Operand) (t : TypeId)
    (ho : o.op = .call { callee := .builtin .append, args := #[s, x], argTypes := #[t, t] })
    {α : Type} {d : Ty α} {e : TypeId} {z : Value} (ht : P.underlying t = some (.slice e)) (hE : Elt P e d.sz z)
    {X : Nat → Prop} {A A' : Option Addr} {n c c' : Nat} {xs : List α} {y : α} {G : List Nat} {news : List Value} (hs : a.eval s = .slice A n c) (hx : a.eval x = .slice A' 1 c') (hown : OwP d e w X (.slice A n c) xs)
    (hM : d.M w G y news) (hG : ∀ k, k ∈ G → X k) (hap : ∀ F, Own d e w F (.slice A n c) xs → (∀ k, k ∈ F → X k) → ∃ F', Own d e w F' (.slice A n c) xs ∧ (∀ k, k ∈ F' → X k) ∧ ∀ k, k ∈ G → ¬ k ∈ F') (hA : ∃ ad, A' = some ad ∧ ∀ j u, news[j]? = some u → w.cell? (ad.add j) = some u)
    (hX : ∀ k, w.heap.size ≤ k → X k) (hlen : xs.length + 1 ≤ 34359738368)
    (h : ∀ A' n' c' w', OwP d e w' X (.slice A' n' c') (xs ++ [y]) → Mod X w w' → K (a.put o.dst (.slice A' n' c')) w') : o.wp P a w K Q := by
  obtain ⟨F0, ho0, hF0⟩ := hown
  obtain ⟨F, ho2, hF, hdis⟩ := hap F0 ho0 hF0
  refine wp_append w s x t ho d e ht hE hs ho2 hx (Elems.one hM) rfl (fun _ => hA) (by simpa using d.M_nd hM) (fun k hk hk2 => by simp at hk; exact hdis k hk hk2) hlen ?_
  intro A2 n2 c2 w2 F2 ho3 hn2 hm2 hF2
  refine h _ _ _ _ ⟨F2, ho3, fun k hk => ?_⟩ (hm2.mono fun i _ hi => hF i (ho2.own_mem i hi))
  rcases hF2 k hk with h1 | h1 | h1
  · exact hF k h1
  · simp at h1; exact hG k h1
  · exact hX k (by omega)
theorem wpList_appP {P : Program} (w : World) {ops : Array Oper} {rest : List Oper} {o : Oper} {a : Act} {Q : Exit → Act → World → Prop} (hgd : o.guard = none) (s x : Operand) (t : TypeId)
    (ho : o.op = .call { callee := .builtin .append, args := #[s, x], argTypes := #[t, t] }) {α : Type} {d : Ty α} {e : TypeId} {z : Value} (ht : P.underlying t = some (.slice e)) (hE : Elt P e d.sz z) (hf : Flat d)
    {X : Nat → Prop} {A A' : Option Addr} {n m c c' : Nat} {xs ys : List α} {B : Nat → Prop} (hs : a.eval s = .slice A n c) (hx : a.eval x = .slice A' m c') (hown : OwP d e w X (.slice A n c) xs) (hy : Row d w B A' m ys)
    (hX : ∀ k, w.heap.size ≤ k → X k) (hlen : xs.length + ys.length ≤ 34359738368)
    (h : ∀ A' n' c' w', OwP d e w' X (.slice A' n' c') (xs ++ ys) → Mod X w w' → wpList P ops Q rest (a.put o.dst (.slice A' n' c')) w') : wpList P ops Q (o :: rest) a w :=
  wpList_plain hgd fun _ hK => wp_appP w s x t ho ht hE hf hs hx hown hy hX hlen fun A' n' c' w' h1 h2 => hK _ _ (h A' n' c' w' h1 h2)
/-- an empty literal -/
theorem Mine.empty {α : Type} {w0 w : World} (d : Ty α) (e : TypeId) {g : Nat} (hg : g = w.heap.size) (h : New w0 w) : Mine d e w0 (w.alloc (.cells #[] e)) (.slice (some ⟨g, 0, none⟩) 0 0) [] := by
  subst hg
  refine ⟨⟨[w.heap.size], ⟨[], [], ?_, Elems.nil _ _, rfl, by simp⟩, fun k hk => by simp at hk; subst hk; exact h.size⟩, h.alloc _⟩
  exact World.ownsRow_lit w _ 0 (Nat.zero_le _) (by simp only [maxLen]; omega) (by simp)
/-- the cells of a new literal of elements that are written out -/
theorem lit_cells (w : World) (e : TypeId) (cs : List Value) {g : Nat} (hg : g = w.heap.size) : ∃ ad, (some ⟨g, 0, none⟩ : Option Addr) = some ad ∧ ∀ j u, cs[j]? = some u → (w.alloc (.cells cs.toArray e)).cell? (ad.add j) = some u := by
  subst hg
  exact ⟨_, rfl, fun j u hu => by rw [add_own, cell_of_row _ _ j _ e (0, 0) (heap_alloc_new w _)]; simpa using hu⟩
/-- a struct that is handed back out of a block -/
theorem results_blk {P : Program} {fn : Func} {a : Tmp} {t e : TypeId} {fs : Array Field} (h : fn.results = #[.cell a t]) {tmps : Array Value} {w : World} {g : Nat} {cs : List Value} (ht : tmps.getD a undef = .pointer (some ⟨g, 0, none⟩)) (hb : Blk w g e cs)
    (hu : P.underlying t = some (.struct fs)) (hi : (P.info? t).map (·.size) = some cs.length) : (results fn tmps).run P w = .ok (.agg cs.toArray) w := by
  have := run_loadVar_row (P := P) w g e t cs.toArray (0, 0) _ hb hu rfl (by rw [hi]; simp)
  rw [Array.getD_eq_getD_getElem?] at ht
  simp [results, h, ht, asAddr, this]
/-- a composite literal -/
theorem wpList_bld {P : Program} {ops : Array Oper} {rest : List Oper} {o : Oper} {a : Act} {w : World} {Q : Exit → Act → World → Prop} (hg : o.guard = none) (t : TypeId) (parts : Array (Nat × Operand)) (ho : o.op = .build t parts) (cells : Array Value)
    (hf : P.built t (parts.map fun (i, x) => (i, a.eval x)).toList = some cells) (h : wpList P ops Q rest (a.put o.dst (.agg cells)) w) : wpList P ops Q (o :: rest) a w :=
  wpList_build hg t parts ho (by rw [hf]; rfl) (by rw [hf]; exact h)
end Go.Proofs.Ytciiejkfppnimaa.Mem
