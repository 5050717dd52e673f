/- Three flat rows of the call's own, and pieces that they do not touch. -/
import Derived.Test.YtciiejkfppnimaaMem3
import Derived.Test.YtciiejkfppnimaaMboxI
import Derived.Test.YtciiejkfppnimaaSQuote
import Derived.Test.YtciiejkfppnimaaPureQuotes
namespace Go.Proofs.Ytciiejkfppnimaa
open Go.RowKit Mem
set_option linter.unusedVariables false
theorem nodup3q {F0 F1 F2 : List Nat} (n0 : F0.Nodup) (n1 : F1.Nodup) (n2 : F2.Nodup) (h01 : ∀ k, k ∈ F0 → k ∉ F1) (h02 : ∀ k, k ∈ F0 → k ∉ F2) (h12 : ∀ k, k ∈ F1 → k ∉ F2) : (F0 ++ (F1 ++ F2)).Nodup := by
  refine List.nodup_append.2 ⟨n0, List.nodup_append.2 ⟨n1, n2, fun a ha b hb e => h12 a ha (e ▸ hb)⟩, fun a ha b hb e => ?_⟩
  subst e
  rcases List.mem_append.1 hb with hb | hb
  · exact h01 a ha hb
  · exact h02 a ha hb
theorem Mem.Hdrs.mod {w w' : World} {B B' : Nat → Prop} {hs : List Hdr} {ls : List (List UInt8)} (h : Hdrs w B hs ls) (h1 : ∀ k, B k → B' k) (h2 : ∀ k, B k → w'.heap[k]? = w.heap[k]?) : Hdrs w' B' hs ls :=
  ⟨h.1, fun i x l hx hl => by obtain ⟨a, b, c⟩ := h.2 i x l hx hl; exact ⟨a, b, c.mod h1 h2⟩⟩
/-- the state of the entries that are made -/
def Q3 (X : Nat → Prop) (w : World) (v0 v1 v2 : Value) (t : Bytes) (hs : List Hdr) (es : List Int) (ls : List Bytes) : Prop :=
  ∃ F0 F1 F2, Own Ty.byte 5 w F0 v0 t ∧ Own Ty.hdr 22 w F1 v1 hs ∧ Own (Ty.int .i64) 3 w F2 v2 es ∧ (∀ k, k ∈ F0 → k ∉ F1) ∧ (∀ k, k ∈ F0 → k ∉ F2) ∧ (∀ k, k ∈ F1 → k ∉ F2) ∧ (∀ k, k ∈ F0 ∨ k ∈ F1 ∨ k ∈ F2 → X k) ∧
    Hdrs w (fun k => k < w.heap.size ∧ ¬ (k ∈ F0 ∨ k ∈ F1 ∨ k ∈ F2)) hs ls
namespace Q3
variable {X X' : Nat → Prop} {w w' : World} {v0 v1 v2 : Value} {t : Bytes} {hs : List Hdr} {es : List Int} {ls : List Bytes}
theorem nil (X : Nat → Prop) (w : World) : Q3 X w (.slice none 0 0) (.slice none 0 0) (.slice none 0 0) [] [] [] [] := ⟨[], [], [], Own.nil _ _ _, Own.nil _ _ _, Own.nil _ _ _, by simp, by simp, by simp, by simp, Hdrs.nil _ _⟩
theorem new (h : Q3 X w v0 v1 v2 t hs es ls) (hm : New w w') : Q3 X w' v0 v1 v2 t hs es ls := by
  obtain ⟨F0, F1, F2, o0, o1, o2, d01, d02, d12, hX, hh⟩ := h
  exact ⟨F0, F1, F2, o0.keep hm fun _ _ h => h, o1.keep hm fun _ _ h => h, o2.keep hm fun _ _ h => h, d01, d02, d12, hX, hh.mod (fun k hk => ⟨Nat.lt_of_lt_of_le hk.1 hm.size, hk.2⟩) (fun k hk => hm.block k hk.1 id)⟩
theorem wide (h : Q3 X w v0 v1 v2 t hs es ls) (h1 : ∀ k, k < w.heap.size → X k → X' k) : Q3 X' w v0 v1 v2 t hs es ls := by
  obtain ⟨F0, F1, F2, o0, o1, o2, d01, d02, d12, hX, hh⟩ := h
  refine ⟨F0, F1, F2, o0, o1, o2, d01, d02, d12, fun k hk => h1 k ?_ (hX k hk), hh⟩
  rcases hk with hk | hk | hk
  · exact o0.lt k hk
  · exact o1.lt k hk
  · exact o2.lt k hk
theorem row0 {A : Option Addr} {n c : Nat} (h : Q3 X w (.slice A n c) v1 v2 t hs es ls) : Row Ty.byte w (· < w.heap.size) A n t ∧ n ≤ c ∧ n = t.length := by
  obtain ⟨F0, F1, F2, o0, o1, o2, d01, d02, d12, hX, hh⟩ := h
  obtain ⟨A', c', hv, h1, h2⟩ := o0.form
  injection hv with e1 e2 e3
  subst e3
  subst e2
  exact ⟨(o0.row rfl).mod (fun k hk => o0.lt k hk) (fun _ _ => rfl), by omega, rfl⟩
section
variable {P : Program} {o : Oper} {a : Act} {K : Act → World → Prop} {Q : Exit → Act → World → Prop} {z : Value} {ops : Array Oper} {rest : List Oper}
theorem listT (w : World) (hgd : o.guard = none) (s x : Operand) (ty : TypeId) (ho : o.op = .call { callee := .builtin .append, args := #[s, x], argTypes := #[ty, ty] }) (ht : Try.prog.underlying ty = some (.slice 5))
    {A' : Option Addr} {m c' : Nat} {ys : Bytes} {B : Nat → Prop} (hs_ : a.eval s = v0) (hx : a.eval x = .slice A' m c') (h3 : Q3 X w v0 v1 v2 t hs es ls)
    (hy : Row Ty.byte w B A' m ys) (hX : ∀ k, w.heap.size ≤ k → X k) (hlen : t.length + ys.length ≤ 34359738368)
    (h : ∀ A' n' c' w', Q3 X w' (.slice A' n' c') v1 v2 (t ++ ys) hs es ls → Mod X w w' → wpList Try.prog ops Q rest (a.put o.dst (.slice A' n' c')) w') : wpList Try.prog ops Q (o :: rest) a w := by
  obtain ⟨F0, F1, F2, o0, o1, o2, d01, d02, d12, hX0, hh⟩ := h3
  obtain ⟨news, hel, hA⟩ := hy.flat flat_byte
  refine wpList_plain hgd fun _ hK => wp_append w s x ty ho Ty.byte 5 ht elt_byte hs_ o0 hx hel hy.1 hA (by rw [flat_nil]; exact List.nodup_nil) (by rw [flat_nil]; intro k hk; cases hk) (by have := hy.1; omega) ?_
  intro A2 n2 c2 w2 G2 ho3 hn2 hm2 hF2
  have hmem : ∀ k, k ∈ G2 → k ∈ F0 ∨ w.heap.size ≤ k := fun k hk => by
    rcases hF2 k hk with h1 | h1 | h1
    · exact Or.inl h1
    · rw [flat_nil] at h1; cases h1
    · exact Or.inr h1
  have hsz := hm2.size
  refine hK _ _ (h _ _ _ _ ⟨G2, F1, F2, ho3, o1.keep hm2 (fun k hk e => d01 k (o0.own_mem k e) hk), o2.keep hm2 (fun k hk e => d02 k (o0.own_mem k e) hk), ?_, ?_, d12, ?_, hh.mod (fun k hk => ⟨by have := hk.1; omega, ?_⟩) (fun k hk => hm2.block k hk.1 (fun e => hk.2 (Or.inl (o0.own_mem k e))))⟩ (hm2.mono fun i _ hi => hX0 i (Or.inl (o0.own_mem i hi))))
  · intro k hk hk1
    rcases hmem k hk with h1 | h1
    · exact d01 k h1 hk1
    · have := o1.lt k hk1; omega
  · intro k hk hk1
    rcases hmem k hk with h1 | h1
    · exact d02 k h1 hk1
    · have := o2.lt k hk1; omega
  · intro k hk
    rcases hk with hk | hk
    · rcases hmem k hk with h1 | h1
      · exact hX0 k (Or.inl h1)
      · exact hX k h1
    · exact hX0 k (Or.inr hk)
  · rintro (h1 | h1)
    · rcases hmem k h1 with h1 | h1
      · exact hk.2 (Or.inl h1)
      · have := hk.1; omega
    · exact hk.2 (Or.inr h1)
theorem listE (w : World) (hgd : o.guard = none) (s x : Operand) (ty : TypeId) (ho : o.op = .call { callee := .builtin .append, args := #[s, x], argTypes := #[ty, ty] }) (ht : Try.prog.underlying ty = some (.slice 3))
    {g c' : Nat} {y : Int} (hs_ : a.eval s = v2) (hx : a.eval x = .slice (some ⟨g, 0, none⟩) 1 c') (h3 : Q3 X w v0 v1 v2 t hs es ls)
    (hy : w.cell? ⟨g, 0, none⟩ = some (.int .i64 y)) (hw : IntKind.i64.wrap y = y) (hX : ∀ k, w.heap.size ≤ k → X k) (hlen : es.length + 1 ≤ 34359738368)
    (h : ∀ A' n' c' w', Q3 X w' v0 v1 (.slice A' n' c') t hs (es ++ [y]) ls → Mod X w w' → wpList Try.prog ops Q rest (a.put o.dst (.slice A' n' c')) w') : wpList Try.prog ops Q (o :: rest) a w := by
  obtain ⟨F0, F1, F2, o0, o1, o2, d01, d02, d12, hX0, hh⟩ := h3
  refine wpList_plain hgd fun _ hK => wp_append w s x ty ho (Ty.int .i64) 3 ht elt_int hs_ o2 hx (Elems.one (x := y) (f := []) (c := [Value.int .i64 y]) ⟨rfl, rfl, hw⟩) rfl (fun _ => ⟨_, rfl, fun j u hu => by
    have hj : j = 0 := by have := (List.getElem?_eq_some_iff.1 hu).1; simp at this; exact this
    subst hj
    simp at hu
    subst hu
    exact hy⟩) (by simp) (by simp) hlen ?_
  intro A2 n2 c2 w2 G2 ho3 hn2 hm2 hF2
  have hmem : ∀ k, k ∈ G2 → k ∈ F2 ∨ w.heap.size ≤ k := fun k hk => by
    rcases hF2 k hk with h1 | h1 | h1
    · exact Or.inl h1
    · simp at h1
    · exact Or.inr h1
  have hsz := hm2.size
  refine hK _ _ (h _ _ _ _ ⟨F0, F1, G2, o0.keep hm2 (fun k hk e => d02 k hk (o2.own_mem k e)), o1.keep hm2 (fun k hk e => d12 k hk (o2.own_mem k e)), ho3, d01, ?_, ?_, ?_, hh.mod (fun k hk => ⟨by have := hk.1; omega, ?_⟩) (fun k hk => hm2.block k hk.1 (fun e => hk.2 (Or.inr (Or.inr (o2.own_mem k e)))))⟩ (hm2.mono fun i _ hi => hX0 i (Or.inr (Or.inr (o2.own_mem i hi)))))
  · intro k hk hk1
    rcases hmem k hk1 with h1 | h1
    · exact d02 k hk h1
    · have := o0.lt k hk; omega
  · intro k hk hk1
    rcases hmem k hk1 with h1 | h1
    · exact d12 k hk h1
    · have := o1.lt k hk; omega
  · intro k hk
    rcases hk with hk | hk | hk
    · exact hX0 k (Or.inl hk)
    · exact hX0 k (Or.inr (Or.inl hk))
    · rcases hmem k hk with h1 | h1
      · exact hX0 k (Or.inr (Or.inr h1))
      · exact hX k h1
  · rintro (h1 | h1 | h1)
    · exact hk.2 (Or.inl h1)
    · exact hk.2 (Or.inr (Or.inl h1))
    · rcases hmem k h1 with h1 | h1
      · exact hk.2 (Or.inr (Or.inr h1))
      · have := hk.1; omega
theorem listB (w : World) (hgd : o.guard = none) (s x : Operand) (ty : TypeId) (ho : o.op = .call { callee := .builtin .append, args := #[s, x], argTypes := #[ty, ty] }) (ht : Try.prog.underlying ty = some (.slice 22))
    {g c' : Nat} {y : Hdr} {l : Bytes} {B : Nat → Prop} (hs_ : a.eval s = v1) (hx : a.eval x = .slice (some ⟨g, 0, none⟩) 1 c') (h3 : Q3 X w v0 v1 v2 t hs es ls)
    (hy : w.cell? ⟨g, 0, none⟩ = some y.val) (hr : Row Ty.byte w B y.A y.n l) (hyc : y.n ≤ y.c) (hB : ∀ k, B k → k < w.heap.size ∧ ¬ X k) (hX : ∀ k, w.heap.size ≤ k → X k) (hlen : hs.length + 1 ≤ 34359738368)
    (h : ∀ A' n' c' w', Q3 X w' v0 (.slice A' n' c') v2 t (hs ++ [y]) es (ls ++ [l]) → Mod X w w' → wpList Try.prog ops Q rest (a.put o.dst (.slice A' n' c')) w') : wpList Try.prog ops Q (o :: rest) a w := by
  obtain ⟨F0, F1, F2, o0, o1, o2, d01, d02, d12, hX0, hh⟩ := h3
  refine wpList_plain hgd fun _ hK => wp_append w s x ty ho Ty.hdr 22 ht elt_bytes hs_ o1 hx (Elems.one (x := y) (f := []) (c := [y.val]) ⟨rfl, rfl⟩) rfl (fun _ => ⟨_, rfl, fun j u hu => by
    have hj : j = 0 := by have := (List.getElem?_eq_some_iff.1 hu).1; simp at this; exact this
    subst hj
    simp at hu
    subst hu
    exact hy⟩) (by simp) (by simp) hlen ?_
  intro A2 n2 c2 w2 G2 ho3 hn2 hm2 hF2
  have hmem : ∀ k, k ∈ G2 → k ∈ F1 ∨ w.heap.size ≤ k := fun k hk => by
    rcases hF2 k hk with h1 | h1 | h1
    · exact Or.inl h1
    · simp at h1
    · exact Or.inr h1
  have hsz := hm2.size
  have hall : Hdrs w2 (fun k => k < w2.heap.size ∧ ¬ (k ∈ F0 ∨ k ∈ G2 ∨ k ∈ F2)) (hs ++ [y]) (ls ++ [l]) := by
    refine (hh.mod (fun k hk => ⟨by have := hk.1; omega, ?_⟩) (fun k hk => hm2.block k hk.1 (fun e => hk.2 (Or.inr (Or.inl (o1.own_mem k e)))))).snoc hr.1 hyc (hr.mod (fun k hk => ⟨by have := (hB k hk).1; omega, ?_⟩) (fun k hk => hm2.block k (hB k hk).1 (fun e => (hB k hk).2 (hX0 k (Or.inr (Or.inl (o1.own_mem k e)))))))
    · rintro (h1 | h1 | h1)
      · exact (hB k hk).2 (hX0 k (Or.inl h1))
      · rcases hmem k h1 with h1 | h1
        · exact (hB k hk).2 (hX0 k (Or.inr (Or.inl h1)))
        · have := (hB k hk).1; omega
      · exact (hB k hk).2 (hX0 k (Or.inr (Or.inr h1)))
    · rintro (h1 | h1 | h1)
      · exact hk.2 (Or.inl h1)
      · rcases hmem k h1 with h1 | h1
        · exact hk.2 (Or.inr (Or.inl h1))
        · have := hk.1; omega
      · exact hk.2 (Or.inr (Or.inr h1))
  refine hK _ _ (h _ _ _ _ ⟨F0, G2, F2, o0.keep hm2 (fun k hk e => d01 k hk (o1.own_mem k e)), ho3, o2.keep hm2 (fun k hk e => d12 k (o1.own_mem k e) hk), ?_, d02, ?_, ?_, hall⟩ (hm2.mono fun i _ hi => hX0 i (Or.inr (Or.inl (o1.own_mem i hi)))))
  · intro k hk hk1
    rcases hmem k hk1 with h1 | h1
    · exact d01 k hk h1
    · have := o0.lt k hk; omega
  · intro k hk hk1
    rcases hmem k hk with h1 | h1
    · exact d12 k h1 hk1
    · have := o2.lt k hk1; omega
  · intro k hk
    rcases hk with hk | hk | hk
    · exact hX0 k (Or.inl hk)
    · rcases hmem k hk with h1 | h1
      · exact hX0 k (Or.inr (Or.inl h1))
      · exact hX k h1
    · exact hX0 k (Or.inr (Or.inr hk))
end
end Q3
end Go.Proofs.Ytciiejkfppnimaa
