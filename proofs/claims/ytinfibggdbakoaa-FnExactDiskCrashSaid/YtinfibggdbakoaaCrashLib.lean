/- Three rows of one disk of the call's own. -/
import Derived.Test.YtinfibggdbakoaaCDisk
import Derived.Test.YtinfibggdbakoaaMem3
import Derived.Test.YtinfibggdbakoaaReg
import Derived.Test.YtinfibggdbakoaaDiskA
import Derived.Test.YtinfibggdbakoaaReg2D
namespace Go.Proofs.Ytinfibggdbakoaa
open Go.RowKit Mem
set_option linter.unusedVariables false
def Out3 (X : Nat → Prop) (w : World) (v0 v1 v2 : Value) (ns : NodeST) (es ks : EntryST) : Prop :=
  ∃ F0 F1 F2, Own dNode 55 w F0 v0 ns ∧ Own dEntry 70 w F1 v1 es ∧ Own dEntry 70 w F2 v2 ks ∧ (F0 ++ (F1 ++ F2)).Nodup ∧ ∀ k, k ∈ F0 ++ (F1 ++ F2) → X k
theorem nodup3 {F0 F1 F2 : List Nat} (n0 : F0.Nodup) (n1 : F1.Nodup) (n2 : F2.Nodup) (h01 : ∀ k, k ∈ F0 → k ∉ F1) (h02 : ∀ k, k ∈ F0 → k ∉ F2) (h12 : ∀ k, k ∈ F1 → k ∉ F2) : (F0 ++ (F1 ++ F2)).Nodup := by
  refine List.nodup_append.2 ⟨n0, List.nodup_append.2 ⟨n1, n2, fun a ha b hb e => h12 a ha (e ▸ hb)⟩, fun a ha b hb e => ?_⟩
  subst e
  rcases List.mem_append.1 hb with hb | hb
  · exact h01 a ha hb
  · exact h02 a ha hb
theorem nodup3_of {F0 F1 F2 : List Nat} (h : (F0 ++ (F1 ++ F2)).Nodup) : (∀ k, k ∈ F0 → k ∉ F1) ∧ (∀ k, k ∈ F0 → k ∉ F2) ∧ (∀ k, k ∈ F1 → k ∉ F2) := by
  obtain ⟨n0, n12, h0⟩ := List.nodup_append.1 h
  obtain ⟨n1, n2, h1⟩ := List.nodup_append.1 n12
  exact ⟨fun k hk hk2 => h0 k hk k (List.mem_append.2 (Or.inl hk2)) rfl, fun k hk hk2 => h0 k hk k (List.mem_append.2 (Or.inr hk2)) rfl, fun k hk hk2 => h1 k hk k hk2 rfl⟩
namespace Out3
variable {X X0 X' : Nat → Prop} {w w' : World} {v0 v1 v2 : Value} {ns : NodeST} {es ks : EntryST}
theorem nil (X : Nat → Prop) (w : World) : Out3 X w (.slice none 0 0) (.slice none 0 0) (.slice none 0 0) [] [] [] := ⟨[], [], [], Own.nil _ _ _, Own.nil _ _ _, Own.nil _ _ _, by simp, by simp⟩
theorem keep {S : Nat → Prop} (h : Out3 X w v0 v1 v2 ns es ks) (hm : Mod S w w') (hS : ∀ k, X k → ¬ S k) : Out3 X w' v0 v1 v2 ns es ks := by
  obtain ⟨F0, F1, F2, o0, o1, o2, hn, hF⟩ := h
  exact ⟨F0, F1, F2, o0.keep hm fun k hk => hS k (hF k (by simp [hk])), o1.keep hm fun k hk => hS k (hF k (by simp [hk])), o2.keep hm fun k hk => hS k (hF k (by simp [hk])), hn, hF⟩
theorem new (h : Out3 X w v0 v1 v2 ns es ks) (hm : New w w') : Out3 X w' v0 v1 v2 ns es ks := h.keep hm fun _ _ h => h
theorem wide (h : Out3 X w v0 v1 v2 ns es ks) (h1 : ∀ k, k < w.heap.size → X k → X' k) : Out3 X' w v0 v1 v2 ns es ks := by
  obtain ⟨F0, F1, F2, o0, o1, o2, hn, hF⟩ := h
  refine ⟨F0, F1, F2, o0, o1, o2, hn, fun k hk => h1 k ?_ (hF k hk)⟩
  rcases List.mem_append.1 hk with hk | hk
  · exact o0.lt k hk
  · rcases List.mem_append.1 hk with hk | hk
    · exact o1.lt k hk
    · exact o2.lt k hk
theorem len0 {A : Option Addr} {n c : Nat} (h : Out3 X w (.slice A n c) v1 v2 ns es ks) : n = ns.length := by
  obtain ⟨F0, F1, F2, o0, o1, o2, hn, hF⟩ := h
  obtain ⟨A', c', hv, _⟩ := o0.form
  injection hv with _ e2 _
theorem len1 {A : Option Addr} {n c : Nat} (h : Out3 X w v0 (.slice A n c) v2 ns es ks) : n = es.length := by
  obtain ⟨F0, F1, F2, o0, o1, o2, hn, hF⟩ := h
  obtain ⟨A', c', hv, _⟩ := o1.form
  injection hv with _ e2 _
theorem len2 {A : Option Addr} {n c : Nat} (h : Out3 X w v0 v1 (.slice A n c) ns es ks) : n = ks.length := by
  obtain ⟨F0, F1, F2, o0, o1, o2, hn, hF⟩ := h
  obtain ⟨A', c', hv, _⟩ := o2.form
  injection hv with _ e2 _
theorem row1 {A : Option Addr} {n c : Nat} (h : Out3 X w v0 (.slice A n c) v2 ns es ks) : Row dEntry w (· < w.heap.size) A n es := by
  obtain rfl := h.len1
  obtain ⟨F0, F1, F2, o0, o1, o2, hn, hF⟩ := h
  exact (o1.row rfl).mod (fun k hk => o1.lt k hk) (fun _ _ => rfl)
theorem put2 (h : Out3 X0 w v0 v1 v2 ns es ks) {F : List Nat} {v2' : Value} {ks' : EntryST} (ho : Own dEntry 70 w F v2' ks') (hF : ∀ k, k ∈ F → ¬ X0 k ∧ X k) (hX : ∀ k, X0 k → X k) : Out3 X w v0 v1 v2' ns es ks' := by
  obtain ⟨F0, F1, F2, o0, o1, o2, hn, hX0⟩ := h
  obtain ⟨d01, d02, d12⟩ := nodup3_of hn
  refine ⟨F0, F1, F, o0, o1, ho, nodup3 o0.nd o1.nd ho.nd d01 (fun k hk hk1 => (hF k hk1).1 (hX0 k (by simp [hk]))) (fun k hk hk1 => (hF k hk1).1 (hX0 k (by simp [hk]))), fun k hk => ?_⟩
  rcases List.mem_append.1 hk with hk | hk
  · exact hX k (hX0 k (by simp [hk]))
  · rcases List.mem_append.1 hk with hk | hk
    · exact hX k (hX0 k (by simp [hk]))
    · exact (hF k hk).2
theorem disk (h : Out3 X w v0 v1 v2 ns es ks) {q : Int} (hq : IntKind.i64.wrap q = q) {lo : Nat} (hlo : ∀ k, X k → lo ≤ k) : OwV true dDisk w lo w.heap.size (.agg #[v0, v1, v2, .slice none 0 0, .int .i64 q]) (ns, es, ks, [], q) := by
  obtain ⟨F0, F1, F2, o0, o1, o2, hn, hF⟩ := h.wide (X' := fun k => lo ≤ k ∧ k < w.heap.size) (fun k h1 h2 => ⟨hlo k h2, h1⟩)
  exact ⟨[v0, v1, v2, .slice none 0 0, .int .i64 q], F0 ++ (F1 ++ (F2 ++ ([] ++ []))), rfl, mDisk (x := (ns, es, ks, [], q)) hq o0 o1 o2 (Own.nil _ _ _) (by simpa using hn), by simpa using hF⟩
section
variable {o : Oper} {a : Act} {K : Act → World → Prop} {Q : Exit → Act → World → Prop} {z : Value}
theorem wp0 (w : World) (s x : Operand) (t : TypeId) (ho : o.op = .call { callee := .builtin .append, args := #[s, x], argTypes := #[t, t] }) (ht : Try.prog.underlying t = some (.slice 55)) (hE : Elt Try.prog 55 dNode.sz z)
    {A' : Option Addr} {c' : Nat} {y : NodeT} {G : List Nat} {news : List Value} (hs : a.eval s = v0) (hx : a.eval x = .slice A' 1 c') (h3 : Out3 X0 w v0 v1 v2 ns es ks)
    (hM : dNode.M w G y news) (hG : ∀ k, k ∈ G → ¬ X0 k ∧ X k) (hA : ∃ ad, A' = some ad ∧ ∀ j u, news[j]? = some u → w.cell? (ad.add j) = some u)
    (hX0 : ∀ k, X0 k → X k) (hX : ∀ k, w.heap.size ≤ k → X k) (hlen : ns.length + 1 ≤ 34359738368)
    (h : ∀ A' n' c' w', Out3 X w' (.slice A' n' c') v1 v2 (ns ++ [y]) es ks → Mod X0 w w' → K (a.put o.dst (.slice A' n' c')) w') : o.wp Try.prog a w K Q := by
  obtain ⟨F0, F1, F2, o0, o1, o2, hn, hF⟩ := h3
  obtain ⟨d01, d02, d12⟩ := nodup3_of hn
  refine wp_append w s x t ho dNode 55 ht hE hs o0 hx (Elems.one hM) rfl (fun _ => hA) (by simpa using dNode.M_nd hM) (fun k hk hk2 => by simp at hk; exact (hG k hk).1 (hF k (by simp [hk2]))) hlen ?_
  intro A2 n2 c2 w2 G2 ho3 hn2 hm2 hF2
  have l1 := o1.lt
  have l2 := o2.lt
  have hmem : ∀ k, k ∈ G2 → k ∈ F0 ∨ (¬ X0 k ∧ X k) ∨ (w.heap.size ≤ k) := fun k hk => by
    rcases hF2 k hk with h1 | h1 | h1
    · exact Or.inl h1
    · simp at h1; exact Or.inr (Or.inl (hG k h1))
    · exact Or.inr (Or.inr h1)
  refine h _ _ _ _ ⟨G2, F1, F2, ho3, o1.keep hm2 (fun k hk e => d01 k (o0.own_mem k e) hk), o2.keep hm2 (fun k hk e => d02 k (o0.own_mem k e) hk), nodup3 ho3.nd o1.nd o2.nd ?_ ?_ d12, ?_⟩ (hm2.mono fun i _ hi => hF i (by simp [o0.own_mem i hi]))
  · intro k hk hk1
    rcases hmem k hk with h1 | h1 | h1
    · exact d01 k h1 hk1
    · exact h1.1 (hF k (by simp [hk1]))
    · have := l1 k hk1; omega
  · intro k hk hk1
    rcases hmem k hk with h1 | h1 | h1
    · exact d02 k h1 hk1
    · exact h1.1 (hF k (by simp [hk1]))
    · have := l2 k hk1; omega
  · intro k hk
    rcases List.mem_append.1 hk with hk | hk
    · rcases hmem k hk with h1 | h1 | h1
      · exact hX0 k (hF k (by simp [h1]))
      · exact h1.2
      · exact hX k h1
    · exact hX0 k (hF k (List.mem_append.2 (Or.inr hk)))
theorem wp1 (w : World) (s x : Operand) (t : TypeId) (ho : o.op = .call { callee := .builtin .append, args := #[s, x], argTypes := #[t, t] }) (ht : Try.prog.underlying t = some (.slice 70)) (hE : Elt Try.prog 70 dEntry.sz z)
    {A' : Option Addr} {m c' : Nat} {ys : EntryST} {B : Nat → Prop} (hs : a.eval s = v1) (hx : a.eval x = .slice A' m c') (h3 : Out3 X w v0 v1 v2 ns es ks)
    (hy : Row dEntry w B A' m ys) (hX : ∀ k, w.heap.size ≤ k → X k) (hlen : es.length + ys.length ≤ 34359738368)
    (h : ∀ A' n' c' w', Out3 X w' v0 (.slice A' n' c') v2 ns (es ++ ys) ks → Mod X w w' → K (a.put o.dst (.slice A' n' c')) w') : o.wp Try.prog a w K Q := by
  obtain ⟨F0, F1, F2, o0, o1, o2, hn, hF⟩ := h3
  obtain ⟨d01, d02, d12⟩ := nodup3_of hn
  obtain ⟨news, hel, hA⟩ := hy.flat flatEntry
  refine wp_append w s x t ho dEntry 70 ht hE hs o1 hx hel hy.1 hA (by rw [flat_nil]; exact List.nodup_nil) (by rw [flat_nil]; intro k hk; cases hk) (by have := hy.1; omega) ?_
  intro A2 n2 c2 w2 G2 ho3 hn2 hm2 hF2
  have hmem : ∀ k, k ∈ G2 → k ∈ F1 ∨ w.heap.size ≤ k := fun k hk => by
    rcases hF2 k hk with h1 | h1 | h1
    · exact Or.inl h1
    · rw [flat_nil] at h1; cases h1
    · exact Or.inr h1
  refine h _ _ _ _ ⟨F0, G2, F2, o0.keep hm2 (fun k hk e => d01 k hk (o1.own_mem k e)), ho3, o2.keep hm2 (fun k hk e => d12 k (o1.own_mem k e) hk), nodup3 o0.nd ho3.nd o2.nd ?_ d02 ?_, ?_⟩ (hm2.mono fun i _ hi => hF i (by simp [o1.own_mem i hi]))
  · intro k hk hk1
    rcases hmem k hk1 with h1 | h1
    · exact d01 k hk h1
    · have := o0.lt k hk; omega
  · intro k hk hk1
    rcases hmem k hk with h1 | h1
    · exact d12 k h1 hk1
    · have := o2.lt k hk1; omega
  · intro k hk
    rcases List.mem_append.1 hk with hk | hk
    · exact hF k (by simp [hk])
    · rcases List.mem_append.1 hk with hk | hk
      · rcases hmem k hk with h1 | h1
        · exact hF k (by simp [h1])
        · exact hX k h1
      · exact hF k (by simp [hk])
theorem wp2 (w : World) (s x : Operand) (t : TypeId) (ho : o.op = .call { callee := .builtin .append, args := #[s, x], argTypes := #[t, t] }) (ht : Try.prog.underlying t = some (.slice 70)) (hE : Elt Try.prog 70 dEntry.sz z)
    {A' : Option Addr} {m c' : Nat} {ys : EntryST} {B : Nat → Prop} (hs : a.eval s = v2) (hx : a.eval x = .slice A' m c') (h3 : Out3 X w v0 v1 v2 ns es ks)
    (hy : Row dEntry w B A' m ys) (hX : ∀ k, w.heap.size ≤ k → X k) (hlen : ks.length + ys.length ≤ 34359738368)
    (h : ∀ A' n' c' w', Out3 X w' v0 v1 (.slice A' n' c') ns es (ks ++ ys) → Mod X w w' → K (a.put o.dst (.slice A' n' c')) w') : o.wp Try.prog a w K Q := by
  obtain ⟨F0, F1, F2, o0, o1, o2, hn, hF⟩ := h3
  obtain ⟨d01, d02, d12⟩ := nodup3_of hn
  obtain ⟨news, hel, hA⟩ := hy.flat flatEntry
  refine wp_append w s x t ho dEntry 70 ht hE hs o2 hx hel hy.1 hA (by rw [flat_nil]; exact List.nodup_nil) (by rw [flat_nil]; intro k hk; cases hk) (by have := hy.1; omega) ?_
  intro A2 n2 c2 w2 G2 ho3 hn2 hm2 hF2
  have hmem : ∀ k, k ∈ G2 → k ∈ F2 ∨ w.heap.size ≤ k := fun k hk => by
    rcases hF2 k hk with h1 | h1 | h1
    · exact Or.inl h1
    · rw [flat_nil] at h1; cases h1
    · exact Or.inr h1
  refine h _ _ _ _ ⟨F0, F1, G2, o0.keep hm2 (fun k hk e => d02 k hk (o2.own_mem k e)), o1.keep hm2 (fun k hk e => d12 k hk (o2.own_mem k e)), ho3, nodup3 o0.nd o1.nd ho3.nd d01 ?_ ?_, ?_⟩ (hm2.mono fun i _ hi => hF i (by simp [o2.own_mem i hi]))
  · intro k hk hk1
    rcases hmem k hk1 with h1 | h1
    · exact d02 k hk h1
    · have := o0.lt k hk; omega
  · intro k hk hk1
    rcases hmem k hk1 with h1 | h1
    · exact d12 k hk h1
    · have := o1.lt k hk; omega
  · intro k hk
    rcases List.mem_append.1 hk with hk | hk
    · exact hF k (by simp [hk])
    · rcases List.mem_append.1 hk with hk | hk
      · exact hF k (by simp [hk])
      · rcases hmem k hk with h1 | h1
        · exact hF k (by simp [h1])
        · exact hX k h1
variable {ops : Array Oper} {rest : List Oper}
theorem list1 (w : World) (hgd : o.guard = none) (s x : Operand) (t : TypeId) (ho : o.op = .call { callee := .builtin .append, args := #[s, x], argTypes := #[t, t] }) (ht : Try.prog.underlying t = some (.slice 70)) (hE : Elt Try.prog 70 dEntry.sz z)
    {A' : Option Addr} {m c' : Nat} {ys : EntryST} {B : Nat → Prop} (hs : a.eval s = v1) (hx : a.eval x = .slice A' m c') (h3 : Out3 X w v0 v1 v2 ns es ks)
    (hy : Row dEntry w B A' m ys) (hX : ∀ k, w.heap.size ≤ k → X k) (hlen : es.length + ys.length ≤ 34359738368)
    (h : ∀ A' n' c' w', Out3 X w' v0 (.slice A' n' c') v2 ns (es ++ ys) ks → Mod X w w' → wpList Try.prog ops Q rest (a.put o.dst (.slice A' n' c')) w') : wpList Try.prog ops Q (o :: rest) a w :=
  wpList_plain hgd fun _ hK => wp1 w s x t ho ht hE hs hx h3 hy hX hlen fun A' n' c' w' h1 h2 => hK _ _ (h A' n' c' w' h1 h2)
theorem list2 (w : World) (hgd : o.guard = none) (s x : Operand) (t : TypeId) (ho : o.op = .call { callee := .builtin .append, args := #[s, x], argTypes := #[t, t] }) (ht : Try.prog.underlying t = some (.slice 70)) (hE : Elt Try.prog 70 dEntry.sz z)
    {A' : Option Addr} {m c' : Nat} {ys : EntryST} {B : Nat → Prop} (hs : a.eval s = v2) (hx : a.eval x = .slice A' m c') (h3 : Out3 X w v0 v1 v2 ns es ks)
    (hy : Row dEntry w B A' m ys) (hX : ∀ k, w.heap.size ≤ k → X k) (hlen : ks.length + ys.length ≤ 34359738368)
    (h : ∀ A' n' c' w', Out3 X w' v0 v1 (.slice A' n' c') ns es (ks ++ ys) → Mod X w w' → wpList Try.prog ops Q rest (a.put o.dst (.slice A' n' c')) w') : wpList Try.prog ops Q (o :: rest) a w :=
  wpList_plain hgd fun _ hK => wp2 w s x t ho ht hE hs hx h3 hy hX hlen fun A' n' c' w' h1 h2 => hK _ _ (h A' n' c' w' h1 h2)
end
end Out3
theorem bldNode (A : Option Addr) (n c : Nat) (u : Int) (w : World) : (Instr.build 55 #[(0, .slice A n c), (1, .int .i64 u)]).run Try.prog w = .ok (.agg #[.slice A n c, .int .i64 u]) w := by go_simp
theorem bldNode1 (A : Option Addr) (n c : Nat) (u : Int) (w : World) : (Instr.buildSlice 29 1 #[(0, .agg #[.slice A n c, .int .i64 u])]).run Try.prog w = .ok (.slice (some ⟨w.heap.size, 0, none⟩) 1 1) (w.alloc (.cells #[.slice A n c, .int .i64 u] 55)) := by go_simp
theorem bldBytes0 (w : World) : (Instr.buildSlice 37 0 #[]).run Try.prog w = .ok (.slice (some ⟨w.heap.size, 0, none⟩) 0 0) (w.alloc (.cells #[] 5)) := by go_simp
theorem stNodesC {w : World} {p : Addr} {a : Value} (A : Option Addr) (n c : Nat) (h : w.cell? p = some a) (hf : w.frozen? p = false) : (Instr.storeAt 29 (.pointer (some p)) (.slice A n c)).run Try.prog w = .ok () (w.setCell p (.slice A n c)) := by go_simp
theorem slcBytesTo {A : Option Addr} {n c k : Nat} (hk : k ≤ c) (w : World) : (Instr.sliceAt 37 (.slice A n c) none (some (.int .i64 (k : Int))) none).run Try.prog w = .ok (.slice A k c) w := slice_to Try.underlying37 hk (by kernel_rfl)
end Go.Proofs.Ytinfibggdbakoaa
