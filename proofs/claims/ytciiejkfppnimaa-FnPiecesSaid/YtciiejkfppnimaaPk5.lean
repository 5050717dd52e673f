/- Fields of structs that lie in rows: read, stored, changed below. Marks over bytes, the number given as an integer. Small and capital letters. -/
import Derived.Test.YtciiejkfppnimaaPk1
import Derived.Test.YtciiejkfppnimaaPk4
import Derived.WalkKit
import Derived.Test.YtciiejkfppnimaaPk2
import Derived.Lib.ConvBytes
namespace Go.Proofs.Ytciiejkfppnimaa.Mem
open Go.RowKit
set_option linter.unusedVariables false
/-- a string, as the list of its bytes -/
def Ty.str : Ty Bytes where
  sz := 1
  K := fun _ _ x cs => cs = [.string ⟨x.toArray⟩] ∧ x.length ≤ 9223372036854775807
  M := fun _ F x cs => F = [] ∧ cs = [.string ⟨x.toArray⟩] ∧ x.length ≤ 9223372036854775807
  K_len := fun h => by rw [h.1]; rfl
  K_one := fun h u hu => by rw [h.1] at hu; rw [List.mem_singleton.1 hu]; rfl
  K_mod := fun h _ _ => h
  M_K := fun h => h.2
  M_mod := fun h _ => h
  M_lt := fun h k hk => by rw [h.1] at hk; cases hk
  M_nd := fun h => by rw [h.1]; exact List.nodup_nil
/-- field of one cell, the i-th, of a kind -/
structure Fld {α β : Type} (d : Ty α) (i : Nat) (b : Ty β) (get : α → β) (put : α → β → α) : Prop where
  lt : i < d.sz
  sz1 : b.sz = 1
  K : ∀ {w B x cs}, d.K w B x cs → ∃ v, cs[i]? = some v ∧ b.K w B (get x) [v]
  M : ∀ {w F x cs}, d.M w F x cs → ∃ v G, cs[i]? = some v ∧ b.M w G (get x) [v] ∧ (∀ k, k ∈ G → k ∈ F) ∧
    ∀ w' v' y G', (∀ k, k ∈ F → k ∉ G → w'.heap[k]? = w.heap[k]?) → b.M w' G' y [v'] → (∀ k, k ∈ G' → k ∈ G ∨ k ∉ F) → ∃ F', d.M w' F' (put x y) (cs.set i v') ∧ ∀ k, k ∈ F' → k ∈ F ∨ k ∈ G'
theorem Fld.one {β : Type} {b : Ty β} (h : b.sz = 1) : Fld b 0 b id (fun _ y => y) where
  lt := by omega
  sz1 := h
  K := fun {w B x cs} hK => by
    have := b.K_len hK
    match cs, (this.trans h) with
    | [v], _ => exact ⟨v, rfl, hK⟩
  M := fun {w F x cs} hM => by
    have := b.K_len (b.M_K hM)
    match cs, (this.trans h) with
    | [v], _ => exact ⟨v, F, rfl, hM, fun _ h => h, fun w' v' y G' _ hM' _ => ⟨G', hM', fun k hk => .inr hk⟩⟩
theorem Fld.fst {α γ β : Type} {a : Ty α} {c : Ty γ} {b : Ty β} {i : Nat} {get : α → β} {put : α → β → α} (h : Fld a i b get put) : Fld (Ty.pair a c) i b (fun x => get x.1) (fun x y => (put x.1 y, x.2)) where
  lt := Nat.lt_of_lt_of_le h.lt (Nat.le_add_right _ _)
  sz1 := h.sz1
  K := by
    rintro w B x cs ⟨c0, c1, rfl, h0, h1⟩
    obtain ⟨v, hv, hK⟩ := h.K h0
    exact ⟨v, by rw [List.getElem?_append_left (by rw [a.K_len h0]; exact h.lt)]; exact hv, hK⟩
  M := by
    rintro w F x cs ⟨c0, c1, F0, F1, rfl, rfl, hn, h0, h1⟩
    obtain ⟨v, G, hv, hM, hG, hst⟩ := h.M h0
    have hl : i < c0.length := by rw [a.K_len (a.M_K h0)]; exact h.lt
    refine ⟨v, G, by rw [List.getElem?_append_left hl]; exact hv, hM, fun k hk => List.mem_append_left _ (hG k hk), fun w' v' y G' hb hM' hG' => ?_⟩
    obtain ⟨n0, n1, n2⟩ := List.nodup_append.1 hn
    obtain ⟨F', hF', hFF⟩ := hst w' v' y G' (fun k hk hkG => hb k (List.mem_append_left _ hk) hkG) hM' (fun k hk => (hG' k hk).imp id fun h hF => h (List.mem_append_left _ hF))
    refine ⟨F' ++ F1, ⟨c0.set i v', c1, F', F1, by rw [List.set_append_left _ _ hl], rfl, ?_, hF', c.M_mod h1 fun k hk => hb k (List.mem_append_right _ hk) fun hkG => n2 k (hG k hkG) k hk rfl⟩, fun k hk => ?_⟩
    · refine List.nodup_append.2 ⟨a.M_nd hF', n1, fun p hp q hq e => ?_⟩
      subst e
      rcases hFF p hp with h | h
      · exact n2 p h p hq rfl
      · rcases hG' p h with h | h
        · exact n2 p (hG p h) p hq rfl
        · exact h (List.mem_append_right _ hq)
    · rcases List.mem_append.1 hk with h | h
      · exact (hFF k h).imp (fun h => List.mem_append_left _ h) id
      · exact .inl (List.mem_append_right _ h)
theorem Fld.snd {α γ β : Type} {a : Ty α} {c : Ty γ} {b : Ty β} {i j : Nat} {get : γ → β} {put : γ → β → γ} (h : Fld c i b get put) (hj : j = a.sz + i) : Fld (Ty.pair a c) j b (fun x => get x.2) (fun x y => (x.1, put x.2 y)) where
  lt := by subst hj; exact Nat.add_lt_add_left h.lt _
  sz1 := h.sz1
  K := by
    subst hj
    rintro w B x cs ⟨c0, c1, rfl, h0, h1⟩
    obtain ⟨v, hv, hK⟩ := h.K h1
    have := a.K_len h0
    exact ⟨v, by rw [List.getElem?_append_right (by omega), this, Nat.add_sub_cancel_left]; exact hv, hK⟩
  M := by
    subst hj
    rintro w F x cs ⟨c0, c1, F0, F1, rfl, rfl, hn, h0, h1⟩
    obtain ⟨v, G, hv, hM, hG, hst⟩ := h.M h1
    have hl := a.K_len (a.M_K h0)
    refine ⟨v, G, by rw [List.getElem?_append_right (by omega), hl, Nat.add_sub_cancel_left]; exact hv, hM, fun k hk => List.mem_append_right _ (hG k hk), fun w' v' y G' hb hM' hG' => ?_⟩
    obtain ⟨n0, n1, n2⟩ := List.nodup_append.1 hn
    obtain ⟨F', hF', hFF⟩ := hst w' v' y G' (fun k hk hkG => hb k (List.mem_append_right _ hk) hkG) hM' (fun k hk => (hG' k hk).imp id fun h hF => h (List.mem_append_right _ hF))
    refine ⟨F0 ++ F', ⟨c0, c1.set i v', F0, F', by rw [List.set_append_right _ _ (by omega), hl, Nat.add_sub_cancel_left], rfl, ?_, a.M_mod h0 fun k hk => hb k (List.mem_append_left _ hk) fun hkG => n2 k hk k (hG k hkG) rfl, hF'⟩, fun k hk => ?_⟩
    · refine List.nodup_append.2 ⟨n0, c.M_nd hF', fun p hp q hq e => ?_⟩
      subst e
      rcases hFF p hq with h | h
      · exact n2 p hp p h rfl
      · rcases hG' p h with h | h
        · exact n2 p hp p (hG p h) rfl
        · exact h (List.mem_append_left _ hp)
    · rcases List.mem_append.1 hk with h | h
      · exact .inl (List.mem_append_left _ h)
      · exact (hFF k h).imp (fun h => List.mem_append_right _ h) id
section
variable {α β : Type} {d : Ty α} {i : Nat} {b : Ty β} {get : α → β} {put : α → β → α} {e : TypeId} {w : World} {F : List Nat} {A : Option Addr} {n cp : Nat} {xs : List α}
/-- a field that holds no block: read and stored -/
theorem Own.fstore (L : Fld d i b get put) (hb : ∀ w G x cs, b.M w G x cs → G = []) (h : Own d e w F (.slice A n cp) xs) {j : Nat} (hj : j < xs.length) :
    ∃ g v, A = some ⟨g, 0, none⟩ ∧ g ∈ F ∧ w.cell? ⟨g, j * d.sz + i, none⟩ = some v ∧ b.K w (fun _ => True) (get xs[j]) [v] ∧ w.frozen? ⟨g, j * d.sz + i, none⟩ = false ∧
      ∀ v' y, (∀ w, b.M w [] y [v']) → ∃ F', Own d e (w.setCell ⟨g, j * d.sz + i, none⟩ v') F' (.slice A n cp) (xs.set j (put xs[j] y)) ∧ ∀ k, k ∈ F' → k ∈ F := by
  obtain ⟨g, cs, f, rfl, hgF, hgf, hfF, hM, hcl, hc, hz, hst⟩ := h.elem hj
  obtain ⟨v, G, hv, hMv, hG, hp⟩ := L.M hM
  obtain rfl := hb _ _ _ _ hMv
  refine ⟨g, v, rfl, hgF, by rw [hc i L.lt, hv], b.K_mod (b.M_K hMv) (fun _ _ => trivial) (fun _ _ => rfl), hz _, fun v' y hM' => ?_⟩
  obtain ⟨f', hf', hff⟩ := hp (w.setCell ⟨g, j * d.sz + i, none⟩ v') v' y [] (fun k hk _ => Below.heap_setCell _ _ _ _ (fun e => hgf ((show k = g from e) ▸ hk))) (hM' _) (by simp)
  obtain ⟨F', ho, _, hF'⟩ := hst i v' _ f' L.lt hf' (fun k hk => .inl ((hff k hk).elim id (by simp)))
  exact ⟨F', ho, fun k hk => (hF' k hk).elim id fun h => hfF k ((hff k h).elim id (by simp))⟩
/-- a field that owns: what it leads to is changed -/
theorem Own.fsub (L : Fld d i b get put) (h : Own d e w F (.slice A n cp) xs) {j : Nat} (hj : j < xs.length) :
    ∃ g v G, A = some ⟨g, 0, none⟩ ∧ g ∈ F ∧ w.cell? ⟨g, j * d.sz + i, none⟩ = some v ∧ b.M w G (get xs[j]) [v] ∧ (∀ k, k ∈ G → k ∈ F) ∧
      ∀ w' y G', Mod (· ∈ G) w w' → b.M w' G' y [v] → (∀ k, k ∈ G' → k ∈ G) → ∃ F', Own d e w' F' (.slice A n cp) (xs.set j (put xs[j] y)) ∧ ∀ k, k ∈ F' → k ∈ F := by
  obtain ⟨cs, f, hM, hfF, hcell, hst⟩ := h.sub hj
  obtain ⟨g, rfl, hgF, hgf, hc⟩ := hcell _ _ _ rfl
  obtain ⟨v, G, hv, hMv, hG, hp⟩ := L.M hM
  refine ⟨g, v, G, rfl, hgF, by rw [hc i L.lt, hv], hMv, fun k hk => hfF k (hG k hk), fun w' y G' hm ho' hG' => ?_⟩
  obtain ⟨f', hf', hff⟩ := hp w' v y G' (fun k hk hkG => hm.block k (d.M_lt hM k hk) hkG) ho' (fun k hk => .inl (hG' k hk))
  have hcs : cs.set i v = cs := by
    have := List.getElem?_eq_some_iff.1 hv
    rw [← this.2]; exact List.set_getElem_self _
  rw [hcs] at hf'
  obtain ⟨F', ho2, hF'⟩ := hst w' _ f' (hm.mono fun k _ hk => hG k hk) hf' (fun k hk => .inl ((hff k hk).elim id fun h => hG k (hG' k h)))
  exact ⟨F', ho2, fun k hk => (hF' k hk).elim id fun h => hfF k ((hff k h).elim id fun h => hG k (hG' k h))⟩
theorem Own.cellsAt (h : Own d e w F (.slice A n cp) xs) {j : Nat} (hj : j < xs.length) : ∃ g, A = some ⟨g, 0, none⟩ ∧ g ∈ F ∧ (∀ i, i < d.sz → ∃ v, w.cell? ⟨g, j * d.sz + i, none⟩ = some v) ∧ ∀ i, w.frozen? ⟨g, i, none⟩ = false := by
  obtain ⟨g, cs, f, rfl, hgF, hgf, hfF, hM, hcl, hc, hz, hst⟩ := h.elem hj
  exact ⟨g, rfl, hgF, fun i hi => ⟨cs[i]'(by omega), by rw [hc i hi]; exact List.getElem?_eq_getElem _⟩, hz⟩
theorem Own.fstoreAt (L : Fld d i b get put) (hb : ∀ w G x cs, b.M w G x cs → G = []) {ys : List α} {j : Nat} {x : α} (hj : j < ys.length) {g : Nat} (h : Own d e w F (.slice (some ⟨g, 0, none⟩) n cp) (ys.set j x)) :
    g ∈ F ∧ ∀ v' y, (∀ w, b.M w [] y [v']) → ∃ F', Own d e (w.setCell ⟨g, j * d.sz + i, none⟩ v') F' (.slice (some ⟨g, 0, none⟩) n cp) (ys.set j (put x y)) ∧ ∀ k, k ∈ F' → k ∈ F := by
  obtain ⟨g', v, hA, hgF, hc, hK, hf, hst⟩ := h.fstore L hb (j := j) (by rw [List.length_set]; exact hj)
  injection hA with hA
  injection hA with hA
  subst hA
  refine ⟨hgF, fun v' y hM => ?_⟩
  obtain ⟨F', ho, hF'⟩ := hst v' y hM
  rw [List.set_set, List.getElem_set_self] at ho
  exact ⟨F', ho, hF'⟩
theorem OwF.one (h : b.sz = 1) {w : World} {G : List Nat} {v : Value} {y : β} (ho : OwF false b w G v y) : b.M w G y [v] := by
  obtain ⟨cs, rfl, hM⟩ := ho
  have := b.K_len (b.M_K hM)
  match cs, (this.trans h) with
  | [u], _ => exact hM
theorem Own.fsubAt (L : Fld d i b get put) {ys : List α} {j : Nat} {x : α} (hj : j < ys.length) {g : Nat} (h : Own d e w F (.slice (some ⟨g, 0, none⟩) n cp) (ys.set j x)) :
    ∃ v G, g ∈ F ∧ w.cell? ⟨g, j * d.sz + i, none⟩ = some v ∧ OwF false b w G v (get x) ∧ (∀ k, k ∈ G → k ∈ F) ∧
      ∀ w' y G', Mod (· ∈ G) w w' → OwF false b w' G' v y → (∀ k, k ∈ G' → k ∈ G) → ∃ F', Own d e w' F' (.slice (some ⟨g, 0, none⟩) n cp) (ys.set j (put x y)) ∧ ∀ k, k ∈ F' → k ∈ F := by
  obtain ⟨g', v, G, hA, hgF, hc, ho, hG, hst⟩ := h.fsub L (j := j) (by rw [List.length_set]; exact hj)
  injection hA with hA
  injection hA with hA
  subst hA
  rw [List.getElem_set_self] at ho hst
  refine ⟨v, G, hgF, hc, ⟨[v], rfl, ho⟩, hG, fun w' y G' hm ho' hG' => ?_⟩
  obtain ⟨F', ho3, hF'⟩ := hst w' y G' hm (OwF.one L.sz1 ho') hG'
  rw [List.set_set] at ho3
  exact ⟨F', ho3, hF'⟩
/-- a struct by value: what a field leads to is changed -/
theorem Fld.lead {v : Value} {x : α} (L : Fld d i b get put) (h : OwF true d w F v x) :
    ∃ (cs : List Value) (vi : Value) (G : List Nat), v = .agg cs.toArray ∧ cs[i]? = some vi ∧ OwF false b w G vi (get x) ∧ (∀ k, k ∈ G → k ∈ F) ∧
      ∀ w' y G', Mod (· ∈ G) w w' → OwF false b w' G' vi y → (∀ k, k ∈ G' → k ∈ G) → ∃ F', OwF true d w' F' v (put x y) ∧ ∀ k, k ∈ F' → k ∈ F := by
  obtain ⟨cs, rfl, hM⟩ := h
  obtain ⟨v, G, hv, hMv, hG, hp⟩ := L.M hM
  refine ⟨cs, v, G, rfl, hv, ⟨[v], ?_, hMv⟩, hG, fun w' y G' hm ho' hG' => ?_⟩
  · rfl
  obtain ⟨f', hf', hff⟩ := hp w' v y G' (fun k hk hkG => hm.block k (d.M_lt hM k hk) hkG) (OwF.one L.sz1 ho') (fun k hk => .inl (hG' k hk))
  have hcs : cs.set i v = cs := by
    have := List.getElem?_eq_some_iff.1 hv
    rw [← this.2]; exact List.set_getElem_self _
  rw [hcs] at hf'
  exact ⟨f', ⟨cs, rfl, hf'⟩, fun k hk => (hff k hk).elim id fun h => hG k (hG' k h)⟩
theorem Fld.lead1 {l : List Value} {vi : Value} {x : α} (L : Fld d i b get put) (hi : l[i]? = some vi) (h : OwF true d w F (.agg l.toArray) x) :
    ∃ G, OwF false b w G vi (get x) ∧ (∀ k, k ∈ G → k ∈ F) ∧
      ∀ w' y G', Mod (· ∈ G) w w' → OwF false b w' G' vi y → (∀ k, k ∈ G' → k ∈ G) → ∃ F', OwF true d w' F' (.agg l.toArray) (put x y) ∧ ∀ k, k ∈ F' → k ∈ F := by
  obtain ⟨cs, v, G, hv, hvi, ho, hG, hst⟩ := L.lead h
  injection hv with hv
  have : l = cs := by simpa using hv
  subst this
  obtain rfl : vi = v := Option.some.inj (hi.symm.trans hvi)
  exact ⟨G, ho, hG, hst⟩
theorem OwF.rd {str : Bool} {v : Value} {x : α} (h : OwF str d w F v x) : RdV str d w v x := by
  obtain ⟨cs, rfl, hM⟩ := h
  exact ⟨cs, rfl, d.K_mod (d.M_K hM) (fun k hk => d.M_lt hM k hk) (fun _ _ => rfl)⟩
theorem OwF.lt {str : Bool} {v : Value} {x : α} (h : OwF str d w F v x) : ∀ k, k ∈ F → k < w.heap.size := by
  obtain ⟨cs, rfl, hM⟩ := h
  exact d.M_lt hM
theorem OwF.mv {str : Bool} {v : Value} {x : α} {w' : World} (h : OwF str d w F v x) (hb : ∀ k, k ∈ F → w'.heap[k]? = w.heap[k]?) : OwF str d w' F v x := by
  obtain ⟨cs, rfl, hM⟩ := h
  exact ⟨cs, rfl, d.M_mod hM hb⟩
theorem load_struct {P : Program} (w : World) (ad : Addr) (ty : TypeId) (cs : List Value) (t : TypeDesc) (hu : P.underlying ty = some t) (ht : (match t with | .struct _ | .array _ _ => true | _ => false) = true) (hi : (P.info? ty).map (·.size) = some cs.length)
    (h : ∀ j v, cs[j]? = some v → w.cell? (ad.add j) = some v) : (Instr.loadAt ty (.pointer (some ad))).run P w = .ok (.agg cs.toArray) w := by
  have hl := run_loadCells_list (P := P) w ad cs h
  cases hq : P.info? ty with
  | none => simp [hq] at hi
  | some i =>
    have hs : i.size = cs.length := by simpa [hq] using hi
    have hagg : (isAgg ty).run P w = .ok true w := by
      unfold isAgg
      rw [Sem.run_bind, run_underlying hu w]
      cases t <;> simp_all
    simp [Instr.loadAt, Instr.sureAddr, loadVar, Sem.run_bind, hagg, sizeOf, typeInfo, hq, hs, hl]
/-- an element loaded whole -/
theorem Row.elem {P : Program} {B : Nat → Prop} (h : Row d w B A n xs) {k : Nat} (hk : k < xs.length) (ty : TypeId) {t : TypeDesc} (hu : P.underlying ty = some t) (ht : (match t with | .struct _ | .array _ _ => true | _ => false) = true) (hi : (P.info? ty).map (·.size) = some d.sz) :
    ∃ ad v, A = some ad ∧ ∀ w', (∀ i, B i → w'.heap[i]? = w.heap[i]?) → (∀ i, B i → i < w'.heap.size) → (Instr.loadAt ty (.pointer (some (ad.add (k * d.sz))))).run P w' = .ok v w' ∧ RdV true d w' v xs[k] := by
  obtain ⟨ad, cs, hlt, rfl, hB, hK, hc⟩ := h.at_ (k := k) (by rw [← h.1]; exact hk)
  refine ⟨ad, .agg cs.toArray, rfl, fun w' hb hl => ⟨load_struct w' _ ty cs t hu ht (by rw [d.K_len hK]; exact hi) fun j v hj => ?_, cs, rfl, d.K_mod hK (fun k hk => hl k hk) (fun k hk => hb k hk)⟩⟩
  have := hc j v hj
  rw [← this, add_add]
  refine World.cell?_of_block ?_
  rw [add_block]
  exact hb _ hB
/-- an element by its cells -/
theorem Row.elemc {B : Nat → Prop} (h : Row d w B A n xs) {k : Nat} (hk : k < xs.length) :
    ∃ (ad : Addr) (cs : List Value), A = some ad ∧ ∀ w', (∀ i, B i → w'.heap[i]? = w.heap[i]?) → (∀ i, B i → i < w'.heap.size) → RdV true d w' (.agg cs.toArray) xs[k] ∧ (∀ u, cs[0]? = some u → w'.cell? (ad.add (k * d.sz)) = some u) ∧ ∀ j u, cs[j + 1]? = some u → w'.cell? ⟨(ad.add (k * d.sz)).block, (ad.add (k * d.sz)).off + (j + 1), none⟩ = some u := by
  obtain ⟨ad, cs, rfl, hK, _, _⟩ := h.cells_at (w' := w) (fun _ _ => rfl) hk
  obtain ⟨ad', c', hlt, hA, hB, hK', hc⟩ := h.at_ (k := k) (by rw [← h.1]; exact hk)
  obtain rfl := Option.some.inj hA
  refine ⟨_, c', rfl, fun w' hb hl => ⟨⟨c', rfl, d.K_mod hK' (fun k hk => hl k hk) (fun k hk => hb k hk)⟩, fun u hu => ?_, fun j u hu => ?_⟩⟩
  · exact (World.cell?_of_block (by rw [add_block]; exact hb _ hB)).trans (hc 0 u hu)
  · rw [← add_next]
    exact (World.cell?_of_block (by rw [add_block]; exact hb _ hB)).trans (hc (j + 1) u hu)
/-- a field of a row that is read -/
theorem Row.field (L : Fld d i b get put) {B : Nat → Prop} (h : Row d w B A n xs) {w' : World} (hb : ∀ k, B k → w'.heap[k]? = w.heap[k]?) {j : Nat} (hj : j < xs.length) :
    ∃ ad v, A = some ad ∧ (match i with | 0 => w'.cell? (ad.add (j * d.sz)) | m + 1 => w'.cell? ⟨(ad.add (j * d.sz)).block, (ad.add (j * d.sz)).off + (m + 1), none⟩) = some v ∧ b.K w' B (get xs[j]) [v] := by
  obtain ⟨ad, cs, rfl, hK, h0, h1⟩ := h.cells_at hb hj
  obtain ⟨v, hv, hKv⟩ := L.K hK
  refine ⟨ad, v, rfl, ?_, b.K_mod hKv (fun _ h => h) hb⟩
  cases i with
  | zero => exact h0 _ hv
  | succ m => exact h1 m _ hv
end
theorem not_r {P : Program} (b : Bool) (w : World) : (Op.unary .not (.bool b)).run P w = .ok (.bool (!b)) w := by
  go_simp
theorem set_len {α : Type} (l : List α) (i : Nat) (x : α) : (l.set i x).length = l.length := List.length_set
end Go.Proofs.Ytciiejkfppnimaa.Mem

namespace Go.Proofs.Ytciiejkfppnimaa
open Go.RowKit Mem
set_option linter.unusedVariables false

theorem markByteS_i {w : World} {F : List Nat} {v : Value} {x : Bytes} (h : OwF false dBS w F v x) (q : Int) (k : Nat) (hq : q = (k : Int)) (hk : k + cntBS x ≤ 1152921504606846976) :
    Calls Try.prog 17 #[v, .int .i64 q] w (Marks false dBS w F v (k + cntBS x) (mkBS1 k x)) := by subst hq; exact markByteS_f h k hk


theorem heldByteS_i {w : World} {v : Value} {x : Bytes} (h : RdV false dBS w v x) (q : Int) (k : Nat) (hq : q = (k : Int)) (hx : x = mkBS1 k x) (hk : k + cntBS x ≤ 1152921504606846976) :
    Calls Try.prog 38 #[v, .int .i64 q] w (Ret (.int .i64 ((k + cntBS x : Nat) : Int)) w) := by subst hq; exact heldByteS_v h k hx hk

end Go.Proofs.Ytciiejkfppnimaa

namespace Go.Proofs.Ytciiejkfppnimaa
open Go.RowKit Mem
set_option linter.unusedVariables false
/-- the row of a conversion from a string: its block bears a mark behind its last cell -/
structure BRow (w : World) (g : Nat) (xs : Bytes) : Prop where
  ex : ∃ (tl : List Value) (e : TypeId), w.heap[g]? = some (.cells ((xs.map fun b => Value.int .u8 (b.toNat : Int)) ++ tl).toArray e ((xs.map fun b => Value.int .u8 (b.toNat : Int)).length + tl.length, (xs.map fun b => Value.int .u8 (b.toNat : Int)).length + tl.length + 1))
theorem BRow.cell {w : World} {g : Nat} {xs : Bytes} (h : BRow w g xs) (k : Nat) (hk : k < xs.length) : w.cell? ⟨g, k, none⟩ = some (.int .u8 (xs[k].toNat : Int)) := by
  obtain ⟨tl, e, hh⟩ := h.ex
  have h1 : k < (xs.map fun b => Value.int .u8 (b.toNat : Int)).length := by simpa using hk
  simp [World.cell?, hh, List.getElem?_append_left h1, hk]
theorem BRow.frozen {w : World} {g : Nat} {xs : Bytes} (h : BRow w g xs) (k : Nat) (hk : k < xs.length) : w.frozen? ⟨g, k, none⟩ = false := by
  obtain ⟨tl, e, hh⟩ := h.ex
  simp [World.frozen?, hh]
  omega
theorem BRow.set {w : World} {g : Nat} {xs : Bytes} (h : BRow w g xs) (k : Nat) (hk : k < xs.length) (b : UInt8) : BRow (w.setCell ⟨g, k, none⟩ (.int .u8 (b.toNat : Int))) g (xs.set k b) := by
  obtain ⟨tl, e, hh⟩ := h.ex
  refine ⟨tl, e, ?_⟩
  have h1 : k < (xs.map fun b => Value.int .u8 (b.toNat : Int)).length := by simpa using hk
  have hm : (xs.set k b).map (fun b => Value.int .u8 (b.toNat : Int)) = (xs.map fun b => Value.int .u8 (b.toNat : Int)).set k (.int .u8 (b.toNat : Int)) := by rw [List.map_set]
  rw [hm, List.length_set, ← List.set_append_left _ _ h1]
  simp [World.setCell, Array.getElem?_modify, hh]
theorem BRow.row {w : World} {g : Nat} {xs : Bytes} (h : BRow w g xs) (hl : xs.length ≤ 9223372036854775807) : Row Ty.byte w (· = g) (some ⟨g, 0, none⟩) xs.length xs :=
  ⟨rfl, hl, fun _ => ⟨_, rfl, rfl, fun j x hj => ⟨[.int .u8 (x.toNat : Int)], rfl, fun i u hu => by
    have hj' := List.getElem?_eq_some_iff.1 hj
    have hi : i = 0 := by have := (List.getElem?_eq_some_iff.1 hu).1; simpa using this
    subst hi
    rw [show j * Ty.byte.sz + 0 = j from Nat.mul_one j, add_own, h.cell j hj'.1, hj'.2]
    simpa using hu⟩⟩⟩
theorem conv_row (xs : Bytes) (w : World) : ∃ (cp : Nat) (w1 : World), (convert 9 22 (.string ⟨xs.toArray⟩)).run Try.prog w = .ok (.slice (some ⟨w.heap.size, 0, none⟩) xs.length cp) w1 ∧ BRow w1 w.heap.size xs ∧ New w w1 := by
  have hsz : (⟨xs.toArray⟩ : ByteArray).size = xs.length := by simp [ByteArray.size]
  have h := Lib.run_convert_string_bytes (P := Try.prog) w 9 22 5 ⟨xs.toArray⟩ Try.underlying9 Try.underlying22 Try.underlying5
  rw [hsz] at h
  refine ⟨_, _, h, ⟨List.replicate (grownCap w xs.length 0 5 - xs.length) (.int .u8 0), 5, ?_⟩, ⟨rfl, rfl, rfl, by rw [Lib.bytesWorld_size]; omega, fun k hk _ => Lib.bytesWorld_at_old w _ _ k hk⟩⟩
  rw [Lib.bytesWorld_at_new]
  have hc : Lib.bytesCells w 5 ⟨xs.toArray⟩ = ((xs.map fun (b : UInt8) => Value.int .u8 (b.toNat : Int)) ++ List.replicate (grownCap w xs.length 0 5 - xs.length) (Value.int .u8 0)).toArray := by
    unfold Lib.bytesCells
    rw [hsz]
    simp
  rw [hc]
  simp
theorem conv_row2 (xs : Bytes) (hx : xs.length ≤ 1048576) (w : World) : ∃ (cp : Nat) (w1 : World), (convert 9 22 (.string ⟨xs.toArray⟩)).run Try.prog w = .ok (.slice (some ⟨w.heap.size, 0, none⟩) xs.length cp) w1 ∧ BRow w1 w.heap.size xs ∧ New w w1 ∧ xs.length ≤ cp ∧ cp ≤ 9223372036854775807 ∧ w.heap.size < w1.heap.size := by
  have hsz : (⟨xs.toArray⟩ : ByteArray).size = xs.length := by simp [ByteArray.size]
  have h := Lib.run_convert_string_bytes (P := Try.prog) w 9 22 5 ⟨xs.toArray⟩ Try.underlying9 Try.underlying22 Try.underlying5
  rw [hsz] at h
  have hge := grownCap_ge w xs.length 0 5
  have hcm : grownCap w xs.length 0 5 ≤ maxLen := grownCap_le_maxLen w xs.length 0 5 (by simp only [maxLen]; omega)
  refine ⟨_, _, h, ⟨List.replicate (grownCap w xs.length 0 5 - xs.length) (.int .u8 0), 5, ?_⟩, ⟨rfl, rfl, rfl, by rw [Lib.bytesWorld_size]; omega, fun k hk _ => Lib.bytesWorld_at_old w _ _ k hk⟩, hge, by simpa [maxLen] using hcm, by rw [Lib.bytesWorld_size]; omega⟩
  rw [Lib.bytesWorld_at_new]
  have hc : Lib.bytesCells w 5 ⟨xs.toArray⟩ = ((xs.map fun (b : UInt8) => Value.int .u8 (b.toNat : Int)) ++ List.replicate (grownCap w xs.length 0 5 - xs.length) (Value.int .u8 0)).toArray := by
    unfold Lib.bytesCells
    rw [hsz]
    simp
  rw [hc]
  simp
def upB (b : UInt8) : UInt8 := if 97 ≤ b.toNat ∧ b.toNat ≤ 122 then UInt8.ofNat (b.toNat - 32) else b
def loB (b : UInt8) : UInt8 := if 65 ≤ b.toNat ∧ b.toNat ≤ 90 then UInt8.ofNat (b.toNat + 32) else b
def upL (xs : Bytes) : Bytes := xs.map upB
def loL (xs : Bytes) : Bytes := xs.map loB
def upC (xs : Bytes) (k : Nat) : Bytes := (xs.take k).map upB ++ xs.drop k
def loC (xs : Bytes) (k : Nat) : Bytes := (xs.take k).map loB ++ xs.drop k
theorem upC_len (xs : Bytes) (k : Nat) : (upC xs k).length = xs.length := by unfold upC; rw [List.length_append, List.length_map, ← List.length_append, List.take_append_drop]
theorem loC_len (xs : Bytes) (k : Nat) : (loC xs k).length = xs.length := by unfold loC; rw [List.length_append, List.length_map, ← List.length_append, List.take_append_drop]
theorem up_lo : ∀ b : UInt8, upB (loB b) = upB b := by
  have : ∀ n : Fin 256, upB (loB (UInt8.ofNat n.val)) = upB (UInt8.ofNat n.val) := by decide +kernel
  intro b
  have h := this ⟨b.toNat, UInt8.toNat_lt b⟩
  simpa using h
theorem lo_up : ∀ b : UInt8, loB (upB b) = loB b := by
  have : ∀ n : Fin 256, loB (upB (UInt8.ofNat n.val)) = loB (UInt8.ofNat n.val) := by decide +kernel
  intro b
  have h := this ⟨b.toNat, UInt8.toNat_lt b⟩
  simpa using h
theorem upL_iff (xs ys : Bytes) : upL xs = upL ys ↔ loL xs = loL ys := by
  have h1 : ∀ xs, loL (upL xs) = loL xs := fun xs => by unfold loL upL; rw [List.map_map]; congr 1; funext b; exact lo_up b
  have h2 : ∀ xs, upL (loL xs) = upL xs := fun xs => by unfold loL upL; rw [List.map_map]; congr 1; funext b; exact up_lo b
  exact ⟨fun h => by rw [← h1 xs, h, h1], fun h => by rw [← h2 xs, h, h2]⟩

theorem upC_at (xs : Bytes) (k : Nat) (h : k < xs.length) : (upC xs k)[k]'(by rw [upC_len]; exact h) = xs[k] := by
  unfold upC
  rw [List.getElem_append_right (by simp; omega)]
  simp [List.length_take, Nat.min_eq_left (Nat.le_of_lt h)]
theorem upC_set (xs : Bytes) (k : Nat) (h : k < xs.length) : (upC xs k).set k (upB xs[k]) = upC xs (k + 1) := by
  unfold upC
  rw [List.take_succ_eq_append_getElem h, List.map_append]
  have hl : ((xs.take k).map upB).length = k := by simp; omega
  rw [List.set_append_right _ _ (by omega), hl, Nat.sub_self, List.drop_eq_getElem_cons h, List.set_cons_zero, List.append_assoc]
  rfl



























































theorem loC_at (xs : Bytes) (k : Nat) (h : k < xs.length) : (loC xs k)[k]'(by rw [loC_len]; exact h) = xs[k] := by
  unfold loC
  rw [List.getElem_append_right (by simp; omega)]
  simp [List.length_take, Nat.min_eq_left (Nat.le_of_lt h)]
theorem loC_set (xs : Bytes) (k : Nat) (h : k < xs.length) : (loC xs k).set k (loB xs[k]) = loC xs (k + 1) := by
  unfold loC
  rw [List.take_succ_eq_append_getElem h, List.map_append]
  have hl : ((xs.take k).map loB).length = k := by simp; omega
  rw [List.set_append_right _ _ (by omega), hl, Nat.sub_self, List.drop_eq_getElem_cons h, List.set_cons_zero, List.append_assoc]
  rfl

set_option maxHeartbeats 1000000 in
set_option maxRecDepth 100000 in
theorem lower_calls (xs : Bytes) (hx : xs.length ≤ 34359738368) (w : World) : Calls Try.prog 63 #[.string ⟨xs.toArray⟩] w (Ret (.string ⟨(loL xs).toArray⟩) w) := by
  obtain ⟨cp, w1, hconv, HB, HN⟩ := conv_row xs w
  have HBs := Sec.mk HB
  have HNs := Sec.mk HN
  clear HB HN
  go_enter Try.func63, Try.ntmps63
  go_wp2
  go_loopw [10] (fun i wr => ∃ k : Nat, k ≤ xs.length ∧ i = .int .i64 (k : Int) ∧ Sec (BRow wr w.heap.size (loC xs k)) ∧ Sec (New w wr)) (fun i _ => xs.length - (intOf i).toNat)
  case atStart => exact ⟨0, Nat.zero_le _, rfl, HBs, HNs⟩
  case round =>
    obtain ⟨k, hk, rfl, HR, HM⟩ := hrel
    clear HBs HNs
    by_cases hlt : k < xs.length
    · have hki : (k : Int) < (xs.length : Int) := by omega
      have hc := HR.out.cell k (by rw [loC_len]; exact hlt)
      rw [loC_at xs k hlt] at hc
      have hf := HR.out.frozen k (by rw [loC_len]; exact hlt)
      have HS := Sec.mk (loC_set xs k hlt)
      have HSAME : Sec (loB xs[k] = xs[k] → loC xs (k + 1) = loC xs k) := ⟨fun h => by rw [← loC_set xs k hlt, h, ← loC_at xs k hlt, List.set_getElem_self]⟩
      have HUP : Sec (loB xs[k] = if 65 ≤ xs[k].toNat ∧ xs[k].toNat ≤ 90 then UInt8.ofNat (xs[k].toNat + 32) else xs[k]) := ⟨rfl⟩
      have hb := UInt8.toNat_lt xs[k]
      generalize xs[k] = b at *
      by_cases h1 : 65 ≤ b.toNat
      · have h1i : (65 : Int) ≤ (b.toNat : Int) := by omega
        by_cases h2 : b.toNat ≤ 90
        · have h2i : (b.toNat : Int) ≤ 90 := by omega
          have HV : Sec (((loB b).toNat : Int) = (b.toNat : Int) + 32) := ⟨by rw [HUP.out, if_pos ⟨h1, h2⟩, UInt8.toNat_ofNat']; omega⟩
          have HR2 := Sec.mk (HR.out.set k (by rw [loC_len]; exact hlt) (loB b))
          rw [HV.out] at HR2
          have HM2 := Sec.mk (HM.out.setCell (p := ⟨w.heap.size, k, none⟩) (fun h => absurd h (by simp)) (.int .u8 ((b.toNat : Int) + 32)))
          go_wp2
          go_roundw
          case rel => exact ⟨k + 1, by omega, by go_num, ⟨by rw [← HS.out]; exact HR2.out⟩, HM2⟩
          case measure => simp [intOf]; omega
        · have h2i : ¬ (b.toNat : Int) ≤ 90 := by omega
          have HE := Sec.mk (HSAME.out (by rw [HUP.out, if_neg (fun h => h2 h.2)]))
          go_wp2
          go_roundw
          case rel => exact ⟨k + 1, by omega, by go_num, ⟨by rw [HE.out]; exact HR.out⟩, HM⟩
          case measure => simp [intOf]; omega
      · have h1i : ¬ (65 : Int) ≤ (b.toNat : Int) := by omega
        have HE := Sec.mk (HSAME.out (by rw [HUP.out, if_neg (fun h => h1 h.1)]))
        go_wp2
        go_roundw
        case rel => exact ⟨k + 1, by omega, by go_num, ⟨by rw [HE.out]; exact HR.out⟩, HM⟩
        case measure => simp [intOf]; omega
    · obtain rfl : k = xs.length := by omega
      have he : loC xs xs.length = loL xs := by unfold loC; simp [loL]
      have hrow := HR.out.row (by rw [loC_len]; omega)
      rw [loC_len, he] at hrow
      have hcv := hrow.conv (P := Try.prog) Try.underlying22 Try.underlying5 Try.underlying9 cp
      clear hrow
      go_wp2
      go_ret
      exact ⟨rfl, HM.out⟩

end Go.Proofs.Ytciiejkfppnimaa
