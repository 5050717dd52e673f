/- Fields of structs that lie in rows: read, stored, changed below. Marks over lists in plain words. Steps by hand through a region that draws its order. -/
import Derived.Test.YtiaknomadhgckaaDoorPk1
import Derived.WalkKit
import Derived.Deep.RegionHeld3
namespace Go.Proofs.YtiaknomadhgckaaDoor.Mem
open Go.RowKit
set_option linter.unusedVariables false
/-- a string, as the list of its bytes -/
def Ty.str : Ty Bytes where
  sz := 1
  K := fun _ _ x cs => cs = [.string ⟨x.toArray⟩] ∧ x.length ≤ 9223372036854775807
  M := fun _ F x cs => F = [] ∧ cs = [.string ⟨x.toArray⟩] ∧ x.length ≤ 9223372036854775807
  K_len := fun h => by rw [h.1]; rfl
  K_one := fun h u hu => by rw [h.1] at hu; rw [List.mem_singleton.1 hu]; rfl
  K_mod := fun h _ _ => h
  M_K := fun h => h.2
  M_mod := fun h _ => h
  M_lt := fun h k hk => by rw [h.1] at hk; cases hk
  M_nd := fun h => by rw [h.1]; exact List.nodup_nil
/-- field of one cell, the i-th, of a kind -/
structure Fld {α β : Type} (d : Ty α) (i : Nat) (b : Ty β) (get : α → β) (put : α → β → α) : Prop where
  lt : i < d.sz
  sz1 : b.sz = 1
  K : ∀ {w B x cs}, d.K w B x cs → ∃ v, cs[i]? = some v ∧ b.K w B (get x) [v]
  M : ∀ {w F x cs}, d.M w F x cs → ∃ v G, cs[i]? = some v ∧ b.M w G (get x) [v] ∧ (∀ k, k ∈ G → k ∈ F) ∧
    ∀ w' v' y G', (∀ k, k ∈ F → k ∉ G → w'.heap[k]? = w.heap[k]?) → b.M w' G' y [v'] → (∀ k, k ∈ G' → k ∈ G ∨ k ∉ F) → ∃ F', d.M w' F' (put x y) (cs.set i v') ∧ ∀ k, k ∈ F' → k ∈ F ∨ k ∈ G'
theorem Fld.one {β : Type} {b : Ty β} (h : b.sz = 1) : Fld b 0 b id (fun _ y => y) where
  lt := by omega
  sz1 := h
  K := fun {w B x cs} hK => by
    have := b.K_len hK
    match cs, (this.trans h) with
    | [v], _ => exact ⟨v, rfl, hK⟩
  M := fun {w F x cs} hM => by
    have := b.K_len (b.M_K hM)
    match cs, (this.trans h) with
    | [v], _ => exact ⟨v, F, rfl, hM, fun _ h => h, fun w' v' y G' _ hM' _ => ⟨G', hM', fun k hk => .inr hk⟩⟩
theorem Fld.fst {α γ β : Type} {a : Ty α} {c : Ty γ} {b : Ty β} {i : Nat} {get : α → β} {put : α → β → α} (h : Fld a i b get put) : Fld (Ty.pair a c) i b (fun x => get x.1) (fun x y => (put x.1 y, x.2)) where
  lt := Nat.lt_of_lt_of_le h.lt (Nat.le_add_right _ _)
  sz1 := h.sz1
  K := by
    rintro w B x cs ⟨c0, c1, rfl, h0, h1⟩
    obtain ⟨v, hv, hK⟩ := h.K h0
    exact ⟨v, by rw [List.getElem?_append_left (by rw [a.K_len h0]; exact h.lt)]; exact hv, hK⟩
  M := by
    rintro w F x cs ⟨c0, c1, F0, F1, rfl, rfl, hn, h0, h1⟩
    obtain ⟨v, G, hv, hM, hG, hst⟩ := h.M h0
    have hl : i < c0.length := by rw [a.K_len (a.M_K h0)]; exact h.lt
    refine ⟨v, G, by rw [List.getElem?_append_left hl]; exact hv, hM, fun k hk => List.mem_append_left _ (hG k hk), fun w' v' y G' hb hM' hG' => ?_⟩
    obtain ⟨n0, n1, n2⟩ := List.nodup_append.1 hn
    obtain ⟨F', hF', hFF⟩ := hst w' v' y G' (fun k hk hkG => hb k (List.mem_append_left _ hk) hkG) hM' (fun k hk => (hG' k hk).imp id fun h hF => h (List.mem_append_left _ hF))
    refine ⟨F' ++ F1, ⟨c0.set i v', c1, F', F1, by rw [List.set_append_left _ _ hl], rfl, ?_, hF', c.M_mod h1 fun k hk => hb k (List.mem_append_right _ hk) fun hkG => n2 k (hG k hkG) k hk rfl⟩, fun k hk => ?_⟩
    · refine List.nodup_append.2 ⟨a.M_nd hF', n1, fun p hp q hq e => ?_⟩
      subst e
      rcases hFF p hp with h | h
      · exact n2 p h p hq rfl
      · rcases hG' p h with h | h
        · exact n2 p (hG p h) p hq rfl
        · exact h (List.mem_append_right _ hq)
    · rcases List.mem_append.1 hk with h | h
      · exact (hFF k h).imp (fun h => List.mem_append_left _ h) id
      · exact .inl (List.mem_append_right _ h)
theorem Fld.snd {α γ β : Type} {a : Ty α} {c : Ty γ} {b : Ty β} {i j : Nat} {get : γ → β} {put : γ → β → γ} (h : Fld c i b get put) (hj : j = a.sz + i) : Fld (Ty.pair a c) j b (fun x => get x.2) (fun x y => (x.1, put x.2 y)) where
  lt := by subst hj; exact Nat.add_lt_add_left h.lt _
  sz1 := h.sz1
  K := by
    subst hj
    rintro w B x cs ⟨c0, c1, rfl, h0, h1⟩
    obtain ⟨v, hv, hK⟩ := h.K h1
    have := a.K_len h0
    exact ⟨v, by rw [List.getElem?_append_right (by omega), this, Nat.add_sub_cancel_left]; exact hv, hK⟩
  M := by
    subst hj
    rintro w F x cs ⟨c0, c1, F0, F1, rfl, rfl, hn, h0, h1⟩
    obtain ⟨v, G, hv, hM, hG, hst⟩ := h.M h1
    have hl := a.K_len (a.M_K h0)
    refine ⟨v, G, by rw [List.getElem?_append_right (by omega), hl, Nat.add_sub_cancel_left]; exact hv, hM, fun k hk => List.mem_append_right _ (hG k hk), fun w' v' y G' hb hM' hG' => ?_⟩
    obtain ⟨n0, n1, n2⟩ := List.nodup_append.1 hn
    obtain ⟨F', hF', hFF⟩ := hst w' v' y G' (fun k hk hkG => hb k (List.mem_append_right _ hk) hkG) hM' (fun k hk => (hG' k hk).imp id fun h hF => h (List.mem_append_right _ hF))
    refine ⟨F0 ++ F', ⟨c0, c1.set i v', F0, F', by rw [List.set_append_right _ _ (by omega), hl, Nat.add_sub_cancel_left], rfl, ?_, a.M_mod h0 fun k hk => hb k (List.mem_append_left _ hk) fun hkG => n2 k hk k (hG k hkG) rfl, hF'⟩, fun k hk => ?_⟩
    · refine List.nodup_append.2 ⟨n0, c.M_nd hF', fun p hp q hq e => ?_⟩
      subst e
      rcases hFF p hq with h | h
      · exact n2 p hp p h rfl
      · rcases hG' p h with h | h
        · exact n2 p hp p (hG p h) rfl
        · exact h (List.mem_append_left _ hp)
    · rcases List.mem_append.1 hk with h | h
      · exact .inl (List.mem_append_left _ h)
      · exact (hFF k h).imp (fun h => List.mem_append_right _ h) id
section
variable {α β : Type} {d : Ty α} {i : Nat} {b : Ty β} {get : α → β} {put : α → β → α} {e : TypeId} {w : World} {F : List Nat} {A : Option Addr} {n cp : Nat} {xs : List α}
/-- a field that holds no block: read and stored -/
theorem Own.fstore (L : Fld d i b get put) (hb : ∀ w G x cs, b.M w G x cs → G = []) (h : Own d e w F (.slice A n cp) xs) {j : Nat} (hj : j < xs.length) :
    ∃ g v, A = some ⟨g, 0, none⟩ ∧ g ∈ F ∧ w.cell? ⟨g, j * d.sz + i, none⟩ = some v ∧ b.K w (fun _ => True) (get xs[j]) [v] ∧ w.frozen? ⟨g, j * d.sz + i, none⟩ = false ∧
      ∀ v' y, (∀ w, b.M w [] y [v']) → ∃ F', Own d e (w.setCell ⟨g, j * d.sz + i, none⟩ v') F' (.slice A n cp) (xs.set j (put xs[j] y)) ∧ ∀ k, k ∈ F' → k ∈ F := by
  obtain ⟨g, cs, f, rfl, hgF, hgf, hfF, hM, hcl, hc, hz, hst⟩ := h.elem hj
  obtain ⟨v, G, hv, hMv, hG, hp⟩ := L.M hM
  obtain rfl := hb _ _ _ _ hMv
  refine ⟨g, v, rfl, hgF, by rw [hc i L.lt, hv], b.K_mod (b.M_K hMv) (fun _ _ => trivial) (fun _ _ => rfl), hz _, fun v' y hM' => ?_⟩
  obtain ⟨f', hf', hff⟩ := hp (w.setCell ⟨g, j * d.sz + i, none⟩ v') v' y [] (fun k hk _ => Below.heap_setCell _ _ _ _ (fun e => hgf ((show k = g from e) ▸ hk))) (hM' _) (by simp)
  obtain ⟨F', ho, _, hF'⟩ := hst i v' _ f' L.lt hf' (fun k hk => .inl ((hff k hk).elim id (by simp)))
  exact ⟨F', ho, fun k hk => (hF' k hk).elim id fun h => hfF k ((hff k h).elim id (by simp))⟩
/-- a field that owns: what it leads to is changed -/
theorem Own.fsub (L : Fld d i b get put) (h : Own d e w F (.slice A n cp) xs) {j : Nat} (hj : j < xs.length) :
    ∃ g v G, A = some ⟨g, 0, none⟩ ∧ g ∈ F ∧ w.cell? ⟨g, j * d.sz + i, none⟩ = some v ∧ b.M w G (get xs[j]) [v] ∧ (∀ k, k ∈ G → k ∈ F) ∧
      ∀ w' y G', Mod (· ∈ G) w w' → b.M w' G' y [v] → (∀ k, k ∈ G' → k ∈ G) → ∃ F', Own d e w' F' (.slice A n cp) (xs.set j (put xs[j] y)) ∧ ∀ k, k ∈ F' → k ∈ F := by
  obtain ⟨cs, f, hM, hfF, hcell, hst⟩ := h.sub hj
  obtain ⟨g, rfl, hgF, hgf, hc⟩ := hcell _ _ _ rfl
  obtain ⟨v, G, hv, hMv, hG, hp⟩ := L.M hM
  refine ⟨g, v, G, rfl, hgF, by rw [hc i L.lt, hv], hMv, fun k hk => hfF k (hG k hk), fun w' y G' hm ho' hG' => ?_⟩
  obtain ⟨f', hf', hff⟩ := hp w' v y G' (fun k hk hkG => hm.block k (d.M_lt hM k hk) hkG) ho' (fun k hk => .inl (hG' k hk))
  have hcs : cs.set i v = cs := by
    have := List.getElem?_eq_some_iff.1 hv
    rw [← this.2]; exact List.set_getElem_self _
  rw [hcs] at hf'
  obtain ⟨F', ho2, hF'⟩ := hst w' _ f' (hm.mono fun k _ hk => hG k hk) hf' (fun k hk => .inl ((hff k hk).elim id fun h => hG k (hG' k h)))
  exact ⟨F', ho2, fun k hk => (hF' k hk).elim id fun h => hfF k ((hff k h).elim id fun h => hG k (hG' k h))⟩
theorem Own.cellsAt (h : Own d e w F (.slice A n cp) xs) {j : Nat} (hj : j < xs.length) : ∃ g, A = some ⟨g, 0, none⟩ ∧ g ∈ F ∧ (∀ i, i < d.sz → ∃ v, w.cell? ⟨g, j * d.sz + i, none⟩ = some v) ∧ ∀ i, w.frozen? ⟨g, i, none⟩ = false := by
  obtain ⟨g, cs, f, rfl, hgF, hgf, hfF, hM, hcl, hc, hz, hst⟩ := h.elem hj
  exact ⟨g, rfl, hgF, fun i hi => ⟨cs[i]'(by omega), by rw [hc i hi]; exact List.getElem?_eq_getElem _⟩, hz⟩
theorem Own.fstoreAt (L : Fld d i b get put) (hb : ∀ w G x cs, b.M w G x cs → G = []) {ys : List α} {j : Nat} {x : α} (hj : j < ys.length) {g : Nat} (h : Own d e w F (.slice (some ⟨g, 0, none⟩) n cp) (ys.set j x)) :
    g ∈ F ∧ ∀ v' y, (∀ w, b.M w [] y [v']) → ∃ F', Own d e (w.setCell ⟨g, j * d.sz + i, none⟩ v') F' (.slice (some ⟨g, 0, none⟩) n cp) (ys.set j (put x y)) ∧ ∀ k, k ∈ F' → k ∈ F := by
  obtain ⟨g', v, hA, hgF, hc, hK, hf, hst⟩ := h.fstore L hb (j := j) (by rw [List.length_set]; exact hj)
  injection hA with hA
  injection hA with hA
  subst hA
  refine ⟨hgF, fun v' y hM => ?_⟩
  obtain ⟨F', ho, hF'⟩ := hst v' y hM
  rw [List.set_set, List.getElem_set_self] at ho
  exact ⟨F', ho, hF'⟩
theorem OwF.one (h : b.sz = 1) {w : World} {G : List Nat} {v : Value} {y : β} (ho : OwF false b w G v y) : b.M w G y [v] := by
  obtain ⟨cs, rfl, hM⟩ := ho
  have := b.K_len (b.M_K hM)
  match cs, (this.trans h) with
  | [u], _ => exact hM
theorem Own.fsubAt (L : Fld d i b get put) {ys : List α} {j : Nat} {x : α} (hj : j < ys.length) {g : Nat} (h : Own d e w F (.slice (some ⟨g, 0, none⟩) n cp) (ys.set j x)) :
    ∃ v G, g ∈ F ∧ w.cell? ⟨g, j * d.sz + i, none⟩ = some v ∧ OwF false b w G v (get x) ∧ (∀ k, k ∈ G → k ∈ F) ∧
      ∀ w' y G', Mod (· ∈ G) w w' → OwF false b w' G' v y → (∀ k, k ∈ G' → k ∈ G) → ∃ F', Own d e w' F' (.slice (some ⟨g, 0, none⟩) n cp) (ys.set j (put x y)) ∧ ∀ k, k ∈ F' → k ∈ F := by
  obtain ⟨g', v, G, hA, hgF, hc, ho, hG, hst⟩ := h.fsub L (j := j) (by rw [List.length_set]; exact hj)
  injection hA with hA
  injection hA with hA
  subst hA
  rw [List.getElem_set_self] at ho hst
  refine ⟨v, G, hgF, hc, ⟨[v], rfl, ho⟩, hG, fun w' y G' hm ho' hG' => ?_⟩
  obtain ⟨F', ho3, hF'⟩ := hst w' y G' hm (OwF.one L.sz1 ho') hG'
  rw [List.set_set] at ho3
  exact ⟨F', ho3, hF'⟩
/-- a struct by value: what a field leads to is changed -/
theorem Fld.lead {v : Value} {x : α} (L : Fld d i b get put) (h : OwF true d w F v x) :
    ∃ (cs : List Value) (vi : Value) (G : List Nat), v = .agg cs.toArray ∧ cs[i]? = some vi ∧ OwF false b w G vi (get x) ∧ (∀ k, k ∈ G → k ∈ F) ∧
      ∀ w' y G', Mod (· ∈ G) w w' → OwF false b w' G' vi y → (∀ k, k ∈ G' → k ∈ G) → ∃ F', OwF true d w' F' v (put x y) ∧ ∀ k, k ∈ F' → k ∈ F := by
  obtain ⟨cs, rfl, hM⟩ := h
  obtain ⟨v, G, hv, hMv, hG, hp⟩ := L.M hM
  refine ⟨cs, v, G, rfl, hv, ⟨[v], ?_, hMv⟩, hG, fun w' y G' hm ho' hG' => ?_⟩
  · rfl
  obtain ⟨f', hf', hff⟩ := hp w' v y G' (fun k hk hkG => hm.block k (d.M_lt hM k hk) hkG) (OwF.one L.sz1 ho') (fun k hk => .inl (hG' k hk))
  have hcs : cs.set i v = cs := by
    have := List.getElem?_eq_some_iff.1 hv
    rw [← this.2]; exact List.set_getElem_self _
  rw [hcs] at hf'
  exact ⟨f', ⟨cs, rfl, hf'⟩, fun k hk => (hff k hk).elim id fun h => hG k (hG' k h)⟩
theorem Fld.lead1 {l : List Value} {vi : Value} {x : α} (L : Fld d i b get put) (hi : l[i]? = some vi) (h : OwF true d w F (.agg l.toArray) x) :
    ∃ G, OwF false b w G vi (get x) ∧ (∀ k, k ∈ G → k ∈ F) ∧
      ∀ w' y G', Mod (· ∈ G) w w' → OwF false b w' G' vi y → (∀ k, k ∈ G' → k ∈ G) → ∃ F', OwF true d w' F' (.agg l.toArray) (put x y) ∧ ∀ k, k ∈ F' → k ∈ F := by
  obtain ⟨cs, v, G, hv, hvi, ho, hG, hst⟩ := L.lead h
  injection hv with hv
  have : l = cs := by simpa using hv
  subst this
  obtain rfl : vi = v := Option.some.inj (hi.symm.trans hvi)
  exact ⟨G, ho, hG, hst⟩
theorem OwF.rd {str : Bool} {v : Value} {x : α} (h : OwF str d w F v x) : RdV str d w v x := by
  obtain ⟨cs, rfl, hM⟩ := h
  exact ⟨cs, rfl, d.K_mod (d.M_K hM) (fun k hk => d.M_lt hM k hk) (fun _ _ => rfl)⟩
theorem OwF.lt {str : Bool} {v : Value} {x : α} (h : OwF str d w F v x) : ∀ k, k ∈ F → k < w.heap.size := by
  obtain ⟨cs, rfl, hM⟩ := h
  exact d.M_lt hM
theorem OwF.mv {str : Bool} {v : Value} {x : α} {w' : World} (h : OwF str d w F v x) (hb : ∀ k, k ∈ F → w'.heap[k]? = w.heap[k]?) : OwF str d w' F v x := by
  obtain ⟨cs, rfl, hM⟩ := h
  exact ⟨cs, rfl, d.M_mod hM hb⟩
theorem load_struct {P : Program} (w : World) (ad : Addr) (ty : TypeId) (cs : List Value) (t : TypeDesc) (hu : P.underlying ty = some t) (ht : (match t with | .struct _ | .array _ _ => true | _ => false) = true) (hi : (P.info? ty).map (·.size) = some cs.length)
    (h : ∀ j v, cs[j]? = some v → w.cell? (ad.add j) = some v) : (Instr.loadAt ty (.pointer (some ad))).run P w = .ok (.agg cs.toArray) w := by
  have hl := run_loadCells_list (P := P) w ad cs h
  cases hq : P.info? ty with
  | none => simp [hq] at hi
  | some i =>
    have hs : i.size = cs.length := by simpa [hq] using hi
    have hagg : (isAgg ty).run P w = .ok true w := by
      unfold isAgg
      rw [Sem.run_bind, run_underlying hu w]
      cases t <;> simp_all
    simp [Instr.loadAt, Instr.sureAddr, loadVar, Sem.run_bind, hagg, sizeOf, typeInfo, hq, hs, hl]
/-- an element loaded whole -/
theorem Row.elem {P : Program} {B : Nat → Prop} (h : Row d w B A n xs) {k : Nat} (hk : k < xs.length) (ty : TypeId) {t : TypeDesc} (hu : P.underlying ty = some t) (ht : (match t with | .struct _ | .array _ _ => true | _ => false) = true) (hi : (P.info? ty).map (·.size) = some d.sz) :
    ∃ ad v, A = some ad ∧ ∀ w', (∀ i, B i → w'.heap[i]? = w.heap[i]?) → (∀ i, B i → i < w'.heap.size) → (Instr.loadAt ty (.pointer (some (ad.add (k * d.sz))))).run P w' = .ok v w' ∧ RdV true d w' v xs[k] := by
  obtain ⟨ad, cs, hlt, rfl, hB, hK, hc⟩ := h.at_ (k := k) (by rw [← h.1]; exact hk)
  refine ⟨ad, .agg cs.toArray, rfl, fun w' hb hl => ⟨load_struct w' _ ty cs t hu ht (by rw [d.K_len hK]; exact hi) fun j v hj => ?_, cs, rfl, d.K_mod hK (fun k hk => hl k hk) (fun k hk => hb k hk)⟩⟩
  have := hc j v hj
  rw [← this, add_add]
  refine World.cell?_of_block ?_
  rw [add_block]
  exact hb _ hB
/-- an element by its cells -/
theorem Row.elemc {B : Nat → Prop} (h : Row d w B A n xs) {k : Nat} (hk : k < xs.length) :
    ∃ (ad : Addr) (cs : List Value), A = some ad ∧ ∀ w', (∀ i, B i → w'.heap[i]? = w.heap[i]?) → (∀ i, B i → i < w'.heap.size) → RdV true d w' (.agg cs.toArray) xs[k] ∧ (∀ u, cs[0]? = some u → w'.cell? (ad.add (k * d.sz)) = some u) ∧ ∀ j u, cs[j + 1]? = some u → w'.cell? ⟨(ad.add (k * d.sz)).block, (ad.add (k * d.sz)).off + (j + 1), none⟩ = some u := by
  obtain ⟨ad, cs, rfl, hK, _, _⟩ := h.cells_at (w' := w) (fun _ _ => rfl) hk
  obtain ⟨ad', c', hlt, hA, hB, hK', hc⟩ := h.at_ (k := k) (by rw [← h.1]; exact hk)
  obtain rfl := Option.some.inj hA
  refine ⟨_, c', rfl, fun w' hb hl => ⟨⟨c', rfl, d.K_mod hK' (fun k hk => hl k hk) (fun k hk => hb k hk)⟩, fun u hu => ?_, fun j u hu => ?_⟩⟩
  · exact (World.cell?_of_block (by rw [add_block]; exact hb _ hB)).trans (hc 0 u hu)
  · rw [← add_next]
    exact (World.cell?_of_block (by rw [add_block]; exact hb _ hB)).trans (hc (j + 1) u hu)
/-- a field of a row that is read -/
theorem Row.field (L : Fld d i b get put) {B : Nat → Prop} (h : Row d w B A n xs) {w' : World} (hb : ∀ k, B k → w'.heap[k]? = w.heap[k]?) {j : Nat} (hj : j < xs.length) :
    ∃ ad v, A = some ad ∧ (match i with | 0 => w'.cell? (ad.add (j * d.sz)) | m + 1 => w'.cell? ⟨(ad.add (j * d.sz)).block, (ad.add (j * d.sz)).off + (m + 1), none⟩) = some v ∧ b.K w' B (get xs[j]) [v] := by
  obtain ⟨ad, cs, rfl, hK, h0, h1⟩ := h.cells_at hb hj
  obtain ⟨v, hv, hKv⟩ := L.K hK
  refine ⟨ad, v, rfl, ?_, b.K_mod hKv (fun _ h => h) hb⟩
  cases i with
  | zero => exact h0 _ hv
  | succ m => exact h1 m _ hv
end
theorem not_r {P : Program} (b : Bool) (w : World) : (Op.unary .not (.bool b)).run P w = .ok (.bool (!b)) w := by
  go_simp
theorem set_len {α : Type} (l : List α) (i : Nat) (x : α) : (l.set i x).length = l.length := List.length_set
end Go.Proofs.YtiaknomadhgckaaDoor.Mem

namespace Go.Proofs.YtiaknomadhgckaaDoor
section
variable {α : Type}
def preS (cnt : α → Nat) (xs : List α) (i : Nat) : Nat := ((xs.take i).map cnt).sum
def markL (mk : Nat → α → α) (cnt : α → Nat) (k : Nat) (xs : List α) : List α := xs.mapIdx fun i x => mk (k + preS cnt xs i) x
theorem preS_zero (cnt : α → Nat) (xs : List α) : preS cnt xs 0 = 0 := by simp [preS]
theorem preS_succ (cnt : α → Nat) (xs : List α) {i : Nat} (h : i < xs.length) : preS cnt xs (i + 1) = preS cnt xs i + cnt xs[i] := by
  unfold preS
  rw [List.take_succ_eq_append_getElem h, List.map_append, List.sum_append]
  simp
theorem preS_mono (cnt : α → Nat) (xs : List α) : ∀ {i j : Nat}, i ≤ j → preS cnt xs i ≤ preS cnt xs j := by
  intro i j hij
  unfold preS
  have : xs.take j = xs.take i ++ (xs.drop i).take (j - i) := by
    rw [← List.take_append_drop i (xs.take j), List.take_take, Nat.min_eq_left hij, List.drop_take]
  rw [this, List.map_append, List.sum_append]; omega
theorem preS_le (cnt : α → Nat) (xs : List α) (i : Nat) : preS cnt xs i ≤ preS cnt xs xs.length := by
  rcases Nat.le_total i xs.length with h | h
  · exact preS_mono cnt xs h
  · unfold preS; rw [List.take_of_length_le h, List.take_length]; omega
theorem markL_len (mk : Nat → α → α) (cnt : α → Nat) (k : Nat) (xs : List α) : (markL mk cnt k xs).length = xs.length := by simp [markL]
theorem markL_at (mk : Nat → α → α) (cnt : α → Nat) (k : Nat) (xs : List α) {i : Nat} (h : i < (markL mk cnt k xs).length) : (markL mk cnt k xs)[i] = mk (k + preS cnt xs i) (xs[i]'(by simpa [markL] using h)) := by simp [markL]
/-- one more element marked -/
theorem take_drop_set {zs xs : List α} (hl : zs.length = xs.length) {j : Nat} (h : j < xs.length) : (zs.take j ++ xs.drop j).set j (zs[j]'(by omega)) = zs.take (j + 1) ++ xs.drop (j + 1) := by
  rw [List.set_append_right _ _ (by rw [List.length_take]; omega), List.length_take, Nat.min_eq_left (by omega), Nat.sub_self, List.drop_eq_getElem_cons h, List.set_cons_zero, List.take_succ_eq_append_getElem (show j < zs.length by omega), List.append_assoc]
  rfl
theorem take_drop_at {zs xs : List α} (hl : zs.length = xs.length) {j : Nat} (h : j < xs.length) (h' : j < (zs.take j ++ xs.drop j).length) : (zs.take j ++ xs.drop j)[j] = xs[j] := by
  rw [List.getElem_append_right (by rw [List.length_take]; omega)]
  simp [List.length_take, Nat.min_eq_left (show j ≤ zs.length by omega)]
theorem take_drop_len {zs xs : List α} (hl : zs.length = xs.length) (j : Nat) : (zs.take j ++ xs.drop j).length = xs.length := by
  rw [List.length_append, List.length_take, List.length_drop]; omega
theorem preS_mark (mk : Nat → α → α) (cnt : α → Nat) (hc : ∀ k x, cnt (mk k x) = cnt x) (k : Nat) (xs : List α) (i : Nat) : preS cnt (markL mk cnt k xs) i = preS cnt xs i := by
  unfold preS
  congr 1
  apply List.ext_getElem (by simp [markL])
  intro j h1 h2
  simp [markL, hc]
theorem markL_idem (mk : Nat → α → α) (cnt : α → Nat) (hc : ∀ k x, cnt (mk k x) = cnt x) (hm : ∀ k k' x, mk k' (mk k x) = mk k' x) (k k' : Nat) (xs : List α) : markL mk cnt k' (markL mk cnt k xs) = markL mk cnt k' xs := by
  apply List.ext_getElem (by simp [markL])
  intro j h1 h2
  rw [markL_at, markL_at, markL_at, preS_mark mk cnt hc, hm]
end
end Go.Proofs.YtiaknomadhgckaaDoor

namespace Go.Proofs.YtiaknomadhgckaaDoor.Mem
open Go.RowKit
set_option linter.unusedVariables false

section
variable {P : Program} {md : Region.Mode} {ops : Array Oper} {T : World → Prop} {L : List Nat} {Q : Exit → Act → World → Prop} {o : Oper} {a : Act} {w : World} {v : Value}
/-- whatever order comes: T holds behind every operation but those of L -/
def RegR (P : Program) (md : Region.Mode) (ops : Array Oper) (Q : Exit → Act → World → Prop) (L : List Nat) (T : World → Prop) : Nat → Array Bool → Act → World → Prop
  | 0, ls, a, w => Region.ready md ops ls = [] ∧ Q .normal a w
  | n + 1, ls, a, w => (Region.ready md ops ls = [] → Q .normal a w) ∧ ∀ i ∈ Region.ready md ops ls, wpOp P ops Q i (fun a' w' => (i ∉ L → T w') ∧ RegR P md ops Q L T n (ls.setIfInBounds i true) a' w') a w
theorem RegR.any : ∀ (n : Nat) (ls : Array Bool) (a : Act) (w : World), RegR P md ops Q L T n ls a w → wpAny P md ops Q n ls a w
  | 0, _, _, _, h => h
  | n + 1, _, _, _, h => ⟨h.1, fun i hi => wpOp_mono (fun a' w' h' => RegR.any n _ a' w' h'.2) (h.2 i hi)⟩
/-- does each of L wait for number i -/
def Waits (md : Region.Mode) (ops : Array Oper) (L : List Nat) (i : Nat) : Bool := L.all fun j => ((ops[j]?).map fun o => o.after.any fun e => Region.binds md e && e.on == i).getD false
theorem RegR.first {i : Nat} {oi : Oper} (hi : ops[i]? = some oi) (hsel : ∀ (j : Nat) (o : Oper) cs b, ops[j]? = some o → o.op ≠ .select cs b)
    (hQ : ∀ c a w, Q (.panic c) (a.put oi.dst v) w → Q (.panic c) a w) (hL : Waits md ops L i = true) (n : Nat) : ∀ (ls : Array Bool) (a : Act) (w : World),
      (∀ j oj, ops[j]? = some oj → j ≠ i → ls.getD j true = false → (∀ e ∈ oj.after, Region.binds md e = true → e.on ≠ i) → oi.apart ops oj = true) →
      i ∈ Region.ready md ops ls → YieldsIf P ops T oi v a → T w → RegR P md ops Q L T n (ls.setIfInBounds i true) (a.put oi.dst v) w → RegR P md ops Q L T (n + 1) ls a w := by
  -- who comes ahead of number i does not wait for it
  have hno : ∀ (ls : Array Bool) (j : Nat) (oj : Oper), ops[j]? = some oj → i ∈ Region.ready md ops ls → (∀ e ∈ oj.after, Region.binds md e = true → ls.getD e.on false = true) → ∀ e ∈ oj.after, Region.binds md e = true → e.on ≠ i := by
    intro ls j oj _ hir hall e he hb heq
    have hl := hall e he hb
    have h0 := (mem_ready.1 hir).1
    rw [heq] at hl
    by_cases hsz : i < ls.size
    · simp [hsz] at h0 hl; simp [h0] at hl
    · simp [Array.getElem?_eq_none (Nat.le_of_not_lt hsz)] at hl
  have hnL : ∀ j oj, ops[j]? = some oj → (∀ e ∈ oj.after, Region.binds md e = true → e.on ≠ i) → j ∉ L := by
    intro j oj hj hn hmem
    have h1 := List.all_eq_true.1 hL j hmem
    simp only [hj, Option.map_some, Option.getD_some] at h1
    obtain ⟨e, he, hb⟩ := Array.any_eq_true'.1 h1
    rw [Bool.and_eq_true, beq_iff_eq] at hb
    exact hn e he hb.1 hb.2
  induction n with
  | zero =>
    intro ls a w _ hr hy hT H
    refine ⟨fun h0 => absurd (h0 ▸ hr) List.not_mem_nil, fun j hj => ?_⟩
    rcases Decidable.em (j = i) with rfl | hne
    · exact hy.wpOp hi hT ⟨fun _ => hT, H⟩
    · exact absurd (H.1 ▸ ready_mono hj hne) List.not_mem_nil
  | succ n ih =>
    intro ls a w hfree hr hy hT H
    refine ⟨fun h0 => absurd (h0 ▸ hr) List.not_mem_nil, fun j hj => ?_⟩
    rcases Decidable.em (j = i) with rfl | hne
    · exact hy.wpOp hi hT ⟨fun _ => hT, H⟩
    obtain ⟨hun, oj, hoj, hall⟩ := mem_ready.1 hj
    have hn := hno ls j oj hoj hr hall
    refine wpOp_mono ?_ (wpOp_putIf hoj (hfree j oj hoj hne hun hn) (fun cs b => hsel i oi cs b hi) (fun cs b => hsel j oj cs b hoj) hQ hy (H.2 j (ready_mono hj hne)))
    intro a' w' h
    refine ⟨h.2.1, ih _ a' w' ?_ (ready_mono hr (Ne.symm hne)) h.1 (h.2.1 (hnL j oj hoj hn)) ?_⟩
    · intro k ok hk hki hku hkn
      refine hfree k ok hk hki ?_ hkn
      rcases Decidable.em (j = k) with rfl | hjk
      · exact hun
      · rw [getD_set_ne true hjk] at hku; exact hku
    · have h3 := h.2.2
      rwa [Array.setIfInBounds_comm _ _ (Ne.symm hne)] at h3
/-- the beginning -/
theorem reg_start (L : List Nat) (T : World → Prop) {id : Nat} (hm : P.follows .mixedOrders = true) (h : RegR P .any ops Q L T ops.size (Array.replicate ops.size false) a w.drew) : (Code.region id ops true).wp P Q a w :=
  wp_region_any hm (RegR.any _ _ _ _ h)
/-- number i, into slot n, first -/
theorem reg_take {i n : Nat} {op : Op} {ty : TypeId} {pos : String} {af : Array Edge} {fuel : Nat} {ls : Array Bool} (v : Value) (hT : T w) (hi : ops[i]? = some ⟨some n, op, ty, pos, af, none⟩) (hs : Region.noSelect ops = true) (hL : Waits md ops L i = true) (hf : Region.free md ops ls i = true) (hr : (Region.ready md ops ls).contains i = true)
    (hQ : ∀ c a w, Q (.panic c) (a.put (some n) v) w → Q (.panic c) a w) (hy : ∀ w, T w → (execOp a.eval ⟨some n, op, ty, pos, af, none⟩).run P w = .ok (.value v) w)
    (h : RegR P md ops Q L T fuel (ls.setIfInBounds i true) (a.put (some n) v) w) : RegR P md ops Q L T (fuel + 1) ls a w :=
  RegR.first hi (Region.noSelect_spec hs) hQ hL fuel ls a w (Region.free_spec hi hf) (by simpa using hr) (.inl ⟨by simp [Region.wanted], hy⟩) hT h
/-- number i, alone ready -/
theorem reg_step {i : Nat} {d : Option Nat} {op : Op} {ty : TypeId} {pos : String} {af : Array Edge} {fuel : Nat} {ls : Array Bool} (hi : ops[i]? = some ⟨d, op, ty, pos, af, none⟩) (hr : Region.ready md ops ls = [i])
    (h : ∀ K : Act → World → Prop, Shut (∀ a w, (i ∉ L → T w) → RegR P md ops Q L T fuel (ls.setIfInBounds i true) a w → K a w) → Oper.wp P ⟨d, op, ty, pos, af, none⟩ a w K Q) : RegR P md ops Q L T (fuel + 1) ls a w := by
  refine ⟨fun h0 => absurd (hr.symm.trans h0) (by simp), ?_⟩
  rw [hr]
  intro j hj
  obtain rfl := List.mem_singleton.1 hj
  refine wpOp_step hi fun K' hK => ?_
  rw [if_pos (by simp [Region.wanted])]
  exact h K' fun a w h1 h2 => hK a w ⟨h1, h2⟩
/-- the same for an operation that stands under a guard which holds -/
theorem reg_takeG {i n : Nat} {op : Op} {ty : TypeId} {pos : String} {af : Array Edge} {gd : Option (Nat × Bool)} {fuel : Nat} {ls : Array Bool} (v : Value) (hT : T w) (hi : ops[i]? = some ⟨some n, op, ty, pos, af, gd⟩) (hw : Region.wanted ⟨some n, op, ty, pos, af, gd⟩ (yielded ops a.tmps) = true) (hs : Region.noSelect ops = true) (hL : Waits md ops L i = true) (hf : Region.free md ops ls i = true) (hr : (Region.ready md ops ls).contains i = true)
    (hQ : ∀ c a w, Q (.panic c) (a.put (some n) v) w → Q (.panic c) a w) (hy : ∀ w, T w → (execOp a.eval ⟨some n, op, ty, pos, af, gd⟩).run P w = .ok (.value v) w)
    (h : RegR P md ops Q L T fuel (ls.setIfInBounds i true) (a.put (some n) v) w) : RegR P md ops Q L T (fuel + 1) ls a w :=
  RegR.first hi (Region.noSelect_spec hs) hQ hL fuel ls a w (Region.free_spec hi hf) (by simpa using hr) (.inl ⟨hw, hy⟩) hT h
theorem reg_stepG {i : Nat} {d : Option Nat} {op : Op} {ty : TypeId} {pos : String} {af : Array Edge} {gd : Option (Nat × Bool)} {fuel : Nat} {ls : Array Bool} (hi : ops[i]? = some ⟨d, op, ty, pos, af, gd⟩) (hw : Region.wanted ⟨d, op, ty, pos, af, gd⟩ (yielded ops a.tmps) = true) (hr : Region.ready md ops ls = [i])
    (h : ∀ K : Act → World → Prop, Shut (∀ a w, (i ∉ L → T w) → RegR P md ops Q L T fuel (ls.setIfInBounds i true) a w → K a w) → Oper.wp P ⟨d, op, ty, pos, af, gd⟩ a w K Q) : RegR P md ops Q L T (fuel + 1) ls a w := by
  refine ⟨fun h0 => absurd (hr.symm.trans h0) (by simp), ?_⟩
  rw [hr]
  intro j hj
  obtain rfl := List.mem_singleton.1 hj
  refine wpOp_step hi fun K' hK => ?_
  rw [if_pos hw]
  exact h K' fun a w h1 h2 => hK a w ⟨h1, h2⟩
theorem reg_done {ls : Array Bool} (hr : Region.ready md ops ls = []) (h : Q .normal a w) : ∀ n, RegR P md ops Q L T n ls a w
  | 0 => ⟨hr, h⟩
  | _ + 1 => ⟨fun _ => h, by rw [hr]; simp⟩
theorem wp_val (hx : (execOp a.eval o).run P w = .ok (.value v) w) {n : Nat} (hd : o.dst = some n) {K : Act → World → Prop} (h : K (a.put (some n) v) w) : Oper.wp P o a w K Q := by
  unfold Oper.wp
  rw [hx, Oper.upon_value, hd]; exact h
theorem exec_convert {src dst : TypeId} {x : Operand} (ho : o.op = .convert src dst x) (h : (convert src dst (a.eval x)).run P w = .ok v w) : (execOp a.eval o).run P w = .ok (.value v) w := by
  unfold execOp; simp only [ho, Sem.run_bind, h, Result.andThen_ok, Sem.run_pure]
theorem exec_move {x : Operand} (ho : o.op = .move x) (h : a.eval x = v) : (execOp a.eval o).run P w = .ok (.value v) w := by
  unfold execOp; simp only [ho, h, Sem.run_pure]
theorem exec_bin {op : BinOp} {t t' : TypeId} {x y : Operand} (ho : o.op = .binOp op t x y t') {vx vy : Value} (hx : a.eval x = vx) (hy : a.eval y = vy) (h : (do eqGuard op t x y vx vy; binOp op t vx vy : Sem Value).run P w = .ok v w) : (execOp a.eval o).run P w = .ok (.value v) w := by
  unfold execOp; simp only [ho, hx, hy]
  rw [Sem.run_bind, h]; rfl
theorem slice_to {t e : TypeId} {n c k : Nat} {A : Option Addr} (hu : P.underlying t = some (.slice e)) (hk : k ≤ c) (he : (P.info? e).isSome = true) : (Instr.sliceAt t (.slice A n c) none (some (.int .i64 k)) none).run P w = .ok (.slice A k c) w := by
  obtain ⟨i, hi⟩ := Option.isSome_iff_exists.1 he
  have hel : P.elem t = e := by simp [Program.elem, hu]
  have hu' : P.underlying t = some (.slice (P.elem t)) := by rw [hel]; exact hu
  rw [run_sliceAt_slice w t _ _ _ _ hu', run_slice_h w t A n c hu' .i64 (k : Int) (by omega) (by omega)]
  have hs : (sizeOf e).run P w = .ok i.size w := by
    simp only [sizeOf, typeInfo, Sem.run_bind, run_program, hi, Result.andThen, Sem.run_pure]
  rw [hel, hs]
  simp [Result.andThen, sliced]
  cases A <;> simp [Addr.add]
theorem exec_slice {t : TypeId} {x : Operand} {lo hi mx : Option Operand} (ho : o.op = .slice t x lo hi mx) {vx : Value} {vl vh vm : Option Value} (hx : a.eval x = vx) (hl : lo.map a.eval = vl) (hh : hi.map a.eval = vh) (hm : mx.map a.eval = vm) (h : (Instr.sliceAt t vx vl vh vm).run P w = .ok v w) : (execOp a.eval o).run P w = .ok (.value v) w := by
  unfold execOp; simp only [ho, hx, hl, hh, hm, Sem.run_bind, h, Result.andThen_ok, Sem.run_pure]
/-- a call of a Go function -/
theorem exec_call {f : FuncId} {args : List Operand} {ts : Array TypeId} {vals : List Value} (ho : o.op = .call { callee := .value (.func f), args := args.toArray, argTypes := ts }) (hv : args.map a.eval = vals)
    (hf : ((P.funcs[f]?).map fun fn => fn.name == "runtime.NumGoroutine" || fn.body.isNone) = some false) : (execOp a.eval o).run P w = .ok (.enter f vals.toArray) w := by
  obtain ⟨fn, hfn, hb⟩ := Option.map_eq_some_iff.1 hf
  rw [Bool.or_eq_false_iff] at hb
  have h1 : fn.name ≠ "runtime.NumGoroutine" := fun h => by rw [h] at hb; simp at hb
  have h2 : fn.body ≠ none := fun h => by rw [h] at hb; simp at hb
  unfold execOp
  simp only [ho, resolve, List.map_toArray, hv, Act.eval, Deferred.ofValue]
  simp [Sem.run_bind, Result.andThen, invoke, callFunc, hfn, h1, h2]
theorem wp_call {f : FuncId} {args : List Operand} {ts : Array TypeId} {vals : List Value} {R : Ending → World → Prop} {n : Nat} (ho : o.op = .call { callee := .value (.func f), args := args.toArray, argTypes := ts }) (hd : o.dst = some n) (hv : args.map a.eval = vals)
    (hf : ((P.funcs[f]?).map fun fn => fn.name == "runtime.NumGoroutine" || fn.body.isNone) = some false) {K : Act → World → Prop} (hc : Calls P f vals.toArray w R) (hK : ∀ e w', R e w' → ∃ v, e = .returned v ∧ K (a.put (some n) v) w') : Oper.wp P o a w K Q := by
  unfold Oper.wp
  rw [exec_call ho hv hf, Oper.upon_enter]
  refine hc.mono ?_
  intro e w' hR
  obtain ⟨v, rfl, h⟩ := hK e w' hR
  rw [hd]; exact h
theorem exec_load {t : TypeId} {x : Operand} (ho : o.op = .load t x) {vx : Value} (hx : a.eval x = vx) (h : (Instr.loadAt t vx).run P w = .ok v w) : (execOp a.eval o).run P w = .ok (.value v) w := by
  unfold execOp; simp only [ho, hx, Sem.run_bind, h, Result.andThen_ok, Sem.run_pure]
theorem exec_field {t : TypeId} {x : Operand} {f : Nat} (ho : o.op = .fieldAddr t x f) {vx : Value} (hx : a.eval x = vx) (h : (Instr.fieldAt t vx f).run P w = .ok v w) : (execOp a.eval o).run P w = .ok (.value v) w := by
  unfold execOp; simp only [ho, hx, Sem.run_bind, h, Result.andThen_ok, Sem.run_pure]
theorem exec_index {t : TypeId} {x i : Operand} (ho : o.op = .index t x i) {vx vi : Value} (hx : a.eval x = vx) (hi : a.eval i = vi) (h : (Instr.index t vx vi).run P w = .ok v w) : (execOp a.eval o).run P w = .ok (.value v) w := by
  unfold execOp; simp only [ho, hx, hi, Sem.run_bind, h, Result.andThen_ok, Sem.run_pure]
theorem exec_indexAddr {t : TypeId} {x i : Operand} (ho : o.op = .indexAddr t x i) {vx vi : Value} (hx : a.eval x = vx) (hi : a.eval i = vi) (h : (Instr.indexAt t vx vi).run P w = .ok v w) : (execOp a.eval o).run P w = .ok (.value v) w := by
  unfold execOp; simp only [ho, hx, hi, Sem.run_bind, h, Result.andThen_ok, Sem.run_pure]
theorem exec_un {op : UnOp} {t : TypeId} {x : Operand} (ho : o.op = .unOp op t x) {vx : Value} (hx : a.eval x = vx) (h : (Op.unary op vx).run P w = .ok v w) : (execOp a.eval o).run P w = .ok (.value v) w := by
  unfold execOp; simp only [ho, hx, Sem.run_bind, h, Result.andThen_ok, Sem.run_pure]
theorem exec_pick {c x y : Operand} (ho : o.op = .pick c x y) {b : Bool} {vx vy : Value} (hc : a.eval c = .bool b) (hx : a.eval x = vx) (hy : a.eval y = vy) (hv : v = if b then vx else vy) : (execOp a.eval o).run P w = .ok (.value v) w := by
  unfold execOp; subst hv; simp [ho, hc, hx, hy, asBool, Sem.run_pure]
theorem exec_buildSlice {t : TypeId} {n : Nat} {parts : List (Nat × Operand)} {w' : World} (ho : o.op = .buildSlice t n parts.toArray) {vs : List (Nat × Value)} (hx : parts.map (fun (i, x) => (i, a.eval x)) = vs) (h : (Instr.buildSlice t n vs.toArray).run P w = .ok v w') : (execOp a.eval o).run P w = .ok (.value v) w' := by
  unfold execOp; simp only [ho, List.map_toArray, hx, Sem.run_bind, h, Result.andThen_ok, Sem.run_pure]
theorem wp_valw {w' : World} (hx : (execOp a.eval o).run P w = .ok (.value v) w') {n : Nat} (hd : o.dst = some n) {K : Act → World → Prop} (h : K (a.put (some n) v) w') : Oper.wp P o a w K Q := by
  unfold Oper.wp
  rw [hx, Oper.upon_value, hd]; exact h
theorem wp_store {t : TypeId} {x y : Operand} {w' : World} (ho : o.op = .store t x y) (hd : o.dst = none) {vx vy : Value} (hx : a.eval x = vx) (hy : a.eval y = vy) (h : (Instr.storeAt t vx vy).run P w = .ok () w') {K : Act → World → Prop} (hK : K a w') : Oper.wp P o a w K Q := by
  unfold Oper.wp execOp; simp only [ho, hx, hy, Sem.run_bind, h, Result.andThen_ok, Sem.run_pure, Oper.upon_skip, hd]
  exact hK
end
end Go.Proofs.YtiaknomadhgckaaDoor.Mem
