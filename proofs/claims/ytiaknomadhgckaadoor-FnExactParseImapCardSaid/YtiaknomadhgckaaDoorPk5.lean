/- Fields of structs that lie in rows: read, stored, changed below. Marks over lists in plain words. The laws' helpers over Pair and over slices of it. -/
import Derived.Test.YtiaknomadhgckaaDoorPk1
import Derived.Test.YtiaknomadhgckaaDoorPk4
import Derived.WalkKit
import Derived.Test.YtiaknomadhgckaaDoorPk2
import Derived.Test.YtiaknomadhgckaaDoorProg
namespace Go.Proofs.YtiaknomadhgckaaDoor.Mem
open Go.RowKit
set_option linter.unusedVariables false
def Ty.str : Ty Bytes where
  sz := 1
  K := fun _ _ x cs => cs = [.string ⟨x.toArray⟩] ∧ x.length ≤ 9223372036854775807
  M := fun _ F x cs => F = [] ∧ cs = [.string ⟨x.toArray⟩] ∧ x.length ≤ 9223372036854775807
  K_len := fun h => by rw [h.1]; rfl
  K_one := fun h u hu => by rw [h.1] at hu; rw [List.mem_singleton.1 hu]; rfl
  K_mod := fun h _ _ => h
  M_K := fun h => h.2
  M_mod := fun h _ => h
  M_lt := fun h k hk => by rw [h.1] at hk; cases hk
  M_nd := fun h => by rw [h.1]; exact List.nodup_nil
structure Fld {α β : Type} (d : Ty α) (i : Nat) (b : Ty β) (get : α → β) (put : α → β → α) : Prop where
  lt : i < d.sz
  sz1 : b.sz = 1
  K : ∀ {w B x cs}, d.K w B x cs → ∃ v, cs[i]? = some v ∧ b.K w B (get x) [v]
  M : ∀ {w F x cs}, d.M w F x cs → ∃ v G, cs[i]? = some v ∧ b.M w G (get x) [v] ∧ (∀ k, k ∈ G → k ∈ F) ∧
    ∀ w' v' y G', (∀ k, k ∈ F → k ∉ G → w'.heap[k]? = w.heap[k]?) → b.M w' G' y [v'] → (∀ k, k ∈ G' → k ∈ G ∨ k ∉ F) → ∃ F', d.M w' F' (put x y) (cs.set i v') ∧ ∀ k, k ∈ F' → k ∈ F ∨ k ∈ G'
theorem Fld.one {β : Type} {b : Ty β} (h : b.sz = 1) : Fld b 0 b id (fun _ y => y) where
  lt := by omega
  sz1 := h
  K := fun {w B x cs} hK => by
    have := b.K_len hK
    match cs, (this.trans h) with
    | [v], _ => exact ⟨v, rfl, hK⟩
  M := fun {w F x cs} hM => by
    have := b.K_len (b.M_K hM)
    match cs, (this.trans h) with
    | [v], _ => exact ⟨v, F, rfl, hM, fun _ h => h, fun w' v' y G' _ hM' _ => ⟨G', hM', fun k hk => .inr hk⟩⟩
theorem Fld.fst {α γ β : Type} {a : Ty α} {c : Ty γ} {b : Ty β} {i : Nat} {get : α → β} {put : α → β → α} (h : Fld a i b get put) : Fld (Ty.pair a c) i b (fun x => get x.1) (fun x y => (put x.1 y, x.2)) where
  lt := Nat.lt_of_lt_of_le h.lt (Nat.le_add_right _ _)
  sz1 := h.sz1
  K := by
    rintro w B x cs ⟨c0, c1, rfl, h0, h1⟩
    obtain ⟨v, hv, hK⟩ := h.K h0
    exact ⟨v, by rw [List.getElem?_append_left (by rw [a.K_len h0]; exact h.lt)]; exact hv, hK⟩
  M := by
    rintro w F x cs ⟨c0, c1, F0, F1, rfl, rfl, hn, h0, h1⟩
    obtain ⟨v, G, hv, hM, hG, hst⟩ := h.M h0
    have hl : i < c0.length := by rw [a.K_len (a.M_K h0)]; exact h.lt
    refine ⟨v, G, by rw [List.getElem?_append_left hl]; exact hv, hM, fun k hk => List.mem_append_left _ (hG k hk), fun w' v' y G' hb hM' hG' => ?_⟩
    obtain ⟨n0, n1, n2⟩ := List.nodup_append.1 hn
    obtain ⟨F', hF', hFF⟩ := hst w' v' y G' (fun k hk hkG => hb k (List.mem_append_left _ hk) hkG) hM' (fun k hk => (hG' k hk).imp id fun h hF => h (List.mem_append_left _ hF))
    refine ⟨F' ++ F1, ⟨c0.set i v', c1, F', F1, by rw [List.set_append_left _ _ hl], rfl, ?_, hF', c.M_mod h1 fun k hk => hb k (List.mem_append_right _ hk) fun hkG => n2 k (hG k hkG) k hk rfl⟩, fun k hk => ?_⟩
    · refine List.nodup_append.2 ⟨a.M_nd hF', n1, fun p hp q hq e => ?_⟩
      subst e
      rcases hFF p hp with h | h
      · exact n2 p h p hq rfl
      · rcases hG' p h with h | h
        · exact n2 p (hG p h) p hq rfl
        · exact h (List.mem_append_right _ hq)
    · rcases List.mem_append.1 hk with h | h
      · exact (hFF k h).imp (fun h => List.mem_append_left _ h) id
      · exact .inl (List.mem_append_right _ h)
theorem Fld.snd {α γ β : Type} {a : Ty α} {c : Ty γ} {b : Ty β} {i j : Nat} {get : γ → β} {put : γ → β → γ} (h : Fld c i b get put) (hj : j = a.sz + i) : Fld (Ty.pair a c) j b (fun x => get x.2) (fun x y => (x.1, put x.2 y)) where
  lt := by subst hj; exact Nat.add_lt_add_left h.lt _
  sz1 := h.sz1
  K := by
    subst hj
    rintro w B x cs ⟨c0, c1, rfl, h0, h1⟩
    obtain ⟨v, hv, hK⟩ := h.K h1
    have := a.K_len h0
    exact ⟨v, by rw [List.getElem?_append_right (by omega), this, Nat.add_sub_cancel_left]; exact hv, hK⟩
  M := by
    subst hj
    rintro w F x cs ⟨c0, c1, F0, F1, rfl, rfl, hn, h0, h1⟩
    obtain ⟨v, G, hv, hM, hG, hst⟩ := h.M h1
    have hl := a.K_len (a.M_K h0)
    refine ⟨v, G, by rw [List.getElem?_append_right (by omega), hl, Nat.add_sub_cancel_left]; exact hv, hM, fun k hk => List.mem_append_right _ (hG k hk), fun w' v' y G' hb hM' hG' => ?_⟩
    obtain ⟨n0, n1, n2⟩ := List.nodup_append.1 hn
    obtain ⟨F', hF', hFF⟩ := hst w' v' y G' (fun k hk hkG => hb k (List.mem_append_right _ hk) hkG) hM' (fun k hk => (hG' k hk).imp id fun h hF => h (List.mem_append_right _ hF))
    refine ⟨F0 ++ F', ⟨c0, c1.set i v', F0, F', by rw [List.set_append_right _ _ (by omega), hl, Nat.add_sub_cancel_left], rfl, ?_, a.M_mod h0 fun k hk => hb k (List.mem_append_left _ hk) fun hkG => n2 k hk k (hG k hkG) rfl, hF'⟩, fun k hk => ?_⟩
    · refine List.nodup_append.2 ⟨n0, c.M_nd hF', fun p hp q hq e => ?_⟩
      subst e
      rcases hFF p hq with h | h
      · exact n2 p hp p h rfl
      · rcases hG' p h with h | h
        · exact n2 p hp p (hG p h) rfl
        · exact h (List.mem_append_left _ hp)
    · rcases List.mem_append.1 hk with h | h
      · exact .inl (List.mem_append_left _ h)
      · exact (hFF k h).imp (fun h => List.mem_append_right _ h) id
section
variable {α β : Type} {d : Ty α} {i : Nat} {b : Ty β} {get : α → β} {put : α → β → α} {e : TypeId} {w : World} {F : List Nat} {A : Option Addr} {n cp : Nat} {xs : List α}
theorem Own.fstore (L : Fld d i b get put) (hb : ∀ w G x cs, b.M w G x cs → G = []) (h : Own d e w F (.slice A n cp) xs) {j : Nat} (hj : j < xs.length) :
    ∃ g v, A = some ⟨g, 0, none⟩ ∧ g ∈ F ∧ w.cell? ⟨g, j * d.sz + i, none⟩ = some v ∧ b.K w (fun _ => True) (get xs[j]) [v] ∧ w.frozen? ⟨g, j * d.sz + i, none⟩ = false ∧
      ∀ v' y, (∀ w, b.M w [] y [v']) → ∃ F', Own d e (w.setCell ⟨g, j * d.sz + i, none⟩ v') F' (.slice A n cp) (xs.set j (put xs[j] y)) ∧ ∀ k, k ∈ F' → k ∈ F := by
  obtain ⟨g, cs, f, rfl, hgF, hgf, hfF, hM, hcl, hc, hz, hst⟩ := h.elem hj
  obtain ⟨v, G, hv, hMv, hG, hp⟩ := L.M hM
  obtain rfl := hb _ _ _ _ hMv
  refine ⟨g, v, rfl, hgF, by rw [hc i L.lt, hv], b.K_mod (b.M_K hMv) (fun _ _ => trivial) (fun _ _ => rfl), hz _, fun v' y hM' => ?_⟩
  obtain ⟨f', hf', hff⟩ := hp (w.setCell ⟨g, j * d.sz + i, none⟩ v') v' y [] (fun k hk _ => Below.heap_setCell _ _ _ _ (fun e => hgf ((show k = g from e) ▸ hk))) (hM' _) (by simp)
  obtain ⟨F', ho, _, hF'⟩ := hst i v' _ f' L.lt hf' (fun k hk => .inl ((hff k hk).elim id (by simp)))
  exact ⟨F', ho, fun k hk => (hF' k hk).elim id fun h => hfF k ((hff k h).elim id (by simp))⟩
theorem Own.cellsAt (h : Own d e w F (.slice A n cp) xs) {j : Nat} (hj : j < xs.length) : ∃ g, A = some ⟨g, 0, none⟩ ∧ g ∈ F ∧ (∀ i, i < d.sz → ∃ v, w.cell? ⟨g, j * d.sz + i, none⟩ = some v) ∧ ∀ i, w.frozen? ⟨g, i, none⟩ = false := by
  obtain ⟨g, cs, f, rfl, hgF, hgf, hfF, hM, hcl, hc, hz, hst⟩ := h.elem hj
  exact ⟨g, rfl, hgF, fun i hi => ⟨cs[i]'(by omega), by rw [hc i hi]; exact List.getElem?_eq_getElem _⟩, hz⟩
theorem Own.fstoreAt (L : Fld d i b get put) (hb : ∀ w G x cs, b.M w G x cs → G = []) {ys : List α} {j : Nat} {x : α} (hj : j < ys.length) {g : Nat} (h : Own d e w F (.slice (some ⟨g, 0, none⟩) n cp) (ys.set j x)) :
    g ∈ F ∧ ∀ v' y, (∀ w, b.M w [] y [v']) → ∃ F', Own d e (w.setCell ⟨g, j * d.sz + i, none⟩ v') F' (.slice (some ⟨g, 0, none⟩) n cp) (ys.set j (put x y)) ∧ ∀ k, k ∈ F' → k ∈ F := by
  obtain ⟨g', v, hA, hgF, hc, hK, hf, hst⟩ := h.fstore L hb (j := j) (by rw [List.length_set]; exact hj)
  injection hA with hA
  injection hA with hA
  subst hA
  refine ⟨hgF, fun v' y hM => ?_⟩
  obtain ⟨F', ho, hF'⟩ := hst v' y hM
  rw [List.set_set, List.getElem_set_self] at ho
  exact ⟨F', ho, hF'⟩
theorem OwF.one (h : b.sz = 1) {w : World} {G : List Nat} {v : Value} {y : β} (ho : OwF false b w G v y) : b.M w G y [v] := by
  obtain ⟨cs, rfl, hM⟩ := ho
  have := b.K_len (b.M_K hM)
  match cs, (this.trans h) with
  | [u], _ => exact hM
theorem Fld.lead {v : Value} {x : α} (L : Fld d i b get put) (h : OwF true d w F v x) :
    ∃ (cs : List Value) (vi : Value) (G : List Nat), v = .agg cs.toArray ∧ cs[i]? = some vi ∧ OwF false b w G vi (get x) ∧ (∀ k, k ∈ G → k ∈ F) ∧
      ∀ w' y G', Mod (· ∈ G) w w' → OwF false b w' G' vi y → (∀ k, k ∈ G' → k ∈ G) → ∃ F', OwF true d w' F' v (put x y) ∧ ∀ k, k ∈ F' → k ∈ F := by
  obtain ⟨cs, rfl, hM⟩ := h
  obtain ⟨v, G, hv, hMv, hG, hp⟩ := L.M hM
  refine ⟨cs, v, G, rfl, hv, ⟨[v], ?_, hMv⟩, hG, fun w' y G' hm ho' hG' => ?_⟩
  · rfl
  obtain ⟨f', hf', hff⟩ := hp w' v y G' (fun k hk hkG => hm.block k (d.M_lt hM k hk) hkG) (OwF.one L.sz1 ho') (fun k hk => .inl (hG' k hk))
  have hcs : cs.set i v = cs := by
    have := List.getElem?_eq_some_iff.1 hv
    rw [← this.2]; exact List.set_getElem_self _
  rw [hcs] at hf'
  exact ⟨f', ⟨cs, rfl, hf'⟩, fun k hk => (hff k hk).elim id fun h => hG k (hG' k h)⟩
theorem Fld.lead1 {l : List Value} {vi : Value} {x : α} (L : Fld d i b get put) (hi : l[i]? = some vi) (h : OwF true d w F (.agg l.toArray) x) :
    ∃ G, OwF false b w G vi (get x) ∧ (∀ k, k ∈ G → k ∈ F) ∧
      ∀ w' y G', Mod (· ∈ G) w w' → OwF false b w' G' vi y → (∀ k, k ∈ G' → k ∈ G) → ∃ F', OwF true d w' F' (.agg l.toArray) (put x y) ∧ ∀ k, k ∈ F' → k ∈ F := by
  obtain ⟨cs, v, G, hv, hvi, ho, hG, hst⟩ := L.lead h
  injection hv with hv
  have : l = cs := by simpa using hv
  subst this
  obtain rfl : vi = v := Option.some.inj (hi.symm.trans hvi)
  exact ⟨G, ho, hG, hst⟩
theorem OwF.rd {str : Bool} {v : Value} {x : α} (h : OwF str d w F v x) : RdV str d w v x := by
  obtain ⟨cs, rfl, hM⟩ := h
  exact ⟨cs, rfl, d.K_mod (d.M_K hM) (fun k hk => d.M_lt hM k hk) (fun _ _ => rfl)⟩
theorem OwF.lt {str : Bool} {v : Value} {x : α} (h : OwF str d w F v x) : ∀ k, k ∈ F → k < w.heap.size := by
  obtain ⟨cs, rfl, hM⟩ := h
  exact d.M_lt hM
theorem OwF.mv {str : Bool} {v : Value} {x : α} {w' : World} (h : OwF str d w F v x) (hb : ∀ k, k ∈ F → w'.heap[k]? = w.heap[k]?) : OwF str d w' F v x := by
  obtain ⟨cs, rfl, hM⟩ := h
  exact ⟨cs, rfl, d.M_mod hM hb⟩
theorem load_struct {P : Program} (w : World) (ad : Addr) (ty : TypeId) (cs : List Value) (t : TypeDesc) (hu : P.underlying ty = some t) (ht : (match t with | .struct _ | .array _ _ => true | _ => false) = true) (hi : (P.info? ty).map (·.size) = some cs.length)
    (h : ∀ j v, cs[j]? = some v → w.cell? (ad.add j) = some v) : (Instr.loadAt ty (.pointer (some ad))).run P w = .ok (.agg cs.toArray) w := by
  have hl := run_loadCells_list (P := P) w ad cs h
  cases hq : P.info? ty with
  | none => simp [hq] at hi
  | some i =>
    have hs : i.size = cs.length := by simpa [hq] using hi
    have hagg : (isAgg ty).run P w = .ok true w := by
      unfold isAgg
      rw [Sem.run_bind, run_underlying hu w]
      cases t <;> simp_all
    simp [Instr.loadAt, Instr.sureAddr, loadVar, Sem.run_bind, hagg, sizeOf, typeInfo, hq, hs, hl]
theorem Row.elem {P : Program} {B : Nat → Prop} (h : Row d w B A n xs) {k : Nat} (hk : k < xs.length) (ty : TypeId) {t : TypeDesc} (hu : P.underlying ty = some t) (ht : (match t with | .struct _ | .array _ _ => true | _ => false) = true) (hi : (P.info? ty).map (·.size) = some d.sz) :
    ∃ ad v, A = some ad ∧ ∀ w', (∀ i, B i → w'.heap[i]? = w.heap[i]?) → (∀ i, B i → i < w'.heap.size) → (Instr.loadAt ty (.pointer (some (ad.add (k * d.sz))))).run P w' = .ok v w' ∧ RdV true d w' v xs[k] := by
  obtain ⟨ad, cs, hlt, rfl, hB, hK, hc⟩ := h.at_ (k := k) (by rw [← h.1]; exact hk)
  refine ⟨ad, .agg cs.toArray, rfl, fun w' hb hl => ⟨load_struct w' _ ty cs t hu ht (by rw [d.K_len hK]; exact hi) fun j v hj => ?_, cs, rfl, d.K_mod hK (fun k hk => hl k hk) (fun k hk => hb k hk)⟩⟩
  have := hc j v hj
  rw [← this, add_add]
  refine World.cell?_of_block ?_
  rw [add_block]
  exact hb _ hB
theorem Row.field (L : Fld d i b get put) {B : Nat → Prop} (h : Row d w B A n xs) {w' : World} (hb : ∀ k, B k → w'.heap[k]? = w.heap[k]?) {j : Nat} (hj : j < xs.length) :
    ∃ ad v, A = some ad ∧ (match i with | 0 => w'.cell? (ad.add (j * d.sz)) | m + 1 => w'.cell? ⟨(ad.add (j * d.sz)).block, (ad.add (j * d.sz)).off + (m + 1), none⟩) = some v ∧ b.K w' B (get xs[j]) [v] := by
  obtain ⟨ad, cs, rfl, hK, h0, h1⟩ := h.cells_at hb hj
  obtain ⟨v, hv, hKv⟩ := L.K hK
  refine ⟨ad, v, rfl, ?_, b.K_mod hKv (fun _ h => h) hb⟩
  cases i with
  | zero => exact h0 _ hv
  | succ m => exact h1 m _ hv
end
theorem not_r {P : Program} (b : Bool) (w : World) : (Op.unary .not (.bool b)).run P w = .ok (.bool (!b)) w := by
  go_simp
theorem set_len {α : Type} (l : List α) (i : Nat) (x : α) : (l.set i x).length = l.length := List.length_set
end Go.Proofs.YtiaknomadhgckaaDoor.Mem

namespace Go.Proofs.YtiaknomadhgckaaDoor
section
variable {α : Type}
def preS (cnt : α → Nat) (xs : List α) (i : Nat) : Nat := ((xs.take i).map cnt).sum
def markL (mk : Nat → α → α) (cnt : α → Nat) (k : Nat) (xs : List α) : List α := xs.mapIdx fun i x => mk (k + preS cnt xs i) x
theorem preS_zero (cnt : α → Nat) (xs : List α) : preS cnt xs 0 = 0 := by simp [preS]
theorem preS_succ (cnt : α → Nat) (xs : List α) {i : Nat} (h : i < xs.length) : preS cnt xs (i + 1) = preS cnt xs i + cnt xs[i] := by
  unfold preS
  rw [List.take_succ_eq_append_getElem h, List.map_append, List.sum_append]
  simp
theorem preS_mono (cnt : α → Nat) (xs : List α) : ∀ {i j : Nat}, i ≤ j → preS cnt xs i ≤ preS cnt xs j := by
  intro i j hij
  unfold preS
  have : xs.take j = xs.take i ++ (xs.drop i).take (j - i) := by
    rw [← List.take_append_drop i (xs.take j), List.take_take, Nat.min_eq_left hij, List.drop_take]
  rw [this, List.map_append, List.sum_append]; omega
theorem preS_le (cnt : α → Nat) (xs : List α) (i : Nat) : preS cnt xs i ≤ preS cnt xs xs.length := by
  rcases Nat.le_total i xs.length with h | h
  · exact preS_mono cnt xs h
  · unfold preS; rw [List.take_of_length_le h, List.take_length]; omega
theorem markL_len (mk : Nat → α → α) (cnt : α → Nat) (k : Nat) (xs : List α) : (markL mk cnt k xs).length = xs.length := by simp [markL]
theorem markL_at (mk : Nat → α → α) (cnt : α → Nat) (k : Nat) (xs : List α) {i : Nat} (h : i < (markL mk cnt k xs).length) : (markL mk cnt k xs)[i] = mk (k + preS cnt xs i) (xs[i]'(by simpa [markL] using h)) := by simp [markL]
theorem take_drop_set {zs xs : List α} (hl : zs.length = xs.length) {j : Nat} (h : j < xs.length) : (zs.take j ++ xs.drop j).set j (zs[j]'(by omega)) = zs.take (j + 1) ++ xs.drop (j + 1) := by
  rw [List.set_append_right _ _ (by rw [List.length_take]; omega), List.length_take, Nat.min_eq_left (by omega), Nat.sub_self, List.drop_eq_getElem_cons h, List.set_cons_zero, List.take_succ_eq_append_getElem (show j < zs.length by omega), List.append_assoc]
  rfl
theorem take_drop_at {zs xs : List α} (hl : zs.length = xs.length) {j : Nat} (h : j < xs.length) (h' : j < (zs.take j ++ xs.drop j).length) : (zs.take j ++ xs.drop j)[j] = xs[j] := by
  rw [List.getElem_append_right (by rw [List.length_take]; omega)]
  simp [List.length_take, Nat.min_eq_left (show j ≤ zs.length by omega)]
theorem take_drop_len {zs xs : List α} (hl : zs.length = xs.length) (j : Nat) : (zs.take j ++ xs.drop j).length = xs.length := by
  rw [List.length_append, List.length_take, List.length_drop]; omega
theorem preS_mark (mk : Nat → α → α) (cnt : α → Nat) (hc : ∀ k x, cnt (mk k x) = cnt x) (k : Nat) (xs : List α) (i : Nat) : preS cnt (markL mk cnt k xs) i = preS cnt xs i := by
  unfold preS
  congr 1
  apply List.ext_getElem (by simp [markL])
  intro j h1 h2
  simp [markL, hc]
theorem markL_idem (mk : Nat → α → α) (cnt : α → Nat) (hc : ∀ k x, cnt (mk k x) = cnt x) (hm : ∀ k k' x, mk k' (mk k x) = mk k' x) (k k' : Nat) (xs : List α) : markL mk cnt k' (markL mk cnt k xs) = markL mk cnt k' xs := by
  apply List.ext_getElem (by simp [markL])
  intro j h1 h2
  rw [markL_at, markL_at, markL_at, preS_mark mk cnt hc, hm]
end
end Go.Proofs.YtiaknomadhgckaaDoor

namespace Go.Proofs.YtiaknomadhgckaaDoor
open Go.RowKit Mem
set_option linter.unusedVariables false
set_option linter.unusedSimpArgs false
abbrev PairT := Int × Int
abbrev dPair : Ty PairT := Ty.pair (Ty.int .u32) (Ty.int .u32)
theorem rdPair {w : World} {v : Value} {x : PairT} (h : RdV true dPair w v x) : v = .agg #[.int .u32 x.1, .int .u32 x.2] := by
  obtain ⟨cs, rfl, c0, c1, rfl, h0, h1⟩ := h
  obtain ⟨rfl, g0⟩ := h0
  obtain ⟨rfl, g1⟩ := h1
  rfl
theorem fldPair0 : Fld dPair 0 (Ty.int .u32) (fun x => x.1) (fun x y => (y, x.2)) := (Fld.fst (Fld.one rfl))
theorem fldPair1 : Fld dPair 1 (Ty.int .u32) (fun x => x.2) (fun x y => (x.1, y)) := (Fld.snd (Fld.one rfl) rfl)
theorem eltPair : Elt Tryd.prog 119 dPair.sz (.agg #[.int .u32 0, .int .u32 0]) := Elt.of (b := 8) (by kernel_rfl) rfl (by decide) (by decide)
theorem flatPair : Flat dPair := by
  rintro w B x cs ⟨c0, c1, rfl, h0, h1⟩
  exact ⟨_, _, [], [], rfl, rfl, List.nodup_nil, ⟨rfl, h0⟩, ⟨rfl, h1⟩⟩
theorem rowPair (w : World) {x : PairT} (g0 : IntKind.u32.wrap x.1 = x.1) (g1 : IntKind.u32.wrap x.2 = x.2) : Row dPair (w.alloc (.cells #[.int .u32 x.1, .int .u32 x.2] 119)) (· = w.heap.size) (some ⟨w.heap.size, 0, none⟩) 1 [x] := by
  refine ⟨rfl, by omega, fun _ => ⟨_, rfl, rfl, fun j y hj => ?_⟩⟩
  have hj0 : j = 0 := by have := (List.getElem?_eq_some_iff.1 hj).1; simp at this; exact this
  subst hj0
  obtain rfl : y = x := by simpa using hj.symm
  refine ⟨[.int .u32 y.1, .int .u32 y.2], ⟨_, _, rfl, ⟨rfl, g0⟩, ⟨rfl, g1⟩⟩, fun i u hu => ?_⟩
  rw [Nat.zero_mul, Nat.zero_add, add_own, cell_of_row _ _ i _ _ (0, 0) (heap_alloc_new w _)]
  simpa using hu
set_option maxHeartbeats 1000000 in
set_option maxRecDepth 100000 in
theorem eqPair_v {w : World} {v v' : Value} {x x' : PairT} (h : RdV true dPair w v x) (h' : RdV true dPair w v' x') : Calls Tryd.prog 77 #[v, v'] w (Ret (.bool (decide (x = x'))) w) := by
  obtain rfl := rdPair h
  obtain rfl := rdPair h'
  obtain ⟨a0, a1⟩ := x
  obtain ⟨b0, b1⟩ := x'
  simp only at ⊢
  have HB0 := Sec.mk ((Blk.new w 119 [.int .u32 a0, .int .u32 a1]).alloc (.cells #[.int .u32 b0, .int .u32 b1] 119))
  have HB1 := Sec.mk (Blk.new (w.alloc (.cells #[.int .u32 a0, .int .u32 a1] 119)) 119 [.int .u32 b0, .int .u32 b1])
  rw [show (w.alloc (.cells #[.int .u32 a0, .int .u32 a1] 119)).heap.size = w.heap.size + 1 by simp] at HB1
  have HM0 := Sec.mk (((Mod.refl (fun _ => False) w).alloc (.cells #[.int .u32 a0, .int .u32 a1] 119)).alloc (.cells #[.int .u32 b0, .int .u32 b1] 119))
  clear h h' 
  by_cases e0 : a0 = b0
  rotate_left
  · have HE : Sec (decide ((a0, a1) = (b0, b1)) = false) := ⟨by simp [e0]⟩
    have hb0 : (a0 != b0) = true := by simpa using e0
    clear e0
    go_enter Tryd.func77, Tryd.ntmps77
    go_wp2
    go_ret
    exact ⟨by rw [HE.out]; rfl, HM0.out⟩
  have hb0 : (a0 != b0) = false := by simp [e0]
  have S0 := Sec.mk e0
  clear e0
  by_cases e1 : a1 = b1
  rotate_left
  · have HE : Sec (decide ((a0, a1) = (b0, b1)) = false) := ⟨by simp [e1]⟩
    have hb1 : (a1 != b1) = true := by simpa using e1
    clear e1
    go_enter Tryd.func77, Tryd.ntmps77
    go_wp2
    go_ret
    exact ⟨by rw [HE.out]; rfl, HM0.out⟩
  have hb1 : (a1 != b1) = false := by simp [e1]
  have S1 := Sec.mk e1
  clear e1
  have HE : Sec (decide ((a0, a1) = (b0, b1)) = true) := ⟨by simp [S0.out, S1.out]⟩
  go_enter Tryd.func77, Tryd.ntmps77
  go_wp2
  go_ret
  exact ⟨by rw [HE.out]; rfl, HM0.out⟩
def mkPair1 (k : Nat) (x : PairT) : PairT := ((((k : Nat) : Int)) % 4294967296, (((k : Nat) : Int) + 1) % 4294967296)
def cntPair (x : PairT) : Nat := 1 + 1
theorem cntPair_mk (k : Nat) (x : PairT) : cntPair (mkPair1 k x) = cntPair x := rfl
theorem mkPair1_idem (k k' : Nat) (x : PairT) : mkPair1 k' (mkPair1 k x) = mkPair1 k' x := rfl
abbrev PairST := List PairT
abbrev dPairS : Ty PairST := Ty.slice 119 dPair
def cntPairS (xs : PairST) : Nat := preS cntPair xs xs.length
def mkPairS1 (k : Nat) (xs : PairST) : PairST := markL mkPair1 cntPair k xs
theorem cntPairS_mk (k : Nat) (xs : PairST) : cntPairS (mkPairS1 k xs) = cntPairS xs := by unfold cntPairS mkPairS1; rw [preS_mark _ _ cntPair_mk, markL_len]
theorem mkPairS1_idem (k k' : Nat) (xs : PairST) : mkPairS1 k' (mkPairS1 k xs) = mkPairS1 k' xs := markL_idem _ _ cntPair_mk mkPair1_idem k k' xs
theorem idxPairS (ad : Addr) (m c k : Nat) (h : k < m) (w : World) : (Instr.indexAt 36 (.slice (some ad) m c) (.int .i64 (k : Int))).run Tryd.prog w = .ok (.pointer (some (ad.add (k * 2)))) w := by
  have h0 : (0 : Int) ≤ (k : Int) := by omega
  have h1 : (k : Int) < (m : Int) := by omega
  go_simp
set_option maxHeartbeats 1000000 in
set_option maxRecDepth 100000 in
theorem eqPairS_v {w : World} {v v' : Value} {xs ys : PairST} (h : RdV false dPairS w v xs) (h' : RdV false dPairS w v' ys) : Calls Tryd.prog 46 #[v, v'] w (Ret (.bool (decide (xs = ys))) w) := by
  obtain ⟨A, c, rfl, -, hr⟩ := h.slice
  obtain ⟨A', c', rfl, -, hr'⟩ := h'.slice
  have hl := hr.2.1
  have HR := Sec.mk hr
  have HR' := Sec.mk hr'
  clear h h' hr hr'
  by_cases hne : xs.length = ys.length
  rotate_left
  · have hnb : ((xs.length : Int) != (ys.length : Int)) = true := by simp; omega
    have HE : Sec (decide (xs = ys) = false) := ⟨by simp [show xs ≠ ys from fun e => hne (by rw [e])]⟩
    clear hne
    go_enter Tryd.func46, Tryd.ntmps46
    go_wp2
    go_ret
    exact ⟨by rw [HE.out]; rfl, Mod.refl _ _⟩
  have hnb : ((xs.length : Int) != (ys.length : Int)) = false := by simp [hne]
  have HNE := Sec.mk hne
  clear hne
  go_enter Tryd.func46, Tryd.ntmps46
  go_wp2
  go_loopw [5] (fun i wr => ∃ k : Nat, k ≤ xs.length ∧ i = .int .i64 k ∧ Sec (xs.take k = ys.take k) ∧ Sec (New w wr)) (fun i _ => xs.length - (intOf i).toNat)
  case atStart => exact ⟨0, Nat.zero_le _, rfl, Sec.mk (by simp), Sec.mk (Mod.refl _ _)⟩
  case round =>
    obtain ⟨k, hk, rfl, HT, HM⟩ := hrel
    by_cases hlt : k < xs.length
    · have hlt2 : k < ys.length := by rw [← HNE.out]; exact hlt
      obtain ⟨ad, vx, rfl, hx⟩ := HR.out.elem (P := Tryd.prog) hlt 119 Tryd.underlying119 rfl (by kernel_rfl)
      obtain ⟨ad', vy, rfl, hy⟩ := HR'.out.elem (P := Tryd.prog) hlt2 119 Tryd.underlying119 rfl (by kernel_rfl)
      have HX : Sec (∀ W, New wr W → (Instr.loadAt 119 (.pointer (some (ad.add (k * 2))))).run Tryd.prog W = .ok vx W ∧ RdV true dPair W vx xs[k]) := ⟨fun W hW => hx W (fun i hi => (hW.block i (Nat.lt_of_lt_of_le hi HM.out.size) id).trans (HM.out.block i hi id)) (fun i hi => Nat.lt_of_lt_of_le hi (Nat.le_trans HM.out.size hW.size))⟩
      have HY : Sec (∀ W, New wr W → (Instr.loadAt 119 (.pointer (some (ad'.add (k * 2))))).run Tryd.prog W = .ok vy W ∧ RdV true dPair W vy (ys[k]'hlt2)) := ⟨fun W hW => hy W (fun i hi => (hW.block i (Nat.lt_of_lt_of_le hi HM.out.size) id).trans (HM.out.block i hi id)) (fun i hi => Nat.lt_of_lt_of_le hi (Nat.le_trans HM.out.size hW.size))⟩
      have HXY : Sec (xs[k] = ys[k]'hlt2 → xs.take (k + 1) = ys.take (k + 1)) := ⟨fun h => by rw [List.take_succ_eq_append_getElem hlt, List.take_succ_eq_append_getElem hlt2, HT.out, h]⟩
      have HNQ : Sec (xs[k] ≠ ys[k]'hlt2 → decide (xs = ys) = false) := ⟨fun h => by simp only [decide_eq_false_iff_not]; intro e; exact h (by subst e; rfl)⟩
      clear hx hy HT
      generalize xs[k] = x at *
      generalize ys[k]'hlt2 = y at *
      have hki : (k : Int) < (xs.length : Int) := by omega
      have hkj : (k : Int) < (ys.length : Int) := by omega
      go_wp2
      refine reg_start [] (fun W => Sec (New wr W)) (by kernel_rfl) ?_
      have HSS : Sec (New wr wr.drew) := ⟨(Mod.refl _ _).drew⟩
      refine reg_take (.slice (some ad) xs.length c) (i := 0) (n := 17) HSS rfl (by kernel_rfl) (by kernel_rfl) (by kernel_rfl) (by kernel_rfl) (fun _ _ _ h => h) (fun W hW => exec_move rfl rfl) ?_
      simp only [Act.put, List.setIfInBounds_toArray, List.set_cons_zero, List.set_cons_succ]
      refine reg_take (.int .i64 (k : Int)) (i := 1) (n := 18) HSS rfl (by kernel_rfl) (by kernel_rfl) (by kernel_rfl) (by kernel_rfl) (fun _ _ _ h => h) (fun W hW => exec_move rfl rfl) ?_
      simp only [Act.put, List.setIfInBounds_toArray, List.set_cons_zero, List.set_cons_succ]
      refine reg_take (.pointer (some (ad.add (k * 2)))) (i := 2) (n := 19) HSS rfl (by kernel_rfl) (by kernel_rfl) (by kernel_rfl) (by kernel_rfl) (fun _ _ _ h => h) (fun W hW => exec_indexAddr rfl rfl rfl (idxPairS _ _ _ _ hlt _)) ?_
      simp only [Act.put, List.setIfInBounds_toArray, List.set_cons_zero, List.set_cons_succ]
      refine reg_take (vx) (i := 3) (n := 20) HSS rfl (by kernel_rfl) (by kernel_rfl) (by kernel_rfl) (by kernel_rfl) (fun _ _ _ h => h) (fun W hW => exec_load rfl rfl (HX.out W hW.out).1) ?_
      simp only [Act.put, List.setIfInBounds_toArray, List.set_cons_zero, List.set_cons_succ]
      refine reg_take (.slice (some ad') ys.length c') (i := 4) (n := 21) HSS rfl (by kernel_rfl) (by kernel_rfl) (by kernel_rfl) (by kernel_rfl) (fun _ _ _ h => h) (fun W hW => exec_move rfl rfl) ?_
      simp only [Act.put, List.setIfInBounds_toArray, List.set_cons_zero, List.set_cons_succ]
      refine reg_take (.int .i64 (k : Int)) (i := 5) (n := 22) HSS rfl (by kernel_rfl) (by kernel_rfl) (by kernel_rfl) (by kernel_rfl) (fun _ _ _ h => h) (fun W hW => exec_move rfl rfl) ?_
      simp only [Act.put, List.setIfInBounds_toArray, List.set_cons_zero, List.set_cons_succ]
      refine reg_take (.pointer (some (ad'.add (k * 2)))) (i := 6) (n := 23) HSS rfl (by kernel_rfl) (by kernel_rfl) (by kernel_rfl) (by kernel_rfl) (fun _ _ _ h => h) (fun W hW => exec_indexAddr rfl rfl rfl (idxPairS _ _ _ _ hlt2 _)) ?_
      simp only [Act.put, List.setIfInBounds_toArray, List.set_cons_zero, List.set_cons_succ]
      refine reg_take (vy) (i := 7) (n := 24) HSS rfl (by kernel_rfl) (by kernel_rfl) (by kernel_rfl) (by kernel_rfl) (fun _ _ _ h => h) (fun W hW => exec_load rfl rfl (HY.out W hW.out).1) ?_
      simp only [Act.put, List.setIfInBounds_toArray, List.set_cons_zero, List.set_cons_succ]
      refine reg_step (i := 8) rfl (by kernel_rfl) (fun K hK => ?_)
      refine wp_call (n := 25) (vals := [vx, vy]) rfl rfl rfl (by kernel_rfl) (eqPair_v (HX.out _ HSS.out).2 (HY.out _ HSS.out).2) ?_
      rintro e w1 ⟨rfl, hm1⟩
      have HS1 : Sec (New wr w1) := ⟨HSS.out.transN hm1⟩
      refine ⟨_, rfl, hK.out _ _ (fun _ => HS1) ?_⟩
      clear hK K hm1
      simp only [Act.put, List.setIfInBounds_toArray, List.set_cons_zero, List.set_cons_succ]
      refine reg_step (i := 9) rfl (by kernel_rfl) (fun K hK => ?_)
      refine wp_val (n := 26) (v := .bool (!decide (x = y))) (exec_un rfl rfl (Mem.not_r _ _)) rfl (hK.out _ _ (fun _ => HS1) ?_)
      clear hK K
      simp only [Act.put, List.setIfInBounds_toArray, List.set_cons_zero, List.set_cons_succ]
      refine reg_done (by kernel_rfl) ?_ _
      have HM' := Sec.mk (HM.out.transN HS1.out)
      by_cases hxy : x = y
      · have HT' := Sec.mk (HXY.out hxy)
        have hd : decide (x = y) = true := by simp [hxy]
        clear hxy HXY HNQ HX HY
        rw [hd]
        go_wp2
        go_roundw
        case rel => exact ⟨k + 1, by omega, by go_num, HT', HM'⟩
        case measure => simp [intOf]; omega
      · have HE := Sec.mk (HNQ.out hxy)
        have hd : decide (x = y) = false := by simp [hxy]
        clear hxy HXY HNQ HX HY
        rw [hd]
        go_wp2
        go_ret
        exact ⟨by rw [HE.out]; rfl, HM'.out⟩
    · have HE : Sec (decide (xs = ys) = true) := ⟨by
        have h1 := HT.out
        rw [List.take_of_length_le (by omega), List.take_of_length_le (by rw [← HNE.out]; omega)] at h1
        simp [h1]⟩
      go_wp2
      go_ret
      exact ⟨by rw [HE.out]; rfl, HM.out⟩
set_option maxHeartbeats 1000000 in
set_option maxRecDepth 100000 in
theorem markPairS_calls {A : Option Addr} {c : Nat} {xs : PairST} {F : List Nat} {w : World} (h : Own dPair 119 w F (.slice A xs.length c) xs) (k : Nat) (hk : k + cntPairS xs ≤ 1152921504606846976) :
    Calls Tryd.prog 49 #[.slice A xs.length c, .int .i64 k] w fun e w' => e = .returned (.int .i64 ((k + cntPairS xs : Nat) : Int)) ∧ ∃ F', Own dPair 119 w' F' (.slice A xs.length c) (mkPairS1 k xs) ∧ (∀ i, i ∈ F' → i ∈ F) ∧ Mod (· ∈ F) w w' := by
  have hlx := h.len_le
  have HO := Sec.mk h
  have HKK : Sec (cntPairS xs = preS cntPair xs xs.length) := ⟨rfl⟩
  rw [HKK.out] at hk ⊢
  clear h
  go_enter Tryd.func49, Tryd.ntmps49
  go_wp2
  go_loopw [1, 5] (fun q i wr => ∃ (j : Nat) (ys : PairST) (G : List Nat), j ≤ xs.length ∧ i = .int .i64 j ∧ q = .int .i64 ((k + preS cntPair xs j : Nat) : Int) ∧ Sec (ys = (mkPairS1 k xs).take j ++ xs.drop j) ∧ Sec (Own dPair 119 wr G (.slice A xs.length c) ys) ∧ Sec (∀ k, k ∈ G → k ∈ F) ∧ Sec (Mod (· ∈ F) w wr)) (fun _ i _ => xs.length - (intOf i).toNat)
  case atStart => exact ⟨0, xs, F, Nat.zero_le _, rfl, by rw [preS_zero]; rfl, ⟨by simp⟩, HO, ⟨fun _ h => h⟩, ⟨Mod.refl _ _⟩⟩
  case round =>
    obtain ⟨j, ys, G, hj, rfl, rfl, HY, HO, HF, HM⟩ := hrel
    by_cases hlt : j < xs.length
    · have hyl : ys.length = xs.length := by rw [HY.out]; exact take_drop_len (markL_len _ _ k xs) j
      have hjy : j < ys.length := by omega
      have hyj : ys[j] = xs[j] := by simp only [HY.out]; exact take_drop_at (markL_len _ _ k xs) hlt _
      have hks := preS_succ cntPair xs hlt
      have hkl := preS_le cntPair xs (j + 1)
      have HZ := Sec.mk (markL_at mkPair1 cntPair k xs (i := j) (by rw [markL_len]; exact hlt))
      have HTD : Sec (ys.set j (mkPair1 (k + preS cntPair xs j) xs[j]) = (mkPairS1 k xs).take (j + 1) ++ xs.drop (j + 1)) := ⟨by rw [← HZ.out, HY.out]; exact take_drop_set (markL_len _ _ k xs) hlt⟩
      have HX : Sec (Own dPair 119 wr G (.slice A xs.length c) (ys.set j xs[j])) := ⟨by rw [← hyj, List.set_getElem_self]; exact HO.out⟩
      obtain ⟨g, rfl, hgG, -, -⟩ := HO.out.cellsAt hjy
      have HgF := Sec.mk (HF.out g hgG)
      have HKS := Sec.mk hks
      have hkb : preS cntPair xs j + cntPair xs[j] ≤ preS cntPair xs xs.length := by omega
      clear hks hkl hyj HZ HO hgG
      have HCN : Sec (cntPair xs[j] = 1 + 1) := ⟨rfl⟩
      have hcn := HCN.out
      generalize hps : preS cntPair xs j = s at *
      generalize hxj : xs[j] = x at *
      have HJ := Sec.mk hjy
      obtain ⟨_, hA0, -, hcell0, hfz0⟩ := HX.out.cellsAt (j := j) (by rw [List.length_set]; exact hjy)
      injection hA0 with hA0
      injection hA0 with hA0
      subst hA0
      simp only [show dPair.sz = 2 from rfl] at hcell0
      obtain ⟨p0, hc0⟩ := hcell0 0 (by decide)
      have hf0 := hfz0 (j * 2 + 0)
      simp only [Nat.add_zero] at hc0 hf0
      obtain ⟨p1, hc1⟩ := hcell0 1 (by decide)
      have hf1 := hfz0 (j * 2 + 1)
      clear hcell0 hfz0
      obtain ⟨hgg, hst⟩ := Own.fstoreAt fldPair0 (fun _ _ _ _ h => h.1) HJ.out HX.out
      obtain ⟨G0, ho, hG0⟩ := hst (.int .u32 (((k : Int) + (s : Int)) % 4294967296)) (((k : Int) + (s : Int)) % 4294967296) (fun _ => ⟨rfl, rfl, by rw [IntKind.wrap_u32]; omega⟩)
      simp only [show dPair.sz = 2 from rfl, Nat.add_zero] at ho
      have HX0 := Sec.mk ho
      have HF0 := Sec.mk (fun i hi => HF.out i (hG0 i hi))
      have HM0 := Sec.mk (HM.out.setCell (p := ⟨g, j * 2, none⟩) (fun _ => HgF.out) (.int .u32 (((k : Int) + (s : Int)) % 4294967296)))
      clear hgg hst ho hG0
      obtain ⟨hgg, hst⟩ := Own.fstoreAt fldPair1 (fun _ _ _ _ h => h.1) HJ.out HX0.out
      obtain ⟨G1, ho, hG1⟩ := hst (.int .u32 (((k : Int) + (s : Int) + 1) % 4294967296)) (((k : Int) + (s : Int) + 1) % 4294967296) (fun _ => ⟨rfl, rfl, by rw [IntKind.wrap_u32]; omega⟩)
      simp only [show dPair.sz = 2 from rfl] at ho
      have HX1 := Sec.mk ho
      have HF1 := Sec.mk (fun i hi => HF0.out i (hG1 i hi))
      have HM1 := Sec.mk (HM0.out.setCell (p := ⟨g, j * 2 + 1, none⟩) (fun _ => HgF.out) (.int .u32 (((k : Int) + (s : Int) + 1) % 4294967296)))
      clear hgg hst ho hG1
      have HEQ : Sec (mkPair1 (k + s) x = ((((k : Int) + (s : Int)) % 4294967296), (((k : Int) + (s : Int) + 1) % 4294967296))) := ⟨by skip; simp only [mkPair1, Int.natCast_add]⟩
      rw [HEQ.out] at HTD
      go_wp2
      go_roundw
      case rel => exact ⟨j + 1, _, G1, by omega, by go_num, by rw [HKS.out, HCN.out]; congr 1; try (omega), HTD, HX1, HF1, HM1⟩
      case measure => simp [intOf]; omega
    · obtain rfl : j = xs.length := by omega
      go_wp2
      go_ret
      have he : ys = mkPairS1 k xs := by
        rw [HY.out, List.take_of_length_le (by unfold mkPairS1; rw [markL_len]; exact Nat.le_refl _)]; simp
      subst he
      exact ⟨by simp, G, HO.out, HF.out, HM.out⟩
theorem markPairS_f {w : World} {F : List Nat} {v : Value} {x : PairST} (h : OwF false dPairS w F v x) (k : Nat) (hk : k + cntPairS x ≤ 1152921504606846976) :
    Calls Tryd.prog 49 #[v, .int .i64 k] w (Marks false dPairS w F v (k + cntPairS x) (mkPairS1 k x)) := by
  obtain ⟨A, c, rfl, ho⟩ := h.slice
  refine (markPairS_calls ho k hk).mono ?_
  rintro e w' ⟨rfl, F', ho', hF', hm⟩
  refine ⟨rfl, ⟨F', ?_, hF'⟩, hm⟩
  have hl : (mkPairS1 k x).length = x.length := markL_len _ _ k x
  rw [← hl] at ho'
  rw [← hl]
  exact OwF.of_slice ho'
theorem markPairS_i {w : World} {F : List Nat} {v : Value} {x : PairST} (h : OwF false dPairS w F v x) (q : Int) (k : Nat) (hq : q = (k : Int)) (hk : k + cntPairS x ≤ 1152921504606846976) :
    Calls Tryd.prog 49 #[v, .int .i64 q] w (Marks false dPairS w F v (k + cntPairS x) (mkPairS1 k x)) := by subst hq; exact markPairS_f h k hk
set_option maxHeartbeats 1000000 in
set_option maxRecDepth 100000 in
theorem heldPairS_v {w : World} {v : Value} {xs : PairST} (h : RdV false dPairS w v xs) (k : Nat) (hx : xs = mkPairS1 k xs) (hk : k + cntPairS xs ≤ 1152921504606846976) :
    Calls Tryd.prog 50 #[v, .int .i64 k] w (Ret (.int .i64 ((k + cntPairS xs : Nat) : Int)) w) := by
  obtain ⟨A, c, rfl, -, hr⟩ := h.slice
  have hl := hr.2.1
  have HR := Sec.mk hr
  have HX := Sec.mk hx
  have HKK : Sec (cntPairS xs = preS cntPair xs xs.length) := ⟨rfl⟩
  rw [HKK.out] at hk ⊢
  clear h hr hx
  go_enter Tryd.func50, Tryd.ntmps50
  go_wp2
  go_loopw [1, 5] (fun q i wr => ∃ (j : Nat), j ≤ xs.length ∧ i = .int .i64 j ∧ q = .int .i64 ((k + preS cntPair xs j : Nat) : Int) ∧ Sec (New w wr)) (fun _ i _ => xs.length - (intOf i).toNat)
  case atStart => exact ⟨0, Nat.zero_le _, rfl, by rw [preS_zero]; rfl, ⟨Mod.refl _ _⟩⟩
  case round =>
    obtain ⟨j, hj, rfl, rfl, HM⟩ := hrel
    by_cases hlt : j < xs.length
    · have hks := preS_succ cntPair xs hlt
      have hkl := preS_le cntPair xs (j + 1)
      have hkb : preS cntPair xs j + cntPair xs[j] ≤ preS cntPair xs xs.length := by omega
      have HKS := Sec.mk hks
      have hz : xs[j] = mkPair1 (k + preS cntPair xs j) xs[j] := by
        have := markL_at mkPair1 cntPair k xs (i := j) (by rw [markL_len]; exact hlt)
        rw [← this]; congr 1; exact HX.out
      have HZ := Sec.mk hz
      have HCN : Sec (cntPair xs[j] = 1 + 1) := ⟨rfl⟩
      have hcn := HCN.out
      clear hks hkl hz
      have HFD : Sec (∀ W, New w W → ∃ ad , A = some ad ∧ W.cell? (ad.add (j * 2)) = some (.int .u32 (xs[j].1)) ∧ W.cell? ⟨(ad.add (j * 2)).block, (ad.add (j * 2)).off + 1, none⟩ = some (.int .u32 (xs[j].2))) := ⟨fun W hW => by
        obtain ⟨ad, v0, hA0, hc0, hK0⟩ := HR.out.field fldPair0 (fun q hq => hW.block q hq id) hlt
        obtain rfl : v0 = .int .u32 (xs[j].1) := by have := hK0.1; simpa using this
        obtain ⟨ad1, v1, hA1, hc1, hK1⟩ := HR.out.field fldPair1 (fun q hq => hW.block q hq id) hlt
        obtain rfl : ad = ad1 := Option.some.inj (hA0.symm.trans hA1)
        obtain rfl : v1 = .int .u32 (xs[j].2) := by have := hK1.1; simpa using this
        exact ⟨ad, hA0, hc0, hc1⟩⟩
      generalize hps : preS cntPair xs j = s at *
      generalize hxj : xs[j] = x at *
      obtain ⟨ad, rfl, hc0, hc1⟩ := HFD.out _ HM.out
      have z0 : x.1 = (((k : Int) + (s : Int)) % 4294967296) := by have h := congrArg (fun x : PairT => x.1) HZ.out; (try simp only [mkPair1, Int.natCast_add] at h); exact h
      rw [z0] at hc0
      clear z0
      have z1 : x.2 = (((k : Int) + (s : Int) + 1) % 4294967296) := by have h := congrArg (fun x : PairT => x.2) HZ.out; (try simp only [mkPair1, Int.natCast_add] at h); exact h
      rw [z1] at hc1
      clear z1
      go_wp2
      go_roundw
      case rel => exact ⟨j + 1, by omega, by go_num, by rw [HKS.out, HCN.out]; congr 1; try (omega), HM⟩
      case measure => simp [intOf]; omega
    · obtain rfl : j = xs.length := by omega
      go_wp2
      go_ret
      exact ⟨by simp, HM.out⟩
theorem heldPairS_i {w : World} {v : Value} {x : PairST} (h : RdV false dPairS w v x) (q : Int) (k : Nat) (hq : q = (k : Int)) (hx : x = mkPairS1 k x) (hk : k + cntPairS x ≤ 1152921504606846976) :
    Calls Tryd.prog 50 #[v, .int .i64 q] w (Ret (.int .i64 ((k + cntPairS x : Nat) : Int)) w) := by subst hq; exact heldPairS_v h k hx hk
end Go.Proofs.YtiaknomadhgckaaDoor
