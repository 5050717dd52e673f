/- The laws' helpers over bytes and over rows of bytes, by value. Fields of structs that lie in rows: read, stored, changed below. -/
import Derived.Test.YtciiejkfppnimaaPk4
import Derived.Test.YtciiejkfppnimaaPk5
import Derived.Test.YtciiejkfppnimaaPk1
import Derived.WalkKit
namespace Go.Proofs.Ytciiejkfppnimaa
open Go.RowKit Mem
set_option linter.unusedVariables false
abbrev dBS : Ty Bytes := Ty.slice 5 Ty.byte
abbrev dBSS : Ty (List Bytes) := Ty.slice 22 tB

def szBS (xs : Bytes) : Nat := xs.length
def cntBS (xs : Bytes) : Nat := xs.length
def mkBS1 (k : Nat) (xs : Bytes) : Bytes := mkB k xs.length
theorem cntBS_lt {x : Bytes} (h : szBS x ≤ 1048576) : cntBS x ≤ 1048576 := h
theorem cntBS_mk (k : Nat) (x : Bytes) : cntBS (mkBS1 k x) = cntBS x := mkB_len _ _
theorem mkBS1_idem (k k' : Nat) (x : Bytes) : mkBS1 k' (mkBS1 k x) = mkBS1 k' x := by unfold mkBS1; rw [mkB_len]






theorem toByteS_v {w : World} {v : Value} {x : Bytes} (h : RdV false dBS w v x) (hs : szBS x ≤ 1048576) : Calls Try.prog 13 #[v] w (RetV false dBS w x) := by
  obtain ⟨A, c, rfl, hc, hr⟩ := h.slice
  exact (toByteS_calls hr (fun _ h => h) (by unfold szBS at hs; omega)).mono fun _ _ h => h.toV
theorem eqByteS_v {w : World} {v v' : Value} {x x' : Bytes} (h : RdV false dBS w v x) (h' : RdV false dBS w v' x') : Calls Try.prog 16 #[v, v'] w (Ret (.bool (decide (x = x'))) w) := by
  obtain ⟨A, c, rfl, hc, hr⟩ := h.slice
  obtain ⟨A', c', rfl, hc', hr'⟩ := h'.slice
  exact eqByteS_calls hr hr' (fun _ h => h)
theorem markByteS_f {w : World} {F : List Nat} {v : Value} {x : Bytes} (h : OwF false dBS w F v x) (k : Nat) (hk : k + cntBS x ≤ 1152921504606846976) :
    Calls Try.prog 17 #[v, .int .i64 k] w (Marks false dBS w F v (k + cntBS x) (mkBS1 k x)) := by
  obtain ⟨A, c, rfl, ho⟩ := h.slice
  refine (markByteS_calls ho k hk).mono ?_
  rintro e w' ⟨rfl, F', ho', hF', hm⟩
  rw [mkB_len] at ho'
  exact ⟨rfl, ⟨F', OwF.of_slice ho', hF'⟩, hm⟩
theorem markByteS_v {w : World} {lo hi : Nat} {v : Value} {x : Bytes} (h : OwV false dBS w lo hi v x) (k : Nat) (hk : k + cntBS x ≤ 1152921504606846976) :
    Calls Try.prog 17 #[v, .int .i64 k] w fun e w' => e = .returned (.int .i64 ((k + cntBS x : Nat) : Int)) ∧ OwV false dBS w' lo hi v (mkBS1 k x) ∧ Mod (fun i => lo ≤ i ∧ i < hi) w w' :=
  h.mark fun F hF => markByteS_f hF k hk
theorem heldByteS_v {w : World} {v : Value} {x : Bytes} (h : RdV false dBS w v x) (k : Nat) (hx : x = mkBS1 k x) (hk : k + cntBS x ≤ 1152921504606846976) : Calls Try.prog 38 #[v, .int .i64 k] w (Ret (.int .i64 ((k + cntBS x : Nat) : Int)) w) := by
  obtain ⟨A, c, rfl, hc, hr⟩ := h.slice
  exact heldByteS_calls hr k hx hk

def szBSS (xs : List Bytes) : Nat := szB xs
def cntBSS (xs : List Bytes) : Nat := preS List.length xs xs.length
def mkBSS1 (k : Nat) (xs : List Bytes) : List Bytes := mkBS k xs
theorem cntBSS_mk (k : Nat) (x : List Bytes) : cntBSS (mkBSS1 k x) = cntBSS x := by unfold cntBSS mkBSS1; rw [mkBS_pre, mkBS_len]
theorem mkBSS1_idem (k k' : Nat) (x : List Bytes) : mkBSS1 k' (mkBSS1 k x) = mkBSS1 k' x := mkBS_idem _ _ _
theorem szBSS_cnt (x : List Bytes) : cntBSS x ≤ szBSS x := by unfold cntBSS szBSS szB; omega
theorem cntBSS_lt {x : List Bytes} (h : szBSS x ≤ 1048576) : cntBSS x ≤ 1048576 := Nat.le_trans (szBSS_cnt x) h
theorem szBSS_mem {x : List Bytes} {b : Bytes} (h : b ∈ x) : b.length ≤ szBSS x := by
  obtain ⟨j, hj, rfl⟩ := List.getElem_of_mem h
  have h1 := preS_succ List.length x hj
  have h2 := preS_le List.length x (j + 1)
  unfold szBSS szB; omega





































theorem opens_bss : Opens Try.prog dBSS 23 := Opens.slice Try.underlying23 (by kernel_rfl) opens_bytes

end Go.Proofs.Ytciiejkfppnimaa

namespace Go.Proofs.Ytciiejkfppnimaa.Mem
open Go.RowKit
set_option linter.unusedVariables false
/-- a string, as the list of its bytes -/
def Ty.str : Ty Bytes where
  sz := 1
  K := fun _ _ x cs => cs = [.string ⟨x.toArray⟩] ∧ x.length ≤ 9223372036854775807
  M := fun _ F x cs => F = [] ∧ cs = [.string ⟨x.toArray⟩] ∧ x.length ≤ 9223372036854775807
  K_len := fun h => by rw [h.1]; rfl
  K_one := fun h u hu => by rw [h.1] at hu; rw [List.mem_singleton.1 hu]; rfl
  K_mod := fun h _ _ => h
  M_K := fun h => h.2
  M_mod := fun h _ => h
  M_lt := fun h k hk => by rw [h.1] at hk; cases hk
  M_nd := fun h => by rw [h.1]; exact List.nodup_nil
/-- field of one cell, the i-th, of a kind -/
structure Fld {α β : Type} (d : Ty α) (i : Nat) (b : Ty β) (get : α → β) (put : α → β → α) : Prop where
  lt : i < d.sz
  sz1 : b.sz = 1
  K : ∀ {w B x cs}, d.K w B x cs → ∃ v, cs[i]? = some v ∧ b.K w B (get x) [v]
  M : ∀ {w F x cs}, d.M w F x cs → ∃ v G, cs[i]? = some v ∧ b.M w G (get x) [v] ∧ (∀ k, k ∈ G → k ∈ F) ∧
    ∀ w' v' y G', (∀ k, k ∈ F → k ∉ G → w'.heap[k]? = w.heap[k]?) → b.M w' G' y [v'] → (∀ k, k ∈ G' → k ∈ G ∨ k ∉ F) → ∃ F', d.M w' F' (put x y) (cs.set i v') ∧ ∀ k, k ∈ F' → k ∈ F ∨ k ∈ G'
theorem Fld.one {β : Type} {b : Ty β} (h : b.sz = 1) : Fld b 0 b id (fun _ y => y) where
  lt := by omega
  sz1 := h
  K := fun {w B x cs} hK => by
    have := b.K_len hK
    match cs, (this.trans h) with
    | [v], _ => exact ⟨v, rfl, hK⟩
  M := fun {w F x cs} hM => by
    have := b.K_len (b.M_K hM)
    match cs, (this.trans h) with
    | [v], _ => exact ⟨v, F, rfl, hM, fun _ h => h, fun w' v' y G' _ hM' _ => ⟨G', hM', fun k hk => .inr hk⟩⟩
theorem Fld.fst {α γ β : Type} {a : Ty α} {c : Ty γ} {b : Ty β} {i : Nat} {get : α → β} {put : α → β → α} (h : Fld a i b get put) : Fld (Ty.pair a c) i b (fun x => get x.1) (fun x y => (put x.1 y, x.2)) where
  lt := Nat.lt_of_lt_of_le h.lt (Nat.le_add_right _ _)
  sz1 := h.sz1
  K := by
    rintro w B x cs ⟨c0, c1, rfl, h0, h1⟩
    obtain ⟨v, hv, hK⟩ := h.K h0
    exact ⟨v, by rw [List.getElem?_append_left (by rw [a.K_len h0]; exact h.lt)]; exact hv, hK⟩
  M := by
    rintro w F x cs ⟨c0, c1, F0, F1, rfl, rfl, hn, h0, h1⟩
    obtain ⟨v, G, hv, hM, hG, hst⟩ := h.M h0
    have hl : i < c0.length := by rw [a.K_len (a.M_K h0)]; exact h.lt
    refine ⟨v, G, by rw [List.getElem?_append_left hl]; exact hv, hM, fun k hk => List.mem_append_left _ (hG k hk), fun w' v' y G' hb hM' hG' => ?_⟩
    obtain ⟨n0, n1, n2⟩ := List.nodup_append.1 hn
    obtain ⟨F', hF', hFF⟩ := hst w' v' y G' (fun k hk hkG => hb k (List.mem_append_left _ hk) hkG) hM' (fun k hk => (hG' k hk).imp id fun h hF => h (List.mem_append_left _ hF))
    refine ⟨F' ++ F1, ⟨c0.set i v', c1, F', F1, by rw [List.set_append_left _ _ hl], rfl, ?_, hF', c.M_mod h1 fun k hk => hb k (List.mem_append_right _ hk) fun hkG => n2 k (hG k hkG) k hk rfl⟩, fun k hk => ?_⟩
    · refine List.nodup_append.2 ⟨a.M_nd hF', n1, fun p hp q hq e => ?_⟩
      subst e
      rcases hFF p hp with h | h
      · exact n2 p h p hq rfl
      · rcases hG' p h with h | h
        · exact n2 p (hG p h) p hq rfl
        · exact h (List.mem_append_right _ hq)
    · rcases List.mem_append.1 hk with h | h
      · exact (hFF k h).imp (fun h => List.mem_append_left _ h) id
      · exact .inl (List.mem_append_right _ h)
theorem Fld.snd {α γ β : Type} {a : Ty α} {c : Ty γ} {b : Ty β} {i j : Nat} {get : γ → β} {put : γ → β → γ} (h : Fld c i b get put) (hj : j = a.sz + i) : Fld (Ty.pair a c) j b (fun x => get x.2) (fun x y => (x.1, put x.2 y)) where
  lt := by subst hj; exact Nat.add_lt_add_left h.lt _
  sz1 := h.sz1
  K := by
    subst hj
    rintro w B x cs ⟨c0, c1, rfl, h0, h1⟩
    obtain ⟨v, hv, hK⟩ := h.K h1
    have := a.K_len h0
    exact ⟨v, by rw [List.getElem?_append_right (by omega), this, Nat.add_sub_cancel_left]; exact hv, hK⟩
  M := by
    subst hj
    rintro w F x cs ⟨c0, c1, F0, F1, rfl, rfl, hn, h0, h1⟩
    obtain ⟨v, G, hv, hM, hG, hst⟩ := h.M h1
    have hl := a.K_len (a.M_K h0)
    refine ⟨v, G, by rw [List.getElem?_append_right (by omega), hl, Nat.add_sub_cancel_left]; exact hv, hM, fun k hk => List.mem_append_right _ (hG k hk), fun w' v' y G' hb hM' hG' => ?_⟩
    obtain ⟨n0, n1, n2⟩ := List.nodup_append.1 hn
    obtain ⟨F', hF', hFF⟩ := hst w' v' y G' (fun k hk hkG => hb k (List.mem_append_right _ hk) hkG) hM' (fun k hk => (hG' k hk).imp id fun h hF => h (List.mem_append_right _ hF))
    refine ⟨F0 ++ F', ⟨c0, c1.set i v', F0, F', by rw [List.set_append_right _ _ (by omega), hl, Nat.add_sub_cancel_left], rfl, ?_, a.M_mod h0 fun k hk => hb k (List.mem_append_left _ hk) fun hkG => n2 k hk k (hG k hkG) rfl, hF'⟩, fun k hk => ?_⟩
    · refine List.nodup_append.2 ⟨n0, c.M_nd hF', fun p hp q hq e => ?_⟩
      subst e
      rcases hFF p hq with h | h
      · exact n2 p hp p h rfl
      · rcases hG' p h with h | h
        · exact n2 p hp p (hG p h) rfl
        · exact h (List.mem_append_left _ hp)
    · rcases List.mem_append.1 hk with h | h
      · exact .inl (List.mem_append_left _ h)
      · exact (hFF k h).imp (fun h => List.mem_append_right _ h) id
section
variable {α β : Type} {d : Ty α} {i : Nat} {b : Ty β} {get : α → β} {put : α → β → α} {e : TypeId} {w : World} {F : List Nat} {A : Option Addr} {n cp : Nat} {xs : List α}
/-- a field that holds no block: read and stored -/
theorem Own.fstore (L : Fld d i b get put) (hb : ∀ w G x cs, b.M w G x cs → G = []) (h : Own d e w F (.slice A n cp) xs) {j : Nat} (hj : j < xs.length) :
    ∃ g v, A = some ⟨g, 0, none⟩ ∧ g ∈ F ∧ w.cell? ⟨g, j * d.sz + i, none⟩ = some v ∧ b.K w (fun _ => True) (get xs[j]) [v] ∧ w.frozen? ⟨g, j * d.sz + i, none⟩ = false ∧
      ∀ v' y, (∀ w, b.M w [] y [v']) → ∃ F', Own d e (w.setCell ⟨g, j * d.sz + i, none⟩ v') F' (.slice A n cp) (xs.set j (put xs[j] y)) ∧ ∀ k, k ∈ F' → k ∈ F := by
  obtain ⟨g, cs, f, rfl, hgF, hgf, hfF, hM, hcl, hc, hz, hst⟩ := h.elem hj
  obtain ⟨v, G, hv, hMv, hG, hp⟩ := L.M hM
  obtain rfl := hb _ _ _ _ hMv
  refine ⟨g, v, rfl, hgF, by rw [hc i L.lt, hv], b.K_mod (b.M_K hMv) (fun _ _ => trivial) (fun _ _ => rfl), hz _, fun v' y hM' => ?_⟩
  obtain ⟨f', hf', hff⟩ := hp (w.setCell ⟨g, j * d.sz + i, none⟩ v') v' y [] (fun k hk _ => Below.heap_setCell _ _ _ _ (fun e => hgf ((show k = g from e) ▸ hk))) (hM' _) (by simp)
  obtain ⟨F', ho, _, hF'⟩ := hst i v' _ f' L.lt hf' (fun k hk => .inl ((hff k hk).elim id (by simp)))
  exact ⟨F', ho, fun k hk => (hF' k hk).elim id fun h => hfF k ((hff k h).elim id (by simp))⟩
/-- a field that owns: what it leads to is changed -/
theorem Own.fsub (L : Fld d i b get put) (h : Own d e w F (.slice A n cp) xs) {j : Nat} (hj : j < xs.length) :
    ∃ g v G, A = some ⟨g, 0, none⟩ ∧ g ∈ F ∧ w.cell? ⟨g, j * d.sz + i, none⟩ = some v ∧ b.M w G (get xs[j]) [v] ∧ (∀ k, k ∈ G → k ∈ F) ∧
      ∀ w' y G', Mod (· ∈ G) w w' → b.M w' G' y [v] → (∀ k, k ∈ G' → k ∈ G) → ∃ F', Own d e w' F' (.slice A n cp) (xs.set j (put xs[j] y)) ∧ ∀ k, k ∈ F' → k ∈ F := by
  obtain ⟨cs, f, hM, hfF, hcell, hst⟩ := h.sub hj
  obtain ⟨g, rfl, hgF, hgf, hc⟩ := hcell _ _ _ rfl
  obtain ⟨v, G, hv, hMv, hG, hp⟩ := L.M hM
  refine ⟨g, v, G, rfl, hgF, by rw [hc i L.lt, hv], hMv, fun k hk => hfF k (hG k hk), fun w' y G' hm ho' hG' => ?_⟩
  obtain ⟨f', hf', hff⟩ := hp w' v y G' (fun k hk hkG => hm.block k (d.M_lt hM k hk) hkG) ho' (fun k hk => .inl (hG' k hk))
  have hcs : cs.set i v = cs := by
    have := List.getElem?_eq_some_iff.1 hv
    rw [← this.2]; exact List.set_getElem_self _
  rw [hcs] at hf'
  obtain ⟨F', ho2, hF'⟩ := hst w' _ f' (hm.mono fun k _ hk => hG k hk) hf' (fun k hk => .inl ((hff k hk).elim id fun h => hG k (hG' k h)))
  exact ⟨F', ho2, fun k hk => (hF' k hk).elim id fun h => hfF k ((hff k h).elim id fun h => hG k (hG' k h))⟩
theorem Own.cellsAt (h : Own d e w F (.slice A n cp) xs) {j : Nat} (hj : j < xs.length) : ∃ g, A = some ⟨g, 0, none⟩ ∧ g ∈ F ∧ (∀ i, i < d.sz → ∃ v, w.cell? ⟨g, j * d.sz + i, none⟩ = some v) ∧ ∀ i, w.frozen? ⟨g, i, none⟩ = false := by
  obtain ⟨g, cs, f, rfl, hgF, hgf, hfF, hM, hcl, hc, hz, hst⟩ := h.elem hj
  exact ⟨g, rfl, hgF, fun i hi => ⟨cs[i]'(by omega), by rw [hc i hi]; exact List.getElem?_eq_getElem _⟩, hz⟩
theorem Own.fstoreAt (L : Fld d i b get put) (hb : ∀ w G x cs, b.M w G x cs → G = []) {ys : List α} {j : Nat} {x : α} (hj : j < ys.length) {g : Nat} (h : Own d e w F (.slice (some ⟨g, 0, none⟩) n cp) (ys.set j x)) :
    g ∈ F ∧ ∀ v' y, (∀ w, b.M w [] y [v']) → ∃ F', Own d e (w.setCell ⟨g, j * d.sz + i, none⟩ v') F' (.slice (some ⟨g, 0, none⟩) n cp) (ys.set j (put x y)) ∧ ∀ k, k ∈ F' → k ∈ F := by
  obtain ⟨g', v, hA, hgF, hc, hK, hf, hst⟩ := h.fstore L hb (j := j) (by rw [List.length_set]; exact hj)
  injection hA with hA
  injection hA with hA
  subst hA
  refine ⟨hgF, fun v' y hM => ?_⟩
  obtain ⟨F', ho, hF'⟩ := hst v' y hM
  rw [List.set_set, List.getElem_set_self] at ho
  exact ⟨F', ho, hF'⟩
theorem OwF.one (h : b.sz = 1) {w : World} {G : List Nat} {v : Value} {y : β} (ho : OwF false b w G v y) : b.M w G y [v] := by
  obtain ⟨cs, rfl, hM⟩ := ho
  have := b.K_len (b.M_K hM)
  match cs, (this.trans h) with
  | [u], _ => exact hM
theorem Own.fsubAt (L : Fld d i b get put) {ys : List α} {j : Nat} {x : α} (hj : j < ys.length) {g : Nat} (h : Own d e w F (.slice (some ⟨g, 0, none⟩) n cp) (ys.set j x)) :
    ∃ v G, g ∈ F ∧ w.cell? ⟨g, j * d.sz + i, none⟩ = some v ∧ OwF false b w G v (get x) ∧ (∀ k, k ∈ G → k ∈ F) ∧
      ∀ w' y G', Mod (· ∈ G) w w' → OwF false b w' G' v y → (∀ k, k ∈ G' → k ∈ G) → ∃ F', Own d e w' F' (.slice (some ⟨g, 0, none⟩) n cp) (ys.set j (put x y)) ∧ ∀ k, k ∈ F' → k ∈ F := by
  obtain ⟨g', v, G, hA, hgF, hc, ho, hG, hst⟩ := h.fsub L (j := j) (by rw [List.length_set]; exact hj)
  injection hA with hA
  injection hA with hA
  subst hA
  rw [List.getElem_set_self] at ho hst
  refine ⟨v, G, hgF, hc, ⟨[v], rfl, ho⟩, hG, fun w' y G' hm ho' hG' => ?_⟩
  obtain ⟨F', ho3, hF'⟩ := hst w' y G' hm (OwF.one L.sz1 ho') hG'
  rw [List.set_set] at ho3
  exact ⟨F', ho3, hF'⟩
/-- a struct by value: what a field leads to is changed -/
theorem Fld.lead {v : Value} {x : α} (L : Fld d i b get put) (h : OwF true d w F v x) :
    ∃ (cs : List Value) (vi : Value) (G : List Nat), v = .agg cs.toArray ∧ cs[i]? = some vi ∧ OwF false b w G vi (get x) ∧ (∀ k, k ∈ G → k ∈ F) ∧
      ∀ w' y G', Mod (· ∈ G) w w' → OwF false b w' G' vi y → (∀ k, k ∈ G' → k ∈ G) → ∃ F', OwF true d w' F' v (put x y) ∧ ∀ k, k ∈ F' → k ∈ F := by
  obtain ⟨cs, rfl, hM⟩ := h
  obtain ⟨v, G, hv, hMv, hG, hp⟩ := L.M hM
  refine ⟨cs, v, G, rfl, hv, ⟨[v], ?_, hMv⟩, hG, fun w' y G' hm ho' hG' => ?_⟩
  · rfl
  obtain ⟨f', hf', hff⟩ := hp w' v y G' (fun k hk hkG => hm.block k (d.M_lt hM k hk) hkG) (OwF.one L.sz1 ho') (fun k hk => .inl (hG' k hk))
  have hcs : cs.set i v = cs := by
    have := List.getElem?_eq_some_iff.1 hv
    rw [← this.2]; exact List.set_getElem_self _
  rw [hcs] at hf'
  exact ⟨f', ⟨cs, rfl, hf'⟩, fun k hk => (hff k hk).elim id fun h => hG k (hG' k h)⟩
theorem Fld.lead1 {l : List Value} {vi : Value} {x : α} (L : Fld d i b get put) (hi : l[i]? = some vi) (h : OwF true d w F (.agg l.toArray) x) :
    ∃ G, OwF false b w G vi (get x) ∧ (∀ k, k ∈ G → k ∈ F) ∧
      ∀ w' y G', Mod (· ∈ G) w w' → OwF false b w' G' vi y → (∀ k, k ∈ G' → k ∈ G) → ∃ F', OwF true d w' F' (.agg l.toArray) (put x y) ∧ ∀ k, k ∈ F' → k ∈ F := by
  obtain ⟨cs, v, G, hv, hvi, ho, hG, hst⟩ := L.lead h
  injection hv with hv
  have : l = cs := by simpa using hv
  subst this
  obtain rfl : vi = v := Option.some.inj (hi.symm.trans hvi)
  exact ⟨G, ho, hG, hst⟩
theorem OwF.rd {str : Bool} {v : Value} {x : α} (h : OwF str d w F v x) : RdV str d w v x := by
  obtain ⟨cs, rfl, hM⟩ := h
  exact ⟨cs, rfl, d.K_mod (d.M_K hM) (fun k hk => d.M_lt hM k hk) (fun _ _ => rfl)⟩
theorem OwF.lt {str : Bool} {v : Value} {x : α} (h : OwF str d w F v x) : ∀ k, k ∈ F → k < w.heap.size := by
  obtain ⟨cs, rfl, hM⟩ := h
  exact d.M_lt hM
theorem OwF.mv {str : Bool} {v : Value} {x : α} {w' : World} (h : OwF str d w F v x) (hb : ∀ k, k ∈ F → w'.heap[k]? = w.heap[k]?) : OwF str d w' F v x := by
  obtain ⟨cs, rfl, hM⟩ := h
  exact ⟨cs, rfl, d.M_mod hM hb⟩
theorem load_struct {P : Program} (w : World) (ad : Addr) (ty : TypeId) (cs : List Value) (t : TypeDesc) (hu : P.underlying ty = some t) (ht : (match t with | .struct _ | .array _ _ => true | _ => false) = true) (hi : (P.info? ty).map (·.size) = some cs.length)
    (h : ∀ j v, cs[j]? = some v → w.cell? (ad.add j) = some v) : (Instr.loadAt ty (.pointer (some ad))).run P w = .ok (.agg cs.toArray) w := by
  have hl := run_loadCells_list (P := P) w ad cs h
  cases hq : P.info? ty with
  | none => simp [hq] at hi
  | some i =>
    have hs : i.size = cs.length := by simpa [hq] using hi
    have hagg : (isAgg ty).run P w = .ok true w := by
      unfold isAgg
      rw [Sem.run_bind, run_underlying hu w]
      cases t <;> simp_all
    simp [Instr.loadAt, Instr.sureAddr, loadVar, Sem.run_bind, hagg, sizeOf, typeInfo, hq, hs, hl]
/-- an element loaded whole -/
theorem Row.elem {P : Program} {B : Nat → Prop} (h : Row d w B A n xs) {k : Nat} (hk : k < xs.length) (ty : TypeId) {t : TypeDesc} (hu : P.underlying ty = some t) (ht : (match t with | .struct _ | .array _ _ => true | _ => false) = true) (hi : (P.info? ty).map (·.size) = some d.sz) :
    ∃ ad v, A = some ad ∧ ∀ w', (∀ i, B i → w'.heap[i]? = w.heap[i]?) → (∀ i, B i → i < w'.heap.size) → (Instr.loadAt ty (.pointer (some (ad.add (k * d.sz))))).run P w' = .ok v w' ∧ RdV true d w' v xs[k] := by
  obtain ⟨ad, cs, hlt, rfl, hB, hK, hc⟩ := h.at_ (k := k) (by rw [← h.1]; exact hk)
  refine ⟨ad, .agg cs.toArray, rfl, fun w' hb hl => ⟨load_struct w' _ ty cs t hu ht (by rw [d.K_len hK]; exact hi) fun j v hj => ?_, cs, rfl, d.K_mod hK (fun k hk => hl k hk) (fun k hk => hb k hk)⟩⟩
  have := hc j v hj
  rw [← this, add_add]
  refine World.cell?_of_block ?_
  rw [add_block]
  exact hb _ hB
/-- an element by its cells -/
theorem Row.elemc {B : Nat → Prop} (h : Row d w B A n xs) {k : Nat} (hk : k < xs.length) :
    ∃ (ad : Addr) (cs : List Value), A = some ad ∧ ∀ w', (∀ i, B i → w'.heap[i]? = w.heap[i]?) → (∀ i, B i → i < w'.heap.size) → RdV true d w' (.agg cs.toArray) xs[k] ∧ (∀ u, cs[0]? = some u → w'.cell? (ad.add (k * d.sz)) = some u) ∧ ∀ j u, cs[j + 1]? = some u → w'.cell? ⟨(ad.add (k * d.sz)).block, (ad.add (k * d.sz)).off + (j + 1), none⟩ = some u := by
  obtain ⟨ad, cs, rfl, hK, _, _⟩ := h.cells_at (w' := w) (fun _ _ => rfl) hk
  obtain ⟨ad', c', hlt, hA, hB, hK', hc⟩ := h.at_ (k := k) (by rw [← h.1]; exact hk)
  obtain rfl := Option.some.inj hA
  refine ⟨_, c', rfl, fun w' hb hl => ⟨⟨c', rfl, d.K_mod hK' (fun k hk => hl k hk) (fun k hk => hb k hk)⟩, fun u hu => ?_, fun j u hu => ?_⟩⟩
  · exact (World.cell?_of_block (by rw [add_block]; exact hb _ hB)).trans (hc 0 u hu)
  · rw [← add_next]
    exact (World.cell?_of_block (by rw [add_block]; exact hb _ hB)).trans (hc (j + 1) u hu)
/-- a field of a row that is read -/
theorem Row.field (L : Fld d i b get put) {B : Nat → Prop} (h : Row d w B A n xs) {w' : World} (hb : ∀ k, B k → w'.heap[k]? = w.heap[k]?) {j : Nat} (hj : j < xs.length) :
    ∃ ad v, A = some ad ∧ (match i with | 0 => w'.cell? (ad.add (j * d.sz)) | m + 1 => w'.cell? ⟨(ad.add (j * d.sz)).block, (ad.add (j * d.sz)).off + (m + 1), none⟩) = some v ∧ b.K w' B (get xs[j]) [v] := by
  obtain ⟨ad, cs, rfl, hK, h0, h1⟩ := h.cells_at hb hj
  obtain ⟨v, hv, hKv⟩ := L.K hK
  refine ⟨ad, v, rfl, ?_, b.K_mod hKv (fun _ h => h) hb⟩
  cases i with
  | zero => exact h0 _ hv
  | succ m => exact h1 m _ hv
end
theorem not_r {P : Program} (b : Bool) (w : World) : (Op.unary .not (.bool b)).run P w = .ok (.bool (!b)) w := by
  go_simp
theorem set_len {α : Type} (l : List α) (i : Nat) (x : α) : (l.set i x).length = l.length := List.length_set
end Go.Proofs.Ytciiejkfppnimaa.Mem
