/- The parts of an own row, each with its blocks; names renumbered in place. The program's settling of names. The program's copy of a disk: three rows copied and a cell made, in any order. -/
import Derived.Test.YtkkgighgnbbgiaaGreatDoorPk11
import Derived.Test.YtkkgighgnbbgiaaGreatDoorPk9
namespace Go.Proofs.YtkkgighgnbbgiaaGreatDoor
open Go.RowKit Mem
set_option linter.unusedVariables false
theorem nodup_parts {Fs : List (List Nat)} (h : Fs.flatten.Nodup) {i j : Nat} {fi fj : List Nat} (hi : Fs[i]? = some fi) (hj : Fs[j]? = some fj) (hij : i < j) : ∀ k, k ∈ fi → k ∉ fj := by
  intro k hk hk2
  have hiF : i < Fs.length := (List.getElem?_eq_some_iff.1 hi).1
  have hsplit : Fs = Fs.take i ++ fi :: Fs.drop (i + 1) := by
    rw [← (List.getElem?_eq_some_iff.1 hi).2, ← List.drop_eq_getElem_cons hiF, List.take_append_drop]
  have hm : fj ∈ Fs.drop (i + 1) := List.mem_of_getElem? (i := j - (i + 1)) (by rw [List.getElem?_drop]; rw [show i + 1 + (j - (i + 1)) = j by omega]; exact hj)
  rw [hsplit] at h
  simp only [List.flatten_append, List.flatten_cons, List.nodup_append] at h
  exact h.2.1.2.2 k hk k (List.mem_flatten.2 ⟨fj, hm, hk2⟩) rfl
theorem Own.parts {α : Type} {d : Ty α} {e : TypeId} {w : World} {F : List Nat} {A : Option Addr} {n cp : Nat} {xs : List α} (h : Own d e w F (.slice A n cp) xs) :
    ∃ (g : Nat) (fo : Nat → List Nat) (co : Nat → List Value), (0 < xs.length → A = some ⟨g, 0, none⟩ ∧ g ∈ F) ∧
      (∀ j (hj : j < xs.length), d.M w (fo j) xs[j] (co j) ∧ (∀ k, k ∈ fo j → k ∈ F ∧ k ≠ g) ∧ (∀ i, i < d.sz → w.cell? ⟨g, j * d.sz + i, none⟩ = (co j)[i]?)) ∧
      (∀ i j, i < xs.length → j < xs.length → i ≠ j → ∀ k, k ∈ fo i → k ∉ fo j) := by
  have h0 := h
  obtain rfl : n = xs.length := by
    obtain ⟨A', c', e, _⟩ := h.form
    injection e
  obtain ⟨inner, Fs, ho, hE, rfl, hnd⟩ := h
  by_cases hz : xs.length = 0
  · exact ⟨0, fun _ => [], fun _ => [], fun h => by omega, fun j hj => by omega, fun i j hi => by omega⟩
  obtain ⟨g, cs0, f0, hA, hg, -⟩ := h0.elem (show 0 < xs.length by omega)
  refine ⟨g, fun j => Fs[j]?.getD [], fun j => ?_, fun _ => ⟨hA, hg⟩, ?_, ?_⟩
  · exact ((inner.drop (j * d.sz)).take d.sz)
  · intro j hj
    obtain ⟨c, f, hf, hM, hcl, l, r, hcs, hl⟩ := hE.at_ (List.getElem?_eq_getElem hj)
    have hc : (inner.drop (j * d.sz)).take d.sz = c := by
      rw [hcs, ← hl, List.drop_left, List.take_append_of_le_length (by omega), List.take_of_length_le (by omega)]
    simp only [hf, Option.getD_some, hc]
    have hfin : ∀ k, k ∈ f → k ∈ Fs.flatten := fun k hk => List.mem_flatten.2 ⟨f, List.mem_of_getElem? hf, hk⟩
    have hown : g ∈ (Value.slice A xs.length cp).ownBlock.toList := by rw [hA]; simp [Value.ownBlock]
    refine ⟨hM, fun k hk => ⟨List.mem_append_right _ (hfin k hk), fun e => (List.nodup_append.1 hnd).2.2 g hown k (hfin k hk) e.symm⟩, fun i hi => ?_⟩
    have hill : inner.length = xs.length * d.sz := hE.clen
    have ho' := ho
    rw [hA] at ho'
    have hb := ho'.cellAt (j * d.sz + i) (by have := Nat.mul_le_mul_right d.sz (show j + 1 ≤ xs.length from hj); rw [Nat.add_mul] at this; omega)
    rw [hb, hcs,
        List.getElem?_append_right (by omega), List.getElem?_append_left (by omega), hl, Nat.add_sub_cancel_left]
  · intro i j hi hj hij k hk
    obtain ⟨ci, fi, hfi, -⟩ := hE.at_ (List.getElem?_eq_getElem hi)
    obtain ⟨cj, fj, hfj, -⟩ := hE.at_ (List.getElem?_eq_getElem hj)
    simp only [hfi, hfj, Option.getD_some] at hk ⊢
    have hfl := (List.nodup_append.1 hnd).2.1
    rcases Nat.lt_or_gt_of_ne hij with h1 | h1
    · exact nodup_parts hfl hfi hfj h1 k hk
    · exact fun hk2 => nodup_parts hfl hfj hfi h1 k hk2 hk
theorem ent_inv {w : World} {f : List Nat} {x : EntryT} {cs : List Value} (h : dEntry.M w f x cs) : f = [] ∧ cs = [.string ⟨x.1.toArray⟩, .int .i64 x.2] ∧ x.1.length ≤ 9223372036854775807 ∧ IntKind.i64.wrap x.2 = x.2 := by
  obtain ⟨c0, c1, f0, f1, rfl, rfl, hnd, ⟨rfl, rfl, h0⟩, ⟨rfl, rfl, h1⟩⟩ := h
  exact ⟨rfl, rfl, h0, h1⟩
theorem entSet {w : World} {F : List Nat} {A : Option Addr} {n c : Nat} {es : EntryST} (h : Own dEntry 98 w F (.slice A n c) es) {k : Nat} (hk : k < es.length) :
    ∃ g, A = some ⟨g, 0, none⟩ ∧ g ∈ F ∧ w.cell? ⟨g, k * 2, none⟩ = some (.string ⟨es[k].1.toArray⟩) ∧ w.cell? ⟨g, k * 2 + 1, none⟩ = some (.int .i64 es[k].2) ∧ (∀ i, w.frozen? ⟨g, i, none⟩ = false) ∧
      ∀ m : Int, IntKind.i64.wrap m = m → ∃ F', Own dEntry 98 (w.setCell ⟨g, k * 2 + 1, none⟩ (.int .i64 m)) F' (.slice A n c) (es.set k (es[k].1, m)) ∧ ∀ i, i ∈ F' → i ∈ F := by
  obtain ⟨g, cs, f, hA, hg, hgf, hfF, hM, hcl, hcell, hfz, hst⟩ := h.elem hk
  obtain ⟨rfl, rfl, h0, h1⟩ := ent_inv hM
  have hs2 : dEntry.sz = 2 := rfl
  have hc0 := hcell 0 (by rw [hs2]; decide)
  have hc1 := hcell 1 (by rw [hs2]; decide)
  rw [hs2] at hc0 hc1
  refine ⟨g, hA, hg, hc0, hc1, hfz, fun m hm => ?_⟩
  obtain ⟨F', hO, -, hF'⟩ := hst 1 (.int .i64 m) (es[k].1, m) [] (by rw [hs2]; decide) (mEntry (x := (es[k].1, m)) h0 hm) (fun k hk => by cases hk)
  rw [hs2] at hO
  exact ⟨F', hO, fun i hi => (hF' i hi).elim id (fun h => by cases h)⟩
/-- the names, the first k of them renumbered -/
def numE (l : List EntL) (k : Nat) : List EntL := (crashEs l).take k ++ l.drop k
theorem numE_len (l : List EntL) (k : Nat) : (numE l k).length = l.length := by
  unfold numE; rw [List.length_append, List.length_take, List.length_drop, crashEs_len]; omega
theorem numE_zero (l : List EntL) : numE l 0 = l := rfl
theorem numE_end (l : List EntL) : numE l l.length = crashEs l := by
  unfold numE
  rw [List.drop_length, List.append_nil, List.take_of_length_le (by rw [crashEs_len]; omega)]
theorem numE_at (l : List EntL) {k : Nat} (hk : k < l.length) : (numE l k)[k]? = some l[k] := by
  unfold numE
  rw [List.getElem?_append_right (by rw [List.length_take]; omega), List.length_take, crashEs_len, List.getElem?_drop]
  rw [show k + (k - min k l.length) = k by omega]
  exact List.getElem?_eq_getElem hk
theorem numE_step (l : List EntL) {k : Nat} (hk : k < l.length) : (numE l k).set k (l[k].1, (k : Int)) = numE l (k + 1) := by
  have h1 : (crashEs l)[k]? = some (l[k].1, (k : Int)) := by
    unfold crashEs
    rw [List.getElem?_mapIdx, List.getElem?_eq_getElem hk]; rfl
  have hkc : k < (crashEs l).length := by rw [crashEs_len]; exact hk
  unfold numE
  rw [List.set_append_right _ _ (by rw [List.length_take]; omega), List.length_take, crashEs_len, show k - min k l.length = 0 by omega, List.drop_eq_getElem_cons hk, List.set_cons_zero, List.take_succ_eq_append_getElem hkc, List.append_assoc]
  rw [(List.getElem?_eq_some_iff.1 h1).2]
  rfl
end Go.Proofs.YtkkgighgnbbgiaaGreatDoor

namespace Go.Proofs.YtkkgighgnbbgiaaGreatDoor
open Go.RowKit Mem
set_option linter.unusedVariables false
set_option linter.unusedSimpArgs false
theorem ldNodeI {w : World} {b o : Nat} {s : Int} {A : Option Addr} {n c : Nat} (h0 : w.cell? ⟨b, o, none⟩ = some (.slice A n c)) (h1 : w.cell? ⟨b, o + 1, none⟩ = some (.int .i64 s)) : (Instr.loadAt 88 (.pointer (some ⟨b, o, none⟩))).run Tryz.prog w = .ok (.agg #[.slice A n c, .int .i64 s]) w := by go_simp
theorem idxEnt0 (g : Nat) (m c k : Nat) (h : k < m) (w : World) : (Instr.indexAt 31 (.slice (some ⟨g, 0, none⟩) m c) (.int .i64 (k : Int))).run Tryz.prog w = .ok (.pointer (some ⟨g, k * 2, none⟩)) w := by
  rw [← add_own g (k * 2)]
  exact idxEntryS ⟨g, 0, none⟩ m c k h w
theorem wp_appendB {P : Program} (w : World) {o : Oper} {a : Act} {K : Act → World → Prop} {Q : Exit → Act → World → Prop} (s x : Operand) (t : TypeId)
    (ho : o.op = .call { callee := .builtin .append, args := #[s, x], argTypes := #[t, t] })
    {α : Type} (d : Ty α) (e : TypeId) {z : Value} (ht : P.underlying t = some (.slice e)) (hE : Elt P e d.sz z)
    {F : List Nat} {v : Value} {xs : List α} (hs : a.eval s = v) (hown : Own d e w F v xs) {A : Option Addr} {m c : Nat} {ys : List α} {Gs : List (List Nat)} {news : List Value} (hx : a.eval x = .slice A m c)
    (hy : Elems d w Gs ys news) (hm : ys.length = m) (hA : 0 < m → ∃ ad, A = some ad ∧ ∀ j u, news[j]? = some u → w.cell? (ad.add j) = some u)
    (hnd : Gs.flatten.Nodup) (hdis : ∀ k, k ∈ Gs.flatten → k ∉ F) (hlen : xs.length + m ≤ 34359738368)
    (h : ∀ A' n' c' w' F', Own d e w' F' (.slice A' n' c') (xs ++ ys) → n' = (xs ++ ys).length → Mod (fun k => v.ownBlock = some k) w w' → (∀ k, k ∈ F' → k ∈ F ∨ k ∈ Gs.flatten ∨ w.heap.size ≤ k) → ((Value.slice A' n' c').ownBlock = v.ownBlock ∨ (Value.slice A' n' c').ownBlock = some w.heap.size) → K (a.put o.dst (.slice A' n' c')) w') : o.wp P a w K Q := by
  obtain ⟨v', w', F', hrun, h2, h3, h4, h5⟩ := run_append (P := P) w t o.type ht hE hown hy hm hA (c := c) hnd hdis hlen
  obtain ⟨A', c', rfl, _⟩ := h2.form
  unfold Oper.wp execOp
  simp only [ho, resolve, invoke, builtin, Sem.run_bind, Sem.run_pure, Result.andThen_ok, List.map_toArray, List.map_cons, List.map_nil, hs, hx, hrun]
  exact h A' _ c' w' F' h2 rfl h3 h4 h5
theorem bldNode0I (w : World) : (Instr.buildSlice 30 0 #[]).run Tryz.prog w = .ok (.slice (some ⟨w.heap.size, 0, none⟩) 0 0) (w.alloc (.cells #[] 88)) := by go_simp
set_option maxHeartbeats 8000000 in
set_option maxRecDepth 100000 in
theorem settleI_calls {lo g : Nat} {tl : List Value} {w : World} {d : DiskT} {N : Nat} (h : DSt lo g tl w d) (hI : DInv N d) (hU : NodU d.2.1) (hN : N ≤ 5000) :
    Calls Tryz.prog 64 #[.pointer (some ⟨g, 0, none⟩)] w (fun e w' => e = .returned (.tuple #[]) ∧ DSt lo g tl w' (settleL d) ∧ Mod (fun k => lo ≤ k) w w') := by
  have HE : Sec (settleL d = (settleNs d d.2.1, crashEs d.2.1, crashEs d.2.1, [], d.2.2.2.2)) := ⟨rfl⟩
  have hn := hI.names
  have HINR := Sec.mk hI.inr
  have HU := Sec.mk hU
  have HQW : Sec (IntKind.i64.wrap d.2.2.2.2 = d.2.2.2.2) := by obtain ⟨t', v0', v1', v2', v3', hb', ho', -⟩ := h; obtain ⟨F0', F1', F2', F3', -, -, -, -, -, -, hq⟩ := ho'; exact ⟨hq⟩
  clear hI hU
  obtain ⟨t, A0, c0, A1, c1, A2, c2, A3, c3, hb, ho, hlg, hr0, hr1, b0, b1, b2, b3⟩ := h.rows
  obtain ⟨F0, F1, F2, F3, o0, o1, o2, o3, hd, hX, hq⟩ := ho
  obtain ⟨gb, fo, co, hA0, hpt, hpd⟩ := Own.parts o0
  have hgw := hb.lt
  have HBK := Sec.mk hb
  have HO1 := Sec.mk o1
  have HPT : Sec (∀ j (hj : j < d.1.length), dNode.M w (fo j) d.1[j] (co j) ∧ (∀ k, k ∈ fo j → k ∈ F0 ∧ k ≠ gb) ∧ (∀ i, i < dNode.sz → w.cell? ⟨gb, j * dNode.sz + i, none⟩ = (co j)[i]?)) := ⟨hpt⟩
  have HPD := Sec.mk hpd
  have HA0 := Sec.mk hA0
  have HF0 : Sec (∀ k, k ∈ F0 → k < w.heap.size ∧ k ∉ F1 ∧ lo ≤ k ∧ k ≠ g) := ⟨fun k hk => ⟨o0.lt k hk, (hd.1 k hk).1, hX k (Or.inl hk)⟩⟩
  have HFOA : Sec (∀ j (hj : j < d.2.1.length), ∀ i, i ∈ fo (d.2.1[j].2.toNat) → (lo ≤ i ∧ i ≠ g) ∧ i ∉ F1) := ⟨fun j hj i hi => by
    have hinj := HINR.out _ (List.getElem_mem hj)
    obtain ⟨-, h4, -⟩ := hpt (d.2.1[j].2.toNat) (by omega)
    have h5 := HF0.out _ (h4 _ hi).1
    exact ⟨h5.2.2, h5.2.1⟩⟩
  have HF1 : Sec (∀ k, k ∈ F1 → k < w.heap.size ∧ lo ≤ k ∧ k ≠ g) := ⟨fun k hk => ⟨o1.lt k hk, hX k (Or.inr (Or.inl hk))⟩⟩
  have hm0 : Mod (fun k => k ∈ F1) w (w.alloc (.cells #[] 88)) := (Mod.refl _ _).alloc _
  have HON : Sec (∃ F, Own dNode 88 (w.alloc (.cells #[] 88)) F (.slice (some ⟨w.heap.size, 0, none⟩) 0 0) [] ∧ ∀ i, i ∈ F → w.heap.size ≤ i) := by
    obtain ⟨⟨F, h1, h2⟩, -⟩ := Mine.empty (w0 := w) dNode 88 (w := w) rfl (Mod.refl _ _)
    exact ⟨F, h1, h2⟩
  have HM0 := Sec.mk hm0
  have HB0 := Sec.mk (hb.mod hm0 (fun h => (HF1.out g h).2.2 rfl))
  have HO10 := Sec.mk (o1.keep ((Mod.refl (fun _ => False) w).alloc (.cells #[] 88)) (fun _ _ h => h))
  have x1 : w.cell? ⟨g, 1, none⟩ = some (.slice A1 d.2.1.length c1) := hb.cell 1
  clear h hb o0 o1 o2 o3 hd hX hq hr0 hr1 hpt hpd hA0 hm0
  go_enter Tryz.func64, Tryz.ntmps64
  go_wp2
  go_loopw [2, 10] (fun v i wr => ∃ (k : Nat) (Av : Option Addr) (nv cv : Nat), k ≤ d.2.1.length ∧ i = .int .i64 (k : Int) ∧ v = .slice Av nv cv ∧ nv = k ∧ Sec (∃ F, Own dNode 88 wr F (.slice Av nv cv) (settleNs d (d.2.1.take k)) ∧ ∀ i, i ∈ F → (∃ (j : Nat) (hj : j < d.2.1.length), j < k ∧ i ∈ fo (d.2.1[j].2.toNat)) ∨ w.heap.size ≤ i) ∧ Sec (∀ k, (Value.slice Av nv cv).ownBlock = some k → w.heap.size ≤ k) ∧ Sec (∃ F, Own dEntry 98 wr F (.slice A1 d.2.1.length c1) (numE d.2.1 k) ∧ ∀ i, i ∈ F → i ∈ F1) ∧ Sec (Blk wr g t (.slice A0 d.1.length c0 :: .slice A1 d.2.1.length c1 :: .slice A2 d.2.2.1.length c2 :: .slice A3 d.2.2.2.1.length c3 :: .int .i64 d.2.2.2.2 :: tl)) ∧ Sec (Mod (fun k => k ∈ F1) w wr)) (fun _ i _ => d.2.1.length - (intOf i).toNat)
  case atStart =>
    refine ⟨0, _, _, _, Nat.zero_le _, rfl, rfl, rfl, ?_, ⟨fun k hk => by simp [Value.ownBlock] at hk; omega⟩, ⟨F1, HO10.out, fun _ h => h⟩, HB0, HM0⟩
    obtain ⟨F, h1, h2⟩ := HON.out
    exact ⟨F, h1, fun i hi => Or.inr (h2 i hi)⟩
  case round =>
    clear HON HO10 HB0 HM0 x1
    obtain ⟨k, Av, nv, cv, hk, rfl, rfl, rfl, HN, HOB, HNM, HB, HM⟩ := hrel
    have hgl := HB.out.lt
    have x0 : wr.cell? ⟨g, 0, none⟩ = some (.slice A0 d.1.length c0) := HB.out.cell 0
    have x1 : wr.cell? ⟨g, 1, none⟩ = some (.slice A1 d.2.1.length c1) := HB.out.cell 1
    by_cases hlt : nv < d.2.1.length
    · have hki : (nv : Int) < (d.2.1.length : Int) := by omega
      have hki2 : nv ≤ 1000000 := by omega
      have hin := HINR.out _ (List.getElem_mem hlt)
      obtain ⟨nd, hnd⟩ := Int.eq_ofNat_of_zero_le hin.1
      have hndl : nd < d.1.length := by have := hin.2; rw [hnd] at this; omega
      obtain ⟨hA0e, hgbF⟩ := HA0.out (by omega)
      subst hA0e
      obtain ⟨Fn, hOn, hFn⟩ := HNM.out
      have hne := numE_at d.2.1 hlt
      have hnl : nv < (numE d.2.1 nv).length := by rw [numE_len]; exact hlt
      obtain ⟨ga, hA1e, hgaF, e0, e1, hfz, hset⟩ := entSet hOn hnl
      subst hA1e
      rw [List.getElem?_eq_getElem hnl] at hne
      have hne' := Option.some.inj hne
      rw [hne'] at e0 e1 hset
      have HFNI := Sec.mk hFn
      have hga1 := HF1.out ga (hFn ga hgaF)
      have hgb1 := HF0.out gb hgbF
      have HNE := Sec.mk hne'
      clear hset hne hne' hOn hFn
      obtain ⟨hMn, hfo, hcl⟩ := HPT.out nd hndl
      obtain ⟨v', hco, hov, hws⟩ := node_inv hMn
      obtain ⟨An, cn, rfl, hcn1, hcn2⟩ := hov.form
      have hs2 : dNode.sz = 2 := rfl
      have n0 := hcl 0 (by rw [hs2]; decide)
      have n1 := hcl 1 (by rw [hs2]; decide)
      rw [hco, hs2] at n0 n1
      have n0 := (HM.out.cell (p := ⟨gb, nd * 2 + 0, none⟩) hgb1.1 hgb1.2.1).trans n0
      have n1 := (HM.out.cell (p := ⟨gb, nd * 2 + 1, none⟩) hgb1.1 hgb1.2.1).trans n1
      rw [Nat.add_zero] at n0
      have HMN := Sec.mk (dNode.M_mod hMn (w' := wr) (fun k hk => HM.out.block k (HF0.out k (hfo k hk).1).1 (HF0.out k (hfo k hk).1).2.1))
      rw [hco] at HMN
      have HTK := Sec.mk (settle_take d hlt)
      have HPX : Sec (∃ q : EntryT, q = d.2.1[nv]) := ⟨⟨_, rfl⟩⟩
      have hnat : nodeAt d d.2.1[nv].2 = d.1[nd] := by rw [hnd]; unfold nodeAt; rw [Int.toNat_natCast, List.getElem?_eq_getElem hndl]; rfl
      rw [hnat] at HTK
      rw [hnd] at e1
      have HND := Sec.mk hnd
      have HFO := Sec.mk hfo
      have HFAR : Sec (∀ i, ((∃ (j : Nat) (hj : j < d.2.1.length), j < nv ∧ i ∈ fo (d.2.1[j].2.toNat)) ∨ w.heap.size ≤ i) → i ∉ F1 ∧ i ≠ g ∧ i ≠ gb ∧ i ∉ fo nd) := ⟨fun i hi => by
        rcases hi with ⟨j, hj, hjk, hij⟩ | hi
        · have hinj := HINR.out _ (List.getElem_mem hj)
          have hjl : d.2.1[j].2.toNat < d.1.length := by omega
          obtain ⟨-, h2, -⟩ := HPT.out _ hjl
          have h3 := HF0.out i (h2 i hij).1
          refine ⟨h3.2.1, h3.2.2.2, (h2 i hij).2, HPD.out _ nd hjl hndl (fun e => ?_) i hij⟩
          have := nodU_ne HU.out hj hlt (by omega)
          rw [hnd] at this
          omega
        · refine ⟨fun h => ?_, fun e => ?_, fun e => ?_, fun h => ?_⟩
          · have := (HF1.out i h).1; omega
          · omega
          · have := hgb1.1; omega
          · have := (HF0.out i (hfo i h).1).1; omega⟩
      clear hin hnat hMn hco hov hcl hfo hws x0 x1
      clear hnd
      generalize d.1[nd] = z at *
      obtain ⟨dat, safe⟩ := z
      simp only at n0 n1 HMN HTK hcn1 hcn2
      go_upto_region 4 with (fail)
      go_cut [2] (fun v wx => ∃ (Av' : Option Addr) (cv' : Nat), v = .slice Av' (nv + 1 : Nat) cv' ∧ Sec (∃ F, Own dNode 88 wx F (.slice Av' (nv + 1 : Nat) cv') (settleNs d (d.2.1.take (nv + 1))) ∧ ∀ i, i ∈ F → (∃ (j : Nat) (hj : j < d.2.1.length), j < nv + 1 ∧ i ∈ fo (d.2.1[j].2.toNat)) ∨ w.heap.size ≤ i) ∧ Sec (∀ k, (Value.slice Av' (nv + 1 : Nat) cv').ownBlock = some k → w.heap.size ≤ k) ∧ Sec (Mod (fun i => i ∉ F1 ∧ i ≠ g ∧ i ≠ gb) wr wx) ∧ Sec (Mod (fun k => k ∈ F1) w wx) ∧ Sec (wx.cell? ⟨g, 0, none⟩ = some (.slice (some ⟨gb, 0, none⟩) d.1.length c0) ∧ wx.cell? ⟨g, 1, none⟩ = some (.slice (some ⟨ga, 0, none⟩) d.2.1.length c1) ∧ wx.cell? ⟨ga, nv * 2 + 1, none⟩ = some (.int .i64 (nd : Int)) ∧ wx.cell? ⟨gb, nd * 2, none⟩ = some (.slice An dat.length cn) ∧ wx.cell? ⟨gb, nd * 2 + 1, none⟩ = some (.int .i64 safe)))
      case first =>
        refine reg_start [] (fun W => Sec (W.cell? ⟨g, 0, none⟩ = some (.slice (some ⟨gb, 0, none⟩) d.1.length c0) ∧ W.cell? ⟨g, 1, none⟩ = some (.slice (some ⟨ga, 0, none⟩) d.2.1.length c1) ∧ W.cell? ⟨ga, nv * 2 + 1, none⟩ = some (.int .i64 (nd : Int)) ∧ W.cell? ⟨gb, nd * 2, none⟩ = some (.slice An dat.length cn) ∧ W.cell? ⟨gb, nd * 2 + 1, none⟩ = some (.int .i64 safe))) (by kernel_rfl) ?_
        have HSS : Sec (wr.drew.cell? ⟨g, 0, none⟩ = some (.slice (some ⟨gb, 0, none⟩) d.1.length c0) ∧ wr.drew.cell? ⟨g, 1, none⟩ = some (.slice (some ⟨ga, 0, none⟩) d.2.1.length c1) ∧ wr.drew.cell? ⟨ga, nv * 2 + 1, none⟩ = some (.int .i64 (nd : Int)) ∧ wr.drew.cell? ⟨gb, nd * 2, none⟩ = some (.slice An dat.length cn) ∧ wr.drew.cell? ⟨gb, nd * 2 + 1, none⟩ = some (.int .i64 safe)) := ⟨HB.out.cell 0, HB.out.cell 1, e1, n0, n1⟩
        refine reg_take (.slice Av nv cv) (i := 0) (n := 13) HSS rfl (by kernel_rfl) (by kernel_rfl) (by kernel_rfl) (by kernel_rfl) (fun _ _ _ h => h) (fun W hW => exec_move rfl rfl) ?_
        simp only [Act.put, List.setIfInBounds_toArray, List.set_cons_zero, List.set_cons_succ]
        refine reg_take (.pointer (some ⟨g, 0, none⟩)) (i := 1) (n := 14) HSS rfl (by kernel_rfl) (by kernel_rfl) (by kernel_rfl) (by kernel_rfl) (fun _ _ _ h => h) (fun W hW => exec_move rfl rfl) ?_
        simp only [Act.put, List.setIfInBounds_toArray, List.set_cons_zero, List.set_cons_succ]
        refine reg_take (.pointer (some ⟨g, 0, none⟩)) (i := 2) (n := 15) HSS rfl (by kernel_rfl) (by kernel_rfl) (by kernel_rfl) (by kernel_rfl) (fun _ _ _ h => h) (fun W hW => exec_nil rfl rfl) ?_
        simp only [Act.put, List.setIfInBounds_toArray, List.set_cons_zero, List.set_cons_succ]
        refine reg_take (.pointer (some ⟨g, 0, none⟩)) (i := 3) (n := 16) HSS rfl (by kernel_rfl) (by kernel_rfl) (by kernel_rfl) (by kernel_rfl) (fun _ _ _ h => h) (fun W hW => exec_field rfl rfl (fptDisk0 _ _)) ?_
        simp only [Act.put, List.setIfInBounds_toArray, List.set_cons_zero, List.set_cons_succ]
        refine reg_take (.slice (some ⟨gb, 0, none⟩) d.1.length c0) (i := 4) (n := 17) HSS rfl (by kernel_rfl) (by kernel_rfl) (by kernel_rfl) (by kernel_rfl) (fun _ _ _ h => h) (fun W hW => exec_load rfl rfl (ldNodesD hW.out.1)) ?_
        simp only [Act.put, List.setIfInBounds_toArray, List.set_cons_zero, List.set_cons_succ]
        refine reg_take (.pointer (some ⟨g, 0, none⟩)) (i := 5) (n := 18) HSS rfl (by kernel_rfl) (by kernel_rfl) (by kernel_rfl) (by kernel_rfl) (fun _ _ _ h => h) (fun W hW => exec_move rfl rfl) ?_
        simp only [Act.put, List.setIfInBounds_toArray, List.set_cons_zero, List.set_cons_succ]
        refine reg_take (.pointer (some ⟨g, 0, none⟩)) (i := 6) (n := 19) HSS rfl (by kernel_rfl) (by kernel_rfl) (by kernel_rfl) (by kernel_rfl) (fun _ _ _ h => h) (fun W hW => exec_nil rfl rfl) ?_
        simp only [Act.put, List.setIfInBounds_toArray, List.set_cons_zero, List.set_cons_succ]
        refine reg_take (.pointer (some ⟨g, 1, none⟩)) (i := 7) (n := 20) HSS rfl (by kernel_rfl) (by kernel_rfl) (by kernel_rfl) (by kernel_rfl) (fun _ _ _ h => h) (fun W hW => exec_field rfl rfl (fptDisk1 _ _)) ?_
        simp only [Act.put, List.setIfInBounds_toArray, List.set_cons_zero, List.set_cons_succ]
        refine reg_take (.slice (some ⟨ga, 0, none⟩) d.2.1.length c1) (i := 8) (n := 21) HSS rfl (by kernel_rfl) (by kernel_rfl) (by kernel_rfl) (by kernel_rfl) (fun _ _ _ h => h) (fun W hW => exec_load rfl rfl (ldEntsD hW.out.2.1)) ?_
        simp only [Act.put, List.setIfInBounds_toArray, List.set_cons_zero, List.set_cons_succ]
        refine reg_take (.int .i64 (nv : Int)) (i := 9) (n := 22) HSS rfl (by kernel_rfl) (by kernel_rfl) (by kernel_rfl) (by kernel_rfl) (fun _ _ _ h => h) (fun W hW => exec_move rfl rfl) ?_
        simp only [Act.put, List.setIfInBounds_toArray, List.set_cons_zero, List.set_cons_succ]
        refine reg_take (.pointer (some ⟨ga, nv * 2, none⟩)) (i := 10) (n := 23) HSS rfl (by kernel_rfl) (by kernel_rfl) (by kernel_rfl) (by kernel_rfl) (fun _ _ _ h => h) (fun W hW => exec_indexAddr rfl rfl rfl (idxEnt0 _ _ _ _ hlt _)) ?_
        simp only [Act.put, List.setIfInBounds_toArray, List.set_cons_zero, List.set_cons_succ]
        refine reg_take (.pointer (some ⟨ga, nv * 2 + 1, none⟩)) (i := 11) (n := 24) HSS rfl (by kernel_rfl) (by kernel_rfl) (by kernel_rfl) (by kernel_rfl) (fun _ _ _ h => h) (fun W hW => exec_field rfl rfl (fptEntry1D _ _)) ?_
        simp only [Act.put, List.setIfInBounds_toArray, List.set_cons_zero, List.set_cons_succ]
        refine reg_take (.int .i64 (nd : Int)) (i := 12) (n := 25) HSS rfl (by kernel_rfl) (by kernel_rfl) (by kernel_rfl) (by kernel_rfl) (fun _ _ _ h => h) (fun W hW => exec_load rfl rfl (ldIntD hW.out.2.2.1)) ?_
        simp only [Act.put, List.setIfInBounds_toArray, List.set_cons_zero, List.set_cons_succ]
        refine reg_take (.pointer (some ⟨gb, nd * 2, none⟩)) (i := 13) (n := 26) HSS rfl (by kernel_rfl) (by kernel_rfl) (by kernel_rfl) (by kernel_rfl) (fun _ _ _ h => h) (fun W hW => exec_indexAddr rfl rfl rfl (idxNode0 _ _ _ _ hndl _)) ?_
        simp only [Act.put, List.setIfInBounds_toArray, List.set_cons_zero, List.set_cons_succ]
        refine reg_take (.agg #[.slice An dat.length cn, .int .i64 safe]) (i := 14) (n := 27) HSS rfl (by kernel_rfl) (by kernel_rfl) (by kernel_rfl) (by kernel_rfl) (fun _ _ _ h => h) (fun W hW => exec_load rfl rfl (ldNodeI hW.out.2.2.2.1 hW.out.2.2.2.2)) ?_
        simp only [Act.put, List.setIfInBounds_toArray, List.set_cons_zero, List.set_cons_succ]
        refine reg_step (i := 15) rfl (by kernel_rfl) (fun K hK => ?_)
        have hma : New wr (wr.drew.alloc (.cells #[.slice An dat.length cn, .int .i64 safe] 88)) := (Mod.refl _ _).drew.alloc _
        have HLA := Sec.mk (lit_cells wr.drew 88 [.slice An dat.length cn, .int .i64 safe] rfl)
        have HSS : Sec ((wr.drew.alloc (.cells #[.slice An dat.length cn, .int .i64 safe] 88)).cell? ⟨g, 0, none⟩ = some (.slice (some ⟨gb, 0, none⟩) d.1.length c0) ∧ (wr.drew.alloc (.cells #[.slice An dat.length cn, .int .i64 safe] 88)).cell? ⟨g, 1, none⟩ = some (.slice (some ⟨ga, 0, none⟩) d.2.1.length c1) ∧ (wr.drew.alloc (.cells #[.slice An dat.length cn, .int .i64 safe] 88)).cell? ⟨ga, nv * 2 + 1, none⟩ = some (.int .i64 (nd : Int)) ∧ (wr.drew.alloc (.cells #[.slice An dat.length cn, .int .i64 safe] 88)).cell? ⟨gb, nd * 2, none⟩ = some (.slice An dat.length cn) ∧ (wr.drew.alloc (.cells #[.slice An dat.length cn, .int .i64 safe] 88)).cell? ⟨gb, nd * 2 + 1, none⟩ = some (.int .i64 safe)) := ⟨(HB.out.mod hma id).cell 0, (HB.out.mod hma id).cell 1, hma.cell_of e1, hma.cell_of n0, hma.cell_of n1⟩
        refine wp_valw (n := 28) (v := .slice (some ⟨wr.drew.heap.size, 0, none⟩) 1 1) (w' := (wr.drew.alloc (.cells #[.slice An dat.length cn, .int .i64 safe] 88))) (exec_buildSlice (parts := [(0, .tmp 27)]) (vs := [(0, .agg #[.slice An dat.length cn, .int .i64 safe])]) rfl rfl (bldNode1 _ _ _ _ _)) rfl ?_
        refine hK.out _ _ (fun _ => HSS) ?_
        have HMA := Sec.mk hma
        clear hma
        clear hK K
        simp only [Act.put, List.setIfInBounds_toArray, List.set_cons_zero, List.set_cons_succ]
        refine reg_step (i := 16) rfl (by kernel_rfl) (fun K hK => ?_)
        obtain ⟨F, hOF, hFF⟩ := HN.out
        have hOF2 := hOF.keep HMA.out (fun _ _ h => h)
        have hMA2 := dNode.M_mod HMN.out (w' := (wr.drew.alloc (.cells #[.slice An dat.length cn, .int .i64 safe] 88))) (fun k hk => HMA.out.block k (dNode.M_lt HMN.out k hk) id)
        refine wp_appendB _ (.tmp 13) (.tmp 28) _ rfl dNode 88 Tryz.underlying30 eltNode rfl hOF2 rfl (Elems.one hMA2) rfl (fun _ => HLA.out) (by simpa using dNode.M_nd hMA2) (fun k hk hkF => by simp at hk; exact (HFAR.out k (hFF k hkF)).2.2.2 hk) (by rw [settleNs_len, List.length_take]; omega) ?_
        intro A6 n6 c6 w6 F6 ho6 hn6 hm6 hF6 hob6
        have hown : ∀ k, (Value.slice Av nv cv).ownBlock = some k → k ∉ F1 ∧ k ≠ g ∧ k ≠ gb := fun k hk => by have h1 := HFAR.out k (hFF k (hOF.own_mem k hk)); exact ⟨h1.1, h1.2.1, h1.2.2.1⟩
        have HMX := Sec.mk (((Mod.refl (fun i => i ∉ F1 ∧ i ≠ g ∧ i ≠ gb) wr).transN HMA.out).trans hm6 (fun i hi _ => hown i hi))
        have HMW := Sec.mk ((HM.out.transN HMA.out).trans hm6 (fun i hi hlt2 => by have := HOB.out i hi; omega))
        have hwrs := HM.out.size
        have hwas := HMA.out.size
        obtain rfl : n6 = nv + 1 := by rw [hn6, List.length_append, settleNs_len, List.length_take, List.length_singleton]; omega
        clear hn6
        rw [← HTK.out] at ho6
        have HO6 : Sec (∃ F, Own dNode 88 w6 F (.slice A6 (nv + 1 : Nat) c6) (settleNs d (d.2.1.take (nv + 1))) ∧ ∀ i, i ∈ F → (∃ (j : Nat) (hj : j < d.2.1.length), j < nv + 1 ∧ i ∈ fo (d.2.1[j].2.toNat)) ∨ w.heap.size ≤ i) := ⟨F6, ho6, fun i hi => by
          rcases hF6 i hi with h1 | h1 | h1
          · rcases hFF i h1 with ⟨j, hj, hjk, hij⟩ | h2
            · exact Or.inl ⟨j, hj, by omega, hij⟩
            · exact Or.inr h2
          · refine Or.inl ⟨nv, hlt, by omega, ?_⟩
            rw [HND.out, Int.toNat_natCast]
            simpa using h1
          · exact Or.inr (by omega)⟩
        have HOB6 : Sec (∀ k, (Value.slice A6 (nv + 1 : Nat) c6).ownBlock = some k → w.heap.size ≤ k) := ⟨fun k hk => by
          rcases hob6 with h1 | h1
          · exact HOB.out k (h1.symm.trans hk)
          · have := Option.some.inj (h1.symm.trans hk); omega⟩
        have hga2 : ga ∈ F1 := HFNI.out ga hgaF
        have hm6' : Mod (fun k => (Value.slice Av nv cv).ownBlock = some k) (wr.drew.alloc (.cells #[.slice An dat.length cn, .int .i64 safe] 88)) w6 := hm6
        have hx6 : ∀ (b o : Nat) (v : Value), ¬ (Value.slice Av nv cv).ownBlock = some b → (wr.drew.alloc (.cells #[.slice An dat.length cn, .int .i64 safe] 88)).cell? ⟨b, o, none⟩ = some v → w6.cell? ⟨b, o, none⟩ = some v := fun b o v hb hc => (hm6'.cell (p := ⟨b, o, none⟩) (World.block_lt_of_cell? _ _ hc) hb).trans hc
        have HSS : Sec (w6.cell? ⟨g, 0, none⟩ = some (.slice (some ⟨gb, 0, none⟩) d.1.length c0) ∧ w6.cell? ⟨g, 1, none⟩ = some (.slice (some ⟨ga, 0, none⟩) d.2.1.length c1) ∧ w6.cell? ⟨ga, nv * 2 + 1, none⟩ = some (.int .i64 (nd : Int)) ∧ w6.cell? ⟨gb, nd * 2, none⟩ = some (.slice An dat.length cn) ∧ w6.cell? ⟨gb, nd * 2 + 1, none⟩ = some (.int .i64 safe)) := ⟨hx6 _ _ _ (fun h => (hown g h).2.1 rfl) HSS.out.1, hx6 _ _ _ (fun h => (hown g h).2.1 rfl) HSS.out.2.1, hx6 _ _ _ (fun h => (hown ga h).1 hga2) HSS.out.2.2.1, hx6 _ _ _ (fun h => (hown gb h).2.2 rfl) HSS.out.2.2.2.1, hx6 _ _ _ (fun h => (hown gb h).2.2 rfl) HSS.out.2.2.2.2⟩
        refine hK.out _ _ (fun _ => HSS) ?_
        clear ho6 hx6 hm6' hm6 hF6 hob6 hown hOF hOF2 hMA2 hFF
        clear hK K
        simp only [Act.put, List.setIfInBounds_toArray, List.set_cons_zero, List.set_cons_succ]
        refine reg_step (i := 17) rfl (by kernel_rfl) (fun K hK => ?_)
        refine wp_val (v := .slice A6 (nv + 1 : Nat) c6) (exec_assign rfl rfl) rfl (hK.out _ _ (fun _ => HSS) ?_)
        clear hK K
        simp only [Act.put, List.setIfInBounds_toArray, List.set_cons_zero, List.set_cons_succ]
        refine reg_done (by kernel_rfl) ?_ _
        go_wp2
        go_meet
        exact ⟨A6, c6, rfl, HO6, HOB6, HMX, HMW, HSS⟩
      case rest =>
        rename World => w7
        obtain ⟨Av', cv', rfl, HN7, HOB7, HMX, HM7, HT7⟩ := hcut
        obtain ⟨Fn', hOn', hFn'⟩ := HNM.out
        have hO7 := hOn'.keep HMX.out (fun k hk h => h.1 (hFn' k hk))
        obtain ⟨ga', hA1', hga', p0, p1, pf, hset⟩ := entSet hO7 hnl
        obtain rfl : ga = ga' := by have := Option.some.inj hA1'; injection this
        rw [HNE.out] at p0 hset
        have p1 := HT7.out.2.2.1
        obtain ⟨F8, hO8, hF8⟩ := hset (nv : Int) (i64_nat nv (by omega))
        rw [numE_step d.2.1 hlt] at hO8
        have HO8 : Sec (∃ F, Own dEntry 98 (w7.setCell ⟨ga, nv * 2 + 1, none⟩ (.int .i64 (nv : Int))) F (.slice (some ⟨ga, 0, none⟩) d.2.1.length c1) (numE d.2.1 (nv + 1)) ∧ ∀ i, i ∈ F → i ∈ F1) := ⟨F8, hO8, fun i hi => hFn' i (hF8 i hi)⟩
        have hgaF1 : ga ∈ F1 := hFn' ga hga'
        have hmc : Mod (fun k => k = ga) w7 (w7.setCell ⟨ga, nv * 2 + 1, none⟩ (.int .i64 (nv : Int))) := (Mod.refl (fun k => k = ga) w7).setCell (p := ⟨ga, nv * 2 + 1, none⟩) (fun _ => rfl) _
        have hga8 := HF1.out ga hgaF1
        have HN8 : Sec (∃ F, Own dNode 88 (w7.setCell ⟨ga, nv * 2 + 1, none⟩ (.int .i64 (nv : Int))) F (.slice Av' (nv + 1 : Nat) cv') (settleNs d (d.2.1.take (nv + 1))) ∧ ∀ i, i ∈ F → (∃ (j : Nat) (hj : j < d.2.1.length), j < nv + 1 ∧ i ∈ fo (d.2.1[j].2.toNat)) ∨ w.heap.size ≤ i) := by
          obtain ⟨F, h1, h2⟩ := HN7.out
          refine ⟨F, h1.keep hmc (fun k hk e => ?_), h2⟩
          subst e
          rcases h2 _ hk with ⟨j, hj, hjk, hij⟩ | h3
          · have hinj := HINR.out _ (List.getElem_mem hj)
            obtain ⟨-, h4, -⟩ := HPT.out (d.2.1[j].2.toNat) (by omega)
            exact (HF0.out _ (h4 _ hij).1).2.1 hgaF1
          · omega
        have HB8 := Sec.mk ((HB.out.mod HMX.out (fun h => h.2.1 rfl)).mod hmc (fun e => hga8.2.2 e.symm))
        have HM8 := Sec.mk (HM7.out.trans hmc (fun i hi _ => by rw [hi]; exact hgaF1))
        have z1 : w7.cell? ⟨g, 1, none⟩ = some (.slice (some ⟨ga, 0, none⟩) d.2.1.length c1) := HT7.out.2.1
        have pf0 := pf (nv * 2)
        have pf1 := pf (nv * 2 + 1)
        have hgl7 := (HB.out.mod HMX.out (fun h => h.2.1 rfl)).lt
        have hga7 : ga < w7.heap.size := World.block_lt_of_cell? _ _ p0
        clear hO8 hF8 hset hO7 hOn' hFn' hA1' pf hmc e0 e1 n0 n1
        go_wp2
        go_roundw
        case rel => exact ⟨nv + 1, Av', nv + 1, cv', by omega, by go_num, rfl, rfl, HN8, HOB7, HO8, HB8, HM8⟩
        case measure => simp [intOf]; omega
    · obtain rfl : nv = d.2.1.length := by omega
      clear HPT HPD HINR HU hk hlt
      obtain ⟨Fn, hOn, hFn⟩ := HNM.out
      rw [numE_end] at hOn
      rw [List.take_length] at HN
      have HON := Sec.mk hOn
      have HFN := Sec.mk hFn
      have HXL : Sec (∀ k, k ∈ Fn → k < w.heap.size ∧ lo ≤ k ∧ k ≠ g) := ⟨fun k hk => HF1.out k (hFn k hk)⟩
      obtain ⟨F, hOF, hFF⟩ := HN.out
      have HOF := Sec.mk hOF
      have hws : w.heap.size ≤ wr.heap.size := HM.out.size
      have HFX : Sec (∀ k, k ∈ F → (lo ≤ k ∧ k ≠ g) ∧ k ∉ Fn ∧ k < wr.heap.size) := ⟨fun k hk => by
        have hlt := hOF.lt k hk
        rcases hFF k hk with ⟨j, hj, hjk, hij⟩ | h3
        · have h4 := HFOA.out _ hj _ hij
          exact ⟨h4.1, fun h => h4.2 (hFn k h), hlt⟩
        · exact ⟨⟨by omega, by omega⟩, fun h => by have := (HF1.out k (hFn k h)).1; omega, hlt⟩⟩
      have f0 : wr.frozen? ⟨g, 0, none⟩ = false := HB.out.frozen 0
      have hgl2 : g < wr.heap.size := HB.out.lt
      clear hOn hFn HNM hOF hFF HN
      have hB1 := HB.out.set_ 0 (.slice Av d.2.1.length cv)
      simp only [List.set_cons_zero] at hB1
      have HB1 := Sec.mk hB1
      have hmc : Mod (fun k => k = g) wr (wr.setCell ⟨g, 0, none⟩ (.slice Av d.2.1.length cv)) := (Mod.refl (fun k => k = g) wr).setCell (p := ⟨g, 0, none⟩) (fun _ => rfl) _
      have HON1 := Sec.mk (HON.out.keep hmc (fun k hk e => (HXL.out k hk).2.2 e))
      have HOF1 := Sec.mk (HOF.out.keep hmc (fun k hk e => (HFX.out k hk).1.2 e))
      have hs1 : (wr.setCell ⟨g, 0, none⟩ (.slice Av d.2.1.length cv)).heap.size = wr.heap.size := by simp [World.setCell]
      have HMC := Sec.mk hmc
      have hrow : Row dEntry (wr.setCell ⟨g, 0, none⟩ (.slice Av d.2.1.length cv)) (· < wr.heap.size) A1 d.2.1.length (crashEs d.2.1) := by
        have e : d.2.1.length = (crashEs d.2.1).length := (crashEs_len _).symm
        have h5 := HON1.out
        rw [e] at h5 ⊢
        exact (h5.row rfl).mod (fun k hk => by have := h5.lt k hk; rw [← e, hs1] at this; exact this) (fun _ _ => rfl)
      have hEM : Mine dEntry 98 (wr.setCell ⟨g, 0, none⟩ (.slice Av d.2.1.length cv)) ((wr.setCell ⟨g, 0, none⟩ (.slice Av d.2.1.length cv)).alloc (.cells #[] 98)) (.slice (some ⟨wr.heap.size, 0, none⟩) 0 0) [] := Mine.empty _ _ hs1.symm (Mod.refl _ _)
      have HEM := Sec.mk hEM
      have HRW := Sec.mk (hrow.mod (w' := (wr.setCell ⟨g, 0, none⟩ (.slice Av d.2.1.length cv)).alloc (.cells #[] 98)) (fun _ h => h) (fun i hi => hEM.new.block i (by rw [hs1]; exact hi) id))
      have hlen : ([] : EntryST).length + (crashEs d.2.1).length ≤ 34359738368 := by rw [crashEs_len]; simp; omega
      clear hEM hrow hmc hB1
      go_wp2_with (at_builtin; go_loud (refine wpList_app _ rfl (.tmp 44) (.tmp 48) _ rfl Tryz.underlying31 elt_entry flatEntry rfl rfl HEM.out HRW.out hlen ?_; intro A6 n6 c6 w6 ho6; have HM6 := Sec.mk ho6; have HB6 := Sec.mk (HB1.out.mod ho6.new id); clear ho6; have y2 : w6.cell? ⟨g, 2, none⟩ = some (.slice A2 d.2.2.1.length c2) := HB6.out.cell 2; have y3 : w6.cell? ⟨g, 3, none⟩ = some (.slice A3 d.2.2.2.1.length c3) := HB6.out.cell 3; have y2f : w6.frozen? ⟨g, 2, none⟩ = false := HB6.out.frozen 2; have y3f : w6.frozen? ⟨g, 3, none⟩ = false := HB6.out.frozen 3; have hg6 : g < w6.heap.size := HB6.out.lt))
      go_end0
      have hmA : Mod (fun k => k = g) w6 ((w6.setCell ⟨g, 2, none⟩ (.slice A6 n6 c6)).setCell ⟨g, 3, none⟩ (.slice none 0 0)) := ((Mod.refl (fun k => k = g) w6).setCell (p := ⟨g, 2, none⟩) (fun _ => rfl) _).setCell (p := ⟨g, 3, none⟩) (fun _ => rfl) _
      have hBF := (HB6.out.set_ 2 (.slice A6 n6 c6)).set_ 3 (.slice none 0 0)
      simp only [List.set_cons_zero, List.set_cons_succ] at hBF
      obtain ⟨⟨F6, ho6, hF6⟩, hn6⟩ := HM6.out
      rw [List.nil_append] at ho6
      have hON2 := (HON1.out.keep hn6 (fun _ _ h => h)).keep hmA (fun k hk e => (HXL.out k hk).2.2 e)
      have hOF2 := (HOF1.out.keep hn6 (fun _ _ h => h)).keep hmA (fun k hk e => (HFX.out k hk).1.2 e)
      have hF6' : ∀ k, k ∈ F6 → wr.heap.size ≤ k := fun k hk => by have := hF6 k hk; rw [hs1] at this; exact this
      have hOK2 := ho6.keep hmA (fun k hk e => by have := hF6' k hk; omega)
      refine ⟨rfl, ?_, ((((HM.out.mono (T := fun k => lo ≤ k) (fun i _ hi => (HF1.out i hi).2.1)).trans HMC.out (fun i hi _ => by omega)).transN hn6).trans hmA (fun i hi _ => by omega))⟩
      rw [HE.out]
      refine ⟨t, _, _, _, _, hBF, ⟨F, Fn, F6, [], hOF2, hON2, hOK2, Own.nil _ _ _, ⟨fun k hk => ⟨(HFX.out k hk).2.1, fun h => by have := (HFX.out k hk).2.2; have := hF6' k h; omega, by simp⟩, fun k hk => ⟨fun h => by have := (HXL.out k hk).1; have := hF6' k h; omega, by simp⟩, fun k hk => by simp⟩, ?_, HQW.out⟩, hlg⟩
      rintro k (hk | hk | hk | hk)
      · exact (HFX.out k hk).1
      · exact (HXL.out k hk).2
      · have := hF6' k hk
        exact ⟨by omega, by omega⟩
      · cases hk
end Go.Proofs.YtkkgighgnbbgiaaGreatDoor

namespace Go.Proofs.YtkkgighgnbbgiaaGreatDoor
open Go.RowKit Mem
set_option linter.unusedVariables false
set_option linter.unusedSimpArgs false
/-- what the operations are and which are ready -/
structure CpOps (ops : Array Oper) : Prop where
  e0 : ∃ ty pos af, ops[0]? = some ⟨some 6, .buildSlice 31 0 #[], ty, pos, af, none⟩
  e3 : ∃ ty pos af, ops[3]? = some ⟨some 9, .call { callee := .builtin .append, args := #[.tmp 6, .tmp 8], argTypes := #[31, 31] }, ty, pos, af, none⟩
  e4 : ∃ ty pos af, ops[4]? = some ⟨some 10, .buildSlice 31 0 #[], ty, pos, af, none⟩
  e7 : ∃ ty pos af, ops[7]? = some ⟨some 13, .call { callee := .builtin .append, args := #[.tmp 10, .tmp 12], argTypes := #[31, 31] }, ty, pos, af, none⟩
  e8 : ∃ ty pos af, ops[8]? = some ⟨some 14, .buildSlice 32 0 #[], ty, pos, af, none⟩
  e11 : ∃ ty pos af, ops[11]? = some ⟨some 17, .call { callee := .builtin .append, args := #[.tmp 14, .tmp 16], argTypes := #[32, 32] }, ty, pos, af, none⟩
  e14 : ∃ ty pos af, ops[14]? = some ⟨some 20, .build 34 #[(1, .tmp 9), (2, .tmp 13), (3, .tmp 17), (4, .tmp 19)], ty, pos, af, none⟩
  e15 : ∃ ty pos af, ops[15]? = some ⟨some 3, .alloc 34, ty, pos, af, none⟩
  e16 : ∃ ty pos af, ops[16]? = some ⟨none, .store 34 (.tmp 3) (.tmp 20), ty, pos, af, none⟩
  r311111 : Region.ready .any ops #[true, true, true, true, true, true, true, true, true, true, true, true, true, true, true, true, false] = [16]
  r311101 : Region.ready .any ops #[true, true, true, true, true, true, true, true, true, true, true, true, true, true, true, false, false] = [15]
  r311110 : Region.ready .any ops #[true, true, true, true, true, true, true, true, true, true, true, true, true, true, false, true, false] = [14]
  r211110 : Region.ready .any ops #[true, true, true, true, true, true, true, true, true, true, true, false, true, true, false, true, false] = [11]
  r311100 : Region.ready .any ops #[true, true, true, true, true, true, true, true, true, true, true, true, true, true, false, false, false] = [14, 15]
  r111110 : Region.ready .any ops #[true, true, true, true, true, true, true, false, true, true, true, false, true, true, false, true, false] = [7]
  r211010 : Region.ready .any ops #[true, true, true, true, true, true, true, true, false, true, true, false, true, true, false, true, false] = [8]
  r211100 : Region.ready .any ops #[true, true, true, true, true, true, true, true, true, true, true, false, true, true, false, false, false] = [11, 15]
  r011110 : Region.ready .any ops #[true, true, true, false, true, true, true, false, true, true, true, false, true, true, false, true, false] = [3]
  r110110 : Region.ready .any ops #[true, true, true, true, false, true, true, false, true, true, true, false, true, true, false, true, false] = [4]
  r111010 : Region.ready .any ops #[true, true, true, true, true, true, true, false, false, true, true, false, true, true, false, true, false] = [7, 8]
  r111100 : Region.ready .any ops #[true, true, true, true, true, true, true, false, true, true, true, false, true, true, false, false, false] = [7, 15]
  r211000 : Region.ready .any ops #[true, true, true, true, true, true, true, true, false, true, true, false, true, true, false, false, false] = [8, 15]
  r001110 : Region.ready .any ops #[false, true, true, false, true, true, true, false, true, true, true, false, true, true, false, true, false] = [0]
  r010110 : Region.ready .any ops #[true, true, true, false, false, true, true, false, true, true, true, false, true, true, false, true, false] = [3, 4]
  r011010 : Region.ready .any ops #[true, true, true, false, true, true, true, false, false, true, true, false, true, true, false, true, false] = [3, 8]
  r011100 : Region.ready .any ops #[true, true, true, false, true, true, true, false, true, true, true, false, true, true, false, false, false] = [3, 15]
  r110010 : Region.ready .any ops #[true, true, true, true, false, true, true, false, false, true, true, false, true, true, false, true, false] = [4, 8]
  r110100 : Region.ready .any ops #[true, true, true, true, false, true, true, false, true, true, true, false, true, true, false, false, false] = [4, 15]
  r111000 : Region.ready .any ops #[true, true, true, true, true, true, true, false, false, true, true, false, true, true, false, false, false] = [7, 8, 15]
  r000110 : Region.ready .any ops #[false, true, true, false, false, true, true, false, true, true, true, false, true, true, false, true, false] = [0, 4]
  r001010 : Region.ready .any ops #[false, true, true, false, true, true, true, false, false, true, true, false, true, true, false, true, false] = [0, 8]
  r001100 : Region.ready .any ops #[false, true, true, false, true, true, true, false, true, true, true, false, true, true, false, false, false] = [0, 15]
  r010010 : Region.ready .any ops #[true, true, true, false, false, true, true, false, false, true, true, false, true, true, false, true, false] = [3, 4, 8]
  r010100 : Region.ready .any ops #[true, true, true, false, false, true, true, false, true, true, true, false, true, true, false, false, false] = [3, 4, 15]
  r011000 : Region.ready .any ops #[true, true, true, false, true, true, true, false, false, true, true, false, true, true, false, false, false] = [3, 8, 15]
  r110000 : Region.ready .any ops #[true, true, true, true, false, true, true, false, false, true, true, false, true, true, false, false, false] = [4, 8, 15]
  r000010 : Region.ready .any ops #[false, true, true, false, false, true, true, false, false, true, true, false, true, true, false, true, false] = [0, 4, 8]
  r000100 : Region.ready .any ops #[false, true, true, false, false, true, true, false, true, true, true, false, true, true, false, false, false] = [0, 4, 15]
  r001000 : Region.ready .any ops #[false, true, true, false, true, true, true, false, false, true, true, false, true, true, false, false, false] = [0, 8, 15]
  r010000 : Region.ready .any ops #[true, true, true, false, false, true, true, false, false, true, true, false, true, true, false, false, false] = [3, 4, 8, 15]
  r000000 : Region.ready .any ops #[false, true, true, false, false, true, true, false, false, true, true, false, true, true, false, false, false] = [0, 4, 8, 15]
  rend : Region.ready .any ops #[true, true, true, true, true, true, true, true, true, true, true, true, true, true, true, true, true] = []
def cpAct (x0 : Value) (g1 g2 : Nat) (A1 A2 A3 : Option Addr) (n1 c1 n2 c2 n3 c3 : Nat) (q : Int) (u3 u6 u9 u10 u13 u14 u17 u20 : Value) : Act :=
  { tmps := #[x0, .pointer (some ⟨g1, 0, none⟩), .pointer (some ⟨g2, 0, none⟩), u3, undef, undef, u6, .pointer (some ⟨g1, 1, none⟩), .slice A1 n1 c1, u9, u10, .pointer (some ⟨g1, 2, none⟩), .slice A2 n2 c2, u13, u14, .pointer (some ⟨g1, 3, none⟩), .slice A3 n3 c3, u17, .pointer (some ⟨g1, 4, none⟩), .int .i64 q, u20, undef, undef, undef, undef, undef, undef, undef, undef, undef, undef, undef, undef, undef, undef, undef, undef, undef, undef, undef, undef, undef], defers := [] }
theorem wp_appFD {P : Program} (w : World) {o : Oper} {a : Act} {K : Act → World → Prop} {Q : Exit → Act → World → Prop} (s x : Operand) (t : TypeId)
    (ho : o.op = .call { callee := .builtin .append, args := #[s, x], argTypes := #[t, t] })
    {α : Type} {d : Ty α} {e : TypeId} {z : Value} (ht : P.underlying t = some (.slice e)) (hE : Elt P e d.sz z) (hf : Flat d)
    {A A' : Option Addr} {n m c c' : Nat} {xs ys : List α} {B : Nat → Prop} {F : List Nat} (hs : a.eval s = .slice A n c) (hx : a.eval x = .slice A' m c') (hown : Own d e w F (.slice A n c) xs) (hy : Row d w B A' m ys)
    (hlen : xs.length + ys.length ≤ 34359738368)
    (h : ∀ A' n' c' w' F', Own d e w' F' (.slice A' n' c') (xs ++ ys) → (∀ k, k ∈ F' → k ∈ F ∨ w.heap.size ≤ k) → Mod (fun k => k ∈ F) w w' → K (a.put o.dst (.slice A' n' c')) w') : o.wp P a w K Q := by
  obtain ⟨news, hel, hA⟩ := hy.flat hf
  refine wp_append w s x t ho d e ht hE hs hown hx hel hy.1 hA (by rw [flat_nil]; exact List.nodup_nil) (by rw [flat_nil]; intro k hk; cases hk) (by have := hy.1; omega) ?_
  intro A2 n2 c2 w2 F2 ho3 hn2 hm2 hF2
  refine h _ _ _ _ F2 ho3 (fun k hk => ?_) (hm2.mono fun i _ hi => hown.own_mem i hi)
  rcases hF2 k hk with h1 | h1 | h1
  · exact .inl h1
  · rw [flat_nil] at h1; cases h1
  · exact .inr h1
theorem bldDop0I (w : World) : (Instr.buildSlice 32 0 #[]).run Tryz.prog w = .ok (.slice (some ⟨w.heap.size, 0, none⟩) 0 0) (w.alloc (.cells #[] 90)) := by go_simp
theorem bldDiskI (A1 A2 A3 : Option Addr) (n1 c1 n2 c2 n3 c3 : Nat) (q : Int) (w : World) : (Instr.build 34 #[(1, .slice A1 n1 c1), (2, .slice A2 n2 c2), (3, .slice A3 n3 c3), (4, .int .i64 q)]).run Tryz.prog w = .ok (.agg #[.slice none 0 0, .slice A1 n1 c1, .slice A2 n2 c2, .slice A3 n3 c3, .int .i64 q]) w := by go_simp
theorem Own.empty0 {α : Type} (d : Ty α) (e : TypeId) (w : World) : Own d e (w.alloc (.cells #[] e)) [w.heap.size] (.slice (some ⟨w.heap.size, 0, none⟩) 0 0) [] := by
  obtain ⟨⟨F, h1, h2⟩, -⟩ := Mine.empty (w0 := w) d e (w := w) rfl (Mod.refl _ _)
  obtain ⟨inner, Fs, h3, h4, h5, h6⟩ := h1
  obtain ⟨css, rfl, e1, e2, e3⟩ := h4
  have : Fs = [] := List.eq_nil_of_length_eq_zero e2
  subst this
  refine ⟨_, [], h3, ⟨css, rfl, e1, e2, e3⟩, ?_, ?_⟩
  · simp [Value.ownBlock]
  · simp
def In4B (lo : Nat) (w : World) (FA FB FC FG : List Nat) : Prop := Dis4 FA FB FC FG ∧ ∀ k, In4 FA FB FC FG k → lo ≤ k ∧ k < w.heap.size
theorem in4_new0 {lo : Nat} {w : World} {FA FB FC FG : List Nat} (h : In4B lo w FA FB FC FG) (hlo : lo ≤ w.heap.size) {o : Obj} : In4B lo (w.alloc o) [w.heap.size] FB FC FG := by
  refine ⟨h.1.upd0 (fun k hk => Or.inr (by have := List.mem_singleton.1 hk; subst this; exact ⟨fun hh => by have := (h.2 _ (Or.inr (Or.inl hh))).2; omega, fun hh => by have := (h.2 _ (Or.inr (Or.inr (Or.inl hh)))).2; omega, fun hh => by have := (h.2 _ (Or.inr (Or.inr (Or.inr hh)))).2; omega⟩)), ?_⟩
  have hs : (w.alloc o).heap.size = w.heap.size + 1 := by simp
  rintro k (hk | hk | hk | hk)
  · have := List.mem_singleton.1 hk; omega
  · have := h.2 k (Or.inr (Or.inl hk)); omega
  · have := h.2 k (Or.inr (Or.inr (Or.inl hk))); omega
  · have := h.2 k (Or.inr (Or.inr (Or.inr hk))); omega
theorem in4_app0 {lo : Nat} {w w' : World} {FA FB FC FG F9 : List Nat} (h : In4B lo w FA FB FC FG) (hlo : lo ≤ w.heap.size) (hs : w.heap.size ≤ w'.heap.size) (hl : ∀ k, k ∈ F9 → k < w'.heap.size) (h9 : ∀ k, k ∈ F9 → k ∈ FA ∨ w.heap.size ≤ k) : In4B lo w' F9 FB FC FG := by
  refine ⟨h.1.upd0 (fun k hk => (h9 k hk).imp id (fun h1 => ⟨fun hh => by have := (h.2 _ (Or.inr (Or.inl hh))).2; omega, fun hh => by have := (h.2 _ (Or.inr (Or.inr (Or.inl hh)))).2; omega, fun hh => by have := (h.2 _ (Or.inr (Or.inr (Or.inr hh)))).2; omega⟩)), ?_⟩
  rintro k (hk | hk | hk | hk)
  · rcases h9 k hk with h1 | h1
    · have h2 := (h.2 k (Or.inl h1)).1; have h3 := hl k hk; omega
    · have h3 := hl k hk; omega
  · have := h.2 k (Or.inr (Or.inl hk)); omega
  · have := h.2 k (Or.inr (Or.inr (Or.inl hk))); omega
  · have := h.2 k (Or.inr (Or.inr (Or.inr hk))); omega
theorem in4_new1 {lo : Nat} {w : World} {FA FB FC FG : List Nat} (h : In4B lo w FA FB FC FG) (hlo : lo ≤ w.heap.size) {o : Obj} : In4B lo (w.alloc o) FA [w.heap.size] FC FG := by
  refine ⟨h.1.upd1 (fun k hk => Or.inr (by have := List.mem_singleton.1 hk; subst this; exact ⟨fun hh => by have := (h.2 _ (Or.inl hh)).2; omega, fun hh => by have := (h.2 _ (Or.inr (Or.inr (Or.inl hh)))).2; omega, fun hh => by have := (h.2 _ (Or.inr (Or.inr (Or.inr hh)))).2; omega⟩)), ?_⟩
  have hs : (w.alloc o).heap.size = w.heap.size + 1 := by simp
  rintro k (hk | hk | hk | hk)
  · have := h.2 k (Or.inl hk); omega
  · have := List.mem_singleton.1 hk; omega
  · have := h.2 k (Or.inr (Or.inr (Or.inl hk))); omega
  · have := h.2 k (Or.inr (Or.inr (Or.inr hk))); omega
theorem in4_app1 {lo : Nat} {w w' : World} {FA FB FC FG F9 : List Nat} (h : In4B lo w FA FB FC FG) (hlo : lo ≤ w.heap.size) (hs : w.heap.size ≤ w'.heap.size) (hl : ∀ k, k ∈ F9 → k < w'.heap.size) (h9 : ∀ k, k ∈ F9 → k ∈ FB ∨ w.heap.size ≤ k) : In4B lo w' FA F9 FC FG := by
  refine ⟨h.1.upd1 (fun k hk => (h9 k hk).imp id (fun h1 => ⟨fun hh => by have := (h.2 _ (Or.inl hh)).2; omega, fun hh => by have := (h.2 _ (Or.inr (Or.inr (Or.inl hh)))).2; omega, fun hh => by have := (h.2 _ (Or.inr (Or.inr (Or.inr hh)))).2; omega⟩)), ?_⟩
  rintro k (hk | hk | hk | hk)
  · have := h.2 k (Or.inl hk); omega
  · rcases h9 k hk with h1 | h1
    · have h2 := (h.2 k (Or.inr (Or.inl h1))).1; have h3 := hl k hk; omega
    · have h3 := hl k hk; omega
  · have := h.2 k (Or.inr (Or.inr (Or.inl hk))); omega
  · have := h.2 k (Or.inr (Or.inr (Or.inr hk))); omega
theorem in4_new2 {lo : Nat} {w : World} {FA FB FC FG : List Nat} (h : In4B lo w FA FB FC FG) (hlo : lo ≤ w.heap.size) {o : Obj} : In4B lo (w.alloc o) FA FB [w.heap.size] FG := by
  refine ⟨h.1.upd2 (fun k hk => Or.inr (by have := List.mem_singleton.1 hk; subst this; exact ⟨fun hh => by have := (h.2 _ (Or.inl hh)).2; omega, fun hh => by have := (h.2 _ (Or.inr (Or.inl hh))).2; omega, fun hh => by have := (h.2 _ (Or.inr (Or.inr (Or.inr hh)))).2; omega⟩)), ?_⟩
  have hs : (w.alloc o).heap.size = w.heap.size + 1 := by simp
  rintro k (hk | hk | hk | hk)
  · have := h.2 k (Or.inl hk); omega
  · have := h.2 k (Or.inr (Or.inl hk)); omega
  · have := List.mem_singleton.1 hk; omega
  · have := h.2 k (Or.inr (Or.inr (Or.inr hk))); omega
theorem in4_app2 {lo : Nat} {w w' : World} {FA FB FC FG F9 : List Nat} (h : In4B lo w FA FB FC FG) (hlo : lo ≤ w.heap.size) (hs : w.heap.size ≤ w'.heap.size) (hl : ∀ k, k ∈ F9 → k < w'.heap.size) (h9 : ∀ k, k ∈ F9 → k ∈ FC ∨ w.heap.size ≤ k) : In4B lo w' FA FB F9 FG := by
  refine ⟨h.1.upd2 (fun k hk => (h9 k hk).imp id (fun h1 => ⟨fun hh => by have := (h.2 _ (Or.inl hh)).2; omega, fun hh => by have := (h.2 _ (Or.inr (Or.inl hh))).2; omega, fun hh => by have := (h.2 _ (Or.inr (Or.inr (Or.inr hh)))).2; omega⟩)), ?_⟩
  rintro k (hk | hk | hk | hk)
  · have := h.2 k (Or.inl hk); omega
  · have := h.2 k (Or.inr (Or.inl hk)); omega
  · rcases h9 k hk with h1 | h1
    · have h2 := (h.2 k (Or.inr (Or.inr (Or.inl h1)))).1; have h3 := hl k hk; omega
    · have h3 := hl k hk; omega
  · have := h.2 k (Or.inr (Or.inr (Or.inr hk))); omega
theorem in4_newG {lo : Nat} {w : World} {FA FB FC FG : List Nat} (h : In4B lo w FA FB FC FG) (hlo : lo ≤ w.heap.size) {o : Obj} : In4B lo (w.alloc o) FA FB FC [w.heap.size] := by
  refine ⟨h.1.upd3 (fun k hk => Or.inr (by have := List.mem_singleton.1 hk; subst this; exact ⟨fun hh => by have := (h.2 _ (Or.inl hh)).2; omega, fun hh => by have := (h.2 _ (Or.inr (Or.inl hh))).2; omega, fun hh => by have := (h.2 _ (Or.inr (Or.inr (Or.inl hh)))).2; omega⟩)), ?_⟩
  have hs : (w.alloc o).heap.size = w.heap.size + 1 := by simp
  rintro k (hk | hk | hk | hk)
  · have := h.2 k (Or.inl hk); omega
  · have := h.2 k (Or.inr (Or.inl hk)); omega
  · have := h.2 k (Or.inr (Or.inr (Or.inl hk))); omega
  · have := List.mem_singleton.1 hk; omega
section
variable {P : Program} {md : Region.Mode} {ops : Array Oper} {T : World → Prop} {L : List Nat} {Q : Exit → Act → World → Prop} {a : Act} {w : World}
theorem reg_all2 {i0 : Nat} {d0 : Option Nat} {op0 : Op} {ty0 : TypeId} {pos0 : String} {af0 : Array Edge} {i1 : Nat} {d1 : Option Nat} {op1 : Op} {ty1 : TypeId} {pos1 : String} {af1 : Array Edge} {fuel : Nat} {ls : Array Bool} (hi0 : ops[i0]? = some ⟨d0, op0, ty0, pos0, af0, none⟩) (hi1 : ops[i1]? = some ⟨d1, op1, ty1, pos1, af1, none⟩) (hr : Region.ready md ops ls = [i0, i1]) (h0 : ∀ K : Act → World → Prop, Shut (∀ a w, (i0 ∉ L → T w) → RegR P md ops Q L T fuel (ls.setIfInBounds i0 true) a w → K a w) → Oper.wp P ⟨d0, op0, ty0, pos0, af0, none⟩ a w K Q) (h1 : ∀ K : Act → World → Prop, Shut (∀ a w, (i1 ∉ L → T w) → RegR P md ops Q L T fuel (ls.setIfInBounds i1 true) a w → K a w) → Oper.wp P ⟨d1, op1, ty1, pos1, af1, none⟩ a w K Q) : RegR P md ops Q L T (fuel + 1) ls a w := by
  refine ⟨fun h0 => absurd (hr.symm.trans h0) (by simp), ?_⟩
  rw [hr]
  intro x hx
  rcases List.mem_cons.1 hx with rfl | hx
  · refine wpOp_step hi0 fun K' hK => ?_
    rw [if_pos (by simp [Region.wanted])]
    exact h0 K' fun a w h1 h2 => hK a w ⟨h1, h2⟩
  · obtain rfl := List.mem_singleton.1 hx
    refine wpOp_step hi1 fun K' hK => ?_
    rw [if_pos (by simp [Region.wanted])]
    exact h1 K' fun a w h1 h2 => hK a w ⟨h1, h2⟩
theorem reg_all3 {i0 : Nat} {d0 : Option Nat} {op0 : Op} {ty0 : TypeId} {pos0 : String} {af0 : Array Edge} {i1 : Nat} {d1 : Option Nat} {op1 : Op} {ty1 : TypeId} {pos1 : String} {af1 : Array Edge} {i2 : Nat} {d2 : Option Nat} {op2 : Op} {ty2 : TypeId} {pos2 : String} {af2 : Array Edge} {fuel : Nat} {ls : Array Bool} (hi0 : ops[i0]? = some ⟨d0, op0, ty0, pos0, af0, none⟩) (hi1 : ops[i1]? = some ⟨d1, op1, ty1, pos1, af1, none⟩) (hi2 : ops[i2]? = some ⟨d2, op2, ty2, pos2, af2, none⟩) (hr : Region.ready md ops ls = [i0, i1, i2]) (h0 : ∀ K : Act → World → Prop, Shut (∀ a w, (i0 ∉ L → T w) → RegR P md ops Q L T fuel (ls.setIfInBounds i0 true) a w → K a w) → Oper.wp P ⟨d0, op0, ty0, pos0, af0, none⟩ a w K Q) (h1 : ∀ K : Act → World → Prop, Shut (∀ a w, (i1 ∉ L → T w) → RegR P md ops Q L T fuel (ls.setIfInBounds i1 true) a w → K a w) → Oper.wp P ⟨d1, op1, ty1, pos1, af1, none⟩ a w K Q) (h2 : ∀ K : Act → World → Prop, Shut (∀ a w, (i2 ∉ L → T w) → RegR P md ops Q L T fuel (ls.setIfInBounds i2 true) a w → K a w) → Oper.wp P ⟨d2, op2, ty2, pos2, af2, none⟩ a w K Q) : RegR P md ops Q L T (fuel + 1) ls a w := by
  refine ⟨fun h0 => absurd (hr.symm.trans h0) (by simp), ?_⟩
  rw [hr]
  intro x hx
  rcases List.mem_cons.1 hx with rfl | hx
  · refine wpOp_step hi0 fun K' hK => ?_
    rw [if_pos (by simp [Region.wanted])]
    exact h0 K' fun a w h1 h2 => hK a w ⟨h1, h2⟩
  rcases List.mem_cons.1 hx with rfl | hx
  · refine wpOp_step hi1 fun K' hK => ?_
    rw [if_pos (by simp [Region.wanted])]
    exact h1 K' fun a w h1 h2 => hK a w ⟨h1, h2⟩
  · obtain rfl := List.mem_singleton.1 hx
    refine wpOp_step hi2 fun K' hK => ?_
    rw [if_pos (by simp [Region.wanted])]
    exact h2 K' fun a w h1 h2 => hK a w ⟨h1, h2⟩
theorem reg_all4 {i0 : Nat} {d0 : Option Nat} {op0 : Op} {ty0 : TypeId} {pos0 : String} {af0 : Array Edge} {i1 : Nat} {d1 : Option Nat} {op1 : Op} {ty1 : TypeId} {pos1 : String} {af1 : Array Edge} {i2 : Nat} {d2 : Option Nat} {op2 : Op} {ty2 : TypeId} {pos2 : String} {af2 : Array Edge} {i3 : Nat} {d3 : Option Nat} {op3 : Op} {ty3 : TypeId} {pos3 : String} {af3 : Array Edge} {fuel : Nat} {ls : Array Bool} (hi0 : ops[i0]? = some ⟨d0, op0, ty0, pos0, af0, none⟩) (hi1 : ops[i1]? = some ⟨d1, op1, ty1, pos1, af1, none⟩) (hi2 : ops[i2]? = some ⟨d2, op2, ty2, pos2, af2, none⟩) (hi3 : ops[i3]? = some ⟨d3, op3, ty3, pos3, af3, none⟩) (hr : Region.ready md ops ls = [i0, i1, i2, i3]) (h0 : ∀ K : Act → World → Prop, Shut (∀ a w, (i0 ∉ L → T w) → RegR P md ops Q L T fuel (ls.setIfInBounds i0 true) a w → K a w) → Oper.wp P ⟨d0, op0, ty0, pos0, af0, none⟩ a w K Q) (h1 : ∀ K : Act → World → Prop, Shut (∀ a w, (i1 ∉ L → T w) → RegR P md ops Q L T fuel (ls.setIfInBounds i1 true) a w → K a w) → Oper.wp P ⟨d1, op1, ty1, pos1, af1, none⟩ a w K Q) (h2 : ∀ K : Act → World → Prop, Shut (∀ a w, (i2 ∉ L → T w) → RegR P md ops Q L T fuel (ls.setIfInBounds i2 true) a w → K a w) → Oper.wp P ⟨d2, op2, ty2, pos2, af2, none⟩ a w K Q) (h3 : ∀ K : Act → World → Prop, Shut (∀ a w, (i3 ∉ L → T w) → RegR P md ops Q L T fuel (ls.setIfInBounds i3 true) a w → K a w) → Oper.wp P ⟨d3, op3, ty3, pos3, af3, none⟩ a w K Q) : RegR P md ops Q L T (fuel + 1) ls a w := by
  refine ⟨fun h0 => absurd (hr.symm.trans h0) (by simp), ?_⟩
  rw [hr]
  intro x hx
  rcases List.mem_cons.1 hx with rfl | hx
  · refine wpOp_step hi0 fun K' hK => ?_
    rw [if_pos (by simp [Region.wanted])]
    exact h0 K' fun a w h1 h2 => hK a w ⟨h1, h2⟩
  rcases List.mem_cons.1 hx with rfl | hx
  · refine wpOp_step hi1 fun K' hK => ?_
    rw [if_pos (by simp [Region.wanted])]
    exact h1 K' fun a w h1 h2 => hK a w ⟨h1, h2⟩
  rcases List.mem_cons.1 hx with rfl | hx
  · refine wpOp_step hi2 fun K' hK => ?_
    rw [if_pos (by simp [Region.wanted])]
    exact h2 K' fun a w h1 h2 => hK a w ⟨h1, h2⟩
  · obtain rfl := List.mem_singleton.1 hx
    refine wpOp_step hi3 fun K' hK => ?_
    rw [if_pos (by simp [Region.wanted])]
    exact h3 K' fun a w h1 h2 => hK a w ⟨h1, h2⟩
end
set_option maxHeartbeats 2000000 in
set_option maxRecDepth 100000 in
theorem cp_311111 {ops : Array Oper} (HC : CpOps ops) {x0 : Value} {g1 g2 : Nat} {A1 A2 A3 : Option Addr} {n1 c1 n2 c2 n3 c3 : Nat} {q : Int} {xs0 xs1 : EntryST} {xs2 : DirOpST} {w1 : World} {Q : Exit → Act → World → Prop} (HR0 : Sec (Row dEntry w1 (· < w1.heap.size) A1 n1 xs0)) (HR1 : Sec (Row dEntry w1 (· < w1.heap.size) A2 n2 xs1)) (HR2 : Sec (Row dDirOp w1 (· < w1.heap.size) A3 n3 xs2)) (hl0 : xs0.length ≤ 1048576) (hl1 : xs1.length ≤ 1048576) (hl2 : xs2.length ≤ 1048576) (HQ : Sec (∀ (g3 : Nat) (R0 R1 R2 : Option Addr) (m0 e0 m1 e1 m2 e2 : Nat) (u6 u10 u14 u20 : Value) (W : World) (FA FB FC : List Nat), New w1 W → In4B w1.heap.size W FA FB FC [g3] → Own dEntry 98 W FA (.slice R0 m0 e0) xs0 → Own dEntry 98 W FB (.slice R1 m1 e1) xs1 → Own dDirOp 90 W FC (.slice R2 m2 e2) xs2 → Blk W g3 34 [.slice none 0 0, .slice none 0 0, .slice none 0 0, .slice none 0 0, .int .i64 0] → Q .normal (cpAct x0 g1 g2 A1 A2 A3 n1 c1 n2 c2 n3 c3 q (.pointer (some ⟨g3, 0, none⟩)) u6 (.slice R0 m0 e0) u10 (.slice R1 m1 e1) u14 (.slice R2 m2 e2) u20) (set5 W g3 (.slice none 0 0) (.slice R0 m0 e0) (.slice R1 m1 e1) (.slice R2 m2 e2) (.int .i64 q)))) {W : World} {FA FB FC FG : List Nat} (HN : Sec (New w1 W)) (HI : Sec (In4B w1.heap.size W FA FB FC FG)) {R0 : Option Addr} {m0 e0 : Nat} (HO0 : Sec (Own dEntry 98 W FA (.slice R0 m0 e0) xs0)) {R1 : Option Addr} {m1 e1 : Nat} (HO1 : Sec (Own dEntry 98 W FB (.slice R1 m1 e1) xs1)) {R2 : Option Addr} {m2 e2 : Nat} (HO2 : Sec (Own dDirOp 90 W FC (.slice R2 m2 e2) xs2)) {g3 : Nat} (HB3 : Sec (Blk W g3 34 [.slice none 0 0, .slice none 0 0, .slice none 0 0, .slice none 0 0, .int .i64 0])) (hFG : FG = [g3]) {u6 u10 u14 : Value} : RegR Tryz.prog .any ops Q [16] (fun W => Sec (New w1 W)) 1 #[true, true, true, true, true, true, true, true, true, true, true, true, true, true, true, true, false] (cpAct x0 g1 g2 A1 A2 A3 n1 c1 n2 c2 n3 c3 q (.pointer (some ⟨g3, 0, none⟩)) (u6) (.slice R0 m0 e0) (u10) (.slice R1 m1 e1) (u14) (.slice R2 m2 e2) (.agg #[.slice none 0 0, .slice R0 m0 e0, .slice R1 m1 e1, .slice R2 m2 e2, .int .i64 q])) W := by
  obtain ⟨ty16, pos16, af16, q16⟩ := HC.e16
  refine reg_step (i := 16) q16 HC.r311111 (fun K hK => ?_)
  subst hFG
  refine wp_store rfl rfl rfl rfl (stDisk HB3.out none R0 R1 R2 0 0 m0 e0 m1 e1 m2 e2 q) (hK.out _ _ (fun h => absurd (List.mem_singleton.2 rfl) h) ?_)
  exact reg_done HC.rend (HQ.out _ _ _ _ _ _ _ _ _ _ _ _ _ _ _ _ _ _ HN.out HI.out HO0.out HO1.out HO2.out HB3.out) _
set_option maxHeartbeats 2000000 in
set_option maxRecDepth 100000 in
theorem cp_311101 {ops : Array Oper} (HC : CpOps ops) {x0 : Value} {g1 g2 : Nat} {A1 A2 A3 : Option Addr} {n1 c1 n2 c2 n3 c3 : Nat} {q : Int} {xs0 xs1 : EntryST} {xs2 : DirOpST} {w1 : World} {Q : Exit → Act → World → Prop} (HR0 : Sec (Row dEntry w1 (· < w1.heap.size) A1 n1 xs0)) (HR1 : Sec (Row dEntry w1 (· < w1.heap.size) A2 n2 xs1)) (HR2 : Sec (Row dDirOp w1 (· < w1.heap.size) A3 n3 xs2)) (hl0 : xs0.length ≤ 1048576) (hl1 : xs1.length ≤ 1048576) (hl2 : xs2.length ≤ 1048576) (HQ : Sec (∀ (g3 : Nat) (R0 R1 R2 : Option Addr) (m0 e0 m1 e1 m2 e2 : Nat) (u6 u10 u14 u20 : Value) (W : World) (FA FB FC : List Nat), New w1 W → In4B w1.heap.size W FA FB FC [g3] → Own dEntry 98 W FA (.slice R0 m0 e0) xs0 → Own dEntry 98 W FB (.slice R1 m1 e1) xs1 → Own dDirOp 90 W FC (.slice R2 m2 e2) xs2 → Blk W g3 34 [.slice none 0 0, .slice none 0 0, .slice none 0 0, .slice none 0 0, .int .i64 0] → Q .normal (cpAct x0 g1 g2 A1 A2 A3 n1 c1 n2 c2 n3 c3 q (.pointer (some ⟨g3, 0, none⟩)) u6 (.slice R0 m0 e0) u10 (.slice R1 m1 e1) u14 (.slice R2 m2 e2) u20) (set5 W g3 (.slice none 0 0) (.slice R0 m0 e0) (.slice R1 m1 e1) (.slice R2 m2 e2) (.int .i64 q)))) {W : World} {FA FB FC FG : List Nat} (HN : Sec (New w1 W)) (HI : Sec (In4B w1.heap.size W FA FB FC FG)) {R0 : Option Addr} {m0 e0 : Nat} (HO0 : Sec (Own dEntry 98 W FA (.slice R0 m0 e0) xs0)) {R1 : Option Addr} {m1 e1 : Nat} (HO1 : Sec (Own dEntry 98 W FB (.slice R1 m1 e1) xs1)) {R2 : Option Addr} {m2 e2 : Nat} (HO2 : Sec (Own dDirOp 90 W FC (.slice R2 m2 e2) xs2)) {u3 u6 u10 u14 : Value} : RegR Tryz.prog .any ops Q [16] (fun W => Sec (New w1 W)) 2 #[true, true, true, true, true, true, true, true, true, true, true, true, true, true, true, false, false] (cpAct x0 g1 g2 A1 A2 A3 n1 c1 n2 c2 n3 c3 q (u3) (u6) (.slice R0 m0 e0) (u10) (.slice R1 m1 e1) (u14) (.slice R2 m2 e2) (.agg #[.slice none 0 0, .slice R0 m0 e0, .slice R1 m1 e1, .slice R2 m2 e2, .int .i64 q])) W := by
  obtain ⟨ty15, pos15, af15, q15⟩ := HC.e15
  refine reg_step (i := 15) q15 HC.r311101 (fun K hK => ?_)
  have hma : New W (W.alloc (.cells zDisk.toArray 34)) := (Mod.refl _ _).alloc _
  have HN2 : Sec (New w1 (W.alloc (.cells zDisk.toArray 34))) := ⟨HN.out.transN hma⟩
  have hI2 : In4B w1.heap.size (W.alloc (.cells zDisk.toArray 34)) FA FB FC [W.heap.size] := in4_newG HI.out HN.out.size
  refine wp_valw (n := 3) (v := .pointer (some ⟨W.heap.size, 0, none⟩)) (w' := W.alloc (.cells zDisk.toArray 34)) (exec_allocDisk rfl) rfl ?_
  exact hK.out _ _ (fun _ => HN2) (cp_311111 HC HR0 HR1 HR2 hl0 hl1 hl2 HQ HN2 ⟨hI2⟩ ⟨HO0.out.keep hma (fun _ _ h => h)⟩ ⟨HO1.out.keep hma (fun _ _ h => h)⟩ ⟨HO2.out.keep hma (fun _ _ h => h)⟩ ⟨Blk.new W 34 zDisk⟩ rfl)
set_option maxHeartbeats 2000000 in
set_option maxRecDepth 100000 in
theorem cp_311110 {ops : Array Oper} (HC : CpOps ops) {x0 : Value} {g1 g2 : Nat} {A1 A2 A3 : Option Addr} {n1 c1 n2 c2 n3 c3 : Nat} {q : Int} {xs0 xs1 : EntryST} {xs2 : DirOpST} {w1 : World} {Q : Exit → Act → World → Prop} (HR0 : Sec (Row dEntry w1 (· < w1.heap.size) A1 n1 xs0)) (HR1 : Sec (Row dEntry w1 (· < w1.heap.size) A2 n2 xs1)) (HR2 : Sec (Row dDirOp w1 (· < w1.heap.size) A3 n3 xs2)) (hl0 : xs0.length ≤ 1048576) (hl1 : xs1.length ≤ 1048576) (hl2 : xs2.length ≤ 1048576) (HQ : Sec (∀ (g3 : Nat) (R0 R1 R2 : Option Addr) (m0 e0 m1 e1 m2 e2 : Nat) (u6 u10 u14 u20 : Value) (W : World) (FA FB FC : List Nat), New w1 W → In4B w1.heap.size W FA FB FC [g3] → Own dEntry 98 W FA (.slice R0 m0 e0) xs0 → Own dEntry 98 W FB (.slice R1 m1 e1) xs1 → Own dDirOp 90 W FC (.slice R2 m2 e2) xs2 → Blk W g3 34 [.slice none 0 0, .slice none 0 0, .slice none 0 0, .slice none 0 0, .int .i64 0] → Q .normal (cpAct x0 g1 g2 A1 A2 A3 n1 c1 n2 c2 n3 c3 q (.pointer (some ⟨g3, 0, none⟩)) u6 (.slice R0 m0 e0) u10 (.slice R1 m1 e1) u14 (.slice R2 m2 e2) u20) (set5 W g3 (.slice none 0 0) (.slice R0 m0 e0) (.slice R1 m1 e1) (.slice R2 m2 e2) (.int .i64 q)))) {W : World} {FA FB FC FG : List Nat} (HN : Sec (New w1 W)) (HI : Sec (In4B w1.heap.size W FA FB FC FG)) {R0 : Option Addr} {m0 e0 : Nat} (HO0 : Sec (Own dEntry 98 W FA (.slice R0 m0 e0) xs0)) {R1 : Option Addr} {m1 e1 : Nat} (HO1 : Sec (Own dEntry 98 W FB (.slice R1 m1 e1) xs1)) {R2 : Option Addr} {m2 e2 : Nat} (HO2 : Sec (Own dDirOp 90 W FC (.slice R2 m2 e2) xs2)) {g3 : Nat} (HB3 : Sec (Blk W g3 34 [.slice none 0 0, .slice none 0 0, .slice none 0 0, .slice none 0 0, .int .i64 0])) (hFG : FG = [g3]) {u6 u10 u14 u20 : Value} : RegR Tryz.prog .any ops Q [16] (fun W => Sec (New w1 W)) 2 #[true, true, true, true, true, true, true, true, true, true, true, true, true, true, false, true, false] (cpAct x0 g1 g2 A1 A2 A3 n1 c1 n2 c2 n3 c3 q (.pointer (some ⟨g3, 0, none⟩)) (u6) (.slice R0 m0 e0) (u10) (.slice R1 m1 e1) (u14) (.slice R2 m2 e2) (u20)) W := by
  obtain ⟨ty14, pos14, af14, q14⟩ := HC.e14
  refine reg_step (i := 14) q14 HC.r311110 (fun K hK => ?_)
  refine wp_val (n := 20) (v := .agg #[.slice none 0 0, .slice R0 m0 e0, .slice R1 m1 e1, .slice R2 m2 e2, .int .i64 q]) (exec_build (parts := [(1, .tmp 9), (2, .tmp 13), (3, .tmp 17), (4, .tmp 19)]) (vs := [(1, .slice R0 m0 e0), (2, .slice R1 m1 e1), (3, .slice R2 m2 e2), (4, .int .i64 q)]) rfl rfl (bldDiskI R0 R1 R2 m0 e0 m1 e1 m2 e2 q W)) rfl ?_
  exact hK.out _ _ (fun _ => HN) (cp_311111 HC HR0 HR1 HR2 hl0 hl1 hl2 HQ HN HI HO0 HO1 HO2 HB3 hFG)
set_option maxHeartbeats 2000000 in
set_option maxRecDepth 100000 in
theorem cp_211110 {ops : Array Oper} (HC : CpOps ops) {x0 : Value} {g1 g2 : Nat} {A1 A2 A3 : Option Addr} {n1 c1 n2 c2 n3 c3 : Nat} {q : Int} {xs0 xs1 : EntryST} {xs2 : DirOpST} {w1 : World} {Q : Exit → Act → World → Prop} (HR0 : Sec (Row dEntry w1 (· < w1.heap.size) A1 n1 xs0)) (HR1 : Sec (Row dEntry w1 (· < w1.heap.size) A2 n2 xs1)) (HR2 : Sec (Row dDirOp w1 (· < w1.heap.size) A3 n3 xs2)) (hl0 : xs0.length ≤ 1048576) (hl1 : xs1.length ≤ 1048576) (hl2 : xs2.length ≤ 1048576) (HQ : Sec (∀ (g3 : Nat) (R0 R1 R2 : Option Addr) (m0 e0 m1 e1 m2 e2 : Nat) (u6 u10 u14 u20 : Value) (W : World) (FA FB FC : List Nat), New w1 W → In4B w1.heap.size W FA FB FC [g3] → Own dEntry 98 W FA (.slice R0 m0 e0) xs0 → Own dEntry 98 W FB (.slice R1 m1 e1) xs1 → Own dDirOp 90 W FC (.slice R2 m2 e2) xs2 → Blk W g3 34 [.slice none 0 0, .slice none 0 0, .slice none 0 0, .slice none 0 0, .int .i64 0] → Q .normal (cpAct x0 g1 g2 A1 A2 A3 n1 c1 n2 c2 n3 c3 q (.pointer (some ⟨g3, 0, none⟩)) u6 (.slice R0 m0 e0) u10 (.slice R1 m1 e1) u14 (.slice R2 m2 e2) u20) (set5 W g3 (.slice none 0 0) (.slice R0 m0 e0) (.slice R1 m1 e1) (.slice R2 m2 e2) (.int .i64 q)))) {W : World} {FA FB FC FG : List Nat} (HN : Sec (New w1 W)) (HI : Sec (In4B w1.heap.size W FA FB FC FG)) {R0 : Option Addr} {m0 e0 : Nat} (HO0 : Sec (Own dEntry 98 W FA (.slice R0 m0 e0) xs0)) {R1 : Option Addr} {m1 e1 : Nat} (HO1 : Sec (Own dEntry 98 W FB (.slice R1 m1 e1) xs1)) {B2 : Option Addr} (HO2 : Sec (Own dDirOp 90 W FC (.slice B2 0 0) [])) {g3 : Nat} (HB3 : Sec (Blk W g3 34 [.slice none 0 0, .slice none 0 0, .slice none 0 0, .slice none 0 0, .int .i64 0])) (hFG : FG = [g3]) {u6 u10 u17 u20 : Value} : RegR Tryz.prog .any ops Q [16] (fun W => Sec (New w1 W)) 3 #[true, true, true, true, true, true, true, true, true, true, true, false, true, true, false, true, false] (cpAct x0 g1 g2 A1 A2 A3 n1 c1 n2 c2 n3 c3 q (.pointer (some ⟨g3, 0, none⟩)) (u6) (.slice R0 m0 e0) (u10) (.slice R1 m1 e1) (.slice B2 0 0) (u17) (u20)) W := by
  obtain ⟨ty11, pos11, af11, q11⟩ := HC.e11
  refine reg_step (i := 11) q11 HC.r211110 (fun K hK => ?_)
  have hFGn : ∀ k, k ∈ FC → k ∉ FG := fun k h => HI.out.1.2.2 k h
  refine wp_appFD _ (.tmp 14) (.tmp 16) _ rfl Tryz.underlying32 eltDirOp flatDirOp rfl rfl HO2.out (HR2.out.mod (w' := W) (B' := (· < w1.heap.size)) (fun _ h => h) (fun i hi => HN.out.block i hi id)) (by simp; omega) ?_
  intro A9 n9 c9 W2 F9 ho2 hF9 hm2
  rw [List.nil_append] at ho2
  have HN2 : Sec (New w1 W2) := ⟨HN.out.trans hm2 (fun k hk hlt => by have := (HI.out.2 k (Or.inr (Or.inr (Or.inl hk)))).1; omega)⟩
  have hI2 : In4B w1.heap.size W2 FA FB F9 FG := in4_app2 HI.out HN.out.size hm2.size (fun k hk => ho2.lt k hk) hF9
  exact hK.out _ _ (fun _ => HN2) (cp_311110 HC HR0 HR1 HR2 hl0 hl1 hl2 HQ HN2 ⟨hI2⟩ ⟨HO0.out.keep hm2 (fun k hk h => (HI.out.1.1 k hk).2.1 h)⟩ ⟨HO1.out.keep hm2 (fun k hk h => (HI.out.1.2.1 k hk).1 h)⟩ ⟨ho2⟩ ⟨HB3.out.mod hm2 (fun h => hFGn g3 h (by rw [hFG]; simp))⟩ hFG)
set_option maxHeartbeats 2000000 in
set_option maxRecDepth 100000 in
theorem cp_311100 {ops : Array Oper} (HC : CpOps ops) {x0 : Value} {g1 g2 : Nat} {A1 A2 A3 : Option Addr} {n1 c1 n2 c2 n3 c3 : Nat} {q : Int} {xs0 xs1 : EntryST} {xs2 : DirOpST} {w1 : World} {Q : Exit → Act → World → Prop} (HR0 : Sec (Row dEntry w1 (· < w1.heap.size) A1 n1 xs0)) (HR1 : Sec (Row dEntry w1 (· < w1.heap.size) A2 n2 xs1)) (HR2 : Sec (Row dDirOp w1 (· < w1.heap.size) A3 n3 xs2)) (hl0 : xs0.length ≤ 1048576) (hl1 : xs1.length ≤ 1048576) (hl2 : xs2.length ≤ 1048576) (HQ : Sec (∀ (g3 : Nat) (R0 R1 R2 : Option Addr) (m0 e0 m1 e1 m2 e2 : Nat) (u6 u10 u14 u20 : Value) (W : World) (FA FB FC : List Nat), New w1 W → In4B w1.heap.size W FA FB FC [g3] → Own dEntry 98 W FA (.slice R0 m0 e0) xs0 → Own dEntry 98 W FB (.slice R1 m1 e1) xs1 → Own dDirOp 90 W FC (.slice R2 m2 e2) xs2 → Blk W g3 34 [.slice none 0 0, .slice none 0 0, .slice none 0 0, .slice none 0 0, .int .i64 0] → Q .normal (cpAct x0 g1 g2 A1 A2 A3 n1 c1 n2 c2 n3 c3 q (.pointer (some ⟨g3, 0, none⟩)) u6 (.slice R0 m0 e0) u10 (.slice R1 m1 e1) u14 (.slice R2 m2 e2) u20) (set5 W g3 (.slice none 0 0) (.slice R0 m0 e0) (.slice R1 m1 e1) (.slice R2 m2 e2) (.int .i64 q)))) {W : World} {FA FB FC FG : List Nat} (HN : Sec (New w1 W)) (HI : Sec (In4B w1.heap.size W FA FB FC FG)) {R0 : Option Addr} {m0 e0 : Nat} (HO0 : Sec (Own dEntry 98 W FA (.slice R0 m0 e0) xs0)) {R1 : Option Addr} {m1 e1 : Nat} (HO1 : Sec (Own dEntry 98 W FB (.slice R1 m1 e1) xs1)) {R2 : Option Addr} {m2 e2 : Nat} (HO2 : Sec (Own dDirOp 90 W FC (.slice R2 m2 e2) xs2)) {u3 u6 u10 u14 u20 : Value} : RegR Tryz.prog .any ops Q [16] (fun W => Sec (New w1 W)) 3 #[true, true, true, true, true, true, true, true, true, true, true, true, true, true, false, false, false] (cpAct x0 g1 g2 A1 A2 A3 n1 c1 n2 c2 n3 c3 q (u3) (u6) (.slice R0 m0 e0) (u10) (.slice R1 m1 e1) (u14) (.slice R2 m2 e2) (u20)) W := by
  obtain ⟨ty14, pos14, af14, q14⟩ := HC.e14
  obtain ⟨ty15, pos15, af15, q15⟩ := HC.e15
  refine reg_all2 (i0 := 14) (i1 := 15) q14 q15 HC.r311100 (fun K hK => ?_) (fun K hK => ?_)
  · refine wp_val (n := 20) (v := .agg #[.slice none 0 0, .slice R0 m0 e0, .slice R1 m1 e1, .slice R2 m2 e2, .int .i64 q]) (exec_build (parts := [(1, .tmp 9), (2, .tmp 13), (3, .tmp 17), (4, .tmp 19)]) (vs := [(1, .slice R0 m0 e0), (2, .slice R1 m1 e1), (3, .slice R2 m2 e2), (4, .int .i64 q)]) rfl rfl (bldDiskI R0 R1 R2 m0 e0 m1 e1 m2 e2 q W)) rfl ?_
    exact hK.out _ _ (fun _ => HN) (cp_311101 HC HR0 HR1 HR2 hl0 hl1 hl2 HQ HN HI HO0 HO1 HO2)
  · have hma : New W (W.alloc (.cells zDisk.toArray 34)) := (Mod.refl _ _).alloc _
    have HN2 : Sec (New w1 (W.alloc (.cells zDisk.toArray 34))) := ⟨HN.out.transN hma⟩
    have hI2 : In4B w1.heap.size (W.alloc (.cells zDisk.toArray 34)) FA FB FC [W.heap.size] := in4_newG HI.out HN.out.size
    refine wp_valw (n := 3) (v := .pointer (some ⟨W.heap.size, 0, none⟩)) (w' := W.alloc (.cells zDisk.toArray 34)) (exec_allocDisk rfl) rfl ?_
    exact hK.out _ _ (fun _ => HN2) (cp_311110 HC HR0 HR1 HR2 hl0 hl1 hl2 HQ HN2 ⟨hI2⟩ ⟨HO0.out.keep hma (fun _ _ h => h)⟩ ⟨HO1.out.keep hma (fun _ _ h => h)⟩ ⟨HO2.out.keep hma (fun _ _ h => h)⟩ ⟨Blk.new W 34 zDisk⟩ rfl)
set_option maxHeartbeats 2000000 in
set_option maxRecDepth 100000 in
theorem cp_111110 {ops : Array Oper} (HC : CpOps ops) {x0 : Value} {g1 g2 : Nat} {A1 A2 A3 : Option Addr} {n1 c1 n2 c2 n3 c3 : Nat} {q : Int} {xs0 xs1 : EntryST} {xs2 : DirOpST} {w1 : World} {Q : Exit → Act → World → Prop} (HR0 : Sec (Row dEntry w1 (· < w1.heap.size) A1 n1 xs0)) (HR1 : Sec (Row dEntry w1 (· < w1.heap.size) A2 n2 xs1)) (HR2 : Sec (Row dDirOp w1 (· < w1.heap.size) A3 n3 xs2)) (hl0 : xs0.length ≤ 1048576) (hl1 : xs1.length ≤ 1048576) (hl2 : xs2.length ≤ 1048576) (HQ : Sec (∀ (g3 : Nat) (R0 R1 R2 : Option Addr) (m0 e0 m1 e1 m2 e2 : Nat) (u6 u10 u14 u20 : Value) (W : World) (FA FB FC : List Nat), New w1 W → In4B w1.heap.size W FA FB FC [g3] → Own dEntry 98 W FA (.slice R0 m0 e0) xs0 → Own dEntry 98 W FB (.slice R1 m1 e1) xs1 → Own dDirOp 90 W FC (.slice R2 m2 e2) xs2 → Blk W g3 34 [.slice none 0 0, .slice none 0 0, .slice none 0 0, .slice none 0 0, .int .i64 0] → Q .normal (cpAct x0 g1 g2 A1 A2 A3 n1 c1 n2 c2 n3 c3 q (.pointer (some ⟨g3, 0, none⟩)) u6 (.slice R0 m0 e0) u10 (.slice R1 m1 e1) u14 (.slice R2 m2 e2) u20) (set5 W g3 (.slice none 0 0) (.slice R0 m0 e0) (.slice R1 m1 e1) (.slice R2 m2 e2) (.int .i64 q)))) {W : World} {FA FB FC FG : List Nat} (HN : Sec (New w1 W)) (HI : Sec (In4B w1.heap.size W FA FB FC FG)) {R0 : Option Addr} {m0 e0 : Nat} (HO0 : Sec (Own dEntry 98 W FA (.slice R0 m0 e0) xs0)) {B1 : Option Addr} (HO1 : Sec (Own dEntry 98 W FB (.slice B1 0 0) [])) {B2 : Option Addr} (HO2 : Sec (Own dDirOp 90 W FC (.slice B2 0 0) [])) {g3 : Nat} (HB3 : Sec (Blk W g3 34 [.slice none 0 0, .slice none 0 0, .slice none 0 0, .slice none 0 0, .int .i64 0])) (hFG : FG = [g3]) {u6 u13 u17 u20 : Value} : RegR Tryz.prog .any ops Q [16] (fun W => Sec (New w1 W)) 4 #[true, true, true, true, true, true, true, false, true, true, true, false, true, true, false, true, false] (cpAct x0 g1 g2 A1 A2 A3 n1 c1 n2 c2 n3 c3 q (.pointer (some ⟨g3, 0, none⟩)) (u6) (.slice R0 m0 e0) (.slice B1 0 0) (u13) (.slice B2 0 0) (u17) (u20)) W := by
  obtain ⟨ty7, pos7, af7, q7⟩ := HC.e7
  refine reg_step (i := 7) q7 HC.r111110 (fun K hK => ?_)
  have hFGn : ∀ k, k ∈ FB → k ∉ FG := fun k h => (HI.out.1.2.1 k h).2
  refine wp_appFD _ (.tmp 10) (.tmp 12) _ rfl Tryz.underlying31 elt_entry flatEntry rfl rfl HO1.out (HR1.out.mod (w' := W) (B' := (· < w1.heap.size)) (fun _ h => h) (fun i hi => HN.out.block i hi id)) (by simp; omega) ?_
  intro A9 n9 c9 W2 F9 ho2 hF9 hm2
  rw [List.nil_append] at ho2
  have HN2 : Sec (New w1 W2) := ⟨HN.out.trans hm2 (fun k hk hlt => by have := (HI.out.2 k (Or.inr (Or.inl hk))).1; omega)⟩
  have hI2 : In4B w1.heap.size W2 FA F9 FC FG := in4_app1 HI.out HN.out.size hm2.size (fun k hk => ho2.lt k hk) hF9
  exact hK.out _ _ (fun _ => HN2) (cp_211110 HC HR0 HR1 HR2 hl0 hl1 hl2 HQ HN2 ⟨hI2⟩ ⟨HO0.out.keep hm2 (fun k hk h => (HI.out.1.1 k hk).1 h)⟩ ⟨ho2⟩ ⟨HO2.out.keep hm2 (fun k hk h => (HI.out.1.2.1 k h).1 hk)⟩ ⟨HB3.out.mod hm2 (fun h => hFGn g3 h (by rw [hFG]; simp))⟩ hFG)
set_option maxHeartbeats 2000000 in
set_option maxRecDepth 100000 in
theorem cp_211010 {ops : Array Oper} (HC : CpOps ops) {x0 : Value} {g1 g2 : Nat} {A1 A2 A3 : Option Addr} {n1 c1 n2 c2 n3 c3 : Nat} {q : Int} {xs0 xs1 : EntryST} {xs2 : DirOpST} {w1 : World} {Q : Exit → Act → World → Prop} (HR0 : Sec (Row dEntry w1 (· < w1.heap.size) A1 n1 xs0)) (HR1 : Sec (Row dEntry w1 (· < w1.heap.size) A2 n2 xs1)) (HR2 : Sec (Row dDirOp w1 (· < w1.heap.size) A3 n3 xs2)) (hl0 : xs0.length ≤ 1048576) (hl1 : xs1.length ≤ 1048576) (hl2 : xs2.length ≤ 1048576) (HQ : Sec (∀ (g3 : Nat) (R0 R1 R2 : Option Addr) (m0 e0 m1 e1 m2 e2 : Nat) (u6 u10 u14 u20 : Value) (W : World) (FA FB FC : List Nat), New w1 W → In4B w1.heap.size W FA FB FC [g3] → Own dEntry 98 W FA (.slice R0 m0 e0) xs0 → Own dEntry 98 W FB (.slice R1 m1 e1) xs1 → Own dDirOp 90 W FC (.slice R2 m2 e2) xs2 → Blk W g3 34 [.slice none 0 0, .slice none 0 0, .slice none 0 0, .slice none 0 0, .int .i64 0] → Q .normal (cpAct x0 g1 g2 A1 A2 A3 n1 c1 n2 c2 n3 c3 q (.pointer (some ⟨g3, 0, none⟩)) u6 (.slice R0 m0 e0) u10 (.slice R1 m1 e1) u14 (.slice R2 m2 e2) u20) (set5 W g3 (.slice none 0 0) (.slice R0 m0 e0) (.slice R1 m1 e1) (.slice R2 m2 e2) (.int .i64 q)))) {W : World} {FA FB FC FG : List Nat} (HN : Sec (New w1 W)) (HI : Sec (In4B w1.heap.size W FA FB FC FG)) {R0 : Option Addr} {m0 e0 : Nat} (HO0 : Sec (Own dEntry 98 W FA (.slice R0 m0 e0) xs0)) {R1 : Option Addr} {m1 e1 : Nat} (HO1 : Sec (Own dEntry 98 W FB (.slice R1 m1 e1) xs1)) {g3 : Nat} (HB3 : Sec (Blk W g3 34 [.slice none 0 0, .slice none 0 0, .slice none 0 0, .slice none 0 0, .int .i64 0])) (hFG : FG = [g3]) {u6 u10 u14 u17 u20 : Value} : RegR Tryz.prog .any ops Q [16] (fun W => Sec (New w1 W)) 4 #[true, true, true, true, true, true, true, true, false, true, true, false, true, true, false, true, false] (cpAct x0 g1 g2 A1 A2 A3 n1 c1 n2 c2 n3 c3 q (.pointer (some ⟨g3, 0, none⟩)) (u6) (.slice R0 m0 e0) (u10) (.slice R1 m1 e1) (u14) (u17) (u20)) W := by
  obtain ⟨ty8, pos8, af8, q8⟩ := HC.e8
  refine reg_step (i := 8) q8 HC.r211010 (fun K hK => ?_)
  have hma : New W (W.alloc (.cells #[] 90)) := (Mod.refl _ _).alloc _
  have HN2 : Sec (New w1 (W.alloc (.cells #[] 90))) := ⟨HN.out.transN hma⟩
  have hI2 : In4B w1.heap.size (W.alloc (.cells #[] 90)) FA FB [W.heap.size] FG := in4_new2 HI.out HN.out.size
  refine wp_valw (n := 14) (v := .slice (some ⟨W.heap.size, 0, none⟩) 0 0) (w' := W.alloc (.cells #[] 90)) (exec_buildSlice (parts := []) (vs := []) rfl rfl (bldDop0I _)) rfl ?_
  exact hK.out _ _ (fun _ => HN2) (cp_211110 HC HR0 HR1 HR2 hl0 hl1 hl2 HQ HN2 ⟨hI2⟩ ⟨HO0.out.keep hma (fun _ _ h => h)⟩ ⟨HO1.out.keep hma (fun _ _ h => h)⟩ ⟨Own.empty0 _ _ _⟩ ⟨HB3.out.mod hma id⟩ hFG)
set_option maxHeartbeats 2000000 in
set_option maxRecDepth 100000 in
theorem cp_211100 {ops : Array Oper} (HC : CpOps ops) {x0 : Value} {g1 g2 : Nat} {A1 A2 A3 : Option Addr} {n1 c1 n2 c2 n3 c3 : Nat} {q : Int} {xs0 xs1 : EntryST} {xs2 : DirOpST} {w1 : World} {Q : Exit → Act → World → Prop} (HR0 : Sec (Row dEntry w1 (· < w1.heap.size) A1 n1 xs0)) (HR1 : Sec (Row dEntry w1 (· < w1.heap.size) A2 n2 xs1)) (HR2 : Sec (Row dDirOp w1 (· < w1.heap.size) A3 n3 xs2)) (hl0 : xs0.length ≤ 1048576) (hl1 : xs1.length ≤ 1048576) (hl2 : xs2.length ≤ 1048576) (HQ : Sec (∀ (g3 : Nat) (R0 R1 R2 : Option Addr) (m0 e0 m1 e1 m2 e2 : Nat) (u6 u10 u14 u20 : Value) (W : World) (FA FB FC : List Nat), New w1 W → In4B w1.heap.size W FA FB FC [g3] → Own dEntry 98 W FA (.slice R0 m0 e0) xs0 → Own dEntry 98 W FB (.slice R1 m1 e1) xs1 → Own dDirOp 90 W FC (.slice R2 m2 e2) xs2 → Blk W g3 34 [.slice none 0 0, .slice none 0 0, .slice none 0 0, .slice none 0 0, .int .i64 0] → Q .normal (cpAct x0 g1 g2 A1 A2 A3 n1 c1 n2 c2 n3 c3 q (.pointer (some ⟨g3, 0, none⟩)) u6 (.slice R0 m0 e0) u10 (.slice R1 m1 e1) u14 (.slice R2 m2 e2) u20) (set5 W g3 (.slice none 0 0) (.slice R0 m0 e0) (.slice R1 m1 e1) (.slice R2 m2 e2) (.int .i64 q)))) {W : World} {FA FB FC FG : List Nat} (HN : Sec (New w1 W)) (HI : Sec (In4B w1.heap.size W FA FB FC FG)) {R0 : Option Addr} {m0 e0 : Nat} (HO0 : Sec (Own dEntry 98 W FA (.slice R0 m0 e0) xs0)) {R1 : Option Addr} {m1 e1 : Nat} (HO1 : Sec (Own dEntry 98 W FB (.slice R1 m1 e1) xs1)) {B2 : Option Addr} (HO2 : Sec (Own dDirOp 90 W FC (.slice B2 0 0) [])) {u3 u6 u10 u17 u20 : Value} : RegR Tryz.prog .any ops Q [16] (fun W => Sec (New w1 W)) 4 #[true, true, true, true, true, true, true, true, true, true, true, false, true, true, false, false, false] (cpAct x0 g1 g2 A1 A2 A3 n1 c1 n2 c2 n3 c3 q (u3) (u6) (.slice R0 m0 e0) (u10) (.slice R1 m1 e1) (.slice B2 0 0) (u17) (u20)) W := by
  obtain ⟨ty11, pos11, af11, q11⟩ := HC.e11
  obtain ⟨ty15, pos15, af15, q15⟩ := HC.e15
  refine reg_all2 (i0 := 11) (i1 := 15) q11 q15 HC.r211100 (fun K hK => ?_) (fun K hK => ?_)
  · have hFGn : ∀ k, k ∈ FC → k ∉ FG := fun k h => HI.out.1.2.2 k h
    refine wp_appFD _ (.tmp 14) (.tmp 16) _ rfl Tryz.underlying32 eltDirOp flatDirOp rfl rfl HO2.out (HR2.out.mod (w' := W) (B' := (· < w1.heap.size)) (fun _ h => h) (fun i hi => HN.out.block i hi id)) (by simp; omega) ?_
    intro A9 n9 c9 W2 F9 ho2 hF9 hm2
    rw [List.nil_append] at ho2
    have HN2 : Sec (New w1 W2) := ⟨HN.out.trans hm2 (fun k hk hlt => by have := (HI.out.2 k (Or.inr (Or.inr (Or.inl hk)))).1; omega)⟩
    have hI2 : In4B w1.heap.size W2 FA FB F9 FG := in4_app2 HI.out HN.out.size hm2.size (fun k hk => ho2.lt k hk) hF9
    exact hK.out _ _ (fun _ => HN2) (cp_311100 HC HR0 HR1 HR2 hl0 hl1 hl2 HQ HN2 ⟨hI2⟩ ⟨HO0.out.keep hm2 (fun k hk h => (HI.out.1.1 k hk).2.1 h)⟩ ⟨HO1.out.keep hm2 (fun k hk h => (HI.out.1.2.1 k hk).1 h)⟩ ⟨ho2⟩)
  · have hma : New W (W.alloc (.cells zDisk.toArray 34)) := (Mod.refl _ _).alloc _
    have HN2 : Sec (New w1 (W.alloc (.cells zDisk.toArray 34))) := ⟨HN.out.transN hma⟩
    have hI2 : In4B w1.heap.size (W.alloc (.cells zDisk.toArray 34)) FA FB FC [W.heap.size] := in4_newG HI.out HN.out.size
    refine wp_valw (n := 3) (v := .pointer (some ⟨W.heap.size, 0, none⟩)) (w' := W.alloc (.cells zDisk.toArray 34)) (exec_allocDisk rfl) rfl ?_
    exact hK.out _ _ (fun _ => HN2) (cp_211110 HC HR0 HR1 HR2 hl0 hl1 hl2 HQ HN2 ⟨hI2⟩ ⟨HO0.out.keep hma (fun _ _ h => h)⟩ ⟨HO1.out.keep hma (fun _ _ h => h)⟩ ⟨HO2.out.keep hma (fun _ _ h => h)⟩ ⟨Blk.new W 34 zDisk⟩ rfl)
set_option maxHeartbeats 2000000 in
set_option maxRecDepth 100000 in
theorem cp_011110 {ops : Array Oper} (HC : CpOps ops) {x0 : Value} {g1 g2 : Nat} {A1 A2 A3 : Option Addr} {n1 c1 n2 c2 n3 c3 : Nat} {q : Int} {xs0 xs1 : EntryST} {xs2 : DirOpST} {w1 : World} {Q : Exit → Act → World → Prop} (HR0 : Sec (Row dEntry w1 (· < w1.heap.size) A1 n1 xs0)) (HR1 : Sec (Row dEntry w1 (· < w1.heap.size) A2 n2 xs1)) (HR2 : Sec (Row dDirOp w1 (· < w1.heap.size) A3 n3 xs2)) (hl0 : xs0.length ≤ 1048576) (hl1 : xs1.length ≤ 1048576) (hl2 : xs2.length ≤ 1048576) (HQ : Sec (∀ (g3 : Nat) (R0 R1 R2 : Option Addr) (m0 e0 m1 e1 m2 e2 : Nat) (u6 u10 u14 u20 : Value) (W : World) (FA FB FC : List Nat), New w1 W → In4B w1.heap.size W FA FB FC [g3] → Own dEntry 98 W FA (.slice R0 m0 e0) xs0 → Own dEntry 98 W FB (.slice R1 m1 e1) xs1 → Own dDirOp 90 W FC (.slice R2 m2 e2) xs2 → Blk W g3 34 [.slice none 0 0, .slice none 0 0, .slice none 0 0, .slice none 0 0, .int .i64 0] → Q .normal (cpAct x0 g1 g2 A1 A2 A3 n1 c1 n2 c2 n3 c3 q (.pointer (some ⟨g3, 0, none⟩)) u6 (.slice R0 m0 e0) u10 (.slice R1 m1 e1) u14 (.slice R2 m2 e2) u20) (set5 W g3 (.slice none 0 0) (.slice R0 m0 e0) (.slice R1 m1 e1) (.slice R2 m2 e2) (.int .i64 q)))) {W : World} {FA FB FC FG : List Nat} (HN : Sec (New w1 W)) (HI : Sec (In4B w1.heap.size W FA FB FC FG)) {B0 : Option Addr} (HO0 : Sec (Own dEntry 98 W FA (.slice B0 0 0) [])) {B1 : Option Addr} (HO1 : Sec (Own dEntry 98 W FB (.slice B1 0 0) [])) {B2 : Option Addr} (HO2 : Sec (Own dDirOp 90 W FC (.slice B2 0 0) [])) {g3 : Nat} (HB3 : Sec (Blk W g3 34 [.slice none 0 0, .slice none 0 0, .slice none 0 0, .slice none 0 0, .int .i64 0])) (hFG : FG = [g3]) {u9 u13 u17 u20 : Value} : RegR Tryz.prog .any ops Q [16] (fun W => Sec (New w1 W)) 5 #[true, true, true, false, true, true, true, false, true, true, true, false, true, true, false, true, false] (cpAct x0 g1 g2 A1 A2 A3 n1 c1 n2 c2 n3 c3 q (.pointer (some ⟨g3, 0, none⟩)) (.slice B0 0 0) (u9) (.slice B1 0 0) (u13) (.slice B2 0 0) (u17) (u20)) W := by
  obtain ⟨ty3, pos3, af3, q3⟩ := HC.e3
  refine reg_step (i := 3) q3 HC.r011110 (fun K hK => ?_)
  have hFGn : ∀ k, k ∈ FA → k ∉ FG := fun k h => (HI.out.1.1 k h).2.2
  refine wp_appFD _ (.tmp 6) (.tmp 8) _ rfl Tryz.underlying31 elt_entry flatEntry rfl rfl HO0.out (HR0.out.mod (w' := W) (B' := (· < w1.heap.size)) (fun _ h => h) (fun i hi => HN.out.block i hi id)) (by simp; omega) ?_
  intro A9 n9 c9 W2 F9 ho2 hF9 hm2
  rw [List.nil_append] at ho2
  have HN2 : Sec (New w1 W2) := ⟨HN.out.trans hm2 (fun k hk hlt => by have := (HI.out.2 k (Or.inl hk)).1; omega)⟩
  have hI2 : In4B w1.heap.size W2 F9 FB FC FG := in4_app0 HI.out HN.out.size hm2.size (fun k hk => ho2.lt k hk) hF9
  exact hK.out _ _ (fun _ => HN2) (cp_111110 HC HR0 HR1 HR2 hl0 hl1 hl2 HQ HN2 ⟨hI2⟩ ⟨ho2⟩ ⟨HO1.out.keep hm2 (fun k hk h => (HI.out.1.1 k h).1 hk)⟩ ⟨HO2.out.keep hm2 (fun k hk h => (HI.out.1.1 k h).2.1 hk)⟩ ⟨HB3.out.mod hm2 (fun h => hFGn g3 h (by rw [hFG]; simp))⟩ hFG)
set_option maxHeartbeats 2000000 in
set_option maxRecDepth 100000 in
theorem cp_110110 {ops : Array Oper} (HC : CpOps ops) {x0 : Value} {g1 g2 : Nat} {A1 A2 A3 : Option Addr} {n1 c1 n2 c2 n3 c3 : Nat} {q : Int} {xs0 xs1 : EntryST} {xs2 : DirOpST} {w1 : World} {Q : Exit → Act → World → Prop} (HR0 : Sec (Row dEntry w1 (· < w1.heap.size) A1 n1 xs0)) (HR1 : Sec (Row dEntry w1 (· < w1.heap.size) A2 n2 xs1)) (HR2 : Sec (Row dDirOp w1 (· < w1.heap.size) A3 n3 xs2)) (hl0 : xs0.length ≤ 1048576) (hl1 : xs1.length ≤ 1048576) (hl2 : xs2.length ≤ 1048576) (HQ : Sec (∀ (g3 : Nat) (R0 R1 R2 : Option Addr) (m0 e0 m1 e1 m2 e2 : Nat) (u6 u10 u14 u20 : Value) (W : World) (FA FB FC : List Nat), New w1 W → In4B w1.heap.size W FA FB FC [g3] → Own dEntry 98 W FA (.slice R0 m0 e0) xs0 → Own dEntry 98 W FB (.slice R1 m1 e1) xs1 → Own dDirOp 90 W FC (.slice R2 m2 e2) xs2 → Blk W g3 34 [.slice none 0 0, .slice none 0 0, .slice none 0 0, .slice none 0 0, .int .i64 0] → Q .normal (cpAct x0 g1 g2 A1 A2 A3 n1 c1 n2 c2 n3 c3 q (.pointer (some ⟨g3, 0, none⟩)) u6 (.slice R0 m0 e0) u10 (.slice R1 m1 e1) u14 (.slice R2 m2 e2) u20) (set5 W g3 (.slice none 0 0) (.slice R0 m0 e0) (.slice R1 m1 e1) (.slice R2 m2 e2) (.int .i64 q)))) {W : World} {FA FB FC FG : List Nat} (HN : Sec (New w1 W)) (HI : Sec (In4B w1.heap.size W FA FB FC FG)) {R0 : Option Addr} {m0 e0 : Nat} (HO0 : Sec (Own dEntry 98 W FA (.slice R0 m0 e0) xs0)) {B2 : Option Addr} (HO2 : Sec (Own dDirOp 90 W FC (.slice B2 0 0) [])) {g3 : Nat} (HB3 : Sec (Blk W g3 34 [.slice none 0 0, .slice none 0 0, .slice none 0 0, .slice none 0 0, .int .i64 0])) (hFG : FG = [g3]) {u6 u10 u13 u17 u20 : Value} : RegR Tryz.prog .any ops Q [16] (fun W => Sec (New w1 W)) 5 #[true, true, true, true, false, true, true, false, true, true, true, false, true, true, false, true, false] (cpAct x0 g1 g2 A1 A2 A3 n1 c1 n2 c2 n3 c3 q (.pointer (some ⟨g3, 0, none⟩)) (u6) (.slice R0 m0 e0) (u10) (u13) (.slice B2 0 0) (u17) (u20)) W := by
  obtain ⟨ty4, pos4, af4, q4⟩ := HC.e4
  refine reg_step (i := 4) q4 HC.r110110 (fun K hK => ?_)
  have hma : New W (W.alloc (.cells #[] 98)) := (Mod.refl _ _).alloc _
  have HN2 : Sec (New w1 (W.alloc (.cells #[] 98))) := ⟨HN.out.transN hma⟩
  have hI2 : In4B w1.heap.size (W.alloc (.cells #[] 98)) FA [W.heap.size] FC FG := in4_new1 HI.out HN.out.size
  refine wp_valw (n := 10) (v := .slice (some ⟨W.heap.size, 0, none⟩) 0 0) (w' := W.alloc (.cells #[] 98)) (exec_buildSlice (parts := []) (vs := []) rfl rfl (buildEnt0 _)) rfl ?_
  exact hK.out _ _ (fun _ => HN2) (cp_111110 HC HR0 HR1 HR2 hl0 hl1 hl2 HQ HN2 ⟨hI2⟩ ⟨HO0.out.keep hma (fun _ _ h => h)⟩ ⟨Own.empty0 _ _ _⟩ ⟨HO2.out.keep hma (fun _ _ h => h)⟩ ⟨HB3.out.mod hma id⟩ hFG)
set_option maxHeartbeats 2000000 in
set_option maxRecDepth 100000 in
theorem cp_111010 {ops : Array Oper} (HC : CpOps ops) {x0 : Value} {g1 g2 : Nat} {A1 A2 A3 : Option Addr} {n1 c1 n2 c2 n3 c3 : Nat} {q : Int} {xs0 xs1 : EntryST} {xs2 : DirOpST} {w1 : World} {Q : Exit → Act → World → Prop} (HR0 : Sec (Row dEntry w1 (· < w1.heap.size) A1 n1 xs0)) (HR1 : Sec (Row dEntry w1 (· < w1.heap.size) A2 n2 xs1)) (HR2 : Sec (Row dDirOp w1 (· < w1.heap.size) A3 n3 xs2)) (hl0 : xs0.length ≤ 1048576) (hl1 : xs1.length ≤ 1048576) (hl2 : xs2.length ≤ 1048576) (HQ : Sec (∀ (g3 : Nat) (R0 R1 R2 : Option Addr) (m0 e0 m1 e1 m2 e2 : Nat) (u6 u10 u14 u20 : Value) (W : World) (FA FB FC : List Nat), New w1 W → In4B w1.heap.size W FA FB FC [g3] → Own dEntry 98 W FA (.slice R0 m0 e0) xs0 → Own dEntry 98 W FB (.slice R1 m1 e1) xs1 → Own dDirOp 90 W FC (.slice R2 m2 e2) xs2 → Blk W g3 34 [.slice none 0 0, .slice none 0 0, .slice none 0 0, .slice none 0 0, .int .i64 0] → Q .normal (cpAct x0 g1 g2 A1 A2 A3 n1 c1 n2 c2 n3 c3 q (.pointer (some ⟨g3, 0, none⟩)) u6 (.slice R0 m0 e0) u10 (.slice R1 m1 e1) u14 (.slice R2 m2 e2) u20) (set5 W g3 (.slice none 0 0) (.slice R0 m0 e0) (.slice R1 m1 e1) (.slice R2 m2 e2) (.int .i64 q)))) {W : World} {FA FB FC FG : List Nat} (HN : Sec (New w1 W)) (HI : Sec (In4B w1.heap.size W FA FB FC FG)) {R0 : Option Addr} {m0 e0 : Nat} (HO0 : Sec (Own dEntry 98 W FA (.slice R0 m0 e0) xs0)) {B1 : Option Addr} (HO1 : Sec (Own dEntry 98 W FB (.slice B1 0 0) [])) {g3 : Nat} (HB3 : Sec (Blk W g3 34 [.slice none 0 0, .slice none 0 0, .slice none 0 0, .slice none 0 0, .int .i64 0])) (hFG : FG = [g3]) {u6 u13 u14 u17 u20 : Value} : RegR Tryz.prog .any ops Q [16] (fun W => Sec (New w1 W)) 5 #[true, true, true, true, true, true, true, false, false, true, true, false, true, true, false, true, false] (cpAct x0 g1 g2 A1 A2 A3 n1 c1 n2 c2 n3 c3 q (.pointer (some ⟨g3, 0, none⟩)) (u6) (.slice R0 m0 e0) (.slice B1 0 0) (u13) (u14) (u17) (u20)) W := by
  obtain ⟨ty7, pos7, af7, q7⟩ := HC.e7
  obtain ⟨ty8, pos8, af8, q8⟩ := HC.e8
  refine reg_all2 (i0 := 7) (i1 := 8) q7 q8 HC.r111010 (fun K hK => ?_) (fun K hK => ?_)
  · have hFGn : ∀ k, k ∈ FB → k ∉ FG := fun k h => (HI.out.1.2.1 k h).2
    refine wp_appFD _ (.tmp 10) (.tmp 12) _ rfl Tryz.underlying31 elt_entry flatEntry rfl rfl HO1.out (HR1.out.mod (w' := W) (B' := (· < w1.heap.size)) (fun _ h => h) (fun i hi => HN.out.block i hi id)) (by simp; omega) ?_
    intro A9 n9 c9 W2 F9 ho2 hF9 hm2
    rw [List.nil_append] at ho2
    have HN2 : Sec (New w1 W2) := ⟨HN.out.trans hm2 (fun k hk hlt => by have := (HI.out.2 k (Or.inr (Or.inl hk))).1; omega)⟩
    have hI2 : In4B w1.heap.size W2 FA F9 FC FG := in4_app1 HI.out HN.out.size hm2.size (fun k hk => ho2.lt k hk) hF9
    exact hK.out _ _ (fun _ => HN2) (cp_211010 HC HR0 HR1 HR2 hl0 hl1 hl2 HQ HN2 ⟨hI2⟩ ⟨HO0.out.keep hm2 (fun k hk h => (HI.out.1.1 k hk).1 h)⟩ ⟨ho2⟩ ⟨HB3.out.mod hm2 (fun h => hFGn g3 h (by rw [hFG]; simp))⟩ hFG)
  · have hma : New W (W.alloc (.cells #[] 90)) := (Mod.refl _ _).alloc _
    have HN2 : Sec (New w1 (W.alloc (.cells #[] 90))) := ⟨HN.out.transN hma⟩
    have hI2 : In4B w1.heap.size (W.alloc (.cells #[] 90)) FA FB [W.heap.size] FG := in4_new2 HI.out HN.out.size
    refine wp_valw (n := 14) (v := .slice (some ⟨W.heap.size, 0, none⟩) 0 0) (w' := W.alloc (.cells #[] 90)) (exec_buildSlice (parts := []) (vs := []) rfl rfl (bldDop0I _)) rfl ?_
    exact hK.out _ _ (fun _ => HN2) (cp_111110 HC HR0 HR1 HR2 hl0 hl1 hl2 HQ HN2 ⟨hI2⟩ ⟨HO0.out.keep hma (fun _ _ h => h)⟩ ⟨HO1.out.keep hma (fun _ _ h => h)⟩ ⟨Own.empty0 _ _ _⟩ ⟨HB3.out.mod hma id⟩ hFG)
set_option maxHeartbeats 2000000 in
set_option maxRecDepth 100000 in
theorem cp_111100 {ops : Array Oper} (HC : CpOps ops) {x0 : Value} {g1 g2 : Nat} {A1 A2 A3 : Option Addr} {n1 c1 n2 c2 n3 c3 : Nat} {q : Int} {xs0 xs1 : EntryST} {xs2 : DirOpST} {w1 : World} {Q : Exit → Act → World → Prop} (HR0 : Sec (Row dEntry w1 (· < w1.heap.size) A1 n1 xs0)) (HR1 : Sec (Row dEntry w1 (· < w1.heap.size) A2 n2 xs1)) (HR2 : Sec (Row dDirOp w1 (· < w1.heap.size) A3 n3 xs2)) (hl0 : xs0.length ≤ 1048576) (hl1 : xs1.length ≤ 1048576) (hl2 : xs2.length ≤ 1048576) (HQ : Sec (∀ (g3 : Nat) (R0 R1 R2 : Option Addr) (m0 e0 m1 e1 m2 e2 : Nat) (u6 u10 u14 u20 : Value) (W : World) (FA FB FC : List Nat), New w1 W → In4B w1.heap.size W FA FB FC [g3] → Own dEntry 98 W FA (.slice R0 m0 e0) xs0 → Own dEntry 98 W FB (.slice R1 m1 e1) xs1 → Own dDirOp 90 W FC (.slice R2 m2 e2) xs2 → Blk W g3 34 [.slice none 0 0, .slice none 0 0, .slice none 0 0, .slice none 0 0, .int .i64 0] → Q .normal (cpAct x0 g1 g2 A1 A2 A3 n1 c1 n2 c2 n3 c3 q (.pointer (some ⟨g3, 0, none⟩)) u6 (.slice R0 m0 e0) u10 (.slice R1 m1 e1) u14 (.slice R2 m2 e2) u20) (set5 W g3 (.slice none 0 0) (.slice R0 m0 e0) (.slice R1 m1 e1) (.slice R2 m2 e2) (.int .i64 q)))) {W : World} {FA FB FC FG : List Nat} (HN : Sec (New w1 W)) (HI : Sec (In4B w1.heap.size W FA FB FC FG)) {R0 : Option Addr} {m0 e0 : Nat} (HO0 : Sec (Own dEntry 98 W FA (.slice R0 m0 e0) xs0)) {B1 : Option Addr} (HO1 : Sec (Own dEntry 98 W FB (.slice B1 0 0) [])) {B2 : Option Addr} (HO2 : Sec (Own dDirOp 90 W FC (.slice B2 0 0) [])) {u3 u6 u13 u17 u20 : Value} : RegR Tryz.prog .any ops Q [16] (fun W => Sec (New w1 W)) 5 #[true, true, true, true, true, true, true, false, true, true, true, false, true, true, false, false, false] (cpAct x0 g1 g2 A1 A2 A3 n1 c1 n2 c2 n3 c3 q (u3) (u6) (.slice R0 m0 e0) (.slice B1 0 0) (u13) (.slice B2 0 0) (u17) (u20)) W := by
  obtain ⟨ty7, pos7, af7, q7⟩ := HC.e7
  obtain ⟨ty15, pos15, af15, q15⟩ := HC.e15
  refine reg_all2 (i0 := 7) (i1 := 15) q7 q15 HC.r111100 (fun K hK => ?_) (fun K hK => ?_)
  · have hFGn : ∀ k, k ∈ FB → k ∉ FG := fun k h => (HI.out.1.2.1 k h).2
    refine wp_appFD _ (.tmp 10) (.tmp 12) _ rfl Tryz.underlying31 elt_entry flatEntry rfl rfl HO1.out (HR1.out.mod (w' := W) (B' := (· < w1.heap.size)) (fun _ h => h) (fun i hi => HN.out.block i hi id)) (by simp; omega) ?_
    intro A9 n9 c9 W2 F9 ho2 hF9 hm2
    rw [List.nil_append] at ho2
    have HN2 : Sec (New w1 W2) := ⟨HN.out.trans hm2 (fun k hk hlt => by have := (HI.out.2 k (Or.inr (Or.inl hk))).1; omega)⟩
    have hI2 : In4B w1.heap.size W2 FA F9 FC FG := in4_app1 HI.out HN.out.size hm2.size (fun k hk => ho2.lt k hk) hF9
    exact hK.out _ _ (fun _ => HN2) (cp_211100 HC HR0 HR1 HR2 hl0 hl1 hl2 HQ HN2 ⟨hI2⟩ ⟨HO0.out.keep hm2 (fun k hk h => (HI.out.1.1 k hk).1 h)⟩ ⟨ho2⟩ ⟨HO2.out.keep hm2 (fun k hk h => (HI.out.1.2.1 k h).1 hk)⟩)
  · have hma : New W (W.alloc (.cells zDisk.toArray 34)) := (Mod.refl _ _).alloc _
    have HN2 : Sec (New w1 (W.alloc (.cells zDisk.toArray 34))) := ⟨HN.out.transN hma⟩
    have hI2 : In4B w1.heap.size (W.alloc (.cells zDisk.toArray 34)) FA FB FC [W.heap.size] := in4_newG HI.out HN.out.size
    refine wp_valw (n := 3) (v := .pointer (some ⟨W.heap.size, 0, none⟩)) (w' := W.alloc (.cells zDisk.toArray 34)) (exec_allocDisk rfl) rfl ?_
    exact hK.out _ _ (fun _ => HN2) (cp_111110 HC HR0 HR1 HR2 hl0 hl1 hl2 HQ HN2 ⟨hI2⟩ ⟨HO0.out.keep hma (fun _ _ h => h)⟩ ⟨HO1.out.keep hma (fun _ _ h => h)⟩ ⟨HO2.out.keep hma (fun _ _ h => h)⟩ ⟨Blk.new W 34 zDisk⟩ rfl)
set_option maxHeartbeats 2000000 in
set_option maxRecDepth 100000 in
theorem cp_211000 {ops : Array Oper} (HC : CpOps ops) {x0 : Value} {g1 g2 : Nat} {A1 A2 A3 : Option Addr} {n1 c1 n2 c2 n3 c3 : Nat} {q : Int} {xs0 xs1 : EntryST} {xs2 : DirOpST} {w1 : World} {Q : Exit → Act → World → Prop} (HR0 : Sec (Row dEntry w1 (· < w1.heap.size) A1 n1 xs0)) (HR1 : Sec (Row dEntry w1 (· < w1.heap.size) A2 n2 xs1)) (HR2 : Sec (Row dDirOp w1 (· < w1.heap.size) A3 n3 xs2)) (hl0 : xs0.length ≤ 1048576) (hl1 : xs1.length ≤ 1048576) (hl2 : xs2.length ≤ 1048576) (HQ : Sec (∀ (g3 : Nat) (R0 R1 R2 : Option Addr) (m0 e0 m1 e1 m2 e2 : Nat) (u6 u10 u14 u20 : Value) (W : World) (FA FB FC : List Nat), New w1 W → In4B w1.heap.size W FA FB FC [g3] → Own dEntry 98 W FA (.slice R0 m0 e0) xs0 → Own dEntry 98 W FB (.slice R1 m1 e1) xs1 → Own dDirOp 90 W FC (.slice R2 m2 e2) xs2 → Blk W g3 34 [.slice none 0 0, .slice none 0 0, .slice none 0 0, .slice none 0 0, .int .i64 0] → Q .normal (cpAct x0 g1 g2 A1 A2 A3 n1 c1 n2 c2 n3 c3 q (.pointer (some ⟨g3, 0, none⟩)) u6 (.slice R0 m0 e0) u10 (.slice R1 m1 e1) u14 (.slice R2 m2 e2) u20) (set5 W g3 (.slice none 0 0) (.slice R0 m0 e0) (.slice R1 m1 e1) (.slice R2 m2 e2) (.int .i64 q)))) {W : World} {FA FB FC FG : List Nat} (HN : Sec (New w1 W)) (HI : Sec (In4B w1.heap.size W FA FB FC FG)) {R0 : Option Addr} {m0 e0 : Nat} (HO0 : Sec (Own dEntry 98 W FA (.slice R0 m0 e0) xs0)) {R1 : Option Addr} {m1 e1 : Nat} (HO1 : Sec (Own dEntry 98 W FB (.slice R1 m1 e1) xs1)) {u3 u6 u10 u14 u17 u20 : Value} : RegR Tryz.prog .any ops Q [16] (fun W => Sec (New w1 W)) 5 #[true, true, true, true, true, true, true, true, false, true, true, false, true, true, false, false, false] (cpAct x0 g1 g2 A1 A2 A3 n1 c1 n2 c2 n3 c3 q (u3) (u6) (.slice R0 m0 e0) (u10) (.slice R1 m1 e1) (u14) (u17) (u20)) W := by
  obtain ⟨ty8, pos8, af8, q8⟩ := HC.e8
  obtain ⟨ty15, pos15, af15, q15⟩ := HC.e15
  refine reg_all2 (i0 := 8) (i1 := 15) q8 q15 HC.r211000 (fun K hK => ?_) (fun K hK => ?_)
  · have hma : New W (W.alloc (.cells #[] 90)) := (Mod.refl _ _).alloc _
    have HN2 : Sec (New w1 (W.alloc (.cells #[] 90))) := ⟨HN.out.transN hma⟩
    have hI2 : In4B w1.heap.size (W.alloc (.cells #[] 90)) FA FB [W.heap.size] FG := in4_new2 HI.out HN.out.size
    refine wp_valw (n := 14) (v := .slice (some ⟨W.heap.size, 0, none⟩) 0 0) (w' := W.alloc (.cells #[] 90)) (exec_buildSlice (parts := []) (vs := []) rfl rfl (bldDop0I _)) rfl ?_
    exact hK.out _ _ (fun _ => HN2) (cp_211100 HC HR0 HR1 HR2 hl0 hl1 hl2 HQ HN2 ⟨hI2⟩ ⟨HO0.out.keep hma (fun _ _ h => h)⟩ ⟨HO1.out.keep hma (fun _ _ h => h)⟩ ⟨Own.empty0 _ _ _⟩)
  · have hma : New W (W.alloc (.cells zDisk.toArray 34)) := (Mod.refl _ _).alloc _
    have HN2 : Sec (New w1 (W.alloc (.cells zDisk.toArray 34))) := ⟨HN.out.transN hma⟩
    have hI2 : In4B w1.heap.size (W.alloc (.cells zDisk.toArray 34)) FA FB FC [W.heap.size] := in4_newG HI.out HN.out.size
    refine wp_valw (n := 3) (v := .pointer (some ⟨W.heap.size, 0, none⟩)) (w' := W.alloc (.cells zDisk.toArray 34)) (exec_allocDisk rfl) rfl ?_
    exact hK.out _ _ (fun _ => HN2) (cp_211010 HC HR0 HR1 HR2 hl0 hl1 hl2 HQ HN2 ⟨hI2⟩ ⟨HO0.out.keep hma (fun _ _ h => h)⟩ ⟨HO1.out.keep hma (fun _ _ h => h)⟩ ⟨Blk.new W 34 zDisk⟩ rfl)
set_option maxHeartbeats 2000000 in
set_option maxRecDepth 100000 in
theorem cp_001110 {ops : Array Oper} (HC : CpOps ops) {x0 : Value} {g1 g2 : Nat} {A1 A2 A3 : Option Addr} {n1 c1 n2 c2 n3 c3 : Nat} {q : Int} {xs0 xs1 : EntryST} {xs2 : DirOpST} {w1 : World} {Q : Exit → Act → World → Prop} (HR0 : Sec (Row dEntry w1 (· < w1.heap.size) A1 n1 xs0)) (HR1 : Sec (Row dEntry w1 (· < w1.heap.size) A2 n2 xs1)) (HR2 : Sec (Row dDirOp w1 (· < w1.heap.size) A3 n3 xs2)) (hl0 : xs0.length ≤ 1048576) (hl1 : xs1.length ≤ 1048576) (hl2 : xs2.length ≤ 1048576) (HQ : Sec (∀ (g3 : Nat) (R0 R1 R2 : Option Addr) (m0 e0 m1 e1 m2 e2 : Nat) (u6 u10 u14 u20 : Value) (W : World) (FA FB FC : List Nat), New w1 W → In4B w1.heap.size W FA FB FC [g3] → Own dEntry 98 W FA (.slice R0 m0 e0) xs0 → Own dEntry 98 W FB (.slice R1 m1 e1) xs1 → Own dDirOp 90 W FC (.slice R2 m2 e2) xs2 → Blk W g3 34 [.slice none 0 0, .slice none 0 0, .slice none 0 0, .slice none 0 0, .int .i64 0] → Q .normal (cpAct x0 g1 g2 A1 A2 A3 n1 c1 n2 c2 n3 c3 q (.pointer (some ⟨g3, 0, none⟩)) u6 (.slice R0 m0 e0) u10 (.slice R1 m1 e1) u14 (.slice R2 m2 e2) u20) (set5 W g3 (.slice none 0 0) (.slice R0 m0 e0) (.slice R1 m1 e1) (.slice R2 m2 e2) (.int .i64 q)))) {W : World} {FA FB FC FG : List Nat} (HN : Sec (New w1 W)) (HI : Sec (In4B w1.heap.size W FA FB FC FG)) {B1 : Option Addr} (HO1 : Sec (Own dEntry 98 W FB (.slice B1 0 0) [])) {B2 : Option Addr} (HO2 : Sec (Own dDirOp 90 W FC (.slice B2 0 0) [])) {g3 : Nat} (HB3 : Sec (Blk W g3 34 [.slice none 0 0, .slice none 0 0, .slice none 0 0, .slice none 0 0, .int .i64 0])) (hFG : FG = [g3]) {u6 u9 u13 u17 u20 : Value} : RegR Tryz.prog .any ops Q [16] (fun W => Sec (New w1 W)) 6 #[false, true, true, false, true, true, true, false, true, true, true, false, true, true, false, true, false] (cpAct x0 g1 g2 A1 A2 A3 n1 c1 n2 c2 n3 c3 q (.pointer (some ⟨g3, 0, none⟩)) (u6) (u9) (.slice B1 0 0) (u13) (.slice B2 0 0) (u17) (u20)) W := by
  obtain ⟨ty0, pos0, af0, q0⟩ := HC.e0
  refine reg_step (i := 0) q0 HC.r001110 (fun K hK => ?_)
  have hma : New W (W.alloc (.cells #[] 98)) := (Mod.refl _ _).alloc _
  have HN2 : Sec (New w1 (W.alloc (.cells #[] 98))) := ⟨HN.out.transN hma⟩
  have hI2 : In4B w1.heap.size (W.alloc (.cells #[] 98)) [W.heap.size] FB FC FG := in4_new0 HI.out HN.out.size
  refine wp_valw (n := 6) (v := .slice (some ⟨W.heap.size, 0, none⟩) 0 0) (w' := W.alloc (.cells #[] 98)) (exec_buildSlice (parts := []) (vs := []) rfl rfl (buildEnt0 _)) rfl ?_
  exact hK.out _ _ (fun _ => HN2) (cp_011110 HC HR0 HR1 HR2 hl0 hl1 hl2 HQ HN2 ⟨hI2⟩ ⟨Own.empty0 _ _ _⟩ ⟨HO1.out.keep hma (fun _ _ h => h)⟩ ⟨HO2.out.keep hma (fun _ _ h => h)⟩ ⟨HB3.out.mod hma id⟩ hFG)
set_option maxHeartbeats 2000000 in
set_option maxRecDepth 100000 in
theorem cp_010110 {ops : Array Oper} (HC : CpOps ops) {x0 : Value} {g1 g2 : Nat} {A1 A2 A3 : Option Addr} {n1 c1 n2 c2 n3 c3 : Nat} {q : Int} {xs0 xs1 : EntryST} {xs2 : DirOpST} {w1 : World} {Q : Exit → Act → World → Prop} (HR0 : Sec (Row dEntry w1 (· < w1.heap.size) A1 n1 xs0)) (HR1 : Sec (Row dEntry w1 (· < w1.heap.size) A2 n2 xs1)) (HR2 : Sec (Row dDirOp w1 (· < w1.heap.size) A3 n3 xs2)) (hl0 : xs0.length ≤ 1048576) (hl1 : xs1.length ≤ 1048576) (hl2 : xs2.length ≤ 1048576) (HQ : Sec (∀ (g3 : Nat) (R0 R1 R2 : Option Addr) (m0 e0 m1 e1 m2 e2 : Nat) (u6 u10 u14 u20 : Value) (W : World) (FA FB FC : List Nat), New w1 W → In4B w1.heap.size W FA FB FC [g3] → Own dEntry 98 W FA (.slice R0 m0 e0) xs0 → Own dEntry 98 W FB (.slice R1 m1 e1) xs1 → Own dDirOp 90 W FC (.slice R2 m2 e2) xs2 → Blk W g3 34 [.slice none 0 0, .slice none 0 0, .slice none 0 0, .slice none 0 0, .int .i64 0] → Q .normal (cpAct x0 g1 g2 A1 A2 A3 n1 c1 n2 c2 n3 c3 q (.pointer (some ⟨g3, 0, none⟩)) u6 (.slice R0 m0 e0) u10 (.slice R1 m1 e1) u14 (.slice R2 m2 e2) u20) (set5 W g3 (.slice none 0 0) (.slice R0 m0 e0) (.slice R1 m1 e1) (.slice R2 m2 e2) (.int .i64 q)))) {W : World} {FA FB FC FG : List Nat} (HN : Sec (New w1 W)) (HI : Sec (In4B w1.heap.size W FA FB FC FG)) {B0 : Option Addr} (HO0 : Sec (Own dEntry 98 W FA (.slice B0 0 0) [])) {B2 : Option Addr} (HO2 : Sec (Own dDirOp 90 W FC (.slice B2 0 0) [])) {g3 : Nat} (HB3 : Sec (Blk W g3 34 [.slice none 0 0, .slice none 0 0, .slice none 0 0, .slice none 0 0, .int .i64 0])) (hFG : FG = [g3]) {u9 u10 u13 u17 u20 : Value} : RegR Tryz.prog .any ops Q [16] (fun W => Sec (New w1 W)) 6 #[true, true, true, false, false, true, true, false, true, true, true, false, true, true, false, true, false] (cpAct x0 g1 g2 A1 A2 A3 n1 c1 n2 c2 n3 c3 q (.pointer (some ⟨g3, 0, none⟩)) (.slice B0 0 0) (u9) (u10) (u13) (.slice B2 0 0) (u17) (u20)) W := by
  obtain ⟨ty3, pos3, af3, q3⟩ := HC.e3
  obtain ⟨ty4, pos4, af4, q4⟩ := HC.e4
  refine reg_all2 (i0 := 3) (i1 := 4) q3 q4 HC.r010110 (fun K hK => ?_) (fun K hK => ?_)
  · have hFGn : ∀ k, k ∈ FA → k ∉ FG := fun k h => (HI.out.1.1 k h).2.2
    refine wp_appFD _ (.tmp 6) (.tmp 8) _ rfl Tryz.underlying31 elt_entry flatEntry rfl rfl HO0.out (HR0.out.mod (w' := W) (B' := (· < w1.heap.size)) (fun _ h => h) (fun i hi => HN.out.block i hi id)) (by simp; omega) ?_
    intro A9 n9 c9 W2 F9 ho2 hF9 hm2
    rw [List.nil_append] at ho2
    have HN2 : Sec (New w1 W2) := ⟨HN.out.trans hm2 (fun k hk hlt => by have := (HI.out.2 k (Or.inl hk)).1; omega)⟩
    have hI2 : In4B w1.heap.size W2 F9 FB FC FG := in4_app0 HI.out HN.out.size hm2.size (fun k hk => ho2.lt k hk) hF9
    exact hK.out _ _ (fun _ => HN2) (cp_110110 HC HR0 HR1 HR2 hl0 hl1 hl2 HQ HN2 ⟨hI2⟩ ⟨ho2⟩ ⟨HO2.out.keep hm2 (fun k hk h => (HI.out.1.1 k h).2.1 hk)⟩ ⟨HB3.out.mod hm2 (fun h => hFGn g3 h (by rw [hFG]; simp))⟩ hFG)
  · have hma : New W (W.alloc (.cells #[] 98)) := (Mod.refl _ _).alloc _
    have HN2 : Sec (New w1 (W.alloc (.cells #[] 98))) := ⟨HN.out.transN hma⟩
    have hI2 : In4B w1.heap.size (W.alloc (.cells #[] 98)) FA [W.heap.size] FC FG := in4_new1 HI.out HN.out.size
    refine wp_valw (n := 10) (v := .slice (some ⟨W.heap.size, 0, none⟩) 0 0) (w' := W.alloc (.cells #[] 98)) (exec_buildSlice (parts := []) (vs := []) rfl rfl (buildEnt0 _)) rfl ?_
    exact hK.out _ _ (fun _ => HN2) (cp_011110 HC HR0 HR1 HR2 hl0 hl1 hl2 HQ HN2 ⟨hI2⟩ ⟨HO0.out.keep hma (fun _ _ h => h)⟩ ⟨Own.empty0 _ _ _⟩ ⟨HO2.out.keep hma (fun _ _ h => h)⟩ ⟨HB3.out.mod hma id⟩ hFG)
set_option maxHeartbeats 2000000 in
set_option maxRecDepth 100000 in
theorem cp_011010 {ops : Array Oper} (HC : CpOps ops) {x0 : Value} {g1 g2 : Nat} {A1 A2 A3 : Option Addr} {n1 c1 n2 c2 n3 c3 : Nat} {q : Int} {xs0 xs1 : EntryST} {xs2 : DirOpST} {w1 : World} {Q : Exit → Act → World → Prop} (HR0 : Sec (Row dEntry w1 (· < w1.heap.size) A1 n1 xs0)) (HR1 : Sec (Row dEntry w1 (· < w1.heap.size) A2 n2 xs1)) (HR2 : Sec (Row dDirOp w1 (· < w1.heap.size) A3 n3 xs2)) (hl0 : xs0.length ≤ 1048576) (hl1 : xs1.length ≤ 1048576) (hl2 : xs2.length ≤ 1048576) (HQ : Sec (∀ (g3 : Nat) (R0 R1 R2 : Option Addr) (m0 e0 m1 e1 m2 e2 : Nat) (u6 u10 u14 u20 : Value) (W : World) (FA FB FC : List Nat), New w1 W → In4B w1.heap.size W FA FB FC [g3] → Own dEntry 98 W FA (.slice R0 m0 e0) xs0 → Own dEntry 98 W FB (.slice R1 m1 e1) xs1 → Own dDirOp 90 W FC (.slice R2 m2 e2) xs2 → Blk W g3 34 [.slice none 0 0, .slice none 0 0, .slice none 0 0, .slice none 0 0, .int .i64 0] → Q .normal (cpAct x0 g1 g2 A1 A2 A3 n1 c1 n2 c2 n3 c3 q (.pointer (some ⟨g3, 0, none⟩)) u6 (.slice R0 m0 e0) u10 (.slice R1 m1 e1) u14 (.slice R2 m2 e2) u20) (set5 W g3 (.slice none 0 0) (.slice R0 m0 e0) (.slice R1 m1 e1) (.slice R2 m2 e2) (.int .i64 q)))) {W : World} {FA FB FC FG : List Nat} (HN : Sec (New w1 W)) (HI : Sec (In4B w1.heap.size W FA FB FC FG)) {B0 : Option Addr} (HO0 : Sec (Own dEntry 98 W FA (.slice B0 0 0) [])) {B1 : Option Addr} (HO1 : Sec (Own dEntry 98 W FB (.slice B1 0 0) [])) {g3 : Nat} (HB3 : Sec (Blk W g3 34 [.slice none 0 0, .slice none 0 0, .slice none 0 0, .slice none 0 0, .int .i64 0])) (hFG : FG = [g3]) {u9 u13 u14 u17 u20 : Value} : RegR Tryz.prog .any ops Q [16] (fun W => Sec (New w1 W)) 6 #[true, true, true, false, true, true, true, false, false, true, true, false, true, true, false, true, false] (cpAct x0 g1 g2 A1 A2 A3 n1 c1 n2 c2 n3 c3 q (.pointer (some ⟨g3, 0, none⟩)) (.slice B0 0 0) (u9) (.slice B1 0 0) (u13) (u14) (u17) (u20)) W := by
  obtain ⟨ty3, pos3, af3, q3⟩ := HC.e3
  obtain ⟨ty8, pos8, af8, q8⟩ := HC.e8
  refine reg_all2 (i0 := 3) (i1 := 8) q3 q8 HC.r011010 (fun K hK => ?_) (fun K hK => ?_)
  · have hFGn : ∀ k, k ∈ FA → k ∉ FG := fun k h => (HI.out.1.1 k h).2.2
    refine wp_appFD _ (.tmp 6) (.tmp 8) _ rfl Tryz.underlying31 elt_entry flatEntry rfl rfl HO0.out (HR0.out.mod (w' := W) (B' := (· < w1.heap.size)) (fun _ h => h) (fun i hi => HN.out.block i hi id)) (by simp; omega) ?_
    intro A9 n9 c9 W2 F9 ho2 hF9 hm2
    rw [List.nil_append] at ho2
    have HN2 : Sec (New w1 W2) := ⟨HN.out.trans hm2 (fun k hk hlt => by have := (HI.out.2 k (Or.inl hk)).1; omega)⟩
    have hI2 : In4B w1.heap.size W2 F9 FB FC FG := in4_app0 HI.out HN.out.size hm2.size (fun k hk => ho2.lt k hk) hF9
    exact hK.out _ _ (fun _ => HN2) (cp_111010 HC HR0 HR1 HR2 hl0 hl1 hl2 HQ HN2 ⟨hI2⟩ ⟨ho2⟩ ⟨HO1.out.keep hm2 (fun k hk h => (HI.out.1.1 k h).1 hk)⟩ ⟨HB3.out.mod hm2 (fun h => hFGn g3 h (by rw [hFG]; simp))⟩ hFG)
  · have hma : New W (W.alloc (.cells #[] 90)) := (Mod.refl _ _).alloc _
    have HN2 : Sec (New w1 (W.alloc (.cells #[] 90))) := ⟨HN.out.transN hma⟩
    have hI2 : In4B w1.heap.size (W.alloc (.cells #[] 90)) FA FB [W.heap.size] FG := in4_new2 HI.out HN.out.size
    refine wp_valw (n := 14) (v := .slice (some ⟨W.heap.size, 0, none⟩) 0 0) (w' := W.alloc (.cells #[] 90)) (exec_buildSlice (parts := []) (vs := []) rfl rfl (bldDop0I _)) rfl ?_
    exact hK.out _ _ (fun _ => HN2) (cp_011110 HC HR0 HR1 HR2 hl0 hl1 hl2 HQ HN2 ⟨hI2⟩ ⟨HO0.out.keep hma (fun _ _ h => h)⟩ ⟨HO1.out.keep hma (fun _ _ h => h)⟩ ⟨Own.empty0 _ _ _⟩ ⟨HB3.out.mod hma id⟩ hFG)
set_option maxHeartbeats 2000000 in
set_option maxRecDepth 100000 in
theorem cp_011100 {ops : Array Oper} (HC : CpOps ops) {x0 : Value} {g1 g2 : Nat} {A1 A2 A3 : Option Addr} {n1 c1 n2 c2 n3 c3 : Nat} {q : Int} {xs0 xs1 : EntryST} {xs2 : DirOpST} {w1 : World} {Q : Exit → Act → World → Prop} (HR0 : Sec (Row dEntry w1 (· < w1.heap.size) A1 n1 xs0)) (HR1 : Sec (Row dEntry w1 (· < w1.heap.size) A2 n2 xs1)) (HR2 : Sec (Row dDirOp w1 (· < w1.heap.size) A3 n3 xs2)) (hl0 : xs0.length ≤ 1048576) (hl1 : xs1.length ≤ 1048576) (hl2 : xs2.length ≤ 1048576) (HQ : Sec (∀ (g3 : Nat) (R0 R1 R2 : Option Addr) (m0 e0 m1 e1 m2 e2 : Nat) (u6 u10 u14 u20 : Value) (W : World) (FA FB FC : List Nat), New w1 W → In4B w1.heap.size W FA FB FC [g3] → Own dEntry 98 W FA (.slice R0 m0 e0) xs0 → Own dEntry 98 W FB (.slice R1 m1 e1) xs1 → Own dDirOp 90 W FC (.slice R2 m2 e2) xs2 → Blk W g3 34 [.slice none 0 0, .slice none 0 0, .slice none 0 0, .slice none 0 0, .int .i64 0] → Q .normal (cpAct x0 g1 g2 A1 A2 A3 n1 c1 n2 c2 n3 c3 q (.pointer (some ⟨g3, 0, none⟩)) u6 (.slice R0 m0 e0) u10 (.slice R1 m1 e1) u14 (.slice R2 m2 e2) u20) (set5 W g3 (.slice none 0 0) (.slice R0 m0 e0) (.slice R1 m1 e1) (.slice R2 m2 e2) (.int .i64 q)))) {W : World} {FA FB FC FG : List Nat} (HN : Sec (New w1 W)) (HI : Sec (In4B w1.heap.size W FA FB FC FG)) {B0 : Option Addr} (HO0 : Sec (Own dEntry 98 W FA (.slice B0 0 0) [])) {B1 : Option Addr} (HO1 : Sec (Own dEntry 98 W FB (.slice B1 0 0) [])) {B2 : Option Addr} (HO2 : Sec (Own dDirOp 90 W FC (.slice B2 0 0) [])) {u3 u9 u13 u17 u20 : Value} : RegR Tryz.prog .any ops Q [16] (fun W => Sec (New w1 W)) 6 #[true, true, true, false, true, true, true, false, true, true, true, false, true, true, false, false, false] (cpAct x0 g1 g2 A1 A2 A3 n1 c1 n2 c2 n3 c3 q (u3) (.slice B0 0 0) (u9) (.slice B1 0 0) (u13) (.slice B2 0 0) (u17) (u20)) W := by
  obtain ⟨ty3, pos3, af3, q3⟩ := HC.e3
  obtain ⟨ty15, pos15, af15, q15⟩ := HC.e15
  refine reg_all2 (i0 := 3) (i1 := 15) q3 q15 HC.r011100 (fun K hK => ?_) (fun K hK => ?_)
  · have hFGn : ∀ k, k ∈ FA → k ∉ FG := fun k h => (HI.out.1.1 k h).2.2
    refine wp_appFD _ (.tmp 6) (.tmp 8) _ rfl Tryz.underlying31 elt_entry flatEntry rfl rfl HO0.out (HR0.out.mod (w' := W) (B' := (· < w1.heap.size)) (fun _ h => h) (fun i hi => HN.out.block i hi id)) (by simp; omega) ?_
    intro A9 n9 c9 W2 F9 ho2 hF9 hm2
    rw [List.nil_append] at ho2
    have HN2 : Sec (New w1 W2) := ⟨HN.out.trans hm2 (fun k hk hlt => by have := (HI.out.2 k (Or.inl hk)).1; omega)⟩
    have hI2 : In4B w1.heap.size W2 F9 FB FC FG := in4_app0 HI.out HN.out.size hm2.size (fun k hk => ho2.lt k hk) hF9
    exact hK.out _ _ (fun _ => HN2) (cp_111100 HC HR0 HR1 HR2 hl0 hl1 hl2 HQ HN2 ⟨hI2⟩ ⟨ho2⟩ ⟨HO1.out.keep hm2 (fun k hk h => (HI.out.1.1 k h).1 hk)⟩ ⟨HO2.out.keep hm2 (fun k hk h => (HI.out.1.1 k h).2.1 hk)⟩)
  · have hma : New W (W.alloc (.cells zDisk.toArray 34)) := (Mod.refl _ _).alloc _
    have HN2 : Sec (New w1 (W.alloc (.cells zDisk.toArray 34))) := ⟨HN.out.transN hma⟩
    have hI2 : In4B w1.heap.size (W.alloc (.cells zDisk.toArray 34)) FA FB FC [W.heap.size] := in4_newG HI.out HN.out.size
    refine wp_valw (n := 3) (v := .pointer (some ⟨W.heap.size, 0, none⟩)) (w' := W.alloc (.cells zDisk.toArray 34)) (exec_allocDisk rfl) rfl ?_
    exact hK.out _ _ (fun _ => HN2) (cp_011110 HC HR0 HR1 HR2 hl0 hl1 hl2 HQ HN2 ⟨hI2⟩ ⟨HO0.out.keep hma (fun _ _ h => h)⟩ ⟨HO1.out.keep hma (fun _ _ h => h)⟩ ⟨HO2.out.keep hma (fun _ _ h => h)⟩ ⟨Blk.new W 34 zDisk⟩ rfl)
set_option maxHeartbeats 2000000 in
set_option maxRecDepth 100000 in
theorem cp_110010 {ops : Array Oper} (HC : CpOps ops) {x0 : Value} {g1 g2 : Nat} {A1 A2 A3 : Option Addr} {n1 c1 n2 c2 n3 c3 : Nat} {q : Int} {xs0 xs1 : EntryST} {xs2 : DirOpST} {w1 : World} {Q : Exit → Act → World → Prop} (HR0 : Sec (Row dEntry w1 (· < w1.heap.size) A1 n1 xs0)) (HR1 : Sec (Row dEntry w1 (· < w1.heap.size) A2 n2 xs1)) (HR2 : Sec (Row dDirOp w1 (· < w1.heap.size) A3 n3 xs2)) (hl0 : xs0.length ≤ 1048576) (hl1 : xs1.length ≤ 1048576) (hl2 : xs2.length ≤ 1048576) (HQ : Sec (∀ (g3 : Nat) (R0 R1 R2 : Option Addr) (m0 e0 m1 e1 m2 e2 : Nat) (u6 u10 u14 u20 : Value) (W : World) (FA FB FC : List Nat), New w1 W → In4B w1.heap.size W FA FB FC [g3] → Own dEntry 98 W FA (.slice R0 m0 e0) xs0 → Own dEntry 98 W FB (.slice R1 m1 e1) xs1 → Own dDirOp 90 W FC (.slice R2 m2 e2) xs2 → Blk W g3 34 [.slice none 0 0, .slice none 0 0, .slice none 0 0, .slice none 0 0, .int .i64 0] → Q .normal (cpAct x0 g1 g2 A1 A2 A3 n1 c1 n2 c2 n3 c3 q (.pointer (some ⟨g3, 0, none⟩)) u6 (.slice R0 m0 e0) u10 (.slice R1 m1 e1) u14 (.slice R2 m2 e2) u20) (set5 W g3 (.slice none 0 0) (.slice R0 m0 e0) (.slice R1 m1 e1) (.slice R2 m2 e2) (.int .i64 q)))) {W : World} {FA FB FC FG : List Nat} (HN : Sec (New w1 W)) (HI : Sec (In4B w1.heap.size W FA FB FC FG)) {R0 : Option Addr} {m0 e0 : Nat} (HO0 : Sec (Own dEntry 98 W FA (.slice R0 m0 e0) xs0)) {g3 : Nat} (HB3 : Sec (Blk W g3 34 [.slice none 0 0, .slice none 0 0, .slice none 0 0, .slice none 0 0, .int .i64 0])) (hFG : FG = [g3]) {u6 u10 u13 u14 u17 u20 : Value} : RegR Tryz.prog .any ops Q [16] (fun W => Sec (New w1 W)) 6 #[true, true, true, true, false, true, true, false, false, true, true, false, true, true, false, true, false] (cpAct x0 g1 g2 A1 A2 A3 n1 c1 n2 c2 n3 c3 q (.pointer (some ⟨g3, 0, none⟩)) (u6) (.slice R0 m0 e0) (u10) (u13) (u14) (u17) (u20)) W := by
  obtain ⟨ty4, pos4, af4, q4⟩ := HC.e4
  obtain ⟨ty8, pos8, af8, q8⟩ := HC.e8
  refine reg_all2 (i0 := 4) (i1 := 8) q4 q8 HC.r110010 (fun K hK => ?_) (fun K hK => ?_)
  · have hma : New W (W.alloc (.cells #[] 98)) := (Mod.refl _ _).alloc _
    have HN2 : Sec (New w1 (W.alloc (.cells #[] 98))) := ⟨HN.out.transN hma⟩
    have hI2 : In4B w1.heap.size (W.alloc (.cells #[] 98)) FA [W.heap.size] FC FG := in4_new1 HI.out HN.out.size
    refine wp_valw (n := 10) (v := .slice (some ⟨W.heap.size, 0, none⟩) 0 0) (w' := W.alloc (.cells #[] 98)) (exec_buildSlice (parts := []) (vs := []) rfl rfl (buildEnt0 _)) rfl ?_
    exact hK.out _ _ (fun _ => HN2) (cp_111010 HC HR0 HR1 HR2 hl0 hl1 hl2 HQ HN2 ⟨hI2⟩ ⟨HO0.out.keep hma (fun _ _ h => h)⟩ ⟨Own.empty0 _ _ _⟩ ⟨HB3.out.mod hma id⟩ hFG)
  · have hma : New W (W.alloc (.cells #[] 90)) := (Mod.refl _ _).alloc _
    have HN2 : Sec (New w1 (W.alloc (.cells #[] 90))) := ⟨HN.out.transN hma⟩
    have hI2 : In4B w1.heap.size (W.alloc (.cells #[] 90)) FA FB [W.heap.size] FG := in4_new2 HI.out HN.out.size
    refine wp_valw (n := 14) (v := .slice (some ⟨W.heap.size, 0, none⟩) 0 0) (w' := W.alloc (.cells #[] 90)) (exec_buildSlice (parts := []) (vs := []) rfl rfl (bldDop0I _)) rfl ?_
    exact hK.out _ _ (fun _ => HN2) (cp_110110 HC HR0 HR1 HR2 hl0 hl1 hl2 HQ HN2 ⟨hI2⟩ ⟨HO0.out.keep hma (fun _ _ h => h)⟩ ⟨Own.empty0 _ _ _⟩ ⟨HB3.out.mod hma id⟩ hFG)
set_option maxHeartbeats 2000000 in
set_option maxRecDepth 100000 in
theorem cp_110100 {ops : Array Oper} (HC : CpOps ops) {x0 : Value} {g1 g2 : Nat} {A1 A2 A3 : Option Addr} {n1 c1 n2 c2 n3 c3 : Nat} {q : Int} {xs0 xs1 : EntryST} {xs2 : DirOpST} {w1 : World} {Q : Exit → Act → World → Prop} (HR0 : Sec (Row dEntry w1 (· < w1.heap.size) A1 n1 xs0)) (HR1 : Sec (Row dEntry w1 (· < w1.heap.size) A2 n2 xs1)) (HR2 : Sec (Row dDirOp w1 (· < w1.heap.size) A3 n3 xs2)) (hl0 : xs0.length ≤ 1048576) (hl1 : xs1.length ≤ 1048576) (hl2 : xs2.length ≤ 1048576) (HQ : Sec (∀ (g3 : Nat) (R0 R1 R2 : Option Addr) (m0 e0 m1 e1 m2 e2 : Nat) (u6 u10 u14 u20 : Value) (W : World) (FA FB FC : List Nat), New w1 W → In4B w1.heap.size W FA FB FC [g3] → Own dEntry 98 W FA (.slice R0 m0 e0) xs0 → Own dEntry 98 W FB (.slice R1 m1 e1) xs1 → Own dDirOp 90 W FC (.slice R2 m2 e2) xs2 → Blk W g3 34 [.slice none 0 0, .slice none 0 0, .slice none 0 0, .slice none 0 0, .int .i64 0] → Q .normal (cpAct x0 g1 g2 A1 A2 A3 n1 c1 n2 c2 n3 c3 q (.pointer (some ⟨g3, 0, none⟩)) u6 (.slice R0 m0 e0) u10 (.slice R1 m1 e1) u14 (.slice R2 m2 e2) u20) (set5 W g3 (.slice none 0 0) (.slice R0 m0 e0) (.slice R1 m1 e1) (.slice R2 m2 e2) (.int .i64 q)))) {W : World} {FA FB FC FG : List Nat} (HN : Sec (New w1 W)) (HI : Sec (In4B w1.heap.size W FA FB FC FG)) {R0 : Option Addr} {m0 e0 : Nat} (HO0 : Sec (Own dEntry 98 W FA (.slice R0 m0 e0) xs0)) {B2 : Option Addr} (HO2 : Sec (Own dDirOp 90 W FC (.slice B2 0 0) [])) {u3 u6 u10 u13 u17 u20 : Value} : RegR Tryz.prog .any ops Q [16] (fun W => Sec (New w1 W)) 6 #[true, true, true, true, false, true, true, false, true, true, true, false, true, true, false, false, false] (cpAct x0 g1 g2 A1 A2 A3 n1 c1 n2 c2 n3 c3 q (u3) (u6) (.slice R0 m0 e0) (u10) (u13) (.slice B2 0 0) (u17) (u20)) W := by
  obtain ⟨ty4, pos4, af4, q4⟩ := HC.e4
  obtain ⟨ty15, pos15, af15, q15⟩ := HC.e15
  refine reg_all2 (i0 := 4) (i1 := 15) q4 q15 HC.r110100 (fun K hK => ?_) (fun K hK => ?_)
  · have hma : New W (W.alloc (.cells #[] 98)) := (Mod.refl _ _).alloc _
    have HN2 : Sec (New w1 (W.alloc (.cells #[] 98))) := ⟨HN.out.transN hma⟩
    have hI2 : In4B w1.heap.size (W.alloc (.cells #[] 98)) FA [W.heap.size] FC FG := in4_new1 HI.out HN.out.size
    refine wp_valw (n := 10) (v := .slice (some ⟨W.heap.size, 0, none⟩) 0 0) (w' := W.alloc (.cells #[] 98)) (exec_buildSlice (parts := []) (vs := []) rfl rfl (buildEnt0 _)) rfl ?_
    exact hK.out _ _ (fun _ => HN2) (cp_111100 HC HR0 HR1 HR2 hl0 hl1 hl2 HQ HN2 ⟨hI2⟩ ⟨HO0.out.keep hma (fun _ _ h => h)⟩ ⟨Own.empty0 _ _ _⟩ ⟨HO2.out.keep hma (fun _ _ h => h)⟩)
  · have hma : New W (W.alloc (.cells zDisk.toArray 34)) := (Mod.refl _ _).alloc _
    have HN2 : Sec (New w1 (W.alloc (.cells zDisk.toArray 34))) := ⟨HN.out.transN hma⟩
    have hI2 : In4B w1.heap.size (W.alloc (.cells zDisk.toArray 34)) FA FB FC [W.heap.size] := in4_newG HI.out HN.out.size
    refine wp_valw (n := 3) (v := .pointer (some ⟨W.heap.size, 0, none⟩)) (w' := W.alloc (.cells zDisk.toArray 34)) (exec_allocDisk rfl) rfl ?_
    exact hK.out _ _ (fun _ => HN2) (cp_110110 HC HR0 HR1 HR2 hl0 hl1 hl2 HQ HN2 ⟨hI2⟩ ⟨HO0.out.keep hma (fun _ _ h => h)⟩ ⟨HO2.out.keep hma (fun _ _ h => h)⟩ ⟨Blk.new W 34 zDisk⟩ rfl)
set_option maxHeartbeats 2000000 in
set_option maxRecDepth 100000 in
theorem cp_111000 {ops : Array Oper} (HC : CpOps ops) {x0 : Value} {g1 g2 : Nat} {A1 A2 A3 : Option Addr} {n1 c1 n2 c2 n3 c3 : Nat} {q : Int} {xs0 xs1 : EntryST} {xs2 : DirOpST} {w1 : World} {Q : Exit → Act → World → Prop} (HR0 : Sec (Row dEntry w1 (· < w1.heap.size) A1 n1 xs0)) (HR1 : Sec (Row dEntry w1 (· < w1.heap.size) A2 n2 xs1)) (HR2 : Sec (Row dDirOp w1 (· < w1.heap.size) A3 n3 xs2)) (hl0 : xs0.length ≤ 1048576) (hl1 : xs1.length ≤ 1048576) (hl2 : xs2.length ≤ 1048576) (HQ : Sec (∀ (g3 : Nat) (R0 R1 R2 : Option Addr) (m0 e0 m1 e1 m2 e2 : Nat) (u6 u10 u14 u20 : Value) (W : World) (FA FB FC : List Nat), New w1 W → In4B w1.heap.size W FA FB FC [g3] → Own dEntry 98 W FA (.slice R0 m0 e0) xs0 → Own dEntry 98 W FB (.slice R1 m1 e1) xs1 → Own dDirOp 90 W FC (.slice R2 m2 e2) xs2 → Blk W g3 34 [.slice none 0 0, .slice none 0 0, .slice none 0 0, .slice none 0 0, .int .i64 0] → Q .normal (cpAct x0 g1 g2 A1 A2 A3 n1 c1 n2 c2 n3 c3 q (.pointer (some ⟨g3, 0, none⟩)) u6 (.slice R0 m0 e0) u10 (.slice R1 m1 e1) u14 (.slice R2 m2 e2) u20) (set5 W g3 (.slice none 0 0) (.slice R0 m0 e0) (.slice R1 m1 e1) (.slice R2 m2 e2) (.int .i64 q)))) {W : World} {FA FB FC FG : List Nat} (HN : Sec (New w1 W)) (HI : Sec (In4B w1.heap.size W FA FB FC FG)) {R0 : Option Addr} {m0 e0 : Nat} (HO0 : Sec (Own dEntry 98 W FA (.slice R0 m0 e0) xs0)) {B1 : Option Addr} (HO1 : Sec (Own dEntry 98 W FB (.slice B1 0 0) [])) {u3 u6 u13 u14 u17 u20 : Value} : RegR Tryz.prog .any ops Q [16] (fun W => Sec (New w1 W)) 6 #[true, true, true, true, true, true, true, false, false, true, true, false, true, true, false, false, false] (cpAct x0 g1 g2 A1 A2 A3 n1 c1 n2 c2 n3 c3 q (u3) (u6) (.slice R0 m0 e0) (.slice B1 0 0) (u13) (u14) (u17) (u20)) W := by
  obtain ⟨ty7, pos7, af7, q7⟩ := HC.e7
  obtain ⟨ty8, pos8, af8, q8⟩ := HC.e8
  obtain ⟨ty15, pos15, af15, q15⟩ := HC.e15
  refine reg_all3 (i0 := 7) (i1 := 8) (i2 := 15) q7 q8 q15 HC.r111000 (fun K hK => ?_) (fun K hK => ?_) (fun K hK => ?_)
  · have hFGn : ∀ k, k ∈ FB → k ∉ FG := fun k h => (HI.out.1.2.1 k h).2
    refine wp_appFD _ (.tmp 10) (.tmp 12) _ rfl Tryz.underlying31 elt_entry flatEntry rfl rfl HO1.out (HR1.out.mod (w' := W) (B' := (· < w1.heap.size)) (fun _ h => h) (fun i hi => HN.out.block i hi id)) (by simp; omega) ?_
    intro A9 n9 c9 W2 F9 ho2 hF9 hm2
    rw [List.nil_append] at ho2
    have HN2 : Sec (New w1 W2) := ⟨HN.out.trans hm2 (fun k hk hlt => by have := (HI.out.2 k (Or.inr (Or.inl hk))).1; omega)⟩
    have hI2 : In4B w1.heap.size W2 FA F9 FC FG := in4_app1 HI.out HN.out.size hm2.size (fun k hk => ho2.lt k hk) hF9
    exact hK.out _ _ (fun _ => HN2) (cp_211000 HC HR0 HR1 HR2 hl0 hl1 hl2 HQ HN2 ⟨hI2⟩ ⟨HO0.out.keep hm2 (fun k hk h => (HI.out.1.1 k hk).1 h)⟩ ⟨ho2⟩)
  · have hma : New W (W.alloc (.cells #[] 90)) := (Mod.refl _ _).alloc _
    have HN2 : Sec (New w1 (W.alloc (.cells #[] 90))) := ⟨HN.out.transN hma⟩
    have hI2 : In4B w1.heap.size (W.alloc (.cells #[] 90)) FA FB [W.heap.size] FG := in4_new2 HI.out HN.out.size
    refine wp_valw (n := 14) (v := .slice (some ⟨W.heap.size, 0, none⟩) 0 0) (w' := W.alloc (.cells #[] 90)) (exec_buildSlice (parts := []) (vs := []) rfl rfl (bldDop0I _)) rfl ?_
    exact hK.out _ _ (fun _ => HN2) (cp_111100 HC HR0 HR1 HR2 hl0 hl1 hl2 HQ HN2 ⟨hI2⟩ ⟨HO0.out.keep hma (fun _ _ h => h)⟩ ⟨HO1.out.keep hma (fun _ _ h => h)⟩ ⟨Own.empty0 _ _ _⟩)
  · have hma : New W (W.alloc (.cells zDisk.toArray 34)) := (Mod.refl _ _).alloc _
    have HN2 : Sec (New w1 (W.alloc (.cells zDisk.toArray 34))) := ⟨HN.out.transN hma⟩
    have hI2 : In4B w1.heap.size (W.alloc (.cells zDisk.toArray 34)) FA FB FC [W.heap.size] := in4_newG HI.out HN.out.size
    refine wp_valw (n := 3) (v := .pointer (some ⟨W.heap.size, 0, none⟩)) (w' := W.alloc (.cells zDisk.toArray 34)) (exec_allocDisk rfl) rfl ?_
    exact hK.out _ _ (fun _ => HN2) (cp_111010 HC HR0 HR1 HR2 hl0 hl1 hl2 HQ HN2 ⟨hI2⟩ ⟨HO0.out.keep hma (fun _ _ h => h)⟩ ⟨HO1.out.keep hma (fun _ _ h => h)⟩ ⟨Blk.new W 34 zDisk⟩ rfl)
set_option maxHeartbeats 2000000 in
set_option maxRecDepth 100000 in
theorem cp_000110 {ops : Array Oper} (HC : CpOps ops) {x0 : Value} {g1 g2 : Nat} {A1 A2 A3 : Option Addr} {n1 c1 n2 c2 n3 c3 : Nat} {q : Int} {xs0 xs1 : EntryST} {xs2 : DirOpST} {w1 : World} {Q : Exit → Act → World → Prop} (HR0 : Sec (Row dEntry w1 (· < w1.heap.size) A1 n1 xs0)) (HR1 : Sec (Row dEntry w1 (· < w1.heap.size) A2 n2 xs1)) (HR2 : Sec (Row dDirOp w1 (· < w1.heap.size) A3 n3 xs2)) (hl0 : xs0.length ≤ 1048576) (hl1 : xs1.length ≤ 1048576) (hl2 : xs2.length ≤ 1048576) (HQ : Sec (∀ (g3 : Nat) (R0 R1 R2 : Option Addr) (m0 e0 m1 e1 m2 e2 : Nat) (u6 u10 u14 u20 : Value) (W : World) (FA FB FC : List Nat), New w1 W → In4B w1.heap.size W FA FB FC [g3] → Own dEntry 98 W FA (.slice R0 m0 e0) xs0 → Own dEntry 98 W FB (.slice R1 m1 e1) xs1 → Own dDirOp 90 W FC (.slice R2 m2 e2) xs2 → Blk W g3 34 [.slice none 0 0, .slice none 0 0, .slice none 0 0, .slice none 0 0, .int .i64 0] → Q .normal (cpAct x0 g1 g2 A1 A2 A3 n1 c1 n2 c2 n3 c3 q (.pointer (some ⟨g3, 0, none⟩)) u6 (.slice R0 m0 e0) u10 (.slice R1 m1 e1) u14 (.slice R2 m2 e2) u20) (set5 W g3 (.slice none 0 0) (.slice R0 m0 e0) (.slice R1 m1 e1) (.slice R2 m2 e2) (.int .i64 q)))) {W : World} {FA FB FC FG : List Nat} (HN : Sec (New w1 W)) (HI : Sec (In4B w1.heap.size W FA FB FC FG)) {B2 : Option Addr} (HO2 : Sec (Own dDirOp 90 W FC (.slice B2 0 0) [])) {g3 : Nat} (HB3 : Sec (Blk W g3 34 [.slice none 0 0, .slice none 0 0, .slice none 0 0, .slice none 0 0, .int .i64 0])) (hFG : FG = [g3]) {u6 u9 u10 u13 u17 u20 : Value} : RegR Tryz.prog .any ops Q [16] (fun W => Sec (New w1 W)) 7 #[false, true, true, false, false, true, true, false, true, true, true, false, true, true, false, true, false] (cpAct x0 g1 g2 A1 A2 A3 n1 c1 n2 c2 n3 c3 q (.pointer (some ⟨g3, 0, none⟩)) (u6) (u9) (u10) (u13) (.slice B2 0 0) (u17) (u20)) W := by
  obtain ⟨ty0, pos0, af0, q0⟩ := HC.e0
  obtain ⟨ty4, pos4, af4, q4⟩ := HC.e4
  refine reg_all2 (i0 := 0) (i1 := 4) q0 q4 HC.r000110 (fun K hK => ?_) (fun K hK => ?_)
  · have hma : New W (W.alloc (.cells #[] 98)) := (Mod.refl _ _).alloc _
    have HN2 : Sec (New w1 (W.alloc (.cells #[] 98))) := ⟨HN.out.transN hma⟩
    have hI2 : In4B w1.heap.size (W.alloc (.cells #[] 98)) [W.heap.size] FB FC FG := in4_new0 HI.out HN.out.size
    refine wp_valw (n := 6) (v := .slice (some ⟨W.heap.size, 0, none⟩) 0 0) (w' := W.alloc (.cells #[] 98)) (exec_buildSlice (parts := []) (vs := []) rfl rfl (buildEnt0 _)) rfl ?_
    exact hK.out _ _ (fun _ => HN2) (cp_010110 HC HR0 HR1 HR2 hl0 hl1 hl2 HQ HN2 ⟨hI2⟩ ⟨Own.empty0 _ _ _⟩ ⟨HO2.out.keep hma (fun _ _ h => h)⟩ ⟨HB3.out.mod hma id⟩ hFG)
  · have hma : New W (W.alloc (.cells #[] 98)) := (Mod.refl _ _).alloc _
    have HN2 : Sec (New w1 (W.alloc (.cells #[] 98))) := ⟨HN.out.transN hma⟩
    have hI2 : In4B w1.heap.size (W.alloc (.cells #[] 98)) FA [W.heap.size] FC FG := in4_new1 HI.out HN.out.size
    refine wp_valw (n := 10) (v := .slice (some ⟨W.heap.size, 0, none⟩) 0 0) (w' := W.alloc (.cells #[] 98)) (exec_buildSlice (parts := []) (vs := []) rfl rfl (buildEnt0 _)) rfl ?_
    exact hK.out _ _ (fun _ => HN2) (cp_001110 HC HR0 HR1 HR2 hl0 hl1 hl2 HQ HN2 ⟨hI2⟩ ⟨Own.empty0 _ _ _⟩ ⟨HO2.out.keep hma (fun _ _ h => h)⟩ ⟨HB3.out.mod hma id⟩ hFG)
set_option maxHeartbeats 2000000 in
set_option maxRecDepth 100000 in
theorem cp_001010 {ops : Array Oper} (HC : CpOps ops) {x0 : Value} {g1 g2 : Nat} {A1 A2 A3 : Option Addr} {n1 c1 n2 c2 n3 c3 : Nat} {q : Int} {xs0 xs1 : EntryST} {xs2 : DirOpST} {w1 : World} {Q : Exit → Act → World → Prop} (HR0 : Sec (Row dEntry w1 (· < w1.heap.size) A1 n1 xs0)) (HR1 : Sec (Row dEntry w1 (· < w1.heap.size) A2 n2 xs1)) (HR2 : Sec (Row dDirOp w1 (· < w1.heap.size) A3 n3 xs2)) (hl0 : xs0.length ≤ 1048576) (hl1 : xs1.length ≤ 1048576) (hl2 : xs2.length ≤ 1048576) (HQ : Sec (∀ (g3 : Nat) (R0 R1 R2 : Option Addr) (m0 e0 m1 e1 m2 e2 : Nat) (u6 u10 u14 u20 : Value) (W : World) (FA FB FC : List Nat), New w1 W → In4B w1.heap.size W FA FB FC [g3] → Own dEntry 98 W FA (.slice R0 m0 e0) xs0 → Own dEntry 98 W FB (.slice R1 m1 e1) xs1 → Own dDirOp 90 W FC (.slice R2 m2 e2) xs2 → Blk W g3 34 [.slice none 0 0, .slice none 0 0, .slice none 0 0, .slice none 0 0, .int .i64 0] → Q .normal (cpAct x0 g1 g2 A1 A2 A3 n1 c1 n2 c2 n3 c3 q (.pointer (some ⟨g3, 0, none⟩)) u6 (.slice R0 m0 e0) u10 (.slice R1 m1 e1) u14 (.slice R2 m2 e2) u20) (set5 W g3 (.slice none 0 0) (.slice R0 m0 e0) (.slice R1 m1 e1) (.slice R2 m2 e2) (.int .i64 q)))) {W : World} {FA FB FC FG : List Nat} (HN : Sec (New w1 W)) (HI : Sec (In4B w1.heap.size W FA FB FC FG)) {B1 : Option Addr} (HO1 : Sec (Own dEntry 98 W FB (.slice B1 0 0) [])) {g3 : Nat} (HB3 : Sec (Blk W g3 34 [.slice none 0 0, .slice none 0 0, .slice none 0 0, .slice none 0 0, .int .i64 0])) (hFG : FG = [g3]) {u6 u9 u13 u14 u17 u20 : Value} : RegR Tryz.prog .any ops Q [16] (fun W => Sec (New w1 W)) 7 #[false, true, true, false, true, true, true, false, false, true, true, false, true, true, false, true, false] (cpAct x0 g1 g2 A1 A2 A3 n1 c1 n2 c2 n3 c3 q (.pointer (some ⟨g3, 0, none⟩)) (u6) (u9) (.slice B1 0 0) (u13) (u14) (u17) (u20)) W := by
  obtain ⟨ty0, pos0, af0, q0⟩ := HC.e0
  obtain ⟨ty8, pos8, af8, q8⟩ := HC.e8
  refine reg_all2 (i0 := 0) (i1 := 8) q0 q8 HC.r001010 (fun K hK => ?_) (fun K hK => ?_)
  · have hma : New W (W.alloc (.cells #[] 98)) := (Mod.refl _ _).alloc _
    have HN2 : Sec (New w1 (W.alloc (.cells #[] 98))) := ⟨HN.out.transN hma⟩
    have hI2 : In4B w1.heap.size (W.alloc (.cells #[] 98)) [W.heap.size] FB FC FG := in4_new0 HI.out HN.out.size
    refine wp_valw (n := 6) (v := .slice (some ⟨W.heap.size, 0, none⟩) 0 0) (w' := W.alloc (.cells #[] 98)) (exec_buildSlice (parts := []) (vs := []) rfl rfl (buildEnt0 _)) rfl ?_
    exact hK.out _ _ (fun _ => HN2) (cp_011010 HC HR0 HR1 HR2 hl0 hl1 hl2 HQ HN2 ⟨hI2⟩ ⟨Own.empty0 _ _ _⟩ ⟨HO1.out.keep hma (fun _ _ h => h)⟩ ⟨HB3.out.mod hma id⟩ hFG)
  · have hma : New W (W.alloc (.cells #[] 90)) := (Mod.refl _ _).alloc _
    have HN2 : Sec (New w1 (W.alloc (.cells #[] 90))) := ⟨HN.out.transN hma⟩
    have hI2 : In4B w1.heap.size (W.alloc (.cells #[] 90)) FA FB [W.heap.size] FG := in4_new2 HI.out HN.out.size
    refine wp_valw (n := 14) (v := .slice (some ⟨W.heap.size, 0, none⟩) 0 0) (w' := W.alloc (.cells #[] 90)) (exec_buildSlice (parts := []) (vs := []) rfl rfl (bldDop0I _)) rfl ?_
    exact hK.out _ _ (fun _ => HN2) (cp_001110 HC HR0 HR1 HR2 hl0 hl1 hl2 HQ HN2 ⟨hI2⟩ ⟨HO1.out.keep hma (fun _ _ h => h)⟩ ⟨Own.empty0 _ _ _⟩ ⟨HB3.out.mod hma id⟩ hFG)
set_option maxHeartbeats 2000000 in
set_option maxRecDepth 100000 in
theorem cp_001100 {ops : Array Oper} (HC : CpOps ops) {x0 : Value} {g1 g2 : Nat} {A1 A2 A3 : Option Addr} {n1 c1 n2 c2 n3 c3 : Nat} {q : Int} {xs0 xs1 : EntryST} {xs2 : DirOpST} {w1 : World} {Q : Exit → Act → World → Prop} (HR0 : Sec (Row dEntry w1 (· < w1.heap.size) A1 n1 xs0)) (HR1 : Sec (Row dEntry w1 (· < w1.heap.size) A2 n2 xs1)) (HR2 : Sec (Row dDirOp w1 (· < w1.heap.size) A3 n3 xs2)) (hl0 : xs0.length ≤ 1048576) (hl1 : xs1.length ≤ 1048576) (hl2 : xs2.length ≤ 1048576) (HQ : Sec (∀ (g3 : Nat) (R0 R1 R2 : Option Addr) (m0 e0 m1 e1 m2 e2 : Nat) (u6 u10 u14 u20 : Value) (W : World) (FA FB FC : List Nat), New w1 W → In4B w1.heap.size W FA FB FC [g3] → Own dEntry 98 W FA (.slice R0 m0 e0) xs0 → Own dEntry 98 W FB (.slice R1 m1 e1) xs1 → Own dDirOp 90 W FC (.slice R2 m2 e2) xs2 → Blk W g3 34 [.slice none 0 0, .slice none 0 0, .slice none 0 0, .slice none 0 0, .int .i64 0] → Q .normal (cpAct x0 g1 g2 A1 A2 A3 n1 c1 n2 c2 n3 c3 q (.pointer (some ⟨g3, 0, none⟩)) u6 (.slice R0 m0 e0) u10 (.slice R1 m1 e1) u14 (.slice R2 m2 e2) u20) (set5 W g3 (.slice none 0 0) (.slice R0 m0 e0) (.slice R1 m1 e1) (.slice R2 m2 e2) (.int .i64 q)))) {W : World} {FA FB FC FG : List Nat} (HN : Sec (New w1 W)) (HI : Sec (In4B w1.heap.size W FA FB FC FG)) {B1 : Option Addr} (HO1 : Sec (Own dEntry 98 W FB (.slice B1 0 0) [])) {B2 : Option Addr} (HO2 : Sec (Own dDirOp 90 W FC (.slice B2 0 0) [])) {u3 u6 u9 u13 u17 u20 : Value} : RegR Tryz.prog .any ops Q [16] (fun W => Sec (New w1 W)) 7 #[false, true, true, false, true, true, true, false, true, true, true, false, true, true, false, false, false] (cpAct x0 g1 g2 A1 A2 A3 n1 c1 n2 c2 n3 c3 q (u3) (u6) (u9) (.slice B1 0 0) (u13) (.slice B2 0 0) (u17) (u20)) W := by
  obtain ⟨ty0, pos0, af0, q0⟩ := HC.e0
  obtain ⟨ty15, pos15, af15, q15⟩ := HC.e15
  refine reg_all2 (i0 := 0) (i1 := 15) q0 q15 HC.r001100 (fun K hK => ?_) (fun K hK => ?_)
  · have hma : New W (W.alloc (.cells #[] 98)) := (Mod.refl _ _).alloc _
    have HN2 : Sec (New w1 (W.alloc (.cells #[] 98))) := ⟨HN.out.transN hma⟩
    have hI2 : In4B w1.heap.size (W.alloc (.cells #[] 98)) [W.heap.size] FB FC FG := in4_new0 HI.out HN.out.size
    refine wp_valw (n := 6) (v := .slice (some ⟨W.heap.size, 0, none⟩) 0 0) (w' := W.alloc (.cells #[] 98)) (exec_buildSlice (parts := []) (vs := []) rfl rfl (buildEnt0 _)) rfl ?_
    exact hK.out _ _ (fun _ => HN2) (cp_011100 HC HR0 HR1 HR2 hl0 hl1 hl2 HQ HN2 ⟨hI2⟩ ⟨Own.empty0 _ _ _⟩ ⟨HO1.out.keep hma (fun _ _ h => h)⟩ ⟨HO2.out.keep hma (fun _ _ h => h)⟩)
  · have hma : New W (W.alloc (.cells zDisk.toArray 34)) := (Mod.refl _ _).alloc _
    have HN2 : Sec (New w1 (W.alloc (.cells zDisk.toArray 34))) := ⟨HN.out.transN hma⟩
    have hI2 : In4B w1.heap.size (W.alloc (.cells zDisk.toArray 34)) FA FB FC [W.heap.size] := in4_newG HI.out HN.out.size
    refine wp_valw (n := 3) (v := .pointer (some ⟨W.heap.size, 0, none⟩)) (w' := W.alloc (.cells zDisk.toArray 34)) (exec_allocDisk rfl) rfl ?_
    exact hK.out _ _ (fun _ => HN2) (cp_001110 HC HR0 HR1 HR2 hl0 hl1 hl2 HQ HN2 ⟨hI2⟩ ⟨HO1.out.keep hma (fun _ _ h => h)⟩ ⟨HO2.out.keep hma (fun _ _ h => h)⟩ ⟨Blk.new W 34 zDisk⟩ rfl)
set_option maxHeartbeats 2000000 in
set_option maxRecDepth 100000 in
theorem cp_010010 {ops : Array Oper} (HC : CpOps ops) {x0 : Value} {g1 g2 : Nat} {A1 A2 A3 : Option Addr} {n1 c1 n2 c2 n3 c3 : Nat} {q : Int} {xs0 xs1 : EntryST} {xs2 : DirOpST} {w1 : World} {Q : Exit → Act → World → Prop} (HR0 : Sec (Row dEntry w1 (· < w1.heap.size) A1 n1 xs0)) (HR1 : Sec (Row dEntry w1 (· < w1.heap.size) A2 n2 xs1)) (HR2 : Sec (Row dDirOp w1 (· < w1.heap.size) A3 n3 xs2)) (hl0 : xs0.length ≤ 1048576) (hl1 : xs1.length ≤ 1048576) (hl2 : xs2.length ≤ 1048576) (HQ : Sec (∀ (g3 : Nat) (R0 R1 R2 : Option Addr) (m0 e0 m1 e1 m2 e2 : Nat) (u6 u10 u14 u20 : Value) (W : World) (FA FB FC : List Nat), New w1 W → In4B w1.heap.size W FA FB FC [g3] → Own dEntry 98 W FA (.slice R0 m0 e0) xs0 → Own dEntry 98 W FB (.slice R1 m1 e1) xs1 → Own dDirOp 90 W FC (.slice R2 m2 e2) xs2 → Blk W g3 34 [.slice none 0 0, .slice none 0 0, .slice none 0 0, .slice none 0 0, .int .i64 0] → Q .normal (cpAct x0 g1 g2 A1 A2 A3 n1 c1 n2 c2 n3 c3 q (.pointer (some ⟨g3, 0, none⟩)) u6 (.slice R0 m0 e0) u10 (.slice R1 m1 e1) u14 (.slice R2 m2 e2) u20) (set5 W g3 (.slice none 0 0) (.slice R0 m0 e0) (.slice R1 m1 e1) (.slice R2 m2 e2) (.int .i64 q)))) {W : World} {FA FB FC FG : List Nat} (HN : Sec (New w1 W)) (HI : Sec (In4B w1.heap.size W FA FB FC FG)) {B0 : Option Addr} (HO0 : Sec (Own dEntry 98 W FA (.slice B0 0 0) [])) {g3 : Nat} (HB3 : Sec (Blk W g3 34 [.slice none 0 0, .slice none 0 0, .slice none 0 0, .slice none 0 0, .int .i64 0])) (hFG : FG = [g3]) {u9 u10 u13 u14 u17 u20 : Value} : RegR Tryz.prog .any ops Q [16] (fun W => Sec (New w1 W)) 7 #[true, true, true, false, false, true, true, false, false, true, true, false, true, true, false, true, false] (cpAct x0 g1 g2 A1 A2 A3 n1 c1 n2 c2 n3 c3 q (.pointer (some ⟨g3, 0, none⟩)) (.slice B0 0 0) (u9) (u10) (u13) (u14) (u17) (u20)) W := by
  obtain ⟨ty3, pos3, af3, q3⟩ := HC.e3
  obtain ⟨ty4, pos4, af4, q4⟩ := HC.e4
  obtain ⟨ty8, pos8, af8, q8⟩ := HC.e8
  refine reg_all3 (i0 := 3) (i1 := 4) (i2 := 8) q3 q4 q8 HC.r010010 (fun K hK => ?_) (fun K hK => ?_) (fun K hK => ?_)
  · have hFGn : ∀ k, k ∈ FA → k ∉ FG := fun k h => (HI.out.1.1 k h).2.2
    refine wp_appFD _ (.tmp 6) (.tmp 8) _ rfl Tryz.underlying31 elt_entry flatEntry rfl rfl HO0.out (HR0.out.mod (w' := W) (B' := (· < w1.heap.size)) (fun _ h => h) (fun i hi => HN.out.block i hi id)) (by simp; omega) ?_
    intro A9 n9 c9 W2 F9 ho2 hF9 hm2
    rw [List.nil_append] at ho2
    have HN2 : Sec (New w1 W2) := ⟨HN.out.trans hm2 (fun k hk hlt => by have := (HI.out.2 k (Or.inl hk)).1; omega)⟩
    have hI2 : In4B w1.heap.size W2 F9 FB FC FG := in4_app0 HI.out HN.out.size hm2.size (fun k hk => ho2.lt k hk) hF9
    exact hK.out _ _ (fun _ => HN2) (cp_110010 HC HR0 HR1 HR2 hl0 hl1 hl2 HQ HN2 ⟨hI2⟩ ⟨ho2⟩ ⟨HB3.out.mod hm2 (fun h => hFGn g3 h (by rw [hFG]; simp))⟩ hFG)
  · have hma : New W (W.alloc (.cells #[] 98)) := (Mod.refl _ _).alloc _
    have HN2 : Sec (New w1 (W.alloc (.cells #[] 98))) := ⟨HN.out.transN hma⟩
    have hI2 : In4B w1.heap.size (W.alloc (.cells #[] 98)) FA [W.heap.size] FC FG := in4_new1 HI.out HN.out.size
    refine wp_valw (n := 10) (v := .slice (some ⟨W.heap.size, 0, none⟩) 0 0) (w' := W.alloc (.cells #[] 98)) (exec_buildSlice (parts := []) (vs := []) rfl rfl (buildEnt0 _)) rfl ?_
    exact hK.out _ _ (fun _ => HN2) (cp_011010 HC HR0 HR1 HR2 hl0 hl1 hl2 HQ HN2 ⟨hI2⟩ ⟨HO0.out.keep hma (fun _ _ h => h)⟩ ⟨Own.empty0 _ _ _⟩ ⟨HB3.out.mod hma id⟩ hFG)
  · have hma : New W (W.alloc (.cells #[] 90)) := (Mod.refl _ _).alloc _
    have HN2 : Sec (New w1 (W.alloc (.cells #[] 90))) := ⟨HN.out.transN hma⟩
    have hI2 : In4B w1.heap.size (W.alloc (.cells #[] 90)) FA FB [W.heap.size] FG := in4_new2 HI.out HN.out.size
    refine wp_valw (n := 14) (v := .slice (some ⟨W.heap.size, 0, none⟩) 0 0) (w' := W.alloc (.cells #[] 90)) (exec_buildSlice (parts := []) (vs := []) rfl rfl (bldDop0I _)) rfl ?_
    exact hK.out _ _ (fun _ => HN2) (cp_010110 HC HR0 HR1 HR2 hl0 hl1 hl2 HQ HN2 ⟨hI2⟩ ⟨HO0.out.keep hma (fun _ _ h => h)⟩ ⟨Own.empty0 _ _ _⟩ ⟨HB3.out.mod hma id⟩ hFG)
set_option maxHeartbeats 2000000 in
set_option maxRecDepth 100000 in
theorem cp_010100 {ops : Array Oper} (HC : CpOps ops) {x0 : Value} {g1 g2 : Nat} {A1 A2 A3 : Option Addr} {n1 c1 n2 c2 n3 c3 : Nat} {q : Int} {xs0 xs1 : EntryST} {xs2 : DirOpST} {w1 : World} {Q : Exit → Act → World → Prop} (HR0 : Sec (Row dEntry w1 (· < w1.heap.size) A1 n1 xs0)) (HR1 : Sec (Row dEntry w1 (· < w1.heap.size) A2 n2 xs1)) (HR2 : Sec (Row dDirOp w1 (· < w1.heap.size) A3 n3 xs2)) (hl0 : xs0.length ≤ 1048576) (hl1 : xs1.length ≤ 1048576) (hl2 : xs2.length ≤ 1048576) (HQ : Sec (∀ (g3 : Nat) (R0 R1 R2 : Option Addr) (m0 e0 m1 e1 m2 e2 : Nat) (u6 u10 u14 u20 : Value) (W : World) (FA FB FC : List Nat), New w1 W → In4B w1.heap.size W FA FB FC [g3] → Own dEntry 98 W FA (.slice R0 m0 e0) xs0 → Own dEntry 98 W FB (.slice R1 m1 e1) xs1 → Own dDirOp 90 W FC (.slice R2 m2 e2) xs2 → Blk W g3 34 [.slice none 0 0, .slice none 0 0, .slice none 0 0, .slice none 0 0, .int .i64 0] → Q .normal (cpAct x0 g1 g2 A1 A2 A3 n1 c1 n2 c2 n3 c3 q (.pointer (some ⟨g3, 0, none⟩)) u6 (.slice R0 m0 e0) u10 (.slice R1 m1 e1) u14 (.slice R2 m2 e2) u20) (set5 W g3 (.slice none 0 0) (.slice R0 m0 e0) (.slice R1 m1 e1) (.slice R2 m2 e2) (.int .i64 q)))) {W : World} {FA FB FC FG : List Nat} (HN : Sec (New w1 W)) (HI : Sec (In4B w1.heap.size W FA FB FC FG)) {B0 : Option Addr} (HO0 : Sec (Own dEntry 98 W FA (.slice B0 0 0) [])) {B2 : Option Addr} (HO2 : Sec (Own dDirOp 90 W FC (.slice B2 0 0) [])) {u3 u9 u10 u13 u17 u20 : Value} : RegR Tryz.prog .any ops Q [16] (fun W => Sec (New w1 W)) 7 #[true, true, true, false, false, true, true, false, true, true, true, false, true, true, false, false, false] (cpAct x0 g1 g2 A1 A2 A3 n1 c1 n2 c2 n3 c3 q (u3) (.slice B0 0 0) (u9) (u10) (u13) (.slice B2 0 0) (u17) (u20)) W := by
  obtain ⟨ty3, pos3, af3, q3⟩ := HC.e3
  obtain ⟨ty4, pos4, af4, q4⟩ := HC.e4
  obtain ⟨ty15, pos15, af15, q15⟩ := HC.e15
  refine reg_all3 (i0 := 3) (i1 := 4) (i2 := 15) q3 q4 q15 HC.r010100 (fun K hK => ?_) (fun K hK => ?_) (fun K hK => ?_)
  · have hFGn : ∀ k, k ∈ FA → k ∉ FG := fun k h => (HI.out.1.1 k h).2.2
    refine wp_appFD _ (.tmp 6) (.tmp 8) _ rfl Tryz.underlying31 elt_entry flatEntry rfl rfl HO0.out (HR0.out.mod (w' := W) (B' := (· < w1.heap.size)) (fun _ h => h) (fun i hi => HN.out.block i hi id)) (by simp; omega) ?_
    intro A9 n9 c9 W2 F9 ho2 hF9 hm2
    rw [List.nil_append] at ho2
    have HN2 : Sec (New w1 W2) := ⟨HN.out.trans hm2 (fun k hk hlt => by have := (HI.out.2 k (Or.inl hk)).1; omega)⟩
    have hI2 : In4B w1.heap.size W2 F9 FB FC FG := in4_app0 HI.out HN.out.size hm2.size (fun k hk => ho2.lt k hk) hF9
    exact hK.out _ _ (fun _ => HN2) (cp_110100 HC HR0 HR1 HR2 hl0 hl1 hl2 HQ HN2 ⟨hI2⟩ ⟨ho2⟩ ⟨HO2.out.keep hm2 (fun k hk h => (HI.out.1.1 k h).2.1 hk)⟩)
  · have hma : New W (W.alloc (.cells #[] 98)) := (Mod.refl _ _).alloc _
    have HN2 : Sec (New w1 (W.alloc (.cells #[] 98))) := ⟨HN.out.transN hma⟩
    have hI2 : In4B w1.heap.size (W.alloc (.cells #[] 98)) FA [W.heap.size] FC FG := in4_new1 HI.out HN.out.size
    refine wp_valw (n := 10) (v := .slice (some ⟨W.heap.size, 0, none⟩) 0 0) (w' := W.alloc (.cells #[] 98)) (exec_buildSlice (parts := []) (vs := []) rfl rfl (buildEnt0 _)) rfl ?_
    exact hK.out _ _ (fun _ => HN2) (cp_011100 HC HR0 HR1 HR2 hl0 hl1 hl2 HQ HN2 ⟨hI2⟩ ⟨HO0.out.keep hma (fun _ _ h => h)⟩ ⟨Own.empty0 _ _ _⟩ ⟨HO2.out.keep hma (fun _ _ h => h)⟩)
  · have hma : New W (W.alloc (.cells zDisk.toArray 34)) := (Mod.refl _ _).alloc _
    have HN2 : Sec (New w1 (W.alloc (.cells zDisk.toArray 34))) := ⟨HN.out.transN hma⟩
    have hI2 : In4B w1.heap.size (W.alloc (.cells zDisk.toArray 34)) FA FB FC [W.heap.size] := in4_newG HI.out HN.out.size
    refine wp_valw (n := 3) (v := .pointer (some ⟨W.heap.size, 0, none⟩)) (w' := W.alloc (.cells zDisk.toArray 34)) (exec_allocDisk rfl) rfl ?_
    exact hK.out _ _ (fun _ => HN2) (cp_010110 HC HR0 HR1 HR2 hl0 hl1 hl2 HQ HN2 ⟨hI2⟩ ⟨HO0.out.keep hma (fun _ _ h => h)⟩ ⟨HO2.out.keep hma (fun _ _ h => h)⟩ ⟨Blk.new W 34 zDisk⟩ rfl)
set_option maxHeartbeats 2000000 in
set_option maxRecDepth 100000 in
theorem cp_011000 {ops : Array Oper} (HC : CpOps ops) {x0 : Value} {g1 g2 : Nat} {A1 A2 A3 : Option Addr} {n1 c1 n2 c2 n3 c3 : Nat} {q : Int} {xs0 xs1 : EntryST} {xs2 : DirOpST} {w1 : World} {Q : Exit → Act → World → Prop} (HR0 : Sec (Row dEntry w1 (· < w1.heap.size) A1 n1 xs0)) (HR1 : Sec (Row dEntry w1 (· < w1.heap.size) A2 n2 xs1)) (HR2 : Sec (Row dDirOp w1 (· < w1.heap.size) A3 n3 xs2)) (hl0 : xs0.length ≤ 1048576) (hl1 : xs1.length ≤ 1048576) (hl2 : xs2.length ≤ 1048576) (HQ : Sec (∀ (g3 : Nat) (R0 R1 R2 : Option Addr) (m0 e0 m1 e1 m2 e2 : Nat) (u6 u10 u14 u20 : Value) (W : World) (FA FB FC : List Nat), New w1 W → In4B w1.heap.size W FA FB FC [g3] → Own dEntry 98 W FA (.slice R0 m0 e0) xs0 → Own dEntry 98 W FB (.slice R1 m1 e1) xs1 → Own dDirOp 90 W FC (.slice R2 m2 e2) xs2 → Blk W g3 34 [.slice none 0 0, .slice none 0 0, .slice none 0 0, .slice none 0 0, .int .i64 0] → Q .normal (cpAct x0 g1 g2 A1 A2 A3 n1 c1 n2 c2 n3 c3 q (.pointer (some ⟨g3, 0, none⟩)) u6 (.slice R0 m0 e0) u10 (.slice R1 m1 e1) u14 (.slice R2 m2 e2) u20) (set5 W g3 (.slice none 0 0) (.slice R0 m0 e0) (.slice R1 m1 e1) (.slice R2 m2 e2) (.int .i64 q)))) {W : World} {FA FB FC FG : List Nat} (HN : Sec (New w1 W)) (HI : Sec (In4B w1.heap.size W FA FB FC FG)) {B0 : Option Addr} (HO0 : Sec (Own dEntry 98 W FA (.slice B0 0 0) [])) {B1 : Option Addr} (HO1 : Sec (Own dEntry 98 W FB (.slice B1 0 0) [])) {u3 u9 u13 u14 u17 u20 : Value} : RegR Tryz.prog .any ops Q [16] (fun W => Sec (New w1 W)) 7 #[true, true, true, false, true, true, true, false, false, true, true, false, true, true, false, false, false] (cpAct x0 g1 g2 A1 A2 A3 n1 c1 n2 c2 n3 c3 q (u3) (.slice B0 0 0) (u9) (.slice B1 0 0) (u13) (u14) (u17) (u20)) W := by
  obtain ⟨ty3, pos3, af3, q3⟩ := HC.e3
  obtain ⟨ty8, pos8, af8, q8⟩ := HC.e8
  obtain ⟨ty15, pos15, af15, q15⟩ := HC.e15
  refine reg_all3 (i0 := 3) (i1 := 8) (i2 := 15) q3 q8 q15 HC.r011000 (fun K hK => ?_) (fun K hK => ?_) (fun K hK => ?_)
  · have hFGn : ∀ k, k ∈ FA → k ∉ FG := fun k h => (HI.out.1.1 k h).2.2
    refine wp_appFD _ (.tmp 6) (.tmp 8) _ rfl Tryz.underlying31 elt_entry flatEntry rfl rfl HO0.out (HR0.out.mod (w' := W) (B' := (· < w1.heap.size)) (fun _ h => h) (fun i hi => HN.out.block i hi id)) (by simp; omega) ?_
    intro A9 n9 c9 W2 F9 ho2 hF9 hm2
    rw [List.nil_append] at ho2
    have HN2 : Sec (New w1 W2) := ⟨HN.out.trans hm2 (fun k hk hlt => by have := (HI.out.2 k (Or.inl hk)).1; omega)⟩
    have hI2 : In4B w1.heap.size W2 F9 FB FC FG := in4_app0 HI.out HN.out.size hm2.size (fun k hk => ho2.lt k hk) hF9
    exact hK.out _ _ (fun _ => HN2) (cp_111000 HC HR0 HR1 HR2 hl0 hl1 hl2 HQ HN2 ⟨hI2⟩ ⟨ho2⟩ ⟨HO1.out.keep hm2 (fun k hk h => (HI.out.1.1 k h).1 hk)⟩)
  · have hma : New W (W.alloc (.cells #[] 90)) := (Mod.refl _ _).alloc _
    have HN2 : Sec (New w1 (W.alloc (.cells #[] 90))) := ⟨HN.out.transN hma⟩
    have hI2 : In4B w1.heap.size (W.alloc (.cells #[] 90)) FA FB [W.heap.size] FG := in4_new2 HI.out HN.out.size
    refine wp_valw (n := 14) (v := .slice (some ⟨W.heap.size, 0, none⟩) 0 0) (w' := W.alloc (.cells #[] 90)) (exec_buildSlice (parts := []) (vs := []) rfl rfl (bldDop0I _)) rfl ?_
    exact hK.out _ _ (fun _ => HN2) (cp_011100 HC HR0 HR1 HR2 hl0 hl1 hl2 HQ HN2 ⟨hI2⟩ ⟨HO0.out.keep hma (fun _ _ h => h)⟩ ⟨HO1.out.keep hma (fun _ _ h => h)⟩ ⟨Own.empty0 _ _ _⟩)
  · have hma : New W (W.alloc (.cells zDisk.toArray 34)) := (Mod.refl _ _).alloc _
    have HN2 : Sec (New w1 (W.alloc (.cells zDisk.toArray 34))) := ⟨HN.out.transN hma⟩
    have hI2 : In4B w1.heap.size (W.alloc (.cells zDisk.toArray 34)) FA FB FC [W.heap.size] := in4_newG HI.out HN.out.size
    refine wp_valw (n := 3) (v := .pointer (some ⟨W.heap.size, 0, none⟩)) (w' := W.alloc (.cells zDisk.toArray 34)) (exec_allocDisk rfl) rfl ?_
    exact hK.out _ _ (fun _ => HN2) (cp_011010 HC HR0 HR1 HR2 hl0 hl1 hl2 HQ HN2 ⟨hI2⟩ ⟨HO0.out.keep hma (fun _ _ h => h)⟩ ⟨HO1.out.keep hma (fun _ _ h => h)⟩ ⟨Blk.new W 34 zDisk⟩ rfl)
set_option maxHeartbeats 2000000 in
set_option maxRecDepth 100000 in
theorem cp_110000 {ops : Array Oper} (HC : CpOps ops) {x0 : Value} {g1 g2 : Nat} {A1 A2 A3 : Option Addr} {n1 c1 n2 c2 n3 c3 : Nat} {q : Int} {xs0 xs1 : EntryST} {xs2 : DirOpST} {w1 : World} {Q : Exit → Act → World → Prop} (HR0 : Sec (Row dEntry w1 (· < w1.heap.size) A1 n1 xs0)) (HR1 : Sec (Row dEntry w1 (· < w1.heap.size) A2 n2 xs1)) (HR2 : Sec (Row dDirOp w1 (· < w1.heap.size) A3 n3 xs2)) (hl0 : xs0.length ≤ 1048576) (hl1 : xs1.length ≤ 1048576) (hl2 : xs2.length ≤ 1048576) (HQ : Sec (∀ (g3 : Nat) (R0 R1 R2 : Option Addr) (m0 e0 m1 e1 m2 e2 : Nat) (u6 u10 u14 u20 : Value) (W : World) (FA FB FC : List Nat), New w1 W → In4B w1.heap.size W FA FB FC [g3] → Own dEntry 98 W FA (.slice R0 m0 e0) xs0 → Own dEntry 98 W FB (.slice R1 m1 e1) xs1 → Own dDirOp 90 W FC (.slice R2 m2 e2) xs2 → Blk W g3 34 [.slice none 0 0, .slice none 0 0, .slice none 0 0, .slice none 0 0, .int .i64 0] → Q .normal (cpAct x0 g1 g2 A1 A2 A3 n1 c1 n2 c2 n3 c3 q (.pointer (some ⟨g3, 0, none⟩)) u6 (.slice R0 m0 e0) u10 (.slice R1 m1 e1) u14 (.slice R2 m2 e2) u20) (set5 W g3 (.slice none 0 0) (.slice R0 m0 e0) (.slice R1 m1 e1) (.slice R2 m2 e2) (.int .i64 q)))) {W : World} {FA FB FC FG : List Nat} (HN : Sec (New w1 W)) (HI : Sec (In4B w1.heap.size W FA FB FC FG)) {R0 : Option Addr} {m0 e0 : Nat} (HO0 : Sec (Own dEntry 98 W FA (.slice R0 m0 e0) xs0)) {u3 u6 u10 u13 u14 u17 u20 : Value} : RegR Tryz.prog .any ops Q [16] (fun W => Sec (New w1 W)) 7 #[true, true, true, true, false, true, true, false, false, true, true, false, true, true, false, false, false] (cpAct x0 g1 g2 A1 A2 A3 n1 c1 n2 c2 n3 c3 q (u3) (u6) (.slice R0 m0 e0) (u10) (u13) (u14) (u17) (u20)) W := by
  obtain ⟨ty4, pos4, af4, q4⟩ := HC.e4
  obtain ⟨ty8, pos8, af8, q8⟩ := HC.e8
  obtain ⟨ty15, pos15, af15, q15⟩ := HC.e15
  refine reg_all3 (i0 := 4) (i1 := 8) (i2 := 15) q4 q8 q15 HC.r110000 (fun K hK => ?_) (fun K hK => ?_) (fun K hK => ?_)
  · have hma : New W (W.alloc (.cells #[] 98)) := (Mod.refl _ _).alloc _
    have HN2 : Sec (New w1 (W.alloc (.cells #[] 98))) := ⟨HN.out.transN hma⟩
    have hI2 : In4B w1.heap.size (W.alloc (.cells #[] 98)) FA [W.heap.size] FC FG := in4_new1 HI.out HN.out.size
    refine wp_valw (n := 10) (v := .slice (some ⟨W.heap.size, 0, none⟩) 0 0) (w' := W.alloc (.cells #[] 98)) (exec_buildSlice (parts := []) (vs := []) rfl rfl (buildEnt0 _)) rfl ?_
    exact hK.out _ _ (fun _ => HN2) (cp_111000 HC HR0 HR1 HR2 hl0 hl1 hl2 HQ HN2 ⟨hI2⟩ ⟨HO0.out.keep hma (fun _ _ h => h)⟩ ⟨Own.empty0 _ _ _⟩)
  · have hma : New W (W.alloc (.cells #[] 90)) := (Mod.refl _ _).alloc _
    have HN2 : Sec (New w1 (W.alloc (.cells #[] 90))) := ⟨HN.out.transN hma⟩
    have hI2 : In4B w1.heap.size (W.alloc (.cells #[] 90)) FA FB [W.heap.size] FG := in4_new2 HI.out HN.out.size
    refine wp_valw (n := 14) (v := .slice (some ⟨W.heap.size, 0, none⟩) 0 0) (w' := W.alloc (.cells #[] 90)) (exec_buildSlice (parts := []) (vs := []) rfl rfl (bldDop0I _)) rfl ?_
    exact hK.out _ _ (fun _ => HN2) (cp_110100 HC HR0 HR1 HR2 hl0 hl1 hl2 HQ HN2 ⟨hI2⟩ ⟨HO0.out.keep hma (fun _ _ h => h)⟩ ⟨Own.empty0 _ _ _⟩)
  · have hma : New W (W.alloc (.cells zDisk.toArray 34)) := (Mod.refl _ _).alloc _
    have HN2 : Sec (New w1 (W.alloc (.cells zDisk.toArray 34))) := ⟨HN.out.transN hma⟩
    have hI2 : In4B w1.heap.size (W.alloc (.cells zDisk.toArray 34)) FA FB FC [W.heap.size] := in4_newG HI.out HN.out.size
    refine wp_valw (n := 3) (v := .pointer (some ⟨W.heap.size, 0, none⟩)) (w' := W.alloc (.cells zDisk.toArray 34)) (exec_allocDisk rfl) rfl ?_
    exact hK.out _ _ (fun _ => HN2) (cp_110010 HC HR0 HR1 HR2 hl0 hl1 hl2 HQ HN2 ⟨hI2⟩ ⟨HO0.out.keep hma (fun _ _ h => h)⟩ ⟨Blk.new W 34 zDisk⟩ rfl)
set_option maxHeartbeats 2000000 in
set_option maxRecDepth 100000 in
theorem cp_000010 {ops : Array Oper} (HC : CpOps ops) {x0 : Value} {g1 g2 : Nat} {A1 A2 A3 : Option Addr} {n1 c1 n2 c2 n3 c3 : Nat} {q : Int} {xs0 xs1 : EntryST} {xs2 : DirOpST} {w1 : World} {Q : Exit → Act → World → Prop} (HR0 : Sec (Row dEntry w1 (· < w1.heap.size) A1 n1 xs0)) (HR1 : Sec (Row dEntry w1 (· < w1.heap.size) A2 n2 xs1)) (HR2 : Sec (Row dDirOp w1 (· < w1.heap.size) A3 n3 xs2)) (hl0 : xs0.length ≤ 1048576) (hl1 : xs1.length ≤ 1048576) (hl2 : xs2.length ≤ 1048576) (HQ : Sec (∀ (g3 : Nat) (R0 R1 R2 : Option Addr) (m0 e0 m1 e1 m2 e2 : Nat) (u6 u10 u14 u20 : Value) (W : World) (FA FB FC : List Nat), New w1 W → In4B w1.heap.size W FA FB FC [g3] → Own dEntry 98 W FA (.slice R0 m0 e0) xs0 → Own dEntry 98 W FB (.slice R1 m1 e1) xs1 → Own dDirOp 90 W FC (.slice R2 m2 e2) xs2 → Blk W g3 34 [.slice none 0 0, .slice none 0 0, .slice none 0 0, .slice none 0 0, .int .i64 0] → Q .normal (cpAct x0 g1 g2 A1 A2 A3 n1 c1 n2 c2 n3 c3 q (.pointer (some ⟨g3, 0, none⟩)) u6 (.slice R0 m0 e0) u10 (.slice R1 m1 e1) u14 (.slice R2 m2 e2) u20) (set5 W g3 (.slice none 0 0) (.slice R0 m0 e0) (.slice R1 m1 e1) (.slice R2 m2 e2) (.int .i64 q)))) {W : World} {FA FB FC FG : List Nat} (HN : Sec (New w1 W)) (HI : Sec (In4B w1.heap.size W FA FB FC FG)) {g3 : Nat} (HB3 : Sec (Blk W g3 34 [.slice none 0 0, .slice none 0 0, .slice none 0 0, .slice none 0 0, .int .i64 0])) (hFG : FG = [g3]) {u6 u9 u10 u13 u14 u17 u20 : Value} : RegR Tryz.prog .any ops Q [16] (fun W => Sec (New w1 W)) 8 #[false, true, true, false, false, true, true, false, false, true, true, false, true, true, false, true, false] (cpAct x0 g1 g2 A1 A2 A3 n1 c1 n2 c2 n3 c3 q (.pointer (some ⟨g3, 0, none⟩)) (u6) (u9) (u10) (u13) (u14) (u17) (u20)) W := by
  obtain ⟨ty0, pos0, af0, q0⟩ := HC.e0
  obtain ⟨ty4, pos4, af4, q4⟩ := HC.e4
  obtain ⟨ty8, pos8, af8, q8⟩ := HC.e8
  refine reg_all3 (i0 := 0) (i1 := 4) (i2 := 8) q0 q4 q8 HC.r000010 (fun K hK => ?_) (fun K hK => ?_) (fun K hK => ?_)
  · have hma : New W (W.alloc (.cells #[] 98)) := (Mod.refl _ _).alloc _
    have HN2 : Sec (New w1 (W.alloc (.cells #[] 98))) := ⟨HN.out.transN hma⟩
    have hI2 : In4B w1.heap.size (W.alloc (.cells #[] 98)) [W.heap.size] FB FC FG := in4_new0 HI.out HN.out.size
    refine wp_valw (n := 6) (v := .slice (some ⟨W.heap.size, 0, none⟩) 0 0) (w' := W.alloc (.cells #[] 98)) (exec_buildSlice (parts := []) (vs := []) rfl rfl (buildEnt0 _)) rfl ?_
    exact hK.out _ _ (fun _ => HN2) (cp_010010 HC HR0 HR1 HR2 hl0 hl1 hl2 HQ HN2 ⟨hI2⟩ ⟨Own.empty0 _ _ _⟩ ⟨HB3.out.mod hma id⟩ hFG)
  · have hma : New W (W.alloc (.cells #[] 98)) := (Mod.refl _ _).alloc _
    have HN2 : Sec (New w1 (W.alloc (.cells #[] 98))) := ⟨HN.out.transN hma⟩
    have hI2 : In4B w1.heap.size (W.alloc (.cells #[] 98)) FA [W.heap.size] FC FG := in4_new1 HI.out HN.out.size
    refine wp_valw (n := 10) (v := .slice (some ⟨W.heap.size, 0, none⟩) 0 0) (w' := W.alloc (.cells #[] 98)) (exec_buildSlice (parts := []) (vs := []) rfl rfl (buildEnt0 _)) rfl ?_
    exact hK.out _ _ (fun _ => HN2) (cp_001010 HC HR0 HR1 HR2 hl0 hl1 hl2 HQ HN2 ⟨hI2⟩ ⟨Own.empty0 _ _ _⟩ ⟨HB3.out.mod hma id⟩ hFG)
  · have hma : New W (W.alloc (.cells #[] 90)) := (Mod.refl _ _).alloc _
    have HN2 : Sec (New w1 (W.alloc (.cells #[] 90))) := ⟨HN.out.transN hma⟩
    have hI2 : In4B w1.heap.size (W.alloc (.cells #[] 90)) FA FB [W.heap.size] FG := in4_new2 HI.out HN.out.size
    refine wp_valw (n := 14) (v := .slice (some ⟨W.heap.size, 0, none⟩) 0 0) (w' := W.alloc (.cells #[] 90)) (exec_buildSlice (parts := []) (vs := []) rfl rfl (bldDop0I _)) rfl ?_
    exact hK.out _ _ (fun _ => HN2) (cp_000110 HC HR0 HR1 HR2 hl0 hl1 hl2 HQ HN2 ⟨hI2⟩ ⟨Own.empty0 _ _ _⟩ ⟨HB3.out.mod hma id⟩ hFG)
set_option maxHeartbeats 2000000 in
set_option maxRecDepth 100000 in
theorem cp_000100 {ops : Array Oper} (HC : CpOps ops) {x0 : Value} {g1 g2 : Nat} {A1 A2 A3 : Option Addr} {n1 c1 n2 c2 n3 c3 : Nat} {q : Int} {xs0 xs1 : EntryST} {xs2 : DirOpST} {w1 : World} {Q : Exit → Act → World → Prop} (HR0 : Sec (Row dEntry w1 (· < w1.heap.size) A1 n1 xs0)) (HR1 : Sec (Row dEntry w1 (· < w1.heap.size) A2 n2 xs1)) (HR2 : Sec (Row dDirOp w1 (· < w1.heap.size) A3 n3 xs2)) (hl0 : xs0.length ≤ 1048576) (hl1 : xs1.length ≤ 1048576) (hl2 : xs2.length ≤ 1048576) (HQ : Sec (∀ (g3 : Nat) (R0 R1 R2 : Option Addr) (m0 e0 m1 e1 m2 e2 : Nat) (u6 u10 u14 u20 : Value) (W : World) (FA FB FC : List Nat), New w1 W → In4B w1.heap.size W FA FB FC [g3] → Own dEntry 98 W FA (.slice R0 m0 e0) xs0 → Own dEntry 98 W FB (.slice R1 m1 e1) xs1 → Own dDirOp 90 W FC (.slice R2 m2 e2) xs2 → Blk W g3 34 [.slice none 0 0, .slice none 0 0, .slice none 0 0, .slice none 0 0, .int .i64 0] → Q .normal (cpAct x0 g1 g2 A1 A2 A3 n1 c1 n2 c2 n3 c3 q (.pointer (some ⟨g3, 0, none⟩)) u6 (.slice R0 m0 e0) u10 (.slice R1 m1 e1) u14 (.slice R2 m2 e2) u20) (set5 W g3 (.slice none 0 0) (.slice R0 m0 e0) (.slice R1 m1 e1) (.slice R2 m2 e2) (.int .i64 q)))) {W : World} {FA FB FC FG : List Nat} (HN : Sec (New w1 W)) (HI : Sec (In4B w1.heap.size W FA FB FC FG)) {B2 : Option Addr} (HO2 : Sec (Own dDirOp 90 W FC (.slice B2 0 0) [])) {u3 u6 u9 u10 u13 u17 u20 : Value} : RegR Tryz.prog .any ops Q [16] (fun W => Sec (New w1 W)) 8 #[false, true, true, false, false, true, true, false, true, true, true, false, true, true, false, false, false] (cpAct x0 g1 g2 A1 A2 A3 n1 c1 n2 c2 n3 c3 q (u3) (u6) (u9) (u10) (u13) (.slice B2 0 0) (u17) (u20)) W := by
  obtain ⟨ty0, pos0, af0, q0⟩ := HC.e0
  obtain ⟨ty4, pos4, af4, q4⟩ := HC.e4
  obtain ⟨ty15, pos15, af15, q15⟩ := HC.e15
  refine reg_all3 (i0 := 0) (i1 := 4) (i2 := 15) q0 q4 q15 HC.r000100 (fun K hK => ?_) (fun K hK => ?_) (fun K hK => ?_)
  · have hma : New W (W.alloc (.cells #[] 98)) := (Mod.refl _ _).alloc _
    have HN2 : Sec (New w1 (W.alloc (.cells #[] 98))) := ⟨HN.out.transN hma⟩
    have hI2 : In4B w1.heap.size (W.alloc (.cells #[] 98)) [W.heap.size] FB FC FG := in4_new0 HI.out HN.out.size
    refine wp_valw (n := 6) (v := .slice (some ⟨W.heap.size, 0, none⟩) 0 0) (w' := W.alloc (.cells #[] 98)) (exec_buildSlice (parts := []) (vs := []) rfl rfl (buildEnt0 _)) rfl ?_
    exact hK.out _ _ (fun _ => HN2) (cp_010100 HC HR0 HR1 HR2 hl0 hl1 hl2 HQ HN2 ⟨hI2⟩ ⟨Own.empty0 _ _ _⟩ ⟨HO2.out.keep hma (fun _ _ h => h)⟩)
  · have hma : New W (W.alloc (.cells #[] 98)) := (Mod.refl _ _).alloc _
    have HN2 : Sec (New w1 (W.alloc (.cells #[] 98))) := ⟨HN.out.transN hma⟩
    have hI2 : In4B w1.heap.size (W.alloc (.cells #[] 98)) FA [W.heap.size] FC FG := in4_new1 HI.out HN.out.size
    refine wp_valw (n := 10) (v := .slice (some ⟨W.heap.size, 0, none⟩) 0 0) (w' := W.alloc (.cells #[] 98)) (exec_buildSlice (parts := []) (vs := []) rfl rfl (buildEnt0 _)) rfl ?_
    exact hK.out _ _ (fun _ => HN2) (cp_001100 HC HR0 HR1 HR2 hl0 hl1 hl2 HQ HN2 ⟨hI2⟩ ⟨Own.empty0 _ _ _⟩ ⟨HO2.out.keep hma (fun _ _ h => h)⟩)
  · have hma : New W (W.alloc (.cells zDisk.toArray 34)) := (Mod.refl _ _).alloc _
    have HN2 : Sec (New w1 (W.alloc (.cells zDisk.toArray 34))) := ⟨HN.out.transN hma⟩
    have hI2 : In4B w1.heap.size (W.alloc (.cells zDisk.toArray 34)) FA FB FC [W.heap.size] := in4_newG HI.out HN.out.size
    refine wp_valw (n := 3) (v := .pointer (some ⟨W.heap.size, 0, none⟩)) (w' := W.alloc (.cells zDisk.toArray 34)) (exec_allocDisk rfl) rfl ?_
    exact hK.out _ _ (fun _ => HN2) (cp_000110 HC HR0 HR1 HR2 hl0 hl1 hl2 HQ HN2 ⟨hI2⟩ ⟨HO2.out.keep hma (fun _ _ h => h)⟩ ⟨Blk.new W 34 zDisk⟩ rfl)
set_option maxHeartbeats 2000000 in
set_option maxRecDepth 100000 in
theorem cp_001000 {ops : Array Oper} (HC : CpOps ops) {x0 : Value} {g1 g2 : Nat} {A1 A2 A3 : Option Addr} {n1 c1 n2 c2 n3 c3 : Nat} {q : Int} {xs0 xs1 : EntryST} {xs2 : DirOpST} {w1 : World} {Q : Exit → Act → World → Prop} (HR0 : Sec (Row dEntry w1 (· < w1.heap.size) A1 n1 xs0)) (HR1 : Sec (Row dEntry w1 (· < w1.heap.size) A2 n2 xs1)) (HR2 : Sec (Row dDirOp w1 (· < w1.heap.size) A3 n3 xs2)) (hl0 : xs0.length ≤ 1048576) (hl1 : xs1.length ≤ 1048576) (hl2 : xs2.length ≤ 1048576) (HQ : Sec (∀ (g3 : Nat) (R0 R1 R2 : Option Addr) (m0 e0 m1 e1 m2 e2 : Nat) (u6 u10 u14 u20 : Value) (W : World) (FA FB FC : List Nat), New w1 W → In4B w1.heap.size W FA FB FC [g3] → Own dEntry 98 W FA (.slice R0 m0 e0) xs0 → Own dEntry 98 W FB (.slice R1 m1 e1) xs1 → Own dDirOp 90 W FC (.slice R2 m2 e2) xs2 → Blk W g3 34 [.slice none 0 0, .slice none 0 0, .slice none 0 0, .slice none 0 0, .int .i64 0] → Q .normal (cpAct x0 g1 g2 A1 A2 A3 n1 c1 n2 c2 n3 c3 q (.pointer (some ⟨g3, 0, none⟩)) u6 (.slice R0 m0 e0) u10 (.slice R1 m1 e1) u14 (.slice R2 m2 e2) u20) (set5 W g3 (.slice none 0 0) (.slice R0 m0 e0) (.slice R1 m1 e1) (.slice R2 m2 e2) (.int .i64 q)))) {W : World} {FA FB FC FG : List Nat} (HN : Sec (New w1 W)) (HI : Sec (In4B w1.heap.size W FA FB FC FG)) {B1 : Option Addr} (HO1 : Sec (Own dEntry 98 W FB (.slice B1 0 0) [])) {u3 u6 u9 u13 u14 u17 u20 : Value} : RegR Tryz.prog .any ops Q [16] (fun W => Sec (New w1 W)) 8 #[false, true, true, false, true, true, true, false, false, true, true, false, true, true, false, false, false] (cpAct x0 g1 g2 A1 A2 A3 n1 c1 n2 c2 n3 c3 q (u3) (u6) (u9) (.slice B1 0 0) (u13) (u14) (u17) (u20)) W := by
  obtain ⟨ty0, pos0, af0, q0⟩ := HC.e0
  obtain ⟨ty8, pos8, af8, q8⟩ := HC.e8
  obtain ⟨ty15, pos15, af15, q15⟩ := HC.e15
  refine reg_all3 (i0 := 0) (i1 := 8) (i2 := 15) q0 q8 q15 HC.r001000 (fun K hK => ?_) (fun K hK => ?_) (fun K hK => ?_)
  · have hma : New W (W.alloc (.cells #[] 98)) := (Mod.refl _ _).alloc _
    have HN2 : Sec (New w1 (W.alloc (.cells #[] 98))) := ⟨HN.out.transN hma⟩
    have hI2 : In4B w1.heap.size (W.alloc (.cells #[] 98)) [W.heap.size] FB FC FG := in4_new0 HI.out HN.out.size
    refine wp_valw (n := 6) (v := .slice (some ⟨W.heap.size, 0, none⟩) 0 0) (w' := W.alloc (.cells #[] 98)) (exec_buildSlice (parts := []) (vs := []) rfl rfl (buildEnt0 _)) rfl ?_
    exact hK.out _ _ (fun _ => HN2) (cp_011000 HC HR0 HR1 HR2 hl0 hl1 hl2 HQ HN2 ⟨hI2⟩ ⟨Own.empty0 _ _ _⟩ ⟨HO1.out.keep hma (fun _ _ h => h)⟩)
  · have hma : New W (W.alloc (.cells #[] 90)) := (Mod.refl _ _).alloc _
    have HN2 : Sec (New w1 (W.alloc (.cells #[] 90))) := ⟨HN.out.transN hma⟩
    have hI2 : In4B w1.heap.size (W.alloc (.cells #[] 90)) FA FB [W.heap.size] FG := in4_new2 HI.out HN.out.size
    refine wp_valw (n := 14) (v := .slice (some ⟨W.heap.size, 0, none⟩) 0 0) (w' := W.alloc (.cells #[] 90)) (exec_buildSlice (parts := []) (vs := []) rfl rfl (bldDop0I _)) rfl ?_
    exact hK.out _ _ (fun _ => HN2) (cp_001100 HC HR0 HR1 HR2 hl0 hl1 hl2 HQ HN2 ⟨hI2⟩ ⟨HO1.out.keep hma (fun _ _ h => h)⟩ ⟨Own.empty0 _ _ _⟩)
  · have hma : New W (W.alloc (.cells zDisk.toArray 34)) := (Mod.refl _ _).alloc _
    have HN2 : Sec (New w1 (W.alloc (.cells zDisk.toArray 34))) := ⟨HN.out.transN hma⟩
    have hI2 : In4B w1.heap.size (W.alloc (.cells zDisk.toArray 34)) FA FB FC [W.heap.size] := in4_newG HI.out HN.out.size
    refine wp_valw (n := 3) (v := .pointer (some ⟨W.heap.size, 0, none⟩)) (w' := W.alloc (.cells zDisk.toArray 34)) (exec_allocDisk rfl) rfl ?_
    exact hK.out _ _ (fun _ => HN2) (cp_001010 HC HR0 HR1 HR2 hl0 hl1 hl2 HQ HN2 ⟨hI2⟩ ⟨HO1.out.keep hma (fun _ _ h => h)⟩ ⟨Blk.new W 34 zDisk⟩ rfl)
set_option maxHeartbeats 2000000 in
set_option maxRecDepth 100000 in
theorem cp_010000 {ops : Array Oper} (HC : CpOps ops) {x0 : Value} {g1 g2 : Nat} {A1 A2 A3 : Option Addr} {n1 c1 n2 c2 n3 c3 : Nat} {q : Int} {xs0 xs1 : EntryST} {xs2 : DirOpST} {w1 : World} {Q : Exit → Act → World → Prop} (HR0 : Sec (Row dEntry w1 (· < w1.heap.size) A1 n1 xs0)) (HR1 : Sec (Row dEntry w1 (· < w1.heap.size) A2 n2 xs1)) (HR2 : Sec (Row dDirOp w1 (· < w1.heap.size) A3 n3 xs2)) (hl0 : xs0.length ≤ 1048576) (hl1 : xs1.length ≤ 1048576) (hl2 : xs2.length ≤ 1048576) (HQ : Sec (∀ (g3 : Nat) (R0 R1 R2 : Option Addr) (m0 e0 m1 e1 m2 e2 : Nat) (u6 u10 u14 u20 : Value) (W : World) (FA FB FC : List Nat), New w1 W → In4B w1.heap.size W FA FB FC [g3] → Own dEntry 98 W FA (.slice R0 m0 e0) xs0 → Own dEntry 98 W FB (.slice R1 m1 e1) xs1 → Own dDirOp 90 W FC (.slice R2 m2 e2) xs2 → Blk W g3 34 [.slice none 0 0, .slice none 0 0, .slice none 0 0, .slice none 0 0, .int .i64 0] → Q .normal (cpAct x0 g1 g2 A1 A2 A3 n1 c1 n2 c2 n3 c3 q (.pointer (some ⟨g3, 0, none⟩)) u6 (.slice R0 m0 e0) u10 (.slice R1 m1 e1) u14 (.slice R2 m2 e2) u20) (set5 W g3 (.slice none 0 0) (.slice R0 m0 e0) (.slice R1 m1 e1) (.slice R2 m2 e2) (.int .i64 q)))) {W : World} {FA FB FC FG : List Nat} (HN : Sec (New w1 W)) (HI : Sec (In4B w1.heap.size W FA FB FC FG)) {B0 : Option Addr} (HO0 : Sec (Own dEntry 98 W FA (.slice B0 0 0) [])) {u3 u9 u10 u13 u14 u17 u20 : Value} : RegR Tryz.prog .any ops Q [16] (fun W => Sec (New w1 W)) 8 #[true, true, true, false, false, true, true, false, false, true, true, false, true, true, false, false, false] (cpAct x0 g1 g2 A1 A2 A3 n1 c1 n2 c2 n3 c3 q (u3) (.slice B0 0 0) (u9) (u10) (u13) (u14) (u17) (u20)) W := by
  obtain ⟨ty3, pos3, af3, q3⟩ := HC.e3
  obtain ⟨ty4, pos4, af4, q4⟩ := HC.e4
  obtain ⟨ty8, pos8, af8, q8⟩ := HC.e8
  obtain ⟨ty15, pos15, af15, q15⟩ := HC.e15
  refine reg_all4 (i0 := 3) (i1 := 4) (i2 := 8) (i3 := 15) q3 q4 q8 q15 HC.r010000 (fun K hK => ?_) (fun K hK => ?_) (fun K hK => ?_) (fun K hK => ?_)
  · have hFGn : ∀ k, k ∈ FA → k ∉ FG := fun k h => (HI.out.1.1 k h).2.2
    refine wp_appFD _ (.tmp 6) (.tmp 8) _ rfl Tryz.underlying31 elt_entry flatEntry rfl rfl HO0.out (HR0.out.mod (w' := W) (B' := (· < w1.heap.size)) (fun _ h => h) (fun i hi => HN.out.block i hi id)) (by simp; omega) ?_
    intro A9 n9 c9 W2 F9 ho2 hF9 hm2
    rw [List.nil_append] at ho2
    have HN2 : Sec (New w1 W2) := ⟨HN.out.trans hm2 (fun k hk hlt => by have := (HI.out.2 k (Or.inl hk)).1; omega)⟩
    have hI2 : In4B w1.heap.size W2 F9 FB FC FG := in4_app0 HI.out HN.out.size hm2.size (fun k hk => ho2.lt k hk) hF9
    exact hK.out _ _ (fun _ => HN2) (cp_110000 HC HR0 HR1 HR2 hl0 hl1 hl2 HQ HN2 ⟨hI2⟩ ⟨ho2⟩)
  · have hma : New W (W.alloc (.cells #[] 98)) := (Mod.refl _ _).alloc _
    have HN2 : Sec (New w1 (W.alloc (.cells #[] 98))) := ⟨HN.out.transN hma⟩
    have hI2 : In4B w1.heap.size (W.alloc (.cells #[] 98)) FA [W.heap.size] FC FG := in4_new1 HI.out HN.out.size
    refine wp_valw (n := 10) (v := .slice (some ⟨W.heap.size, 0, none⟩) 0 0) (w' := W.alloc (.cells #[] 98)) (exec_buildSlice (parts := []) (vs := []) rfl rfl (buildEnt0 _)) rfl ?_
    exact hK.out _ _ (fun _ => HN2) (cp_011000 HC HR0 HR1 HR2 hl0 hl1 hl2 HQ HN2 ⟨hI2⟩ ⟨HO0.out.keep hma (fun _ _ h => h)⟩ ⟨Own.empty0 _ _ _⟩)
  · have hma : New W (W.alloc (.cells #[] 90)) := (Mod.refl _ _).alloc _
    have HN2 : Sec (New w1 (W.alloc (.cells #[] 90))) := ⟨HN.out.transN hma⟩
    have hI2 : In4B w1.heap.size (W.alloc (.cells #[] 90)) FA FB [W.heap.size] FG := in4_new2 HI.out HN.out.size
    refine wp_valw (n := 14) (v := .slice (some ⟨W.heap.size, 0, none⟩) 0 0) (w' := W.alloc (.cells #[] 90)) (exec_buildSlice (parts := []) (vs := []) rfl rfl (bldDop0I _)) rfl ?_
    exact hK.out _ _ (fun _ => HN2) (cp_010100 HC HR0 HR1 HR2 hl0 hl1 hl2 HQ HN2 ⟨hI2⟩ ⟨HO0.out.keep hma (fun _ _ h => h)⟩ ⟨Own.empty0 _ _ _⟩)
  · have hma : New W (W.alloc (.cells zDisk.toArray 34)) := (Mod.refl _ _).alloc _
    have HN2 : Sec (New w1 (W.alloc (.cells zDisk.toArray 34))) := ⟨HN.out.transN hma⟩
    have hI2 : In4B w1.heap.size (W.alloc (.cells zDisk.toArray 34)) FA FB FC [W.heap.size] := in4_newG HI.out HN.out.size
    refine wp_valw (n := 3) (v := .pointer (some ⟨W.heap.size, 0, none⟩)) (w' := W.alloc (.cells zDisk.toArray 34)) (exec_allocDisk rfl) rfl ?_
    exact hK.out _ _ (fun _ => HN2) (cp_010010 HC HR0 HR1 HR2 hl0 hl1 hl2 HQ HN2 ⟨hI2⟩ ⟨HO0.out.keep hma (fun _ _ h => h)⟩ ⟨Blk.new W 34 zDisk⟩ rfl)
set_option maxHeartbeats 2000000 in
set_option maxRecDepth 100000 in
theorem cp_000000 {ops : Array Oper} (HC : CpOps ops) {x0 : Value} {g1 g2 : Nat} {A1 A2 A3 : Option Addr} {n1 c1 n2 c2 n3 c3 : Nat} {q : Int} {xs0 xs1 : EntryST} {xs2 : DirOpST} {w1 : World} {Q : Exit → Act → World → Prop} (HR0 : Sec (Row dEntry w1 (· < w1.heap.size) A1 n1 xs0)) (HR1 : Sec (Row dEntry w1 (· < w1.heap.size) A2 n2 xs1)) (HR2 : Sec (Row dDirOp w1 (· < w1.heap.size) A3 n3 xs2)) (hl0 : xs0.length ≤ 1048576) (hl1 : xs1.length ≤ 1048576) (hl2 : xs2.length ≤ 1048576) (HQ : Sec (∀ (g3 : Nat) (R0 R1 R2 : Option Addr) (m0 e0 m1 e1 m2 e2 : Nat) (u6 u10 u14 u20 : Value) (W : World) (FA FB FC : List Nat), New w1 W → In4B w1.heap.size W FA FB FC [g3] → Own dEntry 98 W FA (.slice R0 m0 e0) xs0 → Own dEntry 98 W FB (.slice R1 m1 e1) xs1 → Own dDirOp 90 W FC (.slice R2 m2 e2) xs2 → Blk W g3 34 [.slice none 0 0, .slice none 0 0, .slice none 0 0, .slice none 0 0, .int .i64 0] → Q .normal (cpAct x0 g1 g2 A1 A2 A3 n1 c1 n2 c2 n3 c3 q (.pointer (some ⟨g3, 0, none⟩)) u6 (.slice R0 m0 e0) u10 (.slice R1 m1 e1) u14 (.slice R2 m2 e2) u20) (set5 W g3 (.slice none 0 0) (.slice R0 m0 e0) (.slice R1 m1 e1) (.slice R2 m2 e2) (.int .i64 q)))) {W : World} {FA FB FC FG : List Nat} (HN : Sec (New w1 W)) (HI : Sec (In4B w1.heap.size W FA FB FC FG)) {u3 u6 u9 u10 u13 u14 u17 u20 : Value} : RegR Tryz.prog .any ops Q [16] (fun W => Sec (New w1 W)) 9 #[false, true, true, false, false, true, true, false, false, true, true, false, true, true, false, false, false] (cpAct x0 g1 g2 A1 A2 A3 n1 c1 n2 c2 n3 c3 q (u3) (u6) (u9) (u10) (u13) (u14) (u17) (u20)) W := by
  obtain ⟨ty0, pos0, af0, q0⟩ := HC.e0
  obtain ⟨ty4, pos4, af4, q4⟩ := HC.e4
  obtain ⟨ty8, pos8, af8, q8⟩ := HC.e8
  obtain ⟨ty15, pos15, af15, q15⟩ := HC.e15
  refine reg_all4 (i0 := 0) (i1 := 4) (i2 := 8) (i3 := 15) q0 q4 q8 q15 HC.r000000 (fun K hK => ?_) (fun K hK => ?_) (fun K hK => ?_) (fun K hK => ?_)
  · have hma : New W (W.alloc (.cells #[] 98)) := (Mod.refl _ _).alloc _
    have HN2 : Sec (New w1 (W.alloc (.cells #[] 98))) := ⟨HN.out.transN hma⟩
    have hI2 : In4B w1.heap.size (W.alloc (.cells #[] 98)) [W.heap.size] FB FC FG := in4_new0 HI.out HN.out.size
    refine wp_valw (n := 6) (v := .slice (some ⟨W.heap.size, 0, none⟩) 0 0) (w' := W.alloc (.cells #[] 98)) (exec_buildSlice (parts := []) (vs := []) rfl rfl (buildEnt0 _)) rfl ?_
    exact hK.out _ _ (fun _ => HN2) (cp_010000 HC HR0 HR1 HR2 hl0 hl1 hl2 HQ HN2 ⟨hI2⟩ ⟨Own.empty0 _ _ _⟩)
  · have hma : New W (W.alloc (.cells #[] 98)) := (Mod.refl _ _).alloc _
    have HN2 : Sec (New w1 (W.alloc (.cells #[] 98))) := ⟨HN.out.transN hma⟩
    have hI2 : In4B w1.heap.size (W.alloc (.cells #[] 98)) FA [W.heap.size] FC FG := in4_new1 HI.out HN.out.size
    refine wp_valw (n := 10) (v := .slice (some ⟨W.heap.size, 0, none⟩) 0 0) (w' := W.alloc (.cells #[] 98)) (exec_buildSlice (parts := []) (vs := []) rfl rfl (buildEnt0 _)) rfl ?_
    exact hK.out _ _ (fun _ => HN2) (cp_001000 HC HR0 HR1 HR2 hl0 hl1 hl2 HQ HN2 ⟨hI2⟩ ⟨Own.empty0 _ _ _⟩)
  · have hma : New W (W.alloc (.cells #[] 90)) := (Mod.refl _ _).alloc _
    have HN2 : Sec (New w1 (W.alloc (.cells #[] 90))) := ⟨HN.out.transN hma⟩
    have hI2 : In4B w1.heap.size (W.alloc (.cells #[] 90)) FA FB [W.heap.size] FG := in4_new2 HI.out HN.out.size
    refine wp_valw (n := 14) (v := .slice (some ⟨W.heap.size, 0, none⟩) 0 0) (w' := W.alloc (.cells #[] 90)) (exec_buildSlice (parts := []) (vs := []) rfl rfl (bldDop0I _)) rfl ?_
    exact hK.out _ _ (fun _ => HN2) (cp_000100 HC HR0 HR1 HR2 hl0 hl1 hl2 HQ HN2 ⟨hI2⟩ ⟨Own.empty0 _ _ _⟩)
  · have hma : New W (W.alloc (.cells zDisk.toArray 34)) := (Mod.refl _ _).alloc _
    have HN2 : Sec (New w1 (W.alloc (.cells zDisk.toArray 34))) := ⟨HN.out.transN hma⟩
    have hI2 : In4B w1.heap.size (W.alloc (.cells zDisk.toArray 34)) FA FB FC [W.heap.size] := in4_newG HI.out HN.out.size
    refine wp_valw (n := 3) (v := .pointer (some ⟨W.heap.size, 0, none⟩)) (w' := W.alloc (.cells zDisk.toArray 34)) (exec_allocDisk rfl) rfl ?_
    exact hK.out _ _ (fun _ => HN2) (cp_000010 HC HR0 HR1 HR2 hl0 hl1 hl2 HQ HN2 ⟨hI2⟩  ⟨Blk.new W 34 zDisk⟩ rfl)
end Go.Proofs.YtkkgighgnbbgiaaGreatDoor
