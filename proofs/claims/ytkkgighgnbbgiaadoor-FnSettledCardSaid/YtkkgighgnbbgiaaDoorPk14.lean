/- The program's settling of names. -/
import Derived.Test.YtkkgighgnbbgiaaDoorPk13
namespace Go.Proofs.YtkkgighgnbbgiaaDoor
open Go.RowKit Mem
set_option linter.unusedVariables false
set_option linter.unusedSimpArgs false
theorem ldNodeI {w : World} {b o : Nat} {s : Int} {A : Option Addr} {n c : Nat} (h0 : w.cell? ⟨b, o, none⟩ = some (.slice A n c)) (h1 : w.cell? ⟨b, o + 1, none⟩ = some (.int .i64 s)) : (Instr.loadAt 49 (.pointer (some ⟨b, o, none⟩))).run Tryd.prog w = .ok (.agg #[.slice A n c, .int .i64 s]) w := by go_simp
theorem idxEnt0 (g : Nat) (m c k : Nat) (h : k < m) (w : World) : (Instr.indexAt 24 (.slice (some ⟨g, 0, none⟩) m c) (.int .i64 (k : Int))).run Tryd.prog w = .ok (.pointer (some ⟨g, k * 2, none⟩)) w := by
  rw [← add_own g (k * 2)]
  exact idxEntryS ⟨g, 0, none⟩ m c k h w
theorem wp_appendB {P : Program} (w : World) {o : Oper} {a : Act} {K : Act → World → Prop} {Q : Exit → Act → World → Prop} (s x : Operand) (t : TypeId)
    (ho : o.op = .call { callee := .builtin .append, args := #[s, x], argTypes := #[t, t] })
    {α : Type} (d : Ty α) (e : TypeId) {z : Value} (ht : P.underlying t = some (.slice e)) (hE : Elt P e d.sz z)
    {F : List Nat} {v : Value} {xs : List α} (hs : a.eval s = v) (hown : Own d e w F v xs) {A : Option Addr} {m c : Nat} {ys : List α} {Gs : List (List Nat)} {news : List Value} (hx : a.eval x = .slice A m c)
    (hy : Elems d w Gs ys news) (hm : ys.length = m) (hA : 0 < m → ∃ ad, A = some ad ∧ ∀ j u, news[j]? = some u → w.cell? (ad.add j) = some u)
    (hnd : Gs.flatten.Nodup) (hdis : ∀ k, k ∈ Gs.flatten → k ∉ F) (hlen : xs.length + m ≤ 34359738368)
    (h : ∀ A' n' c' w' F', Own d e w' F' (.slice A' n' c') (xs ++ ys) → n' = (xs ++ ys).length → Mod (fun k => v.ownBlock = some k) w w' → (∀ k, k ∈ F' → k ∈ F ∨ k ∈ Gs.flatten ∨ w.heap.size ≤ k) → ((Value.slice A' n' c').ownBlock = v.ownBlock ∨ (Value.slice A' n' c').ownBlock = some w.heap.size) → K (a.put o.dst (.slice A' n' c')) w') : o.wp P a w K Q := by
  obtain ⟨v', w', F', hrun, h2, h3, h4, h5⟩ := run_append (P := P) w t o.type ht hE hown hy hm hA (c := c) hnd hdis hlen
  obtain ⟨A', c', rfl, _⟩ := h2.form
  unfold Oper.wp execOp
  simp only [ho, resolve, invoke, builtin, Sem.run_bind, Sem.run_pure, Result.andThen_ok, List.map_toArray, List.map_cons, List.map_nil, hs, hx, hrun]
  exact h A' _ c' w' F' h2 rfl h3 h4 h5
set_option maxHeartbeats 8000000 in
set_option maxRecDepth 100000 in
theorem settleI_calls {lo g : Nat} {tl : List Value} {w : World} {d : DiskT} {N : Nat} (h : DSt lo g tl w d) (hI : DInv N d) (hU : NodU d.2.1) (hN : N ≤ 5000) :
    Calls Tryd.prog 44 #[.pointer (some ⟨g, 0, none⟩)] w (fun e w' => e = .returned (.tuple #[]) ∧ DSt lo g tl w' (settleL d) ∧ Mod (fun k => lo ≤ k) w w') := by
  have HE : Sec (settleL d = (settleNs d d.2.1, crashEs d.2.1, crashEs d.2.1, [], d.2.2.2.2)) := ⟨rfl⟩
  have hn := hI.names
  have HINR := Sec.mk hI.inr
  have HU := Sec.mk hU
  have HQW : Sec (IntKind.i64.wrap d.2.2.2.2 = d.2.2.2.2) := by obtain ⟨t', v0', v1', v2', v3', hb', ho', -⟩ := h; obtain ⟨F0', F1', F2', F3', -, -, -, -, -, -, hq⟩ := ho'; exact ⟨hq⟩
  clear hI hU
  obtain ⟨t, A0, c0, A1, c1, A2, c2, A3, c3, hb, ho, hlg, hr0, hr1, b0, b1, b2, b3⟩ := h.rows
  obtain ⟨F0, F1, F2, F3, o0, o1, o2, o3, hd, hX, hq⟩ := ho
  obtain ⟨gb, fo, co, hA0, hpt, hpd⟩ := Own.parts o0
  have hgw := hb.lt
  have HBK := Sec.mk hb
  have HO1 := Sec.mk o1
  have HPT : Sec (∀ j (hj : j < d.1.length), dNode.M w (fo j) d.1[j] (co j) ∧ (∀ k, k ∈ fo j → k ∈ F0 ∧ k ≠ gb) ∧ (∀ i, i < dNode.sz → w.cell? ⟨gb, j * dNode.sz + i, none⟩ = (co j)[i]?)) := ⟨hpt⟩
  have HPD := Sec.mk hpd
  have HA0 := Sec.mk hA0
  have HF0 : Sec (∀ k, k ∈ F0 → k < w.heap.size ∧ k ∉ F1 ∧ lo ≤ k ∧ k ≠ g) := ⟨fun k hk => ⟨o0.lt k hk, (hd.1 k hk).1, hX k (Or.inl hk)⟩⟩
  have HFOA : Sec (∀ j (hj : j < d.2.1.length), ∀ i, i ∈ fo (d.2.1[j].2.toNat) → (lo ≤ i ∧ i ≠ g) ∧ i ∉ F1) := ⟨fun j hj i hi => by
    have hinj := HINR.out _ (List.getElem_mem hj)
    obtain ⟨-, h4, -⟩ := hpt (d.2.1[j].2.toNat) (by omega)
    have h5 := HF0.out _ (h4 _ hi).1
    exact ⟨h5.2.2, h5.2.1⟩⟩
  have HF1 : Sec (∀ k, k ∈ F1 → k < w.heap.size ∧ lo ≤ k ∧ k ≠ g) := ⟨fun k hk => ⟨o1.lt k hk, hX k (Or.inr (Or.inl hk))⟩⟩
  have hm0 : Mod (fun k => k ∈ F1) w (w.alloc (.cells #[] 49)) := (Mod.refl _ _).alloc _
  have HON : Sec (∃ F, Own dNode 49 (w.alloc (.cells #[] 49)) F (.slice (some ⟨w.heap.size, 0, none⟩) 0 0) [] ∧ ∀ i, i ∈ F → w.heap.size ≤ i) := by
    obtain ⟨⟨F, h1, h2⟩, -⟩ := Mine.empty (w0 := w) dNode 49 (w := w) rfl (Mod.refl _ _)
    exact ⟨F, h1, h2⟩
  have HM0 := Sec.mk hm0
  have HB0 := Sec.mk (hb.mod hm0 (fun h => (HF1.out g h).2.2 rfl))
  have HO10 := Sec.mk (o1.keep ((Mod.refl (fun _ => False) w).alloc (.cells #[] 49)) (fun _ _ h => h))
  have x1 : w.cell? ⟨g, 1, none⟩ = some (.slice A1 d.2.1.length c1) := hb.cell 1
  clear h hb o0 o1 o2 o3 hd hX hq hr0 hr1 hpt hpd hA0 hm0
  go_enter Tryd.func44, Tryd.ntmps44
  go_wp2
  go_loopw [2, 10] (fun v i wr => ∃ (k : Nat) (Av : Option Addr) (nv cv : Nat), k ≤ d.2.1.length ∧ i = .int .i64 (k : Int) ∧ v = .slice Av nv cv ∧ nv = k ∧ Sec (∃ F, Own dNode 49 wr F (.slice Av nv cv) (settleNs d (d.2.1.take k)) ∧ ∀ i, i ∈ F → (∃ (j : Nat) (hj : j < d.2.1.length), j < k ∧ i ∈ fo (d.2.1[j].2.toNat)) ∨ w.heap.size ≤ i) ∧ Sec (∀ k, (Value.slice Av nv cv).ownBlock = some k → w.heap.size ≤ k) ∧ Sec (∃ F, Own dEntry 37 wr F (.slice A1 d.2.1.length c1) (numE d.2.1 k) ∧ ∀ i, i ∈ F → i ∈ F1) ∧ Sec (Blk wr g t (.slice A0 d.1.length c0 :: .slice A1 d.2.1.length c1 :: .slice A2 d.2.2.1.length c2 :: .slice A3 d.2.2.2.1.length c3 :: .int .i64 d.2.2.2.2 :: tl)) ∧ Sec (Mod (fun k => k ∈ F1) w wr)) (fun _ i _ => d.2.1.length - (intOf i).toNat)
  case atStart =>
    refine ⟨0, _, _, _, Nat.zero_le _, rfl, rfl, rfl, ?_, ⟨fun k hk => by simp [Value.ownBlock] at hk; omega⟩, ⟨F1, HO10.out, fun _ h => h⟩, HB0, HM0⟩
    obtain ⟨F, h1, h2⟩ := HON.out
    exact ⟨F, h1, fun i hi => Or.inr (h2 i hi)⟩
  case round =>
    clear HON HO10 HB0 HM0 x1
    obtain ⟨k, Av, nv, cv, hk, rfl, rfl, rfl, HN, HOB, HNM, HB, HM⟩ := hrel
    have hgl := HB.out.lt
    have x0 : wr.cell? ⟨g, 0, none⟩ = some (.slice A0 d.1.length c0) := HB.out.cell 0
    have x1 : wr.cell? ⟨g, 1, none⟩ = some (.slice A1 d.2.1.length c1) := HB.out.cell 1
    by_cases hlt : nv < d.2.1.length
    · have hki : (nv : Int) < (d.2.1.length : Int) := by omega
      have hki2 : nv ≤ 1000000 := by omega
      have hin := HINR.out _ (List.getElem_mem hlt)
      obtain ⟨nd, hnd⟩ := Int.eq_ofNat_of_zero_le hin.1
      have hndl : nd < d.1.length := by have := hin.2; rw [hnd] at this; omega
      obtain ⟨hA0e, hgbF⟩ := HA0.out (by omega)
      subst hA0e
      obtain ⟨Fn, hOn, hFn⟩ := HNM.out
      have hne := numE_at d.2.1 hlt
      have hnl : nv < (numE d.2.1 nv).length := by rw [numE_len]; exact hlt
      obtain ⟨ga, hA1e, hgaF, e0, e1, hfz, hset⟩ := entSet hOn hnl
      subst hA1e
      rw [List.getElem?_eq_getElem hnl] at hne
      have hne' := Option.some.inj hne
      rw [hne'] at e0 e1 hset
      have HFNI := Sec.mk hFn
      have hga1 := HF1.out ga (hFn ga hgaF)
      have hgb1 := HF0.out gb hgbF
      have HNE := Sec.mk hne'
      clear hset hne hne' hOn hFn
      obtain ⟨hMn, hfo, hcl⟩ := HPT.out nd hndl
      obtain ⟨v', hco, hov, hws⟩ := node_inv hMn
      obtain ⟨An, cn, rfl, hcn1, hcn2⟩ := hov.form
      have hs2 : dNode.sz = 2 := rfl
      have n0 := hcl 0 (by rw [hs2]; decide)
      have n1 := hcl 1 (by rw [hs2]; decide)
      rw [hco, hs2] at n0 n1
      have n0 := (HM.out.cell (p := ⟨gb, nd * 2 + 0, none⟩) hgb1.1 hgb1.2.1).trans n0
      have n1 := (HM.out.cell (p := ⟨gb, nd * 2 + 1, none⟩) hgb1.1 hgb1.2.1).trans n1
      rw [Nat.add_zero] at n0
      have HMN := Sec.mk (dNode.M_mod hMn (w' := wr) (fun k hk => HM.out.block k (HF0.out k (hfo k hk).1).1 (HF0.out k (hfo k hk).1).2.1))
      rw [hco] at HMN
      have HTK := Sec.mk (settle_take d hlt)
      have HPX : Sec (∃ q : EntryT, q = d.2.1[nv]) := ⟨⟨_, rfl⟩⟩
      have hnat : nodeAt d d.2.1[nv].2 = d.1[nd] := by rw [hnd]; unfold nodeAt; rw [Int.toNat_natCast, List.getElem?_eq_getElem hndl]; rfl
      rw [hnat] at HTK
      rw [hnd] at e1
      have HND := Sec.mk hnd
      have HFO := Sec.mk hfo
      have HFAR : Sec (∀ i, ((∃ (j : Nat) (hj : j < d.2.1.length), j < nv ∧ i ∈ fo (d.2.1[j].2.toNat)) ∨ w.heap.size ≤ i) → i ∉ F1 ∧ i ≠ g ∧ i ≠ gb ∧ i ∉ fo nd) := ⟨fun i hi => by
        rcases hi with ⟨j, hj, hjk, hij⟩ | hi
        · have hinj := HINR.out _ (List.getElem_mem hj)
          have hjl : d.2.1[j].2.toNat < d.1.length := by omega
          obtain ⟨-, h2, -⟩ := HPT.out _ hjl
          have h3 := HF0.out i (h2 i hij).1
          refine ⟨h3.2.1, h3.2.2.2, (h2 i hij).2, HPD.out _ nd hjl hndl (fun e => ?_) i hij⟩
          have := nodU_ne HU.out hj hlt (by omega)
          rw [hnd] at this
          omega
        · refine ⟨fun h => ?_, fun e => ?_, fun e => ?_, fun h => ?_⟩
          · have := (HF1.out i h).1; omega
          · omega
          · have := hgb1.1; omega
          · have := (HF0.out i (hfo i h).1).1; omega⟩
      clear hin hnat hMn hco hov hcl hfo hws x0 x1
      clear hnd
      generalize d.1[nd] = z at *
      obtain ⟨dat, safe⟩ := z
      simp only at n0 n1 HMN HTK hcn1 hcn2
      go_upto_region 4 with (fail)
      go_cut [2] (fun v wx => ∃ (Av' : Option Addr) (cv' : Nat), v = .slice Av' (nv + 1 : Nat) cv' ∧ Sec (∃ F, Own dNode 49 wx F (.slice Av' (nv + 1 : Nat) cv') (settleNs d (d.2.1.take (nv + 1))) ∧ ∀ i, i ∈ F → (∃ (j : Nat) (hj : j < d.2.1.length), j < nv + 1 ∧ i ∈ fo (d.2.1[j].2.toNat)) ∨ w.heap.size ≤ i) ∧ Sec (∀ k, (Value.slice Av' (nv + 1 : Nat) cv').ownBlock = some k → w.heap.size ≤ k) ∧ Sec (Mod (fun i => i ∉ F1 ∧ i ≠ g ∧ i ≠ gb) wr wx) ∧ Sec (Mod (fun k => k ∈ F1) w wx) ∧ Sec (wx.cell? ⟨g, 0, none⟩ = some (.slice (some ⟨gb, 0, none⟩) d.1.length c0) ∧ wx.cell? ⟨g, 1, none⟩ = some (.slice (some ⟨ga, 0, none⟩) d.2.1.length c1) ∧ wx.cell? ⟨ga, nv * 2 + 1, none⟩ = some (.int .i64 (nd : Int)) ∧ wx.cell? ⟨gb, nd * 2, none⟩ = some (.slice An dat.length cn) ∧ wx.cell? ⟨gb, nd * 2 + 1, none⟩ = some (.int .i64 safe)))
      case first =>
        refine reg_start [] (fun W => Sec (W.cell? ⟨g, 0, none⟩ = some (.slice (some ⟨gb, 0, none⟩) d.1.length c0) ∧ W.cell? ⟨g, 1, none⟩ = some (.slice (some ⟨ga, 0, none⟩) d.2.1.length c1) ∧ W.cell? ⟨ga, nv * 2 + 1, none⟩ = some (.int .i64 (nd : Int)) ∧ W.cell? ⟨gb, nd * 2, none⟩ = some (.slice An dat.length cn) ∧ W.cell? ⟨gb, nd * 2 + 1, none⟩ = some (.int .i64 safe))) (by kernel_rfl) ?_
        have HSS : Sec (wr.drew.cell? ⟨g, 0, none⟩ = some (.slice (some ⟨gb, 0, none⟩) d.1.length c0) ∧ wr.drew.cell? ⟨g, 1, none⟩ = some (.slice (some ⟨ga, 0, none⟩) d.2.1.length c1) ∧ wr.drew.cell? ⟨ga, nv * 2 + 1, none⟩ = some (.int .i64 (nd : Int)) ∧ wr.drew.cell? ⟨gb, nd * 2, none⟩ = some (.slice An dat.length cn) ∧ wr.drew.cell? ⟨gb, nd * 2 + 1, none⟩ = some (.int .i64 safe)) := ⟨HB.out.cell 0, HB.out.cell 1, e1, n0, n1⟩
        refine reg_take (.slice Av nv cv) (i := 0) (n := 13) HSS rfl (by kernel_rfl) (by kernel_rfl) (by kernel_rfl) (by kernel_rfl) (fun _ _ _ h => h) (fun W hW => exec_move rfl rfl) ?_
        simp only [Act.put, List.setIfInBounds_toArray, List.set_cons_zero, List.set_cons_succ]
        refine reg_take (.pointer (some ⟨g, 0, none⟩)) (i := 1) (n := 14) HSS rfl (by kernel_rfl) (by kernel_rfl) (by kernel_rfl) (by kernel_rfl) (fun _ _ _ h => h) (fun W hW => exec_move rfl rfl) ?_
        simp only [Act.put, List.setIfInBounds_toArray, List.set_cons_zero, List.set_cons_succ]
        refine reg_take (.pointer (some ⟨g, 0, none⟩)) (i := 2) (n := 15) HSS rfl (by kernel_rfl) (by kernel_rfl) (by kernel_rfl) (by kernel_rfl) (fun _ _ _ h => h) (fun W hW => exec_nil rfl rfl) ?_
        simp only [Act.put, List.setIfInBounds_toArray, List.set_cons_zero, List.set_cons_succ]
        refine reg_take (.pointer (some ⟨g, 0, none⟩)) (i := 3) (n := 16) HSS rfl (by kernel_rfl) (by kernel_rfl) (by kernel_rfl) (by kernel_rfl) (fun _ _ _ h => h) (fun W hW => exec_field rfl rfl (fptDisk0 _ _)) ?_
        simp only [Act.put, List.setIfInBounds_toArray, List.set_cons_zero, List.set_cons_succ]
        refine reg_take (.slice (some ⟨gb, 0, none⟩) d.1.length c0) (i := 4) (n := 17) HSS rfl (by kernel_rfl) (by kernel_rfl) (by kernel_rfl) (by kernel_rfl) (fun _ _ _ h => h) (fun W hW => exec_load rfl rfl (ldNodesD hW.out.1)) ?_
        simp only [Act.put, List.setIfInBounds_toArray, List.set_cons_zero, List.set_cons_succ]
        refine reg_take (.pointer (some ⟨g, 0, none⟩)) (i := 5) (n := 18) HSS rfl (by kernel_rfl) (by kernel_rfl) (by kernel_rfl) (by kernel_rfl) (fun _ _ _ h => h) (fun W hW => exec_move rfl rfl) ?_
        simp only [Act.put, List.setIfInBounds_toArray, List.set_cons_zero, List.set_cons_succ]
        refine reg_take (.pointer (some ⟨g, 0, none⟩)) (i := 6) (n := 19) HSS rfl (by kernel_rfl) (by kernel_rfl) (by kernel_rfl) (by kernel_rfl) (fun _ _ _ h => h) (fun W hW => exec_nil rfl rfl) ?_
        simp only [Act.put, List.setIfInBounds_toArray, List.set_cons_zero, List.set_cons_succ]
        refine reg_take (.pointer (some ⟨g, 1, none⟩)) (i := 7) (n := 20) HSS rfl (by kernel_rfl) (by kernel_rfl) (by kernel_rfl) (by kernel_rfl) (fun _ _ _ h => h) (fun W hW => exec_field rfl rfl (fptDisk1 _ _)) ?_
        simp only [Act.put, List.setIfInBounds_toArray, List.set_cons_zero, List.set_cons_succ]
        refine reg_take (.slice (some ⟨ga, 0, none⟩) d.2.1.length c1) (i := 8) (n := 21) HSS rfl (by kernel_rfl) (by kernel_rfl) (by kernel_rfl) (by kernel_rfl) (fun _ _ _ h => h) (fun W hW => exec_load rfl rfl (ldEntsD hW.out.2.1)) ?_
        simp only [Act.put, List.setIfInBounds_toArray, List.set_cons_zero, List.set_cons_succ]
        refine reg_take (.int .i64 (nv : Int)) (i := 9) (n := 22) HSS rfl (by kernel_rfl) (by kernel_rfl) (by kernel_rfl) (by kernel_rfl) (fun _ _ _ h => h) (fun W hW => exec_move rfl rfl) ?_
        simp only [Act.put, List.setIfInBounds_toArray, List.set_cons_zero, List.set_cons_succ]
        refine reg_take (.pointer (some ⟨ga, nv * 2, none⟩)) (i := 10) (n := 23) HSS rfl (by kernel_rfl) (by kernel_rfl) (by kernel_rfl) (by kernel_rfl) (fun _ _ _ h => h) (fun W hW => exec_indexAddr rfl rfl rfl (idxEnt0 _ _ _ _ hlt _)) ?_
        simp only [Act.put, List.setIfInBounds_toArray, List.set_cons_zero, List.set_cons_succ]
        refine reg_take (.pointer (some ⟨ga, nv * 2 + 1, none⟩)) (i := 11) (n := 24) HSS rfl (by kernel_rfl) (by kernel_rfl) (by kernel_rfl) (by kernel_rfl) (fun _ _ _ h => h) (fun W hW => exec_field rfl rfl (fptEntry1D _ _)) ?_
        simp only [Act.put, List.setIfInBounds_toArray, List.set_cons_zero, List.set_cons_succ]
        refine reg_take (.int .i64 (nd : Int)) (i := 12) (n := 25) HSS rfl (by kernel_rfl) (by kernel_rfl) (by kernel_rfl) (by kernel_rfl) (fun _ _ _ h => h) (fun W hW => exec_load rfl rfl (ldIntD hW.out.2.2.1)) ?_
        simp only [Act.put, List.setIfInBounds_toArray, List.set_cons_zero, List.set_cons_succ]
        refine reg_take (.pointer (some ⟨gb, nd * 2, none⟩)) (i := 13) (n := 26) HSS rfl (by kernel_rfl) (by kernel_rfl) (by kernel_rfl) (by kernel_rfl) (fun _ _ _ h => h) (fun W hW => exec_indexAddr rfl rfl rfl (idxNode0 _ _ _ _ hndl _)) ?_
        simp only [Act.put, List.setIfInBounds_toArray, List.set_cons_zero, List.set_cons_succ]
        refine reg_take (.agg #[.slice An dat.length cn, .int .i64 safe]) (i := 14) (n := 27) HSS rfl (by kernel_rfl) (by kernel_rfl) (by kernel_rfl) (by kernel_rfl) (fun _ _ _ h => h) (fun W hW => exec_load rfl rfl (ldNodeI hW.out.2.2.2.1 hW.out.2.2.2.2)) ?_
        simp only [Act.put, List.setIfInBounds_toArray, List.set_cons_zero, List.set_cons_succ]
        refine reg_step (i := 15) rfl (by kernel_rfl) (fun K hK => ?_)
        have hma : New wr (wr.drew.alloc (.cells #[.slice An dat.length cn, .int .i64 safe] 49)) := (Mod.refl _ _).drew.alloc _
        have HLA := Sec.mk (lit_cells wr.drew 49 [.slice An dat.length cn, .int .i64 safe] rfl)
        have HSS : Sec ((wr.drew.alloc (.cells #[.slice An dat.length cn, .int .i64 safe] 49)).cell? ⟨g, 0, none⟩ = some (.slice (some ⟨gb, 0, none⟩) d.1.length c0) ∧ (wr.drew.alloc (.cells #[.slice An dat.length cn, .int .i64 safe] 49)).cell? ⟨g, 1, none⟩ = some (.slice (some ⟨ga, 0, none⟩) d.2.1.length c1) ∧ (wr.drew.alloc (.cells #[.slice An dat.length cn, .int .i64 safe] 49)).cell? ⟨ga, nv * 2 + 1, none⟩ = some (.int .i64 (nd : Int)) ∧ (wr.drew.alloc (.cells #[.slice An dat.length cn, .int .i64 safe] 49)).cell? ⟨gb, nd * 2, none⟩ = some (.slice An dat.length cn) ∧ (wr.drew.alloc (.cells #[.slice An dat.length cn, .int .i64 safe] 49)).cell? ⟨gb, nd * 2 + 1, none⟩ = some (.int .i64 safe)) := ⟨(HB.out.mod hma id).cell 0, (HB.out.mod hma id).cell 1, hma.cell_of e1, hma.cell_of n0, hma.cell_of n1⟩
        refine wp_valw (n := 28) (v := .slice (some ⟨wr.drew.heap.size, 0, none⟩) 1 1) (w' := (wr.drew.alloc (.cells #[.slice An dat.length cn, .int .i64 safe] 49))) (exec_buildSlice (parts := [(0, .tmp 27)]) (vs := [(0, .agg #[.slice An dat.length cn, .int .i64 safe])]) rfl rfl (bldNode1 _ _ _ _ _)) rfl ?_
        refine hK.out _ _ (fun _ => HSS) ?_
        have HMA := Sec.mk hma
        clear hma
        clear hK K
        simp only [Act.put, List.setIfInBounds_toArray, List.set_cons_zero, List.set_cons_succ]
        refine reg_step (i := 16) rfl (by kernel_rfl) (fun K hK => ?_)
        obtain ⟨F, hOF, hFF⟩ := HN.out
        have hOF2 := hOF.keep HMA.out (fun _ _ h => h)
        have hMA2 := dNode.M_mod HMN.out (w' := (wr.drew.alloc (.cells #[.slice An dat.length cn, .int .i64 safe] 49))) (fun k hk => HMA.out.block k (dNode.M_lt HMN.out k hk) id)
        refine wp_appendB _ (.tmp 13) (.tmp 28) _ rfl dNode 49 Tryd.underlying23 eltNode rfl hOF2 rfl (Elems.one hMA2) rfl (fun _ => HLA.out) (by simpa using dNode.M_nd hMA2) (fun k hk hkF => by simp at hk; exact (HFAR.out k (hFF k hkF)).2.2.2 hk) (by rw [settleNs_len, List.length_take]; omega) ?_
        intro A6 n6 c6 w6 F6 ho6 hn6 hm6 hF6 hob6
        have hown : ∀ k, (Value.slice Av nv cv).ownBlock = some k → k ∉ F1 ∧ k ≠ g ∧ k ≠ gb := fun k hk => by have h1 := HFAR.out k (hFF k (hOF.own_mem k hk)); exact ⟨h1.1, h1.2.1, h1.2.2.1⟩
        have HMX := Sec.mk (((Mod.refl (fun i => i ∉ F1 ∧ i ≠ g ∧ i ≠ gb) wr).transN HMA.out).trans hm6 (fun i hi _ => hown i hi))
        have HMW := Sec.mk ((HM.out.transN HMA.out).trans hm6 (fun i hi hlt2 => by have := HOB.out i hi; omega))
        have hwrs := HM.out.size
        have hwas := HMA.out.size
        obtain rfl : n6 = nv + 1 := by rw [hn6, List.length_append, settleNs_len, List.length_take, List.length_singleton]; omega
        clear hn6
        rw [← HTK.out] at ho6
        have HO6 : Sec (∃ F, Own dNode 49 w6 F (.slice A6 (nv + 1 : Nat) c6) (settleNs d (d.2.1.take (nv + 1))) ∧ ∀ i, i ∈ F → (∃ (j : Nat) (hj : j < d.2.1.length), j < nv + 1 ∧ i ∈ fo (d.2.1[j].2.toNat)) ∨ w.heap.size ≤ i) := ⟨F6, ho6, fun i hi => by
          rcases hF6 i hi with h1 | h1 | h1
          · rcases hFF i h1 with ⟨j, hj, hjk, hij⟩ | h2
            · exact Or.inl ⟨j, hj, by omega, hij⟩
            · exact Or.inr h2
          · refine Or.inl ⟨nv, hlt, by omega, ?_⟩
            rw [HND.out, Int.toNat_natCast]
            simpa using h1
          · exact Or.inr (by omega)⟩
        have HOB6 : Sec (∀ k, (Value.slice A6 (nv + 1 : Nat) c6).ownBlock = some k → w.heap.size ≤ k) := ⟨fun k hk => by
          rcases hob6 with h1 | h1
          · exact HOB.out k (h1.symm.trans hk)
          · have := Option.some.inj (h1.symm.trans hk); omega⟩
        have hga2 : ga ∈ F1 := HFNI.out ga hgaF
        have hm6' : Mod (fun k => (Value.slice Av nv cv).ownBlock = some k) (wr.drew.alloc (.cells #[.slice An dat.length cn, .int .i64 safe] 49)) w6 := hm6
        have hx6 : ∀ (b o : Nat) (v : Value), ¬ (Value.slice Av nv cv).ownBlock = some b → (wr.drew.alloc (.cells #[.slice An dat.length cn, .int .i64 safe] 49)).cell? ⟨b, o, none⟩ = some v → w6.cell? ⟨b, o, none⟩ = some v := fun b o v hb hc => (hm6'.cell (p := ⟨b, o, none⟩) (World.block_lt_of_cell? _ _ hc) hb).trans hc
        have HSS : Sec (w6.cell? ⟨g, 0, none⟩ = some (.slice (some ⟨gb, 0, none⟩) d.1.length c0) ∧ w6.cell? ⟨g, 1, none⟩ = some (.slice (some ⟨ga, 0, none⟩) d.2.1.length c1) ∧ w6.cell? ⟨ga, nv * 2 + 1, none⟩ = some (.int .i64 (nd : Int)) ∧ w6.cell? ⟨gb, nd * 2, none⟩ = some (.slice An dat.length cn) ∧ w6.cell? ⟨gb, nd * 2 + 1, none⟩ = some (.int .i64 safe)) := ⟨hx6 _ _ _ (fun h => (hown g h).2.1 rfl) HSS.out.1, hx6 _ _ _ (fun h => (hown g h).2.1 rfl) HSS.out.2.1, hx6 _ _ _ (fun h => (hown ga h).1 hga2) HSS.out.2.2.1, hx6 _ _ _ (fun h => (hown gb h).2.2 rfl) HSS.out.2.2.2.1, hx6 _ _ _ (fun h => (hown gb h).2.2 rfl) HSS.out.2.2.2.2⟩
        refine hK.out _ _ (fun _ => HSS) ?_
        clear ho6 hx6 hm6' hm6 hF6 hob6 hown hOF hOF2 hMA2 hFF
        clear hK K
        simp only [Act.put, List.setIfInBounds_toArray, List.set_cons_zero, List.set_cons_succ]
        refine reg_step (i := 17) rfl (by kernel_rfl) (fun K hK => ?_)
        refine wp_val (v := .slice A6 (nv + 1 : Nat) c6) (exec_assign rfl rfl) rfl (hK.out _ _ (fun _ => HSS) ?_)
        clear hK K
        simp only [Act.put, List.setIfInBounds_toArray, List.set_cons_zero, List.set_cons_succ]
        refine reg_done (by kernel_rfl) ?_ _
        go_wp2
        go_meet
        exact ⟨A6, c6, rfl, HO6, HOB6, HMX, HMW, HSS⟩
      case rest =>
        rename World => w7
        obtain ⟨Av', cv', rfl, HN7, HOB7, HMX, HM7, HT7⟩ := hcut
        obtain ⟨Fn', hOn', hFn'⟩ := HNM.out
        have hO7 := hOn'.keep HMX.out (fun k hk h => h.1 (hFn' k hk))
        obtain ⟨ga', hA1', hga', p0, p1, pf, hset⟩ := entSet hO7 hnl
        obtain rfl : ga = ga' := by have := Option.some.inj hA1'; injection this
        rw [HNE.out] at p0 hset
        have p1 := HT7.out.2.2.1
        obtain ⟨F8, hO8, hF8⟩ := hset (nv : Int) (i64_nat nv (by omega))
        rw [numE_step d.2.1 hlt] at hO8
        have HO8 : Sec (∃ F, Own dEntry 37 (w7.setCell ⟨ga, nv * 2 + 1, none⟩ (.int .i64 (nv : Int))) F (.slice (some ⟨ga, 0, none⟩) d.2.1.length c1) (numE d.2.1 (nv + 1)) ∧ ∀ i, i ∈ F → i ∈ F1) := ⟨F8, hO8, fun i hi => hFn' i (hF8 i hi)⟩
        have hgaF1 : ga ∈ F1 := hFn' ga hga'
        have hmc : Mod (fun k => k = ga) w7 (w7.setCell ⟨ga, nv * 2 + 1, none⟩ (.int .i64 (nv : Int))) := (Mod.refl (fun k => k = ga) w7).setCell (p := ⟨ga, nv * 2 + 1, none⟩) (fun _ => rfl) _
        have hga8 := HF1.out ga hgaF1
        have HN8 : Sec (∃ F, Own dNode 49 (w7.setCell ⟨ga, nv * 2 + 1, none⟩ (.int .i64 (nv : Int))) F (.slice Av' (nv + 1 : Nat) cv') (settleNs d (d.2.1.take (nv + 1))) ∧ ∀ i, i ∈ F → (∃ (j : Nat) (hj : j < d.2.1.length), j < nv + 1 ∧ i ∈ fo (d.2.1[j].2.toNat)) ∨ w.heap.size ≤ i) := by
          obtain ⟨F, h1, h2⟩ := HN7.out
          refine ⟨F, h1.keep hmc (fun k hk e => ?_), h2⟩
          subst e
          rcases h2 _ hk with ⟨j, hj, hjk, hij⟩ | h3
          · have hinj := HINR.out _ (List.getElem_mem hj)
            obtain ⟨-, h4, -⟩ := HPT.out (d.2.1[j].2.toNat) (by omega)
            exact (HF0.out _ (h4 _ hij).1).2.1 hgaF1
          · omega
        have HB8 := Sec.mk ((HB.out.mod HMX.out (fun h => h.2.1 rfl)).mod hmc (fun e => hga8.2.2 e.symm))
        have HM8 := Sec.mk (HM7.out.trans hmc (fun i hi _ => by rw [hi]; exact hgaF1))
        have z1 : w7.cell? ⟨g, 1, none⟩ = some (.slice (some ⟨ga, 0, none⟩) d.2.1.length c1) := HT7.out.2.1
        have pf0 := pf (nv * 2)
        have pf1 := pf (nv * 2 + 1)
        have hgl7 := (HB.out.mod HMX.out (fun h => h.2.1 rfl)).lt
        have hga7 : ga < w7.heap.size := World.block_lt_of_cell? _ _ p0
        clear hO8 hF8 hset hO7 hOn' hFn' hA1' pf hmc e0 e1 n0 n1
        go_wp2
        go_roundw
        case rel => exact ⟨nv + 1, Av', nv + 1, cv', by omega, by go_num, rfl, rfl, HN8, HOB7, HO8, HB8, HM8⟩
        case measure => simp [intOf]; omega
    · obtain rfl : nv = d.2.1.length := by omega
      clear HPT HPD HINR HU hk hlt
      obtain ⟨Fn, hOn, hFn⟩ := HNM.out
      rw [numE_end] at hOn
      rw [List.take_length] at HN
      have HON := Sec.mk hOn
      have HFN := Sec.mk hFn
      have HXL : Sec (∀ k, k ∈ Fn → k < w.heap.size ∧ lo ≤ k ∧ k ≠ g) := ⟨fun k hk => HF1.out k (hFn k hk)⟩
      obtain ⟨F, hOF, hFF⟩ := HN.out
      have HOF := Sec.mk hOF
      have hws : w.heap.size ≤ wr.heap.size := HM.out.size
      have HFX : Sec (∀ k, k ∈ F → (lo ≤ k ∧ k ≠ g) ∧ k ∉ Fn ∧ k < wr.heap.size) := ⟨fun k hk => by
        have hlt := hOF.lt k hk
        rcases hFF k hk with ⟨j, hj, hjk, hij⟩ | h3
        · have h4 := HFOA.out _ hj _ hij
          exact ⟨h4.1, fun h => h4.2 (hFn k h), hlt⟩
        · exact ⟨⟨by omega, by omega⟩, fun h => by have := (HF1.out k (hFn k h)).1; omega, hlt⟩⟩
      have f0 : wr.frozen? ⟨g, 0, none⟩ = false := HB.out.frozen 0
      have hgl2 : g < wr.heap.size := HB.out.lt
      clear hOn hFn HNM hOF hFF HN
      have hB1 := HB.out.set_ 0 (.slice Av d.2.1.length cv)
      simp only [List.set_cons_zero] at hB1
      have HB1 := Sec.mk hB1
      have hmc : Mod (fun k => k = g) wr (wr.setCell ⟨g, 0, none⟩ (.slice Av d.2.1.length cv)) := (Mod.refl (fun k => k = g) wr).setCell (p := ⟨g, 0, none⟩) (fun _ => rfl) _
      have HON1 := Sec.mk (HON.out.keep hmc (fun k hk e => (HXL.out k hk).2.2 e))
      have HOF1 := Sec.mk (HOF.out.keep hmc (fun k hk e => (HFX.out k hk).1.2 e))
      have hs1 : (wr.setCell ⟨g, 0, none⟩ (.slice Av d.2.1.length cv)).heap.size = wr.heap.size := by simp [World.setCell]
      have HMC := Sec.mk hmc
      have hrow : Row dEntry (wr.setCell ⟨g, 0, none⟩ (.slice Av d.2.1.length cv)) (· < wr.heap.size) A1 d.2.1.length (crashEs d.2.1) := by
        have e : d.2.1.length = (crashEs d.2.1).length := (crashEs_len _).symm
        have h5 := HON1.out
        rw [e] at h5 ⊢
        exact (h5.row rfl).mod (fun k hk => by have := h5.lt k hk; rw [← e, hs1] at this; exact this) (fun _ _ => rfl)
      have hEM : Mine dEntry 37 (wr.setCell ⟨g, 0, none⟩ (.slice Av d.2.1.length cv)) ((wr.setCell ⟨g, 0, none⟩ (.slice Av d.2.1.length cv)).alloc (.cells #[] 37)) (.slice (some ⟨wr.heap.size, 0, none⟩) 0 0) [] := Mine.empty _ _ hs1.symm (Mod.refl _ _)
      have HEM := Sec.mk hEM
      have HRW := Sec.mk (hrow.mod (w' := (wr.setCell ⟨g, 0, none⟩ (.slice Av d.2.1.length cv)).alloc (.cells #[] 37)) (fun _ h => h) (fun i hi => hEM.new.block i (by rw [hs1]; exact hi) id))
      have hlen : ([] : EntryST).length + (crashEs d.2.1).length ≤ 34359738368 := by rw [crashEs_len]; simp; omega
      clear hEM hrow hmc hB1
      go_wp2_with (at_builtin; go_loud (refine wpList_app _ rfl (.tmp 44) (.tmp 48) _ rfl Tryd.underlying24 elt_entry flatEntry rfl rfl HEM.out HRW.out hlen ?_; intro A6 n6 c6 w6 ho6; have HM6 := Sec.mk ho6; have HB6 := Sec.mk (HB1.out.mod ho6.new id); clear ho6; have y2 : w6.cell? ⟨g, 2, none⟩ = some (.slice A2 d.2.2.1.length c2) := HB6.out.cell 2; have y3 : w6.cell? ⟨g, 3, none⟩ = some (.slice A3 d.2.2.2.1.length c3) := HB6.out.cell 3; have y2f : w6.frozen? ⟨g, 2, none⟩ = false := HB6.out.frozen 2; have y3f : w6.frozen? ⟨g, 3, none⟩ = false := HB6.out.frozen 3; have hg6 : g < w6.heap.size := HB6.out.lt))
      go_end0
      have hmA : Mod (fun k => k = g) w6 ((w6.setCell ⟨g, 2, none⟩ (.slice A6 n6 c6)).setCell ⟨g, 3, none⟩ (.slice none 0 0)) := ((Mod.refl (fun k => k = g) w6).setCell (p := ⟨g, 2, none⟩) (fun _ => rfl) _).setCell (p := ⟨g, 3, none⟩) (fun _ => rfl) _
      have hBF := (HB6.out.set_ 2 (.slice A6 n6 c6)).set_ 3 (.slice none 0 0)
      simp only [List.set_cons_zero, List.set_cons_succ] at hBF
      obtain ⟨⟨F6, ho6, hF6⟩, hn6⟩ := HM6.out
      rw [List.nil_append] at ho6
      have hON2 := (HON1.out.keep hn6 (fun _ _ h => h)).keep hmA (fun k hk e => (HXL.out k hk).2.2 e)
      have hOF2 := (HOF1.out.keep hn6 (fun _ _ h => h)).keep hmA (fun k hk e => (HFX.out k hk).1.2 e)
      have hF6' : ∀ k, k ∈ F6 → wr.heap.size ≤ k := fun k hk => by have := hF6 k hk; rw [hs1] at this; exact this
      have hOK2 := ho6.keep hmA (fun k hk e => by have := hF6' k hk; omega)
      refine ⟨rfl, ?_, ((((HM.out.mono (T := fun k => lo ≤ k) (fun i _ hi => (HF1.out i hi).2.1)).trans HMC.out (fun i hi _ => by omega)).transN hn6).trans hmA (fun i hi _ => by omega))⟩
      rw [HE.out]
      refine ⟨t, _, _, _, _, hBF, ⟨F, Fn, F6, [], hOF2, hON2, hOK2, Own.nil _ _ _, ⟨fun k hk => ⟨(HFX.out k hk).2.1, fun h => by have := (HFX.out k hk).2.2; have := hF6' k h; omega, by simp⟩, fun k hk => ⟨fun h => by have := (HXL.out k hk).1; have := hF6' k h; omega, by simp⟩, fun k hk => by simp⟩, ?_, HQW.out⟩, hlg⟩
      rintro k (hk | hk | hk | hk)
      · exact (HFX.out k hk).1
      · exact (HXL.out k hk).2
      · have := hF6' k hk
        exact ⟨by omega, by omega⟩
      · cases hk
end Go.Proofs.YtkkgighgnbbgiaaDoor
