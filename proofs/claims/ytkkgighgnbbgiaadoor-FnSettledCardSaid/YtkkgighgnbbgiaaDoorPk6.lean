/- The specification's settling of names. Two operations that are ready at once. The specification's copy of a disk. -/
import Derived.Test.YtkkgighgnbbgiaaDoorPk5
import Derived.Test.YtkkgighgnbbgiaaDoorPk4
import Derived.Deep.DeepCutAuto
import Derived.Deep.Cut
namespace Go.Proofs.YtkkgighgnbbgiaaDoor
open Go.RowKit Mem
set_option linter.unusedVariables false
set_option linter.unusedSimpArgs false
def settleNs (x : DiskL) (l : List EntL) : List NodL := l.map fun e => nodeAt x e.2
theorem settleNs_len (x : DiskL) (l : List EntL) : (settleNs x l).length = l.length := by simp [settleNs]
theorem settle_take (x : DiskL) {l : List EntL} {k : Nat} (hk : k < l.length) : settleNs x (l.take (k + 1)) = settleNs x (l.take k) ++ [nodeAt x l[k].2] := by
  unfold settleNs
  rw [List.take_succ_eq_append_getElem hk, List.map_append]; rfl
theorem settle_at (x : DiskL) {nd : Nat} (hnl : nd < x.1.length) {nm : LB} : nodeAt x ((nm, (nd : Int)) : EntL).2 = x.1[nd] := by
  unfold nodeAt
  show x.1[((nd : Int)).toNat]?.getD ([], 0) = _
  rw [Int.toNat_natCast, List.getElem?_eq_getElem hnl]; rfl
theorem fptNode1D (p : Addr) (w : World) : (Instr.fieldAt 49 (.pointer (some p)) 1).run Tryd.prog w = .ok (.pointer (some ⟨p.block, p.off + 1, none⟩)) w := by go_simp
theorem out4_of3 {X : Nat → Prop} {w : World} {v0 v1 v2 : Value} {ns : NodeST} {es ks : EntryST} (h : Out3 X w v0 v1 v2 ns es ks) {q : Int} (hq : IntKind.i64.wrap q = q) : Out4 X w v0 v1 v2 (.slice none 0 0) (ns, es, ks, [], q) := by
  obtain ⟨F0, F1, F2, o0, o1, o2, hn, hF⟩ := h
  obtain ⟨d01, d02, d12⟩ := nodup3_of hn
  refine ⟨F0, F1, F2, [], o0, o1, o2, Own.nil _ _ _, ⟨fun k hk => ⟨d01 k hk, d02 k hk, by simp⟩, fun k hk => ⟨d12 k hk, by simp⟩, fun k hk => by simp⟩, ?_, hq⟩
  rintro k (hk | hk | hk | hk)
  · exact hF k (by simp [hk])
  · exact hF k (by simp [hk])
  · exact hF k (by simp [hk])
  · cases hk
def RetD (w : World) (d : DiskT) (e : Ending) (w' : World) : Prop := ∃ v0 v1 v2 v3, e = .returned (.agg #[v0, v1, v2, v3, .int .i64 d.2.2.2.2]) ∧ Out4 (fun k => w.heap.size ≤ k) w' v0 v1 v2 v3 d ∧ New w w'
set_option maxHeartbeats 4000000 in
set_option maxRecDepth 100000 in
theorem l1Settle_v {w : World} {v : Value} {x : DiskT} {N : Nat} (h : RdV true dDisk w v x) (hI : DInv N x) (hN : N ≤ 100000) : Calls Tryd.prog 30 #[v] w (RetD w (settleL x)) := by
  have HQW := Sec.mk (okDisk h)
  have HE : Sec (settleL x = (settleNs x x.2.1, crashEs x.2.1, crashEs x.2.1, [], x.2.2.2.2)) := ⟨rfl⟩
  have HQI := Sec.mk hI.inr
  have HNO := Sec.mk hI.len
  have hcl := hI.names
  clear hI
  obtain ⟨v0, v1, v2, v3, rfl, k0, k1, k2, k3⟩ := rdDisk h
  obtain ⟨A0, c0, rfl, hc0, hr0⟩ := k0.slice
  obtain ⟨A1, c1, rfl, hc1, hr1⟩ := k1.slice
  have HR0 := Sec.mk hr0
  have HBX := Sec.mk ((Blk.new w 27 [.slice A0 x.1.length c0, .slice A1 x.2.1.length c1, v2, v3, .int .i64 x.2.2.2.2]).alloc (.cells #[.slice none 0 0, .slice none 0 0, .slice none 0 0, .slice none 0 0, .int .i64 0] 27))
  have HBC := Blk.new (w.alloc (.cells #[.slice A0 x.1.length c0, .slice A1 x.2.1.length c1, v2, v3, .int .i64 x.2.2.2.2] 27)) 27 [.slice none 0 0, .slice none 0 0, .slice none 0 0, .slice none 0 0, .int .i64 0]
  have HMr := Sec.mk (((Mod.refl (fun _ => False) w).alloc (.cells #[.slice A0 x.1.length c0, .slice A1 x.2.1.length c1, v2, v3, .int .i64 x.2.2.2.2] 27)).alloc (.cells #[.slice none 0 0, .slice none 0 0, .slice none 0 0, .slice none 0 0, .int .i64 0] 27))
  have HCr : Sec (Blk ((w.alloc (.cells #[.slice A0 x.1.length c0, .slice A1 x.2.1.length c1, v2, v3, .int .i64 x.2.2.2.2] 27)).alloc (.cells #[.slice none 0 0, .slice none 0 0, .slice none 0 0, .slice none 0 0, .int .i64 0] 27)) (w.heap.size + 1) 27 [.slice none 0 0, .slice none 0 0, .slice none 0 0, .slice none 0 0, .int .i64 0]) := ⟨by simpa using HBC⟩
  have HBr := HBX
  have HC := Sec.mk (hr1.mod (w' := (w.alloc (.cells #[.slice A0 x.1.length c0, .slice A1 x.2.1.length c1, v2, v3, .int .i64 x.2.2.2.2] 27)).alloc (.cells #[.slice none 0 0, .slice none 0 0, .slice none 0 0, .slice none 0 0, .int .i64 0] 27)) (B' := (· < ((w.alloc (.cells #[.slice A0 x.1.length c0, .slice A1 x.2.1.length c1, v2, v3, .int .i64 x.2.2.2.2] 27)).alloc (.cells #[.slice none 0 0, .slice none 0 0, .slice none 0 0, .slice none 0 0, .int .i64 0] 27)).heap.size)) (fun k hk => Nat.lt_of_lt_of_le hk HMr.out.size) (fun k hk => HMr.out.block k hk id))
  have hwr := HBr.out.lt
  have q1 := HBr.out.cell 1
  have q4 := HBr.out.cell 4
  have q0 := HBr.out.cell 0
  clear h k0 k1 k2 k3 hr0 hr1 HBC HBX
  have HZS := Sec.mk (show ((w.alloc (.cells #[.slice A0 x.1.length c0, .slice A1 x.2.1.length c1, v2, v3, .int .i64 x.2.2.2.2] 27)).alloc (.cells #[.slice none 0 0, .slice none 0 0, .slice none 0 0, .slice none 0 0, .int .i64 0] 27)).heap.size = w.heap.size + 1 + 1 by simp)
  go_enter Tryd.func30, Tryd.ntmps30
  go_wp2
  generalize ((w.alloc (.cells #[.slice A0 x.1.length c0, .slice A1 x.2.1.length c1, v2, v3, .int .i64 x.2.2.2.2] 27)).alloc (.cells #[.slice none 0 0, .slice none 0 0, .slice none 0 0, .slice none 0 0, .int .i64 0] 27)) = wz at *
  rw [← HZS.out]
  generalize hcu : x.2.1 = cur at *
  have HGE : Sec (Blk (wz.alloc (.cells #[.slice none 0 0, .slice none 0 0, .slice none 0 0, .slice none 0 0, .int .i64 x.2.2.2.2] 27)) wz.heap.size 27 [.slice none 0 0, .slice none 0 0, .slice none 0 0, .slice none 0 0, .int .i64 x.2.2.2.2]) := ⟨Blk.new wz 27 _⟩
  go_loopw [13] (fun i wr => ∃ (k : Nat) (B0 B1 B2 : Option Addr) (m0 e0 m1 e1 m2 e2 : Nat), k ≤ cur.length ∧ i = .int .i64 (k : Int) ∧ Sec (Blk wr wz.heap.size 27 [.slice B0 m0 e0, .slice B1 m1 e1, .slice B2 m2 e2, .slice none 0 0, .int .i64 x.2.2.2.2]) ∧ Sec (Out3 (fun k => wz.heap.size + 1 ≤ k) wr (.slice B0 m0 e0) (.slice B1 m1 e1) (.slice B2 m2 e2) (settleNs x (cur.take k)) (crashEs (cur.take k)) (crashEs (cur.take k))) ∧ Sec (New wz wr)) (fun i _ => cur.length - (intOf i).toNat)
  case atStart => exact ⟨0, none, none, none, 0, 0, 0, 0, 0, 0, Nat.zero_le _, rfl, HGE, ⟨Out3.nil _ _⟩, ⟨(Mod.refl _ _).alloc _⟩⟩
  case round =>
    clear HGE
    obtain ⟨k, B0, B1, B2, m0, e0, m1, e1, m2, e2, hk, rfl, HGB, H3, HMq⟩ := hrel
    have HBq := Sec.mk (HBr.out.mod HMq.out id)
    have hwq : wz.heap.size < wr.heap.size := HGB.out.lt
    have hwz : w.heap.size + 1 < wz.heap.size := HCr.out.lt
    clear q0 q1 q4 hcu
    by_cases hlt : k < cur.length
    · obtain ⟨ae, hA', d0, d1, g0, g1⟩ := ent_at HC.out (w' := wr) (fun i hi => HMq.out.block i hi id) hlt
      subst hA'
      have hki : (k : Int) < (cur.length : Int) := by omega
      have HIE := Sec.mk (HQI.out _ (List.getElem_mem hlt))
      have HTK := Sec.mk (settle_take x hlt)
      have HTE := Sec.mk (crashEs_take cur hlt)
      have HPX : Sec (∃ q : EntryT, q = cur[k]) := ⟨⟨_, rfl⟩⟩
      obtain ⟨q, hq⟩ := HPX.out
      rw [← hq] at d0 d1 g0 g1 HTK HTE HIE
      clear hq HPX
      obtain ⟨nm, u⟩ := q
      simp only at d0 d1 g0 g1
      obtain ⟨nd, hnd⟩ := Int.eq_ofNat_of_zero_le HIE.out.1
      simp only at hnd
      subst hnd
      have hnl : nd < x.1.length := by have := HIE.out.2; simp only at this; omega
      obtain ⟨bd, An, cn, hA0, n0, n1, hcc, hcm, hrow, hw⟩ := node_at (HR0.out.mod (w' := (wr.alloc (.cells #[.string ⟨nm.toArray⟩, .int .i64 (nd : Int)] 37))) (fun _ h => h) (fun k hk => ((HMr.out.transN HMq.out).alloc _).block k hk id)) (w' := (wr.alloc (.cells #[.string ⟨nm.toArray⟩, .int .i64 (nd : Int)] 37))) (fun _ _ => rfl) hnl
      subst hA0
      have hdl := HNO.out _ (List.getElem_mem hnl)
      rw [settle_at x hnl] at HTK
      have HRW := Sec.mk hrow
      have HWP := Sec.mk hw
      clear hrow hw HIE
      have HPX : Sec (∃ z : NodeT, z = x.1[nd]) := ⟨⟨_, rfl⟩⟩
      obtain ⟨z, hz⟩ := HPX.out
      rw [← hz] at n0 n1 hcc HRW HWP HTK hdl
      clear hz HPX
      obtain ⟨dat, safe⟩ := z
      simp only at n0 n1 hcc hdl
      have q0 : wr.cell? ⟨w.heap.size, 0, none⟩ = some (.slice (some bd) x.1.length c0) := HBq.out.cell 0
      have hwr2 : w.heap.size < wr.heap.size := by omega
      go_wp2
      have hre : (wr.alloc (.cells #[.string ⟨nm.toArray⟩, .int .i64 (nd : Int)] 37)).heap.size = wr.heap.size + 1 := by simp
      have HMN : Sec (New wr ((wr.alloc (.cells #[.string ⟨nm.toArray⟩, .int .i64 (nd : Int)] 37)).alloc (.cells #[.slice An dat.length cn, .int .i64 safe] 49))) := ⟨((Mod.refl _ _).alloc _).alloc _⟩
      have HGN := Sec.mk (HGB.out.mod HMN.out id)
      have HEN := Sec.mk ((Blk.new wr 37 [.string ⟨nm.toArray⟩, .int .i64 (nd : Int)]).alloc (.cells #[.slice An dat.length cn, .int .i64 safe] 49))
      have HNN : Sec (Blk ((wr.alloc (.cells #[.string ⟨nm.toArray⟩, .int .i64 (nd : Int)] 37)).alloc (.cells #[.slice An dat.length cn, .int .i64 safe] 49)) (wr.heap.size + 1) 49 [.slice An dat.length cn, .int .i64 safe]) := ⟨by rw [← hre]; exact Blk.new (wr.alloc (.cells #[.string ⟨nm.toArray⟩, .int .i64 (nd : Int)] 37)) 49 _⟩
      have H3N := Sec.mk ((H3.out.wide (X' := fun k => wz.heap.size + 1 ≤ k ∧ k < wr.heap.size) (fun k h1 h2 => ⟨h2, h1⟩)).new HMN.out)
      have HRB := Sec.mk ((HRW.out.mod (w' := ((wr.alloc (.cells #[.string ⟨nm.toArray⟩, .int .i64 (nd : Int)] 37)).alloc (.cells #[.slice An dat.length cn, .int .i64 safe] 49))) (fun _ h => h) (fun k hk => ((Mod.refl (fun _ => False) (wr.alloc (.cells #[.string ⟨nm.toArray⟩, .int .i64 (nd : Int)] 37))).alloc (.cells #[.slice An dat.length cn, .int .i64 safe] 49)).block k (Nat.lt_of_lt_of_le hk (by simp; omega)) id)))
      have hsn : ((wr.alloc (.cells #[.string ⟨nm.toArray⟩, .int .i64 (nd : Int)] 37)).alloc (.cells #[.slice An dat.length cn, .int .i64 safe] 49)).heap.size = wr.heap.size + 2 := by simp
      clear hre HRW
      generalize ((wr.alloc (.cells #[.string ⟨nm.toArray⟩, .int .i64 (nd : Int)] 37)).alloc (.cells #[.slice An dat.length cn, .int .i64 safe] 49)) = wn at *
      clear q0 n0 n1 d0 d1
      have HTT : Sec (wn.drew.cell? ⟨wz.heap.size, 0, none⟩ = some (.slice B0 m0 e0) ∧ wn.drew.cell? ⟨wr.heap.size + 1, 0, none⟩ = some (.slice An dat.length cn) ∧ wn.drew.cell? ⟨wr.heap.size + 1, 1, none⟩ = some (.int .i64 safe)) := ⟨HGN.out.cell 0, HNN.out.cell 0, HNN.out.cell 1⟩
      refine reg_start [11] (fun W => Sec (W.cell? ⟨wz.heap.size, 0, none⟩ = some (.slice B0 m0 e0) ∧ W.cell? ⟨wr.heap.size + 1, 0, none⟩ = some (.slice An dat.length cn) ∧ W.cell? ⟨wr.heap.size + 1, 1, none⟩ = some (.int .i64 safe))) (by kernel_rfl) ?_
      have HSS := HTT
      refine reg_take (.pointer (some ⟨wz.heap.size, 0, none⟩)) (i := 0) (n := 24) HSS rfl (by kernel_rfl) (by kernel_rfl) (by kernel_rfl) (by kernel_rfl) (fun _ _ _ h => h) (fun W hW => exec_field rfl rfl (fptDisk0 _ _)) ?_
      simp only [Act.put, List.setIfInBounds_toArray, List.set_cons_zero, List.set_cons_succ]
      refine reg_take (.slice B0 m0 e0) (i := 1) (n := 25) HSS rfl (by kernel_rfl) (by kernel_rfl) (by kernel_rfl) (by kernel_rfl) (fun _ _ _ h => h) (fun W hW => exec_load rfl rfl (ldNodesD hW.out.1)) ?_
      simp only [Act.put, List.setIfInBounds_toArray, List.set_cons_zero, List.set_cons_succ]
      refine reg_take (.pointer (some ⟨wr.heap.size + 1, 0, none⟩)) (i := 2) (n := 26) HSS rfl (by kernel_rfl) (by kernel_rfl) (by kernel_rfl) (by kernel_rfl) (fun _ _ _ h => h) (fun W hW => exec_field rfl rfl (fptNode0D _ _)) ?_
      simp only [Act.put, List.setIfInBounds_toArray, List.set_cons_zero, List.set_cons_succ]
      refine reg_take (.slice An dat.length cn) (i := 3) (n := 27) HSS rfl (by kernel_rfl) (by kernel_rfl) (by kernel_rfl) (by kernel_rfl) (fun _ _ _ h => h) (fun W hW => exec_load rfl rfl (ldBytesD hW.out.2.1)) ?_
      simp only [Act.put, List.setIfInBounds_toArray, List.set_cons_zero, List.set_cons_succ]
      refine reg_take (.pointer (some ⟨wr.heap.size + 1, 1, none⟩)) (i := 5) (n := 29) HSS rfl (by kernel_rfl) (by kernel_rfl) (by kernel_rfl) (by kernel_rfl) (fun _ _ _ h => h) (fun W hW => exec_field rfl rfl (fptNode1D _ _)) ?_
      simp only [Act.put, List.setIfInBounds_toArray, List.set_cons_zero, List.set_cons_succ]
      refine reg_take (.int .i64 safe) (i := 6) (n := 30) HSS rfl (by kernel_rfl) (by kernel_rfl) (by kernel_rfl) (by kernel_rfl) (fun _ _ _ h => h) (fun W hW => exec_load rfl rfl (ldIntD hW.out.2.2)) ?_
      simp only [Act.put, List.setIfInBounds_toArray, List.set_cons_zero, List.set_cons_succ]
      refine reg_step (i := 4) rfl (by kernel_rfl) (fun K hK => ?_)
      refine wp_call (n := 28) (vals := [.slice An dat.length cn]) rfl rfl rfl (by kernel_rfl) (l1Bytes_at (HRB.out.mod (w' := wn.drew) (fun _ h => h) (fun _ _ => rfl)) (fun k hk => by have := Nat.lt_of_lt_of_le hk HMr.out.size; show k < wn.heap.size; omega) (by omega)) ?_
      intro e w5 hret
      obtain ⟨A5, c5, rfl, hmine⟩ := hret.mine
      have HN5 : Sec (New wn w5) := ⟨((Mod.refl _ _).drew).transN hmine.new⟩
      have HMN5 := Sec.mk (hmine.base (w0 := wn) (Mod.refl _ _).drew)
      have HSS : Sec (w5.cell? ⟨wz.heap.size, 0, none⟩ = some (.slice B0 m0 e0) ∧ w5.cell? ⟨wr.heap.size + 1, 0, none⟩ = some (.slice An dat.length cn) ∧ w5.cell? ⟨wr.heap.size + 1, 1, none⟩ = some (.int .i64 safe)) := ⟨(HGN.out.mod HN5.out id).cell 0, (HNN.out.mod HN5.out id).cell 0, (HNN.out.mod HN5.out id).cell 1⟩
      refine ⟨_, rfl, hK.out _ _ (fun _ => HSS) ?_⟩
      clear hret hmine
      clear hK K
      simp only [Act.put, List.setIfInBounds_toArray, List.set_cons_zero, List.set_cons_succ]
      refine reg_take (.agg #[.slice A5 dat.length c5, .int .i64 safe]) (i := 7) (n := 31) HSS rfl (by kernel_rfl) (by kernel_rfl) (by kernel_rfl) (by kernel_rfl) (fun _ _ _ h => h) (fun W hW => exec_build (parts := [(0, .tmp 28), (1, .tmp 30)]) rfl rfl (bldNode _ _ _ _ _)) ?_
      simp only [Act.put, List.setIfInBounds_toArray, List.set_cons_zero, List.set_cons_succ]
      refine reg_step (i := 8) rfl (by kernel_rfl) (fun K hK => ?_)
      refine wp_valw (n := 32) (v := .slice (some ⟨w5.heap.size, 0, none⟩) 1 1) (w' := w5.alloc (.cells #[.slice A5 dat.length c5, .int .i64 safe] 49)) (exec_buildSlice (parts := [(0, .tmp 31)]) (vs := [(0, .agg #[.slice A5 dat.length c5, .int .i64 safe])]) rfl rfl (bldNode1 _ _ _ _ _)) rfl ?_
      have HN6 := Sec.mk (HN5.out.alloc (.cells #[.slice A5 dat.length c5, .int .i64 safe] 49))
      have HSS : Sec ((w5.alloc (.cells #[.slice A5 dat.length c5, .int .i64 safe] 49)).cell? ⟨wz.heap.size, 0, none⟩ = some (.slice B0 m0 e0) ∧ (w5.alloc (.cells #[.slice A5 dat.length c5, .int .i64 safe] 49)).cell? ⟨wr.heap.size + 1, 0, none⟩ = some (.slice An dat.length cn) ∧ (w5.alloc (.cells #[.slice A5 dat.length c5, .int .i64 safe] 49)).cell? ⟨wr.heap.size + 1, 1, none⟩ = some (.int .i64 safe)) := ⟨(HGN.out.mod HN6.out id).cell 0, (HNN.out.mod HN6.out id).cell 0, (HNN.out.mod HN6.out id).cell 1⟩
      refine hK.out _ _ (fun _ => HSS) ?_
      clear hK K
      simp only [Act.put, List.setIfInBounds_toArray, List.set_cons_zero, List.set_cons_succ]
      refine reg_step (i := 9) rfl (by kernel_rfl) (fun K hK => ?_)
      obtain ⟨⟨F5, ho5, hF5⟩, -⟩ := HMN5.out
      have hs5 := HN5.out.size
      have hln := settleNs_len x (cur.take k)
      rw [List.length_take] at hln
      refine Out3.wp0 (X := fun k => wz.heap.size + 1 ≤ k ∧ k ≠ wr.heap.size ∧ k ≠ wr.heap.size + 1) _ (.tmp 25) (.tmp 32) _ rfl Tryd.underlying23 eltNode rfl rfl (H3N.out.new HN6.out) (y := (dat, safe)) (mNode (x := (dat, safe)) HWP.out (ho5.keep ((Mod.refl (fun _ => False) w5).alloc _) (fun _ _ h => h))) (fun k hk => by have := hF5 k (by simpa using hk); omega) (lit_cells _ _ _ rfl) (fun k hk => by omega) (fun k hk => by simp at hk; omega) (by omega) ?_
      intro A7 n7 c7 w7 h7 hm7
      have H7 := Sec.mk h7
      have HM7 := Sec.mk (HMN.out.transN HN6.out)
      have HG7 := Sec.mk ((HGN.out.mod HN6.out id).mod hm7 (by omega))
      have HE7 := Sec.mk ((HEN.out.mod HN6.out id).mod hm7 (by omega))
      have HNN7 := Sec.mk ((HNN.out.mod HN6.out id).mod hm7 (by omega))
      have HW7 : Sec (New wr wr → New wz w7) := ⟨fun _ => ((HMq.out.transN HM7.out).trans hm7 (fun i hi hlt => by omega))⟩
      have HSS : Sec (w7.cell? ⟨wz.heap.size, 0, none⟩ = some (.slice B0 m0 e0) ∧ w7.cell? ⟨wr.heap.size + 1, 0, none⟩ = some (.slice An dat.length cn) ∧ w7.cell? ⟨wr.heap.size + 1, 1, none⟩ = some (.int .i64 safe)) := ⟨HG7.out.cell 0, HNN7.out.cell 0, HNN7.out.cell 1⟩
      have hs7 := hm7.size
      refine hK.out _ _ (fun _ => HSS) ?_
      clear h7 hm7 ho5 hF5
      clear hK K
      simp only [Act.put, List.setIfInBounds_toArray, List.set_cons_zero, List.set_cons_succ]
      refine reg_take (.pointer (some ⟨wz.heap.size, 0, none⟩)) (i := 10) (n := 34) HSS rfl (by kernel_rfl) (by kernel_rfl) (by kernel_rfl) (by kernel_rfl) (fun _ _ _ h => h) (fun W hW => exec_field rfl rfl (fptDisk0 _ _)) ?_
      simp only [Act.put, List.setIfInBounds_toArray, List.set_cons_zero, List.set_cons_succ]
      refine reg_step (i := 11) rfl (by kernel_rfl) (fun K hK => ?_)
      refine wp_store rfl rfl rfl rfl (stNodesC A7 n7 c7 (HG7.out.cell 0) (HG7.out.frozen 0)) (hK.out _ _ (fun h => absurd (List.mem_singleton.2 rfl) h) ?_)
      clear hK K
      refine reg_done (by kernel_rfl) ?_ _
      have HN7 := Sec.mk (HW7.out (Mod.refl _ _))
      have H8 := Sec.mk (H7.out.keep (S := fun k => k < wz.heap.size + 1) (Mod.setCell (Mod.refl _ _) (p := ⟨wz.heap.size, 0, none⟩) (fun _ => by simp) (.slice A7 n7 c7)) (fun k h1 h2 => by omega))
      have HG8 := Sec.mk (HG7.out.set_ 0 (.slice A7 n7 c7))
      have HE8 := Sec.mk (HE7.out.far (p := ⟨wz.heap.size, 0, none⟩) (by show wr.heap.size ≠ wz.heap.size; omega) (.slice A7 n7 c7))
      have HN8 := Sec.mk (HN7.out.setCell (p := ⟨wz.heap.size, 0, none⟩) (fun h => absurd h (Nat.lt_irrefl _)) (.slice A7 n7 c7))
      have hs8 : (w7.setCell ⟨wz.heap.size, 0, none⟩ (.slice A7 n7 c7)).heap.size = w7.heap.size := by simp [World.setCell]
      simp only [List.set_cons_zero] at HG8
      have hs7' : wr.heap.size + 2 < w7.heap.size := by have h := hs7; simp at h; omega
      have HLN := Sec.mk (crashEs_len (cur.take k))
      have hlt7 : (cur.take k).length ≤ 100000 := by rw [List.length_take]; omega
      have HG0 := Sec.mk g0
      have HWK : Sec (IntKind.i64.wrap (k : Int) = (k : Int)) := ⟨by rw [IntKind.wrap_i64]; omega⟩
      clear HG7 HE7 H7 HN7 HNN7 HW7 HSS HTT HM7 HN6 HN5 HMN5 HMN H3N HGN HEN HNN HRB g0 hs5 hln
      generalize w7.setCell ⟨wz.heap.size, 0, none⟩ (.slice A7 n7 c7) = w8 at *
      have n1 : w8.cell? ⟨wz.heap.size, 1, none⟩ = some (.slice B1 m1 e1) := HG8.out.cell 1
      have z0 : w8.cell? ⟨wr.heap.size, 0, none⟩ = some (.string ⟨nm.toArray⟩) := HE8.out.cell 0
      have hw8 : wz.heap.size < w8.heap.size := by omega
      have hw8' : wr.heap.size < w8.heap.size := by omega
      have hw8'' : wr.heap.size + 2 < w8.heap.size := by omega
      clear hs8 hs7
      go_wp2_with (first
        | (at_builtin; refine Out3.list1 _ rfl (.tmp 36) (.tmp 41) _ rfl Tryd.underlying24 elt_entry rfl rfl (H8.out.new ((Mod.refl _ _).alloc _)) (rowEnt _ HG0.out HWK.out rfl) (fun k hk => by simp at hk; omega) (by rw [HLN.out, List.length_singleton]; omega) ?_; intro A9 n9 c9 w9 h9 hm9; have H9 := Sec.mk h9; have HG9 := Sec.mk ((HG8.out.alloc _).mod hm9 (by omega)); have HE9 := Sec.mk ((HE8.out.alloc _).mod hm9 (by omega)); have HN9 := Sec.mk ((HN8.out.alloc _).trans hm9 (fun i hi hlt => by omega)); have hw9 : wr.heap.size + 2 < w9.heap.size := (by have h := hm9.size; simp at h; omega); clear h9 hm9; have hw9' : wr.heap.size < w9.heap.size := (by omega); have hw9'' : wz.heap.size < w9.heap.size := (by omega); have n1' : w9.cell? ⟨wz.heap.size, 1, none⟩ = some (.slice B1 m1 e1) := HG9.out.cell 1; have f1' : w9.frozen? ⟨wz.heap.size, 1, none⟩ = false := HG9.out.frozen 1; have n2' : w9.cell? ⟨wz.heap.size, 2, none⟩ = some (.slice B2 m2 e2) := HG9.out.cell 2; have z0' : w9.cell? ⟨wr.heap.size, 0, none⟩ = some (.string ⟨nm.toArray⟩) := HE9.out.cell 0)
        | (at_builtin; go_loud (refine Out3.list2 _ rfl (.tmp 45) (.tmp 50) _ rfl Tryd.underlying24 elt_entry rfl rfl ((H9.out.keep (S := fun k => k < wz.heap.size + 1) (Mod.setCell (Mod.refl _ _) (p := ⟨wz.heap.size, 1, none⟩) (fun _ => by simp) (.slice A9 n9 c9)) (fun k h1 h2 => by omega)).new ((Mod.refl _ _).alloc _)) (rowEnt _ HG0.out HWK.out (by simp [World.setCell])) (fun k hk => by simp [World.setCell] at hk; omega) (by rw [HLN.out, List.length_singleton]; omega) ?_; intro A11 n11 c11 w11 h11 hm11; have H11 := Sec.mk h11; have HG11 := Sec.mk (((HG9.out.set_ 1 (.slice A9 n9 c9)).alloc _).mod hm11 (by omega)); have HN11 := Sec.mk (((HN9.out.setCell (p := ⟨wz.heap.size, 1, none⟩) (fun h => absurd h (Nat.lt_irrefl _)) (.slice A9 n9 c9)).alloc _).trans hm11 (fun i hi hlt => by omega)); clear h11 hm11; have n2'' : w11.cell? ⟨wz.heap.size, 2, none⟩ = some (.slice B2 m2 e2) := HG11.out.cell 2; have f2'' : w11.frozen? ⟨wz.heap.size, 2, none⟩ = false := HG11.out.frozen 2)))
      go_roundw
      case rel =>
        have hbf := HG11.out.set_ 2 (.slice A11 n11 c11)
        simp only [List.set_cons_zero, List.set_cons_succ] at hbf
        refine ⟨k + 1, A7, A9, A11, n7, c7, n9, c9, n11, c11, by omega, by go_num, ⟨hbf⟩, ⟨?_⟩, ⟨HN11.out.setCell (p := ⟨wz.heap.size, 2, none⟩) (fun h => absurd h (Nat.lt_irrefl _)) _⟩⟩
        rw [HTK.out, HTE.out]
        exact (H11.out.keep (S := fun k => k < wz.heap.size + 1) (Mod.setCell (Mod.refl _ _) (p := ⟨wz.heap.size, 2, none⟩) (fun _ => by simp) (.slice A11 n11 c11)) (fun k h1 h2 => by omega)).wide (fun k _ h => h.1)
      case measure => simp [intOf]; omega
    · obtain rfl : k = cur.length := by omega
      have HCq := Sec.mk (HCr.out.mod HMq.out id)
      have hlq : w.heap.size + 1 < wr.heap.size := by omega
      have m0' : wr.cell? ⟨wz.heap.size, 0, none⟩ = some (.slice B0 m0 e0) := HGB.out.cell 0
      have m1' : wr.cell? ⟨wz.heap.size, 1, none⟩ = some (.slice B1 m1 e1) := HGB.out.cell 1
      have m2' : wr.cell? ⟨wz.heap.size, 2, none⟩ = some (.slice B2 m2 e2) := HGB.out.cell 2
      have m3' : wr.cell? ⟨wz.heap.size, 3, none⟩ = some (.slice none 0 0) := HGB.out.cell 3
      have m4' : wr.cell? ⟨wz.heap.size, 4, none⟩ = some (.int .i64 x.2.2.2.2) := HGB.out.cell 4
      have q0 : wr.cell? ⟨w.heap.size + 1, 0, none⟩ = some (.slice none 0 0) := HCq.out.cell 0
      have q1 : wr.cell? ⟨w.heap.size + 1, 1, none⟩ = some (.slice none 0 0) := HCq.out.cell 1
      have q2 : wr.cell? ⟨w.heap.size + 1, 2, none⟩ = some (.slice none 0 0) := HCq.out.cell 2
      have q3 : wr.cell? ⟨w.heap.size + 1, 3, none⟩ = some (.slice none 0 0) := HCq.out.cell 3
      have q4 : wr.cell? ⟨w.heap.size + 1, 4, none⟩ = some (.int .i64 0) := HCq.out.cell 4
      have f0 : wr.frozen? ⟨w.heap.size + 1, 0, none⟩ = false := HCq.out.frozen 0
      have f1 : wr.frozen? ⟨w.heap.size + 1, 1, none⟩ = false := HCq.out.frozen 1
      have f2 : wr.frozen? ⟨w.heap.size + 1, 2, none⟩ = false := HCq.out.frozen 2
      have f3 : wr.frozen? ⟨w.heap.size + 1, 3, none⟩ = false := HCq.out.frozen 3
      have f4 : wr.frozen? ⟨w.heap.size + 1, 4, none⟩ = false := HCq.out.frozen 4
      have HC3 := Sec.mk (((((HCq.out.set_ 0 (.slice B0 m0 e0)).set_ 1 (.slice B1 m1 e1)).set_ 2 (.slice B2 m2 e2)).set_ 3 (.slice none 0 0)).set_ 4 (.int .i64 x.2.2.2.2))
      have HM3 := Sec.mk ((((((HMr.out.transN HMq.out).setCell (p := ⟨w.heap.size + 1, 0, none⟩) (fun h => absurd h (by simp)) (.slice B0 m0 e0)).setCell (p := ⟨w.heap.size + 1, 1, none⟩) (fun h => absurd h (by simp)) (.slice B1 m1 e1)).setCell (p := ⟨w.heap.size + 1, 2, none⟩) (fun h => absurd h (by simp)) (.slice B2 m2 e2)).setCell (p := ⟨w.heap.size + 1, 3, none⟩) (fun h => absurd h (by simp)) (.slice none 0 0)).setCell (p := ⟨w.heap.size + 1, 4, none⟩) (fun h => absurd h (by simp)) (.int .i64 x.2.2.2.2))
      have HMS : Sec (Mod (fun k => k < wz.heap.size + 1) wr (((((wr.setCell ⟨w.heap.size + 1, 0, none⟩ (.slice B0 m0 e0)).setCell ⟨w.heap.size + 1, 1, none⟩ (.slice B1 m1 e1)).setCell ⟨w.heap.size + 1, 2, none⟩ (.slice B2 m2 e2)).setCell ⟨w.heap.size + 1, 3, none⟩ (.slice none 0 0)).setCell ⟨w.heap.size + 1, 4, none⟩ (.int .i64 x.2.2.2.2))) := ⟨(((((Mod.refl (fun k => k < wz.heap.size + 1) wr).setCell (p := ⟨w.heap.size + 1, 0, none⟩) (fun _ => by show w.heap.size + 1 < _; omega) (.slice B0 m0 e0)).setCell (p := ⟨w.heap.size + 1, 1, none⟩) (fun _ => by show w.heap.size + 1 < _; omega) (.slice B1 m1 e1)).setCell (p := ⟨w.heap.size + 1, 2, none⟩) (fun _ => by show w.heap.size + 1 < _; omega) (.slice B2 m2 e2)).setCell (p := ⟨w.heap.size + 1, 3, none⟩) (fun _ => by show w.heap.size + 1 < _; omega) (.slice none 0 0)).setCell (p := ⟨w.heap.size + 1, 4, none⟩) (fun _ => by show w.heap.size + 1 < _; omega) (.int .i64 x.2.2.2.2)⟩
      have H3' := H3.out
      rw [List.take_length] at H3'
      have H4 := Sec.mk (H3'.keep HMS.out (fun k h1 h2 => by omega))
      clear H3'
      go_wp2
      refine bodyPost_ret (results_blk rfl rfl HC3.out Tryd.underlying27 (by kernel_rfl)) rfl ?_
      rw [HE.out]
      exact ⟨_, _, _, _, rfl, (out4_of3 H4.out HQW.out).wide (fun k _ h => by omega), HM3.out⟩
end Go.Proofs.YtkkgighgnbbgiaaDoor

namespace Go.Proofs.YtkkgighgnbbgiaaDoor.Mem
open Go.RowKit
set_option linter.unusedVariables false
section
variable {P : Program} {md : Region.Mode} {ops : Array Oper} {T : World → Prop} {L : List Nat} {Q : Exit → Act → World → Prop} {o : Oper} {a : Act} {w : World} {v : Value}
theorem reg_step2 {i j : Nat} {d d' : Option Nat} {op op' : Op} {ty ty' : TypeId} {pos pos' : String} {af af' : Array Edge} {fuel : Nat} {ls : Array Bool} (hi : ops[i]? = some ⟨d, op, ty, pos, af, none⟩) (hj : ops[j]? = some ⟨d', op', ty', pos', af', none⟩) (hr : Region.ready md ops ls = [i, j])
    (h1 : ∀ K : Act → World → Prop, Shut (∀ a w, (i ∉ L → T w) → RegR P md ops Q L T fuel (ls.setIfInBounds i true) a w → K a w) → Oper.wp P ⟨d, op, ty, pos, af, none⟩ a w K Q)
    (h2 : ∀ K : Act → World → Prop, Shut (∀ a w, (j ∉ L → T w) → RegR P md ops Q L T fuel (ls.setIfInBounds j true) a w → K a w) → Oper.wp P ⟨d', op', ty', pos', af', none⟩ a w K Q) : RegR P md ops Q L T (fuel + 1) ls a w := by
  refine ⟨fun h0 => absurd (hr.symm.trans h0) (by simp), ?_⟩
  rw [hr]
  intro x hx
  rcases List.mem_cons.1 hx with rfl | hx
  · refine wpOp_step hi fun K' hK => ?_
    rw [if_pos (by simp [Region.wanted])]
    exact h1 K' fun a w h1 h2 => hK a w ⟨h1, h2⟩
  · obtain rfl := List.mem_singleton.1 hx
    refine wpOp_step hj fun K' hK => ?_
    rw [if_pos (by simp [Region.wanted])]
    exact h2 K' fun a w h1 h2 => hK a w ⟨h1, h2⟩
end
end Go.Proofs.YtkkgighgnbbgiaaDoor.Mem

namespace Go.Proofs.YtkkgighgnbbgiaaDoor
open Go.RowKit Mem
set_option linter.unusedVariables false
set_option linter.unusedSimpArgs false
abbrev zDisk : List Value := [.slice none 0 0, .slice none 0 0, .slice none 0 0, .slice none 0 0, .int .i64 0]
theorem exec_allocDisk {o : Oper} {a : Act} {w : World} (ho : o.op = .alloc 27) : (execOp a.eval o).run Tryd.prog w = .ok (.value (.pointer (some ⟨w.heap.size, 0, none⟩))) (w.alloc (.cells zDisk.toArray 27)) := by
  unfold execOp
  rw [ho]
  go_simp
theorem bldCopy (A1 A2 : Option Addr) (n1 c1 n2 c2 : Nat) (q : Int) (w : World) : (Instr.build 27 #[(4, .int .i64 q), (1, .slice A1 n1 c1), (2, .slice A2 n2 c2)]).run Tryd.prog w = .ok (.agg #[.slice none 0 0, .slice A1 n1 c1, .slice A2 n2 c2, .slice none 0 0, .int .i64 q]) w := by go_simp
theorem stDisk {w : World} {g : Nat} {a0 a1 a2 a3 a4 : Value} (h : Blk w g 27 [a0, a1, a2, a3, a4]) (A0 A1 A2 A3 : Option Addr) (n0 c0 n1 c1 n2 c2 n3 c3 : Nat) (q : Int) :
    (Instr.storeAt 27 (.pointer (some ⟨g, 0, none⟩)) (.agg #[.slice A0 n0 c0, .slice A1 n1 c1, .slice A2 n2 c2, .slice A3 n3 c3, .int .i64 q])).run Tryd.prog w = .ok () (((((w.setCell ⟨g, 0, none⟩ (.slice A0 n0 c0)).setCell ⟨g, 1, none⟩ (.slice A1 n1 c1)).setCell ⟨g, 2, none⟩ (.slice A2 n2 c2)).setCell ⟨g, 3, none⟩ (.slice A3 n3 c3)).setCell ⟨g, 4, none⟩ (.int .i64 q)) := by
  have q0 : w.cell? ⟨g, 0, none⟩ = some a0 := h.cell 0
  have q1 : w.cell? ⟨g, 1, none⟩ = some a1 := h.cell 1
  have q2 : w.cell? ⟨g, 2, none⟩ = some a2 := h.cell 2
  have q3 : w.cell? ⟨g, 3, none⟩ = some a3 := h.cell 3
  have q4 : w.cell? ⟨g, 4, none⟩ = some a4 := h.cell 4
  have f0 : w.frozen? ⟨g, 0, none⟩ = false := h.frozen 0
  have f1 : w.frozen? ⟨g, 1, none⟩ = false := h.frozen 1
  have f2 : w.frozen? ⟨g, 2, none⟩ = false := h.frozen 2
  have f3 : w.frozen? ⟨g, 3, none⟩ = false := h.frozen 3
  have f4 : w.frozen? ⟨g, 4, none⟩ = false := h.frozen 4
  go_simp
def set5 (w : World) (g : Nat) (a0 a1 a2 a3 a4 : Value) : World := ((((w.setCell ⟨g, 0, none⟩ a0).setCell ⟨g, 1, none⟩ a1).setCell ⟨g, 2, none⟩ a2).setCell ⟨g, 3, none⟩ a3).setCell ⟨g, 4, none⟩ a4
theorem set5_blk {w : World} {g : Nat} {t : TypeId} {b0 b1 b2 b3 b4 : Value} (h : Blk w g t [b0, b1, b2, b3, b4]) (a0 a1 a2 a3 a4 : Value) : Blk (set5 w g a0 a1 a2 a3 a4) g t [a0, a1, a2, a3, a4] := by
  have := ((((h.set_ 0 a0).set_ 1 a1).set_ 2 a2).set_ 3 a3).set_ 4 a4
  simp only [List.set_cons_zero, List.set_cons_succ] at this
  exact this
theorem set5_mod (w : World) (g : Nat) (a0 a1 a2 a3 a4 : Value) : Mod (fun k => k = g) w (set5 w g a0 a1 a2 a3 a4) :=
  (((((Mod.refl (fun k => k = g) w).setCell (p := ⟨g, 0, none⟩) (fun _ => rfl) a0).setCell (p := ⟨g, 1, none⟩) (fun _ => rfl) a1).setCell (p := ⟨g, 2, none⟩) (fun _ => rfl) a2).setCell (p := ⟨g, 3, none⟩) (fun _ => rfl) a3).setCell (p := ⟨g, 4, none⟩) (fun _ => rfl) a4
theorem copyOut {lo g : Nat} {W : World} {B1 B2 : Option Addr} {n1 e1 n2 e2 : Nat} {es ks : EntryST} {q : Int} {a0 a1 a2 a3 a4 : Value} {m : Nat} (h1 : ∃ F, Own dEntry 37 W F (.slice B1 n1 e1) es ∧ ∀ k, k ∈ F → lo ≤ k ∧ k ≠ g ∧ k < m) (h2 : ∃ F, Own dEntry 37 W F (.slice B2 n2 e2) ks ∧ ∀ k, k ∈ F → lo ≤ k ∧ k ≠ g ∧ m ≤ k) (hq : IntKind.i64.wrap q = q) :
    Out4 (fun k => lo ≤ k ∧ k ≠ g) (set5 W g a0 a1 a2 a3 a4) (.slice none 0 0) (.slice B1 n1 e1) (.slice B2 n2 e2) (.slice none 0 0) ([], es, ks, [], q) := by
  obtain ⟨F1, o1, hF1⟩ := h1
  obtain ⟨F2, o2, hF2⟩ := h2
  have hm := set5_mod W g a0 a1 a2 a3 a4
  refine ⟨[], F1, F2, [], Own.nil _ _ _, o1.keep hm (fun k hk e => (hF1 k hk).2.1 e), o2.keep hm (fun k hk e => (hF2 k hk).2.1 e), Own.nil _ _ _, ⟨fun k hk => by simp at hk, fun k hk => ⟨fun h => by have := (hF1 k hk).2.2; have := (hF2 k h).2.2; omega, by simp⟩, fun k hk => by simp⟩, ?_, hq⟩
  rintro k (hk | hk | hk | hk)
  · simp at hk
  · exact ⟨(hF1 k hk).1, (hF1 k hk).2.1⟩
  · exact ⟨(hF2 k hk).1, (hF2 k hk).2.1⟩
  · simp at hk
theorem fptDisk2 (p : Addr) (w : World) : (Instr.fieldAt 27 (.pointer (some p)) 2).run Tryd.prog w = .ok (.pointer (some ⟨p.block, p.off + 2, none⟩)) w := by go_simp
theorem fptDisk3 (p : Addr) (w : World) : (Instr.fieldAt 27 (.pointer (some p)) 3).run Tryd.prog w = .ok (.pointer (some ⟨p.block, p.off + 3, none⟩)) w := by go_simp
theorem fptDisk4 (p : Addr) (w : World) : (Instr.fieldAt 27 (.pointer (some p)) 4).run Tryd.prog w = .ok (.pointer (some ⟨p.block, p.off + 4, none⟩)) w := by go_simp
set_option maxHeartbeats 4000000 in
set_option maxRecDepth 100000 in
theorem l1Copy_v {w : World} {v : Value} {x : DiskT} {N : Nat} (h : RdV true dDisk w v x) (hI : DInv N x) (hN : N ≤ 100000) (hk : x.2.2.1.length ≤ 100000) : Calls Tryd.prog 17 #[v] w (RetD w x) := by
  have HQW := Sec.mk (okDisk h)
  have HNO := Sec.mk hI.len
  have hn1 := hI.names
  have hn0 := hI.nodes
  have hn3 := hI.pend
  clear hI
  obtain ⟨v0, v1, v2, v3, rfl, k0, k1, k2, k3⟩ := rdDisk h
  obtain ⟨A0, c0, rfl, hc0, hr0⟩ := k0.slice
  obtain ⟨A1, c1, rfl, hc1, hr1⟩ := k1.slice
  obtain ⟨A2, c2, rfl, hc2, hr2⟩ := k2.slice
  obtain ⟨A3, c3, rfl, hc3, hr3⟩ := k3.slice
  have HR0 := Sec.mk hr0
  have HR1 := Sec.mk hr1
  have HR2 := Sec.mk hr2
  have HR3 := Sec.mk hr3
  have HBr := Sec.mk ((Blk.new w 27 [.slice A0 x.1.length c0, .slice A1 x.2.1.length c1, .slice A2 x.2.2.1.length c2, .slice A3 x.2.2.2.1.length c3, .int .i64 x.2.2.2.2]).alloc (.cells #[.slice none 0 0, .slice none 0 0, .slice none 0 0, .slice none 0 0, .int .i64 0] 27))
  have HBC := Blk.new (w.alloc (.cells #[.slice A0 x.1.length c0, .slice A1 x.2.1.length c1, .slice A2 x.2.2.1.length c2, .slice A3 x.2.2.2.1.length c3, .int .i64 x.2.2.2.2] 27)) 27 [.slice none 0 0, .slice none 0 0, .slice none 0 0, .slice none 0 0, .int .i64 0]
  have HMr := Sec.mk (((Mod.refl (fun _ => False) w).alloc (.cells #[.slice A0 x.1.length c0, .slice A1 x.2.1.length c1, .slice A2 x.2.2.1.length c2, .slice A3 x.2.2.2.1.length c3, .int .i64 x.2.2.2.2] 27)).alloc (.cells #[.slice none 0 0, .slice none 0 0, .slice none 0 0, .slice none 0 0, .int .i64 0] 27))
  have HCr : Sec (Blk ((w.alloc (.cells #[.slice A0 x.1.length c0, .slice A1 x.2.1.length c1, .slice A2 x.2.2.1.length c2, .slice A3 x.2.2.2.1.length c3, .int .i64 x.2.2.2.2] 27)).alloc (.cells #[.slice none 0 0, .slice none 0 0, .slice none 0 0, .slice none 0 0, .int .i64 0] 27)) (w.heap.size + 1) 27 [.slice none 0 0, .slice none 0 0, .slice none 0 0, .slice none 0 0, .int .i64 0]) := ⟨by simpa using HBC⟩
  clear h k0 k1 k2 k3 hr0 hr1 hr2 hr3 HBC
  go_enter Tryd.func17, Tryd.ntmps17
  go_upto_region 1 with (fail)
  generalize ((w.alloc (.cells #[.slice A0 x.1.length c0, .slice A1 x.2.1.length c1, .slice A2 x.2.2.1.length c2, .slice A3 x.2.2.2.1.length c3, .int .i64 x.2.2.2.2] 27)).alloc (.cells #[.slice none 0 0, .slice none 0 0, .slice none 0 0, .slice none 0 0, .int .i64 0] 27)) = wz at *
  have hwz := HCr.out.lt
  have hwz' := HBr.out.lt
  go_cut [3] (fun p wx => ∃ (g : Nat) (B1 B2 : Option Addr) (e1 e2 : Nat), p = .pointer (some ⟨g, 0, none⟩) ∧ wz.heap.size ≤ g ∧ Sec (Blk wx g 27 [.slice none 0 0, .slice B1 x.2.1.length e1, .slice B2 x.2.2.1.length e2, .slice none 0 0, .int .i64 x.2.2.2.2]) ∧ Sec (Out4 (fun k => wz.heap.size ≤ k ∧ k ≠ g) wx (.slice none 0 0) (.slice B1 x.2.1.length e1) (.slice B2 x.2.2.1.length e2) (.slice none 0 0) ([], x.2.1, x.2.2.1, [], x.2.2.2.2)) ∧ Sec (New wz wx))
  case first =>
    refine reg_start [10] (fun W => Sec (New wz W)) (by kernel_rfl) ?_
    have HSS : Sec (New wz wz.drew) := ⟨(Mod.refl _ _).drew⟩
    refine reg_take (.pointer (some ⟨w.heap.size, 4, none⟩)) (i := 0) (n := 6) HSS rfl (by kernel_rfl) (by kernel_rfl) (by kernel_rfl) (by kernel_rfl) (fun _ _ _ h => h) (fun W hW => exec_field rfl rfl (fptDisk4 _ _)) ?_
    simp only [Act.put, List.setIfInBounds_toArray, List.set_cons_zero, List.set_cons_succ]
    refine reg_take (.int .i64 x.2.2.2.2) (i := 1) (n := 7) HSS rfl (by kernel_rfl) (by kernel_rfl) (by kernel_rfl) (by kernel_rfl) (fun _ _ _ h => h) (fun W hW => exec_load rfl rfl (ldIntD ((HBr.out.mod hW.out id).cell 4))) ?_
    simp only [Act.put, List.setIfInBounds_toArray, List.set_cons_zero, List.set_cons_succ]
    refine reg_take (.pointer (some ⟨w.heap.size, 1, none⟩)) (i := 2) (n := 8) HSS rfl (by kernel_rfl) (by kernel_rfl) (by kernel_rfl) (by kernel_rfl) (fun _ _ _ h => h) (fun W hW => exec_field rfl rfl (fptDisk1 _ _)) ?_
    simp only [Act.put, List.setIfInBounds_toArray, List.set_cons_zero, List.set_cons_succ]
    refine reg_take (.slice A1 x.2.1.length c1) (i := 3) (n := 9) HSS rfl (by kernel_rfl) (by kernel_rfl) (by kernel_rfl) (by kernel_rfl) (fun _ _ _ h => h) (fun W hW => exec_load rfl rfl (ldEntsD ((HBr.out.mod hW.out id).cell 1))) ?_
    simp only [Act.put, List.setIfInBounds_toArray, List.set_cons_zero, List.set_cons_succ]
    refine reg_take (.pointer (some ⟨w.heap.size, 2, none⟩)) (i := 5) (n := 11) HSS rfl (by kernel_rfl) (by kernel_rfl) (by kernel_rfl) (by kernel_rfl) (fun _ _ _ h => h) (fun W hW => exec_field rfl rfl (fptDisk2 _ _)) ?_
    simp only [Act.put, List.setIfInBounds_toArray, List.set_cons_zero, List.set_cons_succ]
    refine reg_take (.slice A2 x.2.2.1.length c2) (i := 6) (n := 12) HSS rfl (by kernel_rfl) (by kernel_rfl) (by kernel_rfl) (by kernel_rfl) (fun _ _ _ h => h) (fun W hW => exec_load rfl rfl (ldEntsD ((HBr.out.mod hW.out id).cell 2))) ?_
    simp only [Act.put, List.setIfInBounds_toArray, List.set_cons_zero, List.set_cons_succ]
    refine reg_step2 (i := 4) (j := 9) rfl rfl (by kernel_rfl) (fun K hK => ?_) (fun K hK => ?_)
    · refine wp_call (n := 10) (vals := [.slice A1 x.2.1.length c1]) rfl rfl rfl (by kernel_rfl) (l1Entries_calls (HR1.out.mod (w' := wz.drew) (fun _ h => h) (fun k hk => (HMr.out.transN HSS.out).block k hk id)) (by omega)) ?_
      intro e w5 hret
      obtain ⟨B1, e1, rfl, hm1⟩ := hret.mine
      have HShm1 := Sec.mk hm1
      have HSS : Sec (New wz w5) := ⟨HSS.out.transN hm1.new⟩
      refine ⟨_, rfl, hK.out _ _ (fun _ => HSS) ?_⟩
      clear hret hm1
      clear hK K
      simp only [Act.put, List.setIfInBounds_toArray, List.set_cons_zero, List.set_cons_succ]
      refine reg_step2 (i := 7) (j := 9) rfl rfl (by kernel_rfl) (fun K hK => ?_) (fun K hK => ?_)
      · refine wp_call (n := 13) (vals := [.slice A2 x.2.2.1.length c2]) rfl rfl rfl (by kernel_rfl) (l1Entries_calls (HR2.out.mod (w' := w5) (fun _ h => h) (fun k hk => (HMr.out.transN HSS.out).block k hk id)) (by omega)) ?_
        intro e w6 hret
        obtain ⟨B2, e2, rfl, hm2⟩ := hret.mine
        have HShm2 := Sec.mk hm2
        have HSS : Sec (New wz w6) := ⟨HSS.out.transN hm2.new⟩
        refine ⟨_, rfl, hK.out _ _ (fun _ => HSS) ?_⟩
        clear hret hm2
        clear hK K
        simp only [Act.put, List.setIfInBounds_toArray, List.set_cons_zero, List.set_cons_succ]
        refine reg_take (.agg #[.slice none 0 0, .slice B1 x.2.1.length e1, .slice B2 x.2.2.1.length e2, .slice none 0 0, .int .i64 x.2.2.2.2]) (i := 8) (n := 14) HSS rfl (by kernel_rfl) (by kernel_rfl) (by kernel_rfl) (by kernel_rfl) (fun _ _ _ h => h) (fun W hW => exec_build (parts := [(4, .tmp 7), (1, .tmp 10), (2, .tmp 13)]) rfl rfl (bldCopy _ _ _ _ _ _ _ _)) ?_
        simp only [Act.put, List.setIfInBounds_toArray, List.set_cons_zero, List.set_cons_succ]
        refine reg_step (i := 9) rfl (by kernel_rfl) (fun K hK => ?_)
        refine wp_valw (n := 3) (v := .pointer (some ⟨w6.heap.size, 0, none⟩)) (w' := w6.alloc (.cells zDisk.toArray 27)) (exec_allocDisk rfl) rfl ?_
        have HSS : Sec (New wz (w6.alloc (.cells zDisk.toArray 27))) := ⟨HSS.out.alloc _⟩
        have HBG := Sec.mk (Blk.new w6 27 zDisk)
        refine hK.out _ _ (fun _ => HSS) ?_
        clear hK K
        simp only [Act.put, List.setIfInBounds_toArray, List.set_cons_zero, List.set_cons_succ]
        refine reg_step (i := 10) rfl (by kernel_rfl) (fun K hK => ?_)
        have HBF := Sec.mk (HBG.out)
        refine wp_store rfl rfl rfl rfl (stDisk HBF.out none B1 B2 none 0 0 x.2.1.length e1 x.2.2.1.length e2 0 0 x.2.2.2.2) (hK.out _ _ (fun h => absurd (List.mem_singleton.2 rfl) h) ?_)
        clear hK K
        refine reg_done (by kernel_rfl) ?_ _
        obtain ⟨⟨F1, p1, hF1⟩, n1⟩ := HShm1.out
        obtain ⟨⟨F2, p2, hF2⟩, n2⟩ := HShm2.out
        have hs1 := n1.size
        have hs2 := n2.size
        have l1 := p1.lt
        have l2 := p2.lt
        have hsz := HSS.out.size
        go_wp2
        go_meet
        refine ⟨w6.heap.size, B1, B2, e1, e2, rfl, by first | omega | (simp at *; omega) | exact Nat.le_refl _, ⟨set5_blk (w := (w6.alloc (.cells zDisk.toArray 27))) HBF.out _ _ _ _ _⟩, ⟨copyOut (W := (w6.alloc (.cells zDisk.toArray 27))) (m := w5.heap.size) ⟨F1, p1.keep (n2.alloc _) (fun _ _ h => h), fun k hk => by have := hF1 k hk; have := l1 k hk; first | omega | (simp at *; omega)⟩ ⟨F2, p2.keep ((Mod.refl (fun _ => False) w6).alloc _) (fun _ _ h => h), fun k hk => by have := hF2 k hk; have := l2 k hk; first | omega | (simp at *; omega)⟩ HQW.out⟩, ⟨?_⟩⟩
        exact HSS.out.trans (set5_mod ((w6.alloc (.cells zDisk.toArray 27))) (w6.heap.size) (.slice none 0 0) (.slice B1 x.2.1.length e1) (.slice B2 x.2.2.1.length e2) (.slice none 0 0) (.int .i64 x.2.2.2.2)) (fun i hi hlt => by first | omega | (simp at *; omega))
      · refine wp_valw (n := 3) (v := .pointer (some ⟨w5.heap.size, 0, none⟩)) (w' := w5.alloc (.cells zDisk.toArray 27)) (exec_allocDisk rfl) rfl ?_
        have HSS : Sec (New wz (w5.alloc (.cells zDisk.toArray 27))) := ⟨HSS.out.alloc _⟩
        have HBG := Sec.mk (Blk.new w5 27 zDisk)
        refine hK.out _ _ (fun _ => HSS) ?_
        clear hK K
        simp only [Act.put, List.setIfInBounds_toArray, List.set_cons_zero, List.set_cons_succ]
        refine reg_step (i := 7) rfl (by kernel_rfl) (fun K hK => ?_)
        refine wp_call (n := 13) (vals := [.slice A2 x.2.2.1.length c2]) rfl rfl rfl (by kernel_rfl) (l1Entries_calls (HR2.out.mod (w' := (w5.alloc (.cells zDisk.toArray 27))) (fun _ h => h) (fun k hk => (HMr.out.transN HSS.out).block k hk id)) (by omega)) ?_
        intro e w6 hret
        obtain ⟨B2, e2, rfl, hm2⟩ := hret.mine
        have HShm2 := Sec.mk hm2
        have HSS : Sec (New wz w6) := ⟨HSS.out.transN hm2.new⟩
        refine ⟨_, rfl, hK.out _ _ (fun _ => HSS) ?_⟩
        clear hret hm2
        clear hK K
        simp only [Act.put, List.setIfInBounds_toArray, List.set_cons_zero, List.set_cons_succ]
        refine reg_take (.agg #[.slice none 0 0, .slice B1 x.2.1.length e1, .slice B2 x.2.2.1.length e2, .slice none 0 0, .int .i64 x.2.2.2.2]) (i := 8) (n := 14) HSS rfl (by kernel_rfl) (by kernel_rfl) (by kernel_rfl) (by kernel_rfl) (fun _ _ _ h => h) (fun W hW => exec_build (parts := [(4, .tmp 7), (1, .tmp 10), (2, .tmp 13)]) rfl rfl (bldCopy _ _ _ _ _ _ _ _)) ?_
        simp only [Act.put, List.setIfInBounds_toArray, List.set_cons_zero, List.set_cons_succ]
        refine reg_step (i := 10) rfl (by kernel_rfl) (fun K hK => ?_)
        have HBF := Sec.mk (HBG.out.mod HShm2.out.new id)
        refine wp_store rfl rfl rfl rfl (stDisk HBF.out none B1 B2 none 0 0 x.2.1.length e1 x.2.2.1.length e2 0 0 x.2.2.2.2) (hK.out _ _ (fun h => absurd (List.mem_singleton.2 rfl) h) ?_)
        clear hK K
        refine reg_done (by kernel_rfl) ?_ _
        obtain ⟨⟨F1, p1, hF1⟩, n1⟩ := HShm1.out
        obtain ⟨⟨F2, p2, hF2⟩, n2⟩ := HShm2.out
        have hs1 := n1.size
        have hs2 := n2.size
        have l1 := p1.lt
        have l2 := p2.lt
        have hsz := HSS.out.size
        go_wp2
        go_meet
        refine ⟨w5.heap.size, B1, B2, e1, e2, rfl, by first | omega | (simp at *; omega) | exact Nat.le_refl _, ⟨set5_blk (w := w6) HBF.out _ _ _ _ _⟩, ⟨copyOut (W := w6) (m := w5.heap.size) ⟨F1, (p1.keep ((Mod.refl (fun _ => False) w5).alloc _) (fun _ _ h => h)).keep n2 (fun _ _ h => h), fun k hk => by have := hF1 k hk; have := l1 k hk; first | omega | (simp at *; omega)⟩ ⟨F2, p2, fun k hk => by have := hF2 k hk; have := l2 k hk; first | omega | (simp at *; omega)⟩ HQW.out⟩, ⟨?_⟩⟩
        exact HSS.out.trans (set5_mod (w6) (w5.heap.size) (.slice none 0 0) (.slice B1 x.2.1.length e1) (.slice B2 x.2.2.1.length e2) (.slice none 0 0) (.int .i64 x.2.2.2.2)) (fun i hi hlt => by first | omega | (simp at *; omega))
    · refine wp_valw (n := 3) (v := .pointer (some ⟨wz.drew.heap.size, 0, none⟩)) (w' := wz.drew.alloc (.cells zDisk.toArray 27)) (exec_allocDisk rfl) rfl ?_
      have HSS : Sec (New wz (wz.drew.alloc (.cells zDisk.toArray 27))) := ⟨HSS.out.alloc _⟩
      have HBG := Sec.mk (Blk.new wz.drew 27 zDisk)
      refine hK.out _ _ (fun _ => HSS) ?_
      clear hK K
      simp only [Act.put, List.setIfInBounds_toArray, List.set_cons_zero, List.set_cons_succ]
      refine reg_step (i := 4) rfl (by kernel_rfl) (fun K hK => ?_)
      refine wp_call (n := 10) (vals := [.slice A1 x.2.1.length c1]) rfl rfl rfl (by kernel_rfl) (l1Entries_calls (HR1.out.mod (w' := (wz.drew.alloc (.cells zDisk.toArray 27))) (fun _ h => h) (fun k hk => (HMr.out.transN HSS.out).block k hk id)) (by omega)) ?_
      intro e w5 hret
      obtain ⟨B1, e1, rfl, hm1⟩ := hret.mine
      have HShm1 := Sec.mk hm1
      have HSS : Sec (New wz w5) := ⟨HSS.out.transN hm1.new⟩
      refine ⟨_, rfl, hK.out _ _ (fun _ => HSS) ?_⟩
      clear hret hm1
      clear hK K
      simp only [Act.put, List.setIfInBounds_toArray, List.set_cons_zero, List.set_cons_succ]
      refine reg_step (i := 7) rfl (by kernel_rfl) (fun K hK => ?_)
      refine wp_call (n := 13) (vals := [.slice A2 x.2.2.1.length c2]) rfl rfl rfl (by kernel_rfl) (l1Entries_calls (HR2.out.mod (w' := w5) (fun _ h => h) (fun k hk => (HMr.out.transN HSS.out).block k hk id)) (by omega)) ?_
      intro e w6 hret
      obtain ⟨B2, e2, rfl, hm2⟩ := hret.mine
      have HShm2 := Sec.mk hm2
      have HSS : Sec (New wz w6) := ⟨HSS.out.transN hm2.new⟩
      refine ⟨_, rfl, hK.out _ _ (fun _ => HSS) ?_⟩
      clear hret hm2
      clear hK K
      simp only [Act.put, List.setIfInBounds_toArray, List.set_cons_zero, List.set_cons_succ]
      refine reg_take (.agg #[.slice none 0 0, .slice B1 x.2.1.length e1, .slice B2 x.2.2.1.length e2, .slice none 0 0, .int .i64 x.2.2.2.2]) (i := 8) (n := 14) HSS rfl (by kernel_rfl) (by kernel_rfl) (by kernel_rfl) (by kernel_rfl) (fun _ _ _ h => h) (fun W hW => exec_build (parts := [(4, .tmp 7), (1, .tmp 10), (2, .tmp 13)]) rfl rfl (bldCopy _ _ _ _ _ _ _ _)) ?_
      simp only [Act.put, List.setIfInBounds_toArray, List.set_cons_zero, List.set_cons_succ]
      refine reg_step (i := 10) rfl (by kernel_rfl) (fun K hK => ?_)
      have HBF := Sec.mk ((HBG.out.mod HShm1.out.new id).mod HShm2.out.new id)
      refine wp_store rfl rfl rfl rfl (stDisk HBF.out none B1 B2 none 0 0 x.2.1.length e1 x.2.2.1.length e2 0 0 x.2.2.2.2) (hK.out _ _ (fun h => absurd (List.mem_singleton.2 rfl) h) ?_)
      clear hK K
      refine reg_done (by kernel_rfl) ?_ _
      obtain ⟨⟨F1, p1, hF1⟩, n1⟩ := HShm1.out
      obtain ⟨⟨F2, p2, hF2⟩, n2⟩ := HShm2.out
      have hs1 := n1.size
      have hs2 := n2.size
      have l1 := p1.lt
      have l2 := p2.lt
      have hsz := HSS.out.size
      go_wp2
      go_meet
      refine ⟨wz.heap.size, B1, B2, e1, e2, rfl, by first | omega | (simp at *; omega) | exact Nat.le_refl _, ⟨set5_blk (w := w6) HBF.out _ _ _ _ _⟩, ⟨copyOut (W := w6) (m := w5.heap.size) ⟨F1, p1.keep n2 (fun _ _ h => h), fun k hk => by have := hF1 k hk; have := l1 k hk; first | omega | (simp at *; omega)⟩ ⟨F2, p2, fun k hk => by have := hF2 k hk; have := l2 k hk; first | omega | (simp at *; omega)⟩ HQW.out⟩, ⟨?_⟩⟩
      exact HSS.out.trans (set5_mod (w6) (wz.heap.size) (.slice none 0 0) (.slice B1 x.2.1.length e1) (.slice B2 x.2.2.1.length e2) (.slice none 0 0) (.int .i64 x.2.2.2.2)) (fun i hi hlt => by first | omega | (simp at *; omega))
  case rest =>
    obtain ⟨g, B1, B2, e1, e2, rfl, hg, HBG, HO, HMc⟩ := hcut
    have hgl := HBG.out.lt
    have hsc := HMc.out.size
    have HBd := Sec.mk (HBr.out.mod HMc.out id)
    have HR3c := Sec.mk (HR3.out.mod (w' := wc) (fun _ h => h) (fun k hk => (HMr.out.transN HMc.out).block k hk id))
    have b3 : wc.cell? ⟨g, 3, none⟩ = some (.slice none 0 0) := HBG.out.cell 3
    have d3 : wc.cell? ⟨w.heap.size, 3, none⟩ = some (.slice A3 x.2.2.2.1.length c3) := HBd.out.cell 3
    go_wp2_with (at_builtin; go_loud (refine Out4.list3 _ rfl (.tmp 16) (.tmp 18) _ rfl Tryd.underlying25 rfl rfl HO.out HR3c.out (fun k hk => ⟨by omega, by omega⟩) (show ([] : DirOpST).length + x.2.2.2.1.length ≤ 34359738368 by simp; omega) ?_; intro B3 m3 e3 w3 h3 hm3; have HO3 := Sec.mk h3; have HG3 := Sec.mk (HBG.out.mod hm3 (fun h => h.2 rfl)); have HM3 := Sec.mk ((HMr.out.transN HMc.out).trans hm3 (fun i hi hlt => by omega)); have HD3 := Sec.mk (HBd.out.mod hm3 (by omega)); have HQ3 := Sec.mk ((HCr.out.mod HMc.out id).mod hm3 (by omega)); have hs3 := hm3.size; clear h3 hm3; have b3' : w3.cell? ⟨g, 3, none⟩ = some (.slice none 0 0) := HG3.out.cell 3; have bf' : w3.frozen? ⟨g, 3, none⟩ = false := HG3.out.frozen 3; have hg3 : g < w3.heap.size := (by omega); have hw3 : w.heap.size < w3.heap.size := (by omega); have d0 : w3.cell? ⟨w.heap.size, 0, none⟩ = some (.slice A0 x.1.length c0) := HD3.out.cell 0))
    have HG4 := Sec.mk (HG3.out.set_ 3 (.slice B3 m3 e3))
    have HD4 := Sec.mk (HD3.out.far (p := ⟨g, 3, none⟩) (by show w.heap.size ≠ g; omega) (.slice B3 m3 e3))
    have HQ4 := Sec.mk (HQ3.out.far (p := ⟨g, 3, none⟩) (by show w.heap.size + 1 ≠ g; omega) (.slice B3 m3 e3))
    have HM4 := Sec.mk (HM3.out.setCell (p := ⟨g, 3, none⟩) (fun h => by exfalso; simp only at h; have := HMr.out.size; omega) (.slice B3 m3 e3))
    have HO4 := Sec.mk (HO3.out.keep ((Mod.refl (fun k => k = g) w3).setCell (p := ⟨g, 3, none⟩) (fun _ => rfl) (.slice B3 m3 e3)) (fun k h e => h.2 e))
    simp only [List.set_cons_zero, List.set_cons_succ] at HG4
    have hs4 : (w3.setCell ⟨g, 3, none⟩ (.slice B3 m3 e3)).heap.size = w3.heap.size := by simp [World.setCell]
    have hg4 : g < (w3.setCell ⟨g, 3, none⟩ (.slice B3 m3 e3)).heap.size := by omega
    clear HG3 HD3 HQ3 HM3 HO3 b3' bf' d0 b3 d3 HBG HO HBd HR3c hs4 hg3 hw3 hs3
    generalize w3.setCell ⟨g, 3, none⟩ (.slice B3 m3 e3) = w4 at *
    go_loopw [24] (fun i wr => ∃ (k : Nat) (B0 : Option Addr) (m0 e0 : Nat), k ≤ x.1.length ∧ i = .int .i64 (k : Int) ∧ Sec (Blk wr g 27 [.slice B0 m0 e0, .slice B1 x.2.1.length e1, .slice B2 x.2.2.1.length e2, .slice B3 m3 e3, .int .i64 x.2.2.2.2]) ∧ Sec (Out4 (fun k => wz.heap.size ≤ k ∧ k ≠ g) wr (.slice B0 m0 e0) (.slice B1 x.2.1.length e1) (.slice B2 x.2.2.1.length e2) (.slice B3 m3 e3) (x.1.take k, x.2.1, x.2.2.1, [] ++ x.2.2.2.1, x.2.2.2.2)) ∧ Sec (Blk wr w.heap.size 27 [.slice A0 x.1.length c0, .slice A1 x.2.1.length c1, .slice A2 x.2.2.1.length c2, .slice A3 x.2.2.2.1.length c3, .int .i64 x.2.2.2.2]) ∧ Sec (Blk wr (w.heap.size + 1) 27 [.slice none 0 0, .slice none 0 0, .slice none 0 0, .slice none 0 0, .int .i64 0]) ∧ Sec (New w wr)) (fun i _ => x.1.length - (intOf i).toNat)
    case atStart => exact ⟨0, none, 0, 0, Nat.zero_le _, rfl, HG4, ⟨by rw [List.take_zero]; exact HO4.out⟩, HD4, HQ4, HM4⟩
    case round =>
      clear HG4 HD4 HQ4 HM4 HO4
      obtain ⟨k, B0, m0, e0, hk', rfl, HGB, H3, HD, HQq, HMw⟩ := hrel
      have hgr := HGB.out.lt
      have hwr := HD.out.lt
      have hsz0 := HMr.out.size
      by_cases hlt : k < x.1.length
      · obtain ⟨bd, An, cn, hA0, n0, n1, hcc, hcm, hrow, hw⟩ := node_at (HR0.out.mod (w' := wr) (fun _ h => h) (fun k hk => HMw.out.block k hk id)) (w' := wr) (fun _ _ => rfl) hlt
        subst hA0
        have hki : (k : Int) < (x.1.length : Int) := by omega
        have HTK : Sec (x.1.take (k + 1) = x.1.take k ++ [x.1[k]]) := ⟨List.take_succ_eq_append_getElem hlt⟩
        have hdl := HNO.out _ (List.getElem_mem hlt)
        have hlk : (x.1.take k).length = k := by rw [List.length_take]; omega
        have HLK := Sec.mk hlk
        have HRW := Sec.mk hrow
        have HWP := Sec.mk hw
        clear hrow hw hlk
        have HPX : Sec (∃ z : NodeT, z = x.1[k]) := ⟨⟨_, rfl⟩⟩
        obtain ⟨z, hz⟩ := HPX.out
        rw [← hz] at n0 n1 hcc HRW HWP HTK hdl
        clear hz HPX
        obtain ⟨dat, safe⟩ := z
        simp only at n0 n1 hcc hdl
        have HMN : Sec (New wr (wr.alloc (.cells #[.slice An dat.length cn, .int .i64 safe] 49))) := ⟨(Mod.refl _ _).alloc _⟩
        have HGN := Sec.mk (HGB.out.mod HMN.out id)
        have HNN := Sec.mk (Blk.new wr 49 [.slice An dat.length cn, .int .i64 safe])
        have H3N := Sec.mk ((H3.out.wide (X' := fun k => (wz.heap.size ≤ k ∧ k ≠ g) ∧ k < wr.heap.size) (fun k h1 h2 => ⟨h2, h1⟩)).new HMN.out)
        have HRB := Sec.mk (HRW.out.mod (w' := wr.alloc (.cells #[.slice An dat.length cn, .int .i64 safe] 49)) (fun _ h => h) (fun k hk => Below.heap_alloc _ _ _ (Nat.lt_of_lt_of_le hk (Nat.le_of_lt hwr))))
        have hsn : wr.heap.size < (wr.alloc (.cells #[.slice An dat.length cn, .int .i64 safe] 49)).heap.size := by simp
        go_wp2
        clear n0 n1 HRW
        generalize wr.alloc (.cells #[.slice An dat.length cn, .int .i64 safe] 49) = wn at *
        refine reg_start [11] (fun W => Sec (W.cell? ⟨g, 0, none⟩ = some (.slice B0 m0 e0) ∧ W.cell? ⟨wr.heap.size, 0, none⟩ = some (.slice An dat.length cn) ∧ W.cell? ⟨wr.heap.size, 1, none⟩ = some (.int .i64 safe))) (by kernel_rfl) ?_
        have HSS : Sec (wn.drew.cell? ⟨g, 0, none⟩ = some (.slice B0 m0 e0) ∧ wn.drew.cell? ⟨wr.heap.size, 0, none⟩ = some (.slice An dat.length cn) ∧ wn.drew.cell? ⟨wr.heap.size, 1, none⟩ = some (.int .i64 safe)) := ⟨HGN.out.cell 0, HNN.out.cell 0, HNN.out.cell 1⟩
        refine reg_take (.pointer (some ⟨g, 0, none⟩)) (i := 0) (n := 28) HSS rfl (by kernel_rfl) (by kernel_rfl) (by kernel_rfl) (by kernel_rfl) (fun _ _ _ h => h) (fun W hW => exec_field rfl rfl (fptDisk0 _ _)) ?_
        simp only [Act.put, List.setIfInBounds_toArray, List.set_cons_zero, List.set_cons_succ]
        refine reg_take (.slice B0 m0 e0) (i := 1) (n := 29) HSS rfl (by kernel_rfl) (by kernel_rfl) (by kernel_rfl) (by kernel_rfl) (fun _ _ _ h => h) (fun W hW => exec_load rfl rfl (ldNodesD hW.out.1)) ?_
        simp only [Act.put, List.setIfInBounds_toArray, List.set_cons_zero, List.set_cons_succ]
        refine reg_take (.pointer (some ⟨wr.heap.size, 0, none⟩)) (i := 2) (n := 30) HSS rfl (by kernel_rfl) (by kernel_rfl) (by kernel_rfl) (by kernel_rfl) (fun _ _ _ h => h) (fun W hW => exec_field rfl rfl (fptNode0D _ _)) ?_
        simp only [Act.put, List.setIfInBounds_toArray, List.set_cons_zero, List.set_cons_succ]
        refine reg_take (.slice An dat.length cn) (i := 3) (n := 31) HSS rfl (by kernel_rfl) (by kernel_rfl) (by kernel_rfl) (by kernel_rfl) (fun _ _ _ h => h) (fun W hW => exec_load rfl rfl (ldBytesD hW.out.2.1)) ?_
        simp only [Act.put, List.setIfInBounds_toArray, List.set_cons_zero, List.set_cons_succ]
        refine reg_take (.pointer (some ⟨wr.heap.size, 1, none⟩)) (i := 5) (n := 33) HSS rfl (by kernel_rfl) (by kernel_rfl) (by kernel_rfl) (by kernel_rfl) (fun _ _ _ h => h) (fun W hW => exec_field rfl rfl (fptNode1D _ _)) ?_
        simp only [Act.put, List.setIfInBounds_toArray, List.set_cons_zero, List.set_cons_succ]
        refine reg_take (.int .i64 safe) (i := 6) (n := 34) HSS rfl (by kernel_rfl) (by kernel_rfl) (by kernel_rfl) (by kernel_rfl) (fun _ _ _ h => h) (fun W hW => exec_load rfl rfl (ldIntD hW.out.2.2)) ?_
        simp only [Act.put, List.setIfInBounds_toArray, List.set_cons_zero, List.set_cons_succ]
        refine reg_step (i := 4) rfl (by kernel_rfl) (fun K hK => ?_)
        refine wp_call (n := 32) (vals := [.slice An dat.length cn]) rfl rfl rfl (by kernel_rfl) (l1Bytes_at (HRB.out.mod (w' := wn.drew) (fun _ h => h) (fun _ _ => rfl)) (fun k hk => by show k < wn.heap.size; omega) (by omega)) ?_
        intro e w5 hret
        obtain ⟨A5, c5, rfl, hmine⟩ := hret.mine
        have HN5 : Sec (New wn w5) := ⟨((Mod.refl _ _).drew).transN hmine.new⟩
        have HMN5 := Sec.mk (hmine.base (w0 := wn) (Mod.refl _ _).drew)
        have HSS : Sec (w5.cell? ⟨g, 0, none⟩ = some (.slice B0 m0 e0) ∧ w5.cell? ⟨wr.heap.size, 0, none⟩ = some (.slice An dat.length cn) ∧ w5.cell? ⟨wr.heap.size, 1, none⟩ = some (.int .i64 safe)) := ⟨(HGN.out.mod HN5.out id).cell 0, (HNN.out.mod HN5.out id).cell 0, (HNN.out.mod HN5.out id).cell 1⟩
        refine ⟨_, rfl, hK.out _ _ (fun _ => HSS) ?_⟩
        clear hret hmine
        clear hK K
        simp only [Act.put, List.setIfInBounds_toArray, List.set_cons_zero, List.set_cons_succ]
        refine reg_take (.agg #[.slice A5 dat.length c5, .int .i64 safe]) (i := 7) (n := 35) HSS rfl (by kernel_rfl) (by kernel_rfl) (by kernel_rfl) (by kernel_rfl) (fun _ _ _ h => h) (fun W hW => exec_build (parts := [(0, .tmp 32), (1, .tmp 34)]) rfl rfl (bldNode _ _ _ _ _)) ?_
        simp only [Act.put, List.setIfInBounds_toArray, List.set_cons_zero, List.set_cons_succ]
        refine reg_step (i := 8) rfl (by kernel_rfl) (fun K hK => ?_)
        refine wp_valw (n := 36) (v := .slice (some ⟨w5.heap.size, 0, none⟩) 1 1) (w' := w5.alloc (.cells #[.slice A5 dat.length c5, .int .i64 safe] 49)) (exec_buildSlice (parts := [(0, .tmp 35)]) (vs := [(0, .agg #[.slice A5 dat.length c5, .int .i64 safe])]) rfl rfl (bldNode1 _ _ _ _ _)) rfl ?_
        have HN6 := Sec.mk (HN5.out.alloc (.cells #[.slice A5 dat.length c5, .int .i64 safe] 49))
        have HSS : Sec ((w5.alloc (.cells #[.slice A5 dat.length c5, .int .i64 safe] 49)).cell? ⟨g, 0, none⟩ = some (.slice B0 m0 e0) ∧ (w5.alloc (.cells #[.slice A5 dat.length c5, .int .i64 safe] 49)).cell? ⟨wr.heap.size, 0, none⟩ = some (.slice An dat.length cn) ∧ (w5.alloc (.cells #[.slice A5 dat.length c5, .int .i64 safe] 49)).cell? ⟨wr.heap.size, 1, none⟩ = some (.int .i64 safe)) := ⟨(HGN.out.mod HN6.out id).cell 0, (HNN.out.mod HN6.out id).cell 0, (HNN.out.mod HN6.out id).cell 1⟩
        refine hK.out _ _ (fun _ => HSS) ?_
        clear hK K
        simp only [Act.put, List.setIfInBounds_toArray, List.set_cons_zero, List.set_cons_succ]
        refine reg_step (i := 9) rfl (by kernel_rfl) (fun K hK => ?_)
        obtain ⟨⟨F5, ho5, hF5⟩, -⟩ := HMN5.out
        have hs5 := HN5.out.size
        refine Out4.wp0 (X := fun k => wz.heap.size ≤ k ∧ k ≠ g ∧ k ≠ wr.heap.size) _ (.tmp 29) (.tmp 36) _ rfl Tryd.underlying23 rfl rfl (H3N.out.new HN6.out) (y := (dat, safe)) (mNode (x := (dat, safe)) HWP.out (ho5.keep ((Mod.refl (fun _ => False) w5).alloc _) (fun _ _ h => h))) (fun k hk => by have := hF5 k (by simpa using hk); omega) (lit_cells _ _ _ rfl) (fun k hk => by omega) (fun k hk => by simp at hk; omega) (by have := HLK.out; simp only at this ⊢; omega) ?_
        intro A7 n7 c7 w7 h7 hm7
        have H7 := Sec.mk h7
        have HG7 := Sec.mk ((HGN.out.mod HN6.out id).mod hm7 (by omega))
        have HNN7 := Sec.mk ((HNN.out.mod HN6.out id).mod hm7 (by omega))
        have HD7 := Sec.mk (((HD.out.mod HMN.out id).mod HN6.out id).mod hm7 (by omega))
        have HQ7 := Sec.mk (((HQq.out.mod HMN.out id).mod HN6.out id).mod hm7 (by omega))
        have HW7 := Sec.mk (((HMw.out.transN HMN.out).transN HN6.out).trans hm7 (fun i hi hlt => by omega))
        have HSS : Sec (w7.cell? ⟨g, 0, none⟩ = some (.slice B0 m0 e0) ∧ w7.cell? ⟨wr.heap.size, 0, none⟩ = some (.slice An dat.length cn) ∧ w7.cell? ⟨wr.heap.size, 1, none⟩ = some (.int .i64 safe)) := ⟨HG7.out.cell 0, HNN7.out.cell 0, HNN7.out.cell 1⟩
        refine hK.out _ _ (fun _ => HSS) ?_
        clear h7 hm7 ho5 hF5
        clear hK K
        simp only [Act.put, List.setIfInBounds_toArray, List.set_cons_zero, List.set_cons_succ]
        refine reg_take (.pointer (some ⟨g, 0, none⟩)) (i := 10) (n := 38) HSS rfl (by kernel_rfl) (by kernel_rfl) (by kernel_rfl) (by kernel_rfl) (fun _ _ _ h => h) (fun W hW => exec_field rfl rfl (fptDisk0 _ _)) ?_
        simp only [Act.put, List.setIfInBounds_toArray, List.set_cons_zero, List.set_cons_succ]
        refine reg_step (i := 11) rfl (by kernel_rfl) (fun K hK => ?_)
        refine wp_store rfl rfl rfl rfl (stNodesC A7 n7 c7 (HG7.out.cell 0) (HG7.out.frozen 0)) (hK.out _ _ (fun h => absurd (List.mem_singleton.2 rfl) h) ?_)
        clear hK K
        refine reg_done (by kernel_rfl) ?_ _
        have HG8 := Sec.mk (HG7.out.set_ 0 (.slice A7 n7 c7))
        simp only [List.set_cons_zero] at HG8
        have H8 := Sec.mk ((H7.out.wide (X' := fun k => wz.heap.size ≤ k ∧ k ≠ g) (fun k _ h => ⟨h.1, h.2.1⟩)).keep ((Mod.refl (fun k => k = g) w7).setCell (p := ⟨g, 0, none⟩) (fun _ => rfl) (.slice A7 n7 c7)) (fun k h e => h.2 e))
        have HD8 := Sec.mk (HD7.out.far (p := ⟨g, 0, none⟩) (by show w.heap.size ≠ g; omega) (.slice A7 n7 c7))
        have HQ8 := Sec.mk (HQ7.out.far (p := ⟨g, 0, none⟩) (by show w.heap.size + 1 ≠ g; omega) (.slice A7 n7 c7))
        have HW8 := Sec.mk (HW7.out.setCell (p := ⟨g, 0, none⟩) (fun h => by exfalso; simp only at h; omega) (.slice A7 n7 c7))
        clear HSS HG7 HNN7 HD7 HQ7 HW7 H7
        go_wp2
        go_roundw
        case rel =>
          refine ⟨k + 1, A7, n7, c7, by omega, by go_num, HG8, ⟨?_⟩, HD8, HQ8, HW8⟩
          rw [HTK.out]
          exact H8.out
        case measure => simp [intOf]; omega
      · obtain rfl : k = x.1.length := by omega
        have m0' : wr.cell? ⟨g, 0, none⟩ = some (.slice B0 m0 e0) := HGB.out.cell 0
        have m1' : wr.cell? ⟨g, 1, none⟩ = some (.slice B1 x.2.1.length e1) := HGB.out.cell 1
        have m2' : wr.cell? ⟨g, 2, none⟩ = some (.slice B2 x.2.2.1.length e2) := HGB.out.cell 2
        have m3' : wr.cell? ⟨g, 3, none⟩ = some (.slice B3 m3 e3) := HGB.out.cell 3
        have m4' : wr.cell? ⟨g, 4, none⟩ = some (.int .i64 x.2.2.2.2) := HGB.out.cell 4
        have q0 : wr.cell? ⟨w.heap.size + 1, 0, none⟩ = some (.slice none 0 0) := HQq.out.cell 0
        have q1 : wr.cell? ⟨w.heap.size + 1, 1, none⟩ = some (.slice none 0 0) := HQq.out.cell 1
        have q2 : wr.cell? ⟨w.heap.size + 1, 2, none⟩ = some (.slice none 0 0) := HQq.out.cell 2
        have q3 : wr.cell? ⟨w.heap.size + 1, 3, none⟩ = some (.slice none 0 0) := HQq.out.cell 3
        have q4 : wr.cell? ⟨w.heap.size + 1, 4, none⟩ = some (.int .i64 0) := HQq.out.cell 4
        have f0 : wr.frozen? ⟨w.heap.size + 1, 0, none⟩ = false := HQq.out.frozen 0
        have f1 : wr.frozen? ⟨w.heap.size + 1, 1, none⟩ = false := HQq.out.frozen 1
        have f2 : wr.frozen? ⟨w.heap.size + 1, 2, none⟩ = false := HQq.out.frozen 2
        have f3 : wr.frozen? ⟨w.heap.size + 1, 3, none⟩ = false := HQq.out.frozen 3
        have f4 : wr.frozen? ⟨w.heap.size + 1, 4, none⟩ = false := HQq.out.frozen 4
        have hlq : w.heap.size + 1 < wr.heap.size := HQq.out.lt
        have H3' := H3.out
        rw [List.take_length, List.nil_append] at H3'
        have HFB := Sec.mk (set5_blk HQq.out (.slice B0 m0 e0) (.slice B1 x.2.1.length e1) (.slice B2 x.2.2.1.length e2) (.slice B3 m3 e3) (.int .i64 x.2.2.2.2))
        have HFM := Sec.mk (set5_mod wr (w.heap.size + 1) (.slice B0 m0 e0) (.slice B1 x.2.1.length e1) (.slice B2 x.2.2.1.length e2) (.slice B3 m3 e3) (.int .i64 x.2.2.2.2))
        have H4 := Sec.mk (H3'.keep HFM.out (fun k h e => by omega))
        have HM5 := Sec.mk (HMw.out.trans HFM.out (fun i hi hlt => by omega))
        clear H3'
        go_wp2
        refine bodyPost_ret (results_blk rfl rfl HFB.out Tryd.underlying27 (by kernel_rfl)) rfl ?_
        exact ⟨_, _, _, _, rfl, H4.out.wide (fun k _ h => by omega), HM5.out⟩
end Go.Proofs.YtkkgighgnbbgiaaDoor
