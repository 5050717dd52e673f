/- The program's copy of a disk. -/
import Derived.Test.YtkkgighgnbbgiaaDoorPk15
namespace Go.Proofs.YtkkgighgnbbgiaaDoor
open Go.RowKit Mem
set_option linter.unusedVariables false
set_option linter.unusedSimpArgs false
theorem in4_nil (lo : Nat) (w : World) : In4B lo w [] [] [] [] := by
  refine ⟨⟨fun k hk => ?_, fun k hk => ?_, fun k hk => ?_⟩, fun k hk => ?_⟩
  · cases hk
  · cases hk
  · cases hk
  · rcases hk with hk | hk | hk | hk <;> cases hk
theorem bldBytes0I (w : World) : (Instr.buildSlice 22 0 #[]).run Tryd.prog w = .ok (.slice (some ⟨w.heap.size, 0, none⟩) 0 0) (w.alloc (.cells #[] 5)) := by go_simp
set_option maxHeartbeats 8000000 in
set_option maxRecDepth 100000 in
theorem copyI_v {w : World} {v : Value} {x : DiskT} {N : Nat} (h : RdV true dDisk w v x) (hI : DInv N x) (hN : N ≤ 100000) (hk : x.2.2.1.length ≤ 100000) : Calls Tryd.prog 19 #[v] w (RetD w x) := by
  have HQW := Sec.mk (okDisk h)
  have HNO := Sec.mk hI.len
  have hn1 := hI.names
  have hn0 := hI.nodes
  have hn3 := hI.pend
  clear hI
  obtain ⟨v0, v1, v2, v3, rfl, k0, k1, k2, k3⟩ := rdDisk h
  obtain ⟨A0, c0, rfl, hc0, hr0⟩ := k0.slice
  obtain ⟨A1, c1, rfl, hc1, hr1⟩ := k1.slice
  obtain ⟨A2, c2, rfl, hc2, hr2⟩ := k2.slice
  obtain ⟨A3, c3, rfl, hc3, hr3⟩ := k3.slice
  have HR0 := Sec.mk hr0
  have HR1 := Sec.mk hr1
  have HR2 := Sec.mk hr2
  have HR3 := Sec.mk hr3
  have HBr := Sec.mk ((Blk.new w 27 [.slice A0 x.1.length c0, .slice A1 x.2.1.length c1, .slice A2 x.2.2.1.length c2, .slice A3 x.2.2.2.1.length c3, .int .i64 x.2.2.2.2]).alloc (.cells #[.slice none 0 0, .slice none 0 0, .slice none 0 0, .slice none 0 0, .int .i64 0] 27))
  have HBC := Blk.new (w.alloc (.cells #[.slice A0 x.1.length c0, .slice A1 x.2.1.length c1, .slice A2 x.2.2.1.length c2, .slice A3 x.2.2.2.1.length c3, .int .i64 x.2.2.2.2] 27)) 27 [.slice none 0 0, .slice none 0 0, .slice none 0 0, .slice none 0 0, .int .i64 0]
  have HMr := Sec.mk (((Mod.refl (fun _ => False) w).alloc (.cells #[.slice A0 x.1.length c0, .slice A1 x.2.1.length c1, .slice A2 x.2.2.1.length c2, .slice A3 x.2.2.2.1.length c3, .int .i64 x.2.2.2.2] 27)).alloc (.cells #[.slice none 0 0, .slice none 0 0, .slice none 0 0, .slice none 0 0, .int .i64 0] 27))
  have HCr : Sec (Blk ((w.alloc (.cells #[.slice A0 x.1.length c0, .slice A1 x.2.1.length c1, .slice A2 x.2.2.1.length c2, .slice A3 x.2.2.2.1.length c3, .int .i64 x.2.2.2.2] 27)).alloc (.cells #[.slice none 0 0, .slice none 0 0, .slice none 0 0, .slice none 0 0, .int .i64 0] 27)) (w.heap.size + 1) 27 [.slice none 0 0, .slice none 0 0, .slice none 0 0, .slice none 0 0, .int .i64 0]) := ⟨by simpa using HBC⟩
  clear h k0 k1 k2 k3 hr0 hr1 hr2 hr3 HBC
  go_enter Tryd.func19, Tryd.ntmps19
  go_upto_region 1 with (fail)
  generalize ((w.alloc (.cells #[.slice A0 x.1.length c0, .slice A1 x.2.1.length c1, .slice A2 x.2.2.1.length c2, .slice A3 x.2.2.2.1.length c3, .int .i64 x.2.2.2.2] 27)).alloc (.cells #[.slice none 0 0, .slice none 0 0, .slice none 0 0, .slice none 0 0, .int .i64 0] 27)) = wz at *
  have hwz := HCr.out.lt
  have hwz' := HBr.out.lt
  go_cut [3] (fun p wx => ∃ (g : Nat) (B1 B2 B3 : Option Addr) (m1 e1 m2 e2 m3 e3 : Nat), p = .pointer (some ⟨g, 0, none⟩) ∧ wz.heap.size ≤ g ∧ Sec (Blk wx g 27 [.slice none 0 0, .slice B1 m1 e1, .slice B2 m2 e2, .slice B3 m3 e3, .int .i64 x.2.2.2.2]) ∧ Sec (Out4 (fun k => wz.heap.size ≤ k ∧ k ≠ g) wx (.slice none 0 0) (.slice B1 m1 e1) (.slice B2 m2 e2) (.slice B3 m3 e3) ([], x.2.1, x.2.2.1, x.2.2.2.1, x.2.2.2.2)) ∧ Sec (New wz wx))
  case first =>
    refine reg_start [16] (fun W => Sec (New wz W)) (by kernel_rfl) ?_
    have HSS : Sec (New wz wz.drew) := ⟨(Mod.refl _ _).drew⟩
    refine reg_take (.pointer (some ⟨w.heap.size, 1, none⟩)) (i := 1) (n := 7) HSS rfl (by kernel_rfl) (by kernel_rfl) (by kernel_rfl) (by kernel_rfl) (fun _ _ _ h => h) (fun W hW => exec_field rfl rfl (fptDisk1 _ _)) ?_
    simp only [Act.put, List.setIfInBounds_toArray, List.set_cons_zero, List.set_cons_succ]
    refine reg_take (.slice A1 x.2.1.length c1) (i := 2) (n := 8) HSS rfl (by kernel_rfl) (by kernel_rfl) (by kernel_rfl) (by kernel_rfl) (fun _ _ _ h => h) (fun W hW => exec_load rfl rfl (ldEntsD ((HBr.out.mod hW.out id).cell 1))) ?_
    simp only [Act.put, List.setIfInBounds_toArray, List.set_cons_zero, List.set_cons_succ]
    refine reg_take (.pointer (some ⟨w.heap.size, 2, none⟩)) (i := 5) (n := 11) HSS rfl (by kernel_rfl) (by kernel_rfl) (by kernel_rfl) (by kernel_rfl) (fun _ _ _ h => h) (fun W hW => exec_field rfl rfl (fptDisk2 _ _)) ?_
    simp only [Act.put, List.setIfInBounds_toArray, List.set_cons_zero, List.set_cons_succ]
    refine reg_take (.slice A2 x.2.2.1.length c2) (i := 6) (n := 12) HSS rfl (by kernel_rfl) (by kernel_rfl) (by kernel_rfl) (by kernel_rfl) (fun _ _ _ h => h) (fun W hW => exec_load rfl rfl (ldEntsD ((HBr.out.mod hW.out id).cell 2))) ?_
    simp only [Act.put, List.setIfInBounds_toArray, List.set_cons_zero, List.set_cons_succ]
    refine reg_take (.pointer (some ⟨w.heap.size, 3, none⟩)) (i := 9) (n := 15) HSS rfl (by kernel_rfl) (by kernel_rfl) (by kernel_rfl) (by kernel_rfl) (fun _ _ _ h => h) (fun W hW => exec_field rfl rfl (fptDisk3 _ _)) ?_
    simp only [Act.put, List.setIfInBounds_toArray, List.set_cons_zero, List.set_cons_succ]
    refine reg_take (.slice A3 x.2.2.2.1.length c3) (i := 10) (n := 16) HSS rfl (by kernel_rfl) (by kernel_rfl) (by kernel_rfl) (by kernel_rfl) (fun _ _ _ h => h) (fun W hW => exec_load rfl rfl (ldDopsI ((HBr.out.mod hW.out id).cell 3))) ?_
    simp only [Act.put, List.setIfInBounds_toArray, List.set_cons_zero, List.set_cons_succ]
    refine reg_take (.pointer (some ⟨w.heap.size, 4, none⟩)) (i := 12) (n := 18) HSS rfl (by kernel_rfl) (by kernel_rfl) (by kernel_rfl) (by kernel_rfl) (fun _ _ _ h => h) (fun W hW => exec_field rfl rfl (fptDisk4 _ _)) ?_
    simp only [Act.put, List.setIfInBounds_toArray, List.set_cons_zero, List.set_cons_succ]
    refine reg_take (.int .i64 x.2.2.2.2) (i := 13) (n := 19) HSS rfl (by kernel_rfl) (by kernel_rfl) (by kernel_rfl) (by kernel_rfl) (fun _ _ _ h => h) (fun W hW => exec_load rfl rfl (ldIntD ((HBr.out.mod hW.out id).cell 4))) ?_
    simp only [Act.put, List.setIfInBounds_toArray, List.set_cons_zero, List.set_cons_succ]
    have HR1z := Sec.mk (HR1.out.mod (w' := wz) (B' := (· < wz.heap.size)) (fun k hk => Nat.lt_of_lt_of_le hk HMr.out.size) (fun k hk => HMr.out.block k hk id))
    have HR2z := Sec.mk (HR2.out.mod (w' := wz) (B' := (· < wz.heap.size)) (fun k hk => Nat.lt_of_lt_of_le hk HMr.out.size) (fun k hk => HMr.out.block k hk id))
    have HR3z := Sec.mk (HR3.out.mod (w' := wz) (B' := (· < wz.heap.size)) (fun k hk => Nat.lt_of_lt_of_le hk HMr.out.size) (fun k hk => HMr.out.block k hk id))
    refine cp_000000 ⟨⟨_, _, _, rfl⟩, ⟨_, _, _, rfl⟩, ⟨_, _, _, rfl⟩, ⟨_, _, _, rfl⟩, ⟨_, _, _, rfl⟩, ⟨_, _, _, rfl⟩, ⟨_, _, _, rfl⟩, ⟨_, _, _, rfl⟩, ⟨_, _, _, rfl⟩, by kernel_rfl, by kernel_rfl, by kernel_rfl, by kernel_rfl, by kernel_rfl, by kernel_rfl, by kernel_rfl, by kernel_rfl, by kernel_rfl, by kernel_rfl, by kernel_rfl, by kernel_rfl, by kernel_rfl, by kernel_rfl, by kernel_rfl, by kernel_rfl, by kernel_rfl, by kernel_rfl, by kernel_rfl, by kernel_rfl, by kernel_rfl, by kernel_rfl, by kernel_rfl, by kernel_rfl, by kernel_rfl, by kernel_rfl, by kernel_rfl, by kernel_rfl, by kernel_rfl, by kernel_rfl, by kernel_rfl, by kernel_rfl, by kernel_rfl⟩ HR1z HR2z HR3z (by omega) (by omega) (by omega) ⟨?_⟩ (FA := []) (FB := []) (FC := []) (FG := []) HSS ⟨in4_nil _ _⟩
    intro g3 R0 R1 R2 m0 e0 m1 e1 m2 e2 u6 u10 u14 u20 W FA FB FC hNW hI4 hO0 hO1 hO2 hB3
    have hFM := set5_mod W g3 (.slice none 0 0) (.slice R0 m0 e0) (.slice R1 m1 e1) (.slice R2 m2 e2) (.int .i64 x.2.2.2.2)
    have hg3 := hI4.2 g3 (Or.inr (Or.inr (Or.inr (by simp))))
    have hne : ∀ k, In4 FA FB FC [] k → wz.heap.size ≤ k ∧ k ≠ g3 := fun k hk => by
      rcases hk with hk | hk | hk | hk
      · exact ⟨(hI4.2 k (Or.inl hk)).1, fun e => (hI4.1.1 k hk).2.2 (by rw [e]; simp)⟩
      · exact ⟨(hI4.2 k (Or.inr (Or.inl hk))).1, fun e => (hI4.1.2.1 k hk).2 (by rw [e]; simp)⟩
      · exact ⟨(hI4.2 k (Or.inr (Or.inr (Or.inl hk)))).1, fun e => hI4.1.2.2 k hk (by rw [e]; simp)⟩
      · cases hk
    have HFB := Sec.mk (set5_blk hB3 (.slice none 0 0) (.slice R0 m0 e0) (.slice R1 m1 e1) (.slice R2 m2 e2) (.int .i64 x.2.2.2.2))
    have HO4 : Sec (Out4 (fun k => wz.heap.size ≤ k ∧ k ≠ g3) (set5 W g3 (.slice none 0 0) (.slice R0 m0 e0) (.slice R1 m1 e1) (.slice R2 m2 e2) (.int .i64 x.2.2.2.2)) (.slice none 0 0) (.slice R0 m0 e0) (.slice R1 m1 e1) (.slice R2 m2 e2) ([], x.2.1, x.2.2.1, x.2.2.2.1, x.2.2.2.2)) := by
      refine ⟨⟨[], FA, FB, FC, Own.nil _ _ _, hO0.keep hFM (fun k hk e => (hne k (Or.inl hk)).2 e), hO1.keep hFM (fun k hk e => (hne k (Or.inr (Or.inl hk))).2 e), hO2.keep hFM (fun k hk e => (hne k (Or.inr (Or.inr (Or.inl hk)))).2 e), ⟨fun k hk => (by cases hk), fun k hk => ⟨(hI4.1.1 k hk).1, (hI4.1.1 k hk).2.1⟩, fun k hk => (hI4.1.2.1 k hk).1⟩, ?_, HQW.out⟩⟩
      rintro k (hk | hk | hk | hk)
      · cases hk
      · exact hne k (Or.inl hk)
      · exact hne k (Or.inr (Or.inl hk))
      · exact hne k (Or.inr (Or.inr (Or.inl hk)))
    have HNF : Sec (New wz (set5 W g3 (.slice none 0 0) (.slice R0 m0 e0) (.slice R1 m1 e1) (.slice R2 m2 e2) (.int .i64 x.2.2.2.2))) := ⟨hNW.trans hFM (fun i hi hlt => by have := hg3.1; omega)⟩
    have hgz := hg3.1
    clear hFM hg3 hne hNW hI4 hO0 hO1 hO2 hB3
    unfold cpAct
    go_wp2
    go_meet
    exact ⟨g3, R0, R1, R2, m0, e0, m1, e1, m2, e2, rfl, hgz, HFB, HO4, HNF⟩
  case rest =>
    rename World => wc
    obtain ⟨g, B1, B2, B3, m1, e1, m2, e2, m3, e3, rfl, hg, HBG, HO, HMc⟩ := hcut
    have hgl := HBG.out.lt
    have hsc := HMc.out.size
    have HBd := Sec.mk (HBr.out.mod HMc.out id)
    have HQ4 := Sec.mk (HCr.out.mod HMc.out id)
    have HM4 := Sec.mk (HMr.out.transN HMc.out)
    have d0 : wc.cell? ⟨w.heap.size, 0, none⟩ = some (.slice A0 x.1.length c0) := HBd.out.cell 0
    have hwc : w.heap.size < wc.heap.size := HBd.out.lt
    go_wp2
    clear d0
    go_loopw [24] (fun i wr => ∃ (k : Nat) (B0 : Option Addr) (m0 e0 : Nat), k ≤ x.1.length ∧ i = .int .i64 (k : Int) ∧ Sec (Blk wr g 27 [.slice B0 m0 e0, .slice B1 m1 e1, .slice B2 m2 e2, .slice B3 m3 e3, .int .i64 x.2.2.2.2]) ∧ Sec (Out4 (fun k => wz.heap.size ≤ k ∧ k ≠ g) wr (.slice B0 m0 e0) (.slice B1 m1 e1) (.slice B2 m2 e2) (.slice B3 m3 e3) (x.1.take k, x.2.1, x.2.2.1, x.2.2.2.1, x.2.2.2.2)) ∧ Sec (Blk wr w.heap.size 27 [.slice A0 x.1.length c0, .slice A1 x.2.1.length c1, .slice A2 x.2.2.1.length c2, .slice A3 x.2.2.2.1.length c3, .int .i64 x.2.2.2.2]) ∧ Sec (Blk wr (w.heap.size + 1) 27 [.slice none 0 0, .slice none 0 0, .slice none 0 0, .slice none 0 0, .int .i64 0]) ∧ Sec (New w wr)) (fun i _ => x.1.length - (intOf i).toNat)
    case atStart => exact ⟨0, none, 0, 0, Nat.zero_le _, rfl, HBG, ⟨by rw [List.take_zero]; exact HO.out⟩, HBd, HQ4, HM4⟩
    case round =>
      clear HBG HO HBd HQ4 HM4
      obtain ⟨k, B0, m0, e0, hk', rfl, HGB, H3, HD, HQq, HMw⟩ := hrel
      have hgr := HGB.out.lt
      have hwr := HD.out.lt
      have hsz0 := HMr.out.size
      by_cases hlt : k < x.1.length
      · obtain ⟨bd, An, cn, hA0, n0, n1, hcc, hcm, hrow, hw⟩ := node_at (HR0.out.mod (w' := wr) (fun _ h => h) (fun k hk => HMw.out.block k hk id)) (w' := wr) (fun _ _ => rfl) hlt
        subst hA0
        have hki : (k : Int) < (x.1.length : Int) := by omega
        have HTK : Sec (x.1.take (k + 1) = x.1.take k ++ [x.1[k]]) := ⟨List.take_succ_eq_append_getElem hlt⟩
        have hdl := HNO.out _ (List.getElem_mem hlt)
        have hlk : (x.1.take k).length = k := by rw [List.length_take]; omega
        have HLK := Sec.mk hlk
        have HRW := Sec.mk hrow
        have HWP := Sec.mk hw
        clear hrow hw hlk
        have HPX : Sec (∃ z : NodeT, z = x.1[k]) := ⟨⟨_, rfl⟩⟩
        obtain ⟨z, hz⟩ := HPX.out
        rw [← hz] at n0 n1 hcc HRW HWP HTK hdl
        clear hz HPX
        obtain ⟨dat, safe⟩ := z
        simp only at n0 n1 hcc hdl
        have HMN : Sec (New wr (wr.alloc (.cells #[.slice An dat.length cn, .int .i64 safe] 49))) := ⟨(Mod.refl _ _).alloc _⟩
        have HGN := Sec.mk (HGB.out.mod HMN.out id)
        have HNN := Sec.mk (Blk.new wr 49 [.slice An dat.length cn, .int .i64 safe])
        have H3N := Sec.mk ((H3.out.wide (X' := fun k => (wz.heap.size ≤ k ∧ k ≠ g) ∧ k < wr.heap.size) (fun k h1 h2 => ⟨h2, h1⟩)).new HMN.out)
        have HRB := Sec.mk (HRW.out.mod (w' := wr.alloc (.cells #[.slice An dat.length cn, .int .i64 safe] 49)) (fun _ h => h) (fun k hk => Below.heap_alloc _ _ _ (Nat.lt_of_lt_of_le hk (Nat.le_of_lt hwr))))
        have hsn : wr.heap.size < (wr.alloc (.cells #[.slice An dat.length cn, .int .i64 safe] 49)).heap.size := by simp
        go_wp2
        clear n0 n1 HRW
        generalize wr.alloc (.cells #[.slice An dat.length cn, .int .i64 safe] 49) = wn at *
        refine reg_start [12] (fun W => Sec (W.cell? ⟨g, 0, none⟩ = some (.slice B0 m0 e0) ∧ W.cell? ⟨wr.heap.size, 0, none⟩ = some (.slice An dat.length cn) ∧ W.cell? ⟨wr.heap.size, 1, none⟩ = some (.int .i64 safe))) (by kernel_rfl) ?_
        have HSS : Sec (wn.drew.cell? ⟨g, 0, none⟩ = some (.slice B0 m0 e0) ∧ wn.drew.cell? ⟨wr.heap.size, 0, none⟩ = some (.slice An dat.length cn) ∧ wn.drew.cell? ⟨wr.heap.size, 1, none⟩ = some (.int .i64 safe)) := ⟨HGN.out.cell 0, HNN.out.cell 0, HNN.out.cell 1⟩
        refine reg_take (.pointer (some ⟨g, 0, none⟩)) (i := 0) (n := 28) HSS rfl (by kernel_rfl) (by kernel_rfl) (by kernel_rfl) (by kernel_rfl) (fun _ _ _ h => h) (fun W hW => exec_field rfl rfl (fptDisk0 _ _)) ?_
        simp only [Act.put, List.setIfInBounds_toArray, List.set_cons_zero, List.set_cons_succ]
        refine reg_take (.slice B0 m0 e0) (i := 1) (n := 29) HSS rfl (by kernel_rfl) (by kernel_rfl) (by kernel_rfl) (by kernel_rfl) (fun _ _ _ h => h) (fun W hW => exec_load rfl rfl (ldNodesD hW.out.1)) ?_
        simp only [Act.put, List.setIfInBounds_toArray, List.set_cons_zero, List.set_cons_succ]
        refine reg_take (.pointer (some ⟨wr.heap.size, 0, none⟩)) (i := 3) (n := 31) HSS rfl (by kernel_rfl) (by kernel_rfl) (by kernel_rfl) (by kernel_rfl) (fun _ _ _ h => h) (fun W hW => exec_field rfl rfl (fptNode0D _ _)) ?_
        simp only [Act.put, List.setIfInBounds_toArray, List.set_cons_zero, List.set_cons_succ]
        refine reg_take (.slice An dat.length cn) (i := 4) (n := 32) HSS rfl (by kernel_rfl) (by kernel_rfl) (by kernel_rfl) (by kernel_rfl) (fun _ _ _ h => h) (fun W hW => exec_load rfl rfl (ldBytesD hW.out.2.1)) ?_
        simp only [Act.put, List.setIfInBounds_toArray, List.set_cons_zero, List.set_cons_succ]
        refine reg_take (.pointer (some ⟨wr.heap.size, 1, none⟩)) (i := 6) (n := 34) HSS rfl (by kernel_rfl) (by kernel_rfl) (by kernel_rfl) (by kernel_rfl) (fun _ _ _ h => h) (fun W hW => exec_field rfl rfl (fptNode1D _ _)) ?_
        simp only [Act.put, List.setIfInBounds_toArray, List.set_cons_zero, List.set_cons_succ]
        refine reg_take (.int .i64 safe) (i := 7) (n := 35) HSS rfl (by kernel_rfl) (by kernel_rfl) (by kernel_rfl) (by kernel_rfl) (fun _ _ _ h => h) (fun W hW => exec_load rfl rfl (ldIntD hW.out.2.2)) ?_
        simp only [Act.put, List.setIfInBounds_toArray, List.set_cons_zero, List.set_cons_succ]
        refine reg_step (i := 2) rfl (by kernel_rfl) (fun K hK => ?_)
        have HMN4 : Sec (Mine Ty.byte 5 wn (wn.drew.alloc (.cells #[] 5)) (.slice (some ⟨wn.drew.heap.size, 0, none⟩) 0 0) []) := ⟨Mine.empty _ _ rfl (Mod.refl _ _).drew⟩
        have HN4' := Sec.mk HMN4.out.new
        have HSS : Sec ((wn.drew.alloc (.cells #[] 5)).cell? ⟨g, 0, none⟩ = some (.slice B0 m0 e0) ∧ (wn.drew.alloc (.cells #[] 5)).cell? ⟨wr.heap.size, 0, none⟩ = some (.slice An dat.length cn) ∧ (wn.drew.alloc (.cells #[] 5)).cell? ⟨wr.heap.size, 1, none⟩ = some (.int .i64 safe)) := ⟨(HGN.out.mod HN4'.out id).cell 0, (HNN.out.mod HN4'.out id).cell 0, (HNN.out.mod HN4'.out id).cell 1⟩
        refine wp_valw (n := 30) (v := .slice (some ⟨wn.drew.heap.size, 0, none⟩) 0 0) (w' := (wn.drew.alloc (.cells #[] 5))) (exec_buildSlice (parts := []) (vs := []) rfl rfl (bldBytes0I _)) rfl ?_
        refine hK.out _ _ (fun _ => HSS) ?_
        clear hK K
        simp only [Act.put, List.setIfInBounds_toArray, List.set_cons_zero, List.set_cons_succ]
        refine reg_step (i := 5) rfl (by kernel_rfl) (fun K hK => ?_)
        refine wp_appM _ (.tmp 30) (.tmp 32) _ rfl Tryd.underlying22 elt_byte flat_byte rfl rfl HMN4.out (HRB.out.mod (w' := (wn.drew.alloc (.cells #[] 5))) (B' := (· < w.heap.size)) (fun _ h => h) (fun k hk => HN4'.out.block k (by have : k < w.heap.size := hk; omega) id)) (by simp; omega) ?_
        intro A5 n5 c5 w5 hm5
        rw [List.nil_append] at hm5
        obtain ⟨rfl, -, -⟩ := hm5.len
        have HMN5 := Sec.mk hm5
        have HN5 := Sec.mk hm5.new
        have HSS : Sec (w5.cell? ⟨g, 0, none⟩ = some (.slice B0 m0 e0) ∧ w5.cell? ⟨wr.heap.size, 0, none⟩ = some (.slice An dat.length cn) ∧ w5.cell? ⟨wr.heap.size, 1, none⟩ = some (.int .i64 safe)) := ⟨(HGN.out.mod HN5.out id).cell 0, (HNN.out.mod HN5.out id).cell 0, (HNN.out.mod HN5.out id).cell 1⟩
        refine hK.out _ _ (fun _ => HSS) ?_
        clear hm5
        clear hK K
        simp only [Act.put, List.setIfInBounds_toArray, List.set_cons_zero, List.set_cons_succ]
        refine reg_take (.agg #[.slice A5 dat.length c5, .int .i64 safe]) (i := 8) (n := 36) HSS rfl (by kernel_rfl) (by kernel_rfl) (by kernel_rfl) (by kernel_rfl) (fun _ _ _ h => h) (fun W hW => exec_build (parts := [(0, .tmp 33), (1, .tmp 35)]) rfl rfl (bldNode _ _ _ _ _)) ?_
        simp only [Act.put, List.setIfInBounds_toArray, List.set_cons_zero, List.set_cons_succ]
        refine reg_step (i := 9) rfl (by kernel_rfl) (fun K hK => ?_)
        refine wp_valw (n := 37) (v := .slice (some ⟨w5.heap.size, 0, none⟩) 1 1) (w' := (w5.alloc (.cells #[.slice A5 dat.length c5, .int .i64 safe] 49))) (exec_buildSlice (parts := [(0, .tmp 36)]) (vs := [(0, .agg #[.slice A5 dat.length c5, .int .i64 safe])]) rfl rfl (bldNode1 _ _ _ _ _)) rfl ?_
        have HN6 := Sec.mk (HN5.out.alloc (.cells #[.slice A5 dat.length c5, .int .i64 safe] 49))
        have HSS : Sec ((w5.alloc (.cells #[.slice A5 dat.length c5, .int .i64 safe] 49)).cell? ⟨g, 0, none⟩ = some (.slice B0 m0 e0) ∧ (w5.alloc (.cells #[.slice A5 dat.length c5, .int .i64 safe] 49)).cell? ⟨wr.heap.size, 0, none⟩ = some (.slice An dat.length cn) ∧ (w5.alloc (.cells #[.slice A5 dat.length c5, .int .i64 safe] 49)).cell? ⟨wr.heap.size, 1, none⟩ = some (.int .i64 safe)) := ⟨(HGN.out.mod HN6.out id).cell 0, (HNN.out.mod HN6.out id).cell 0, (HNN.out.mod HN6.out id).cell 1⟩
        refine hK.out _ _ (fun _ => HSS) ?_
        clear hK K
        simp only [Act.put, List.setIfInBounds_toArray, List.set_cons_zero, List.set_cons_succ]
        refine reg_step (i := 10) rfl (by kernel_rfl) (fun K hK => ?_)
        obtain ⟨⟨F5, ho5, hF5⟩, -⟩ := HMN5.out
        have hs5 := HN5.out.size
        refine Out4.wp0 (X := fun k => wz.heap.size ≤ k ∧ k ≠ g ∧ k ≠ wr.heap.size) _ (.tmp 29) (.tmp 37) _ rfl Tryd.underlying23 rfl rfl (H3N.out.new HN6.out) (y := (dat, safe)) (mNode (x := (dat, safe)) HWP.out (ho5.keep ((Mod.refl (fun _ => False) w5).alloc _) (fun _ _ h => h))) (fun k hk => by have := hF5 k (by simpa using hk); omega) (lit_cells _ _ _ rfl) (fun k hk => by omega) (fun k hk => by simp at hk; omega) (by have := HLK.out; simp only at this ⊢; omega) ?_
        intro A7 n7 c7 w7 h7 hm7
        have H7 := Sec.mk h7
        have HG7 := Sec.mk ((HGN.out.mod HN6.out id).mod hm7 (by omega))
        have HNN7 := Sec.mk ((HNN.out.mod HN6.out id).mod hm7 (by omega))
        have HD7 := Sec.mk (((HD.out.mod HMN.out id).mod HN6.out id).mod hm7 (by omega))
        have HQ7 := Sec.mk (((HQq.out.mod HMN.out id).mod HN6.out id).mod hm7 (by omega))
        have HW7 := Sec.mk (((HMw.out.transN HMN.out).transN HN6.out).trans hm7 (fun i hi hlt => by omega))
        have HSS : Sec (w7.cell? ⟨g, 0, none⟩ = some (.slice B0 m0 e0) ∧ w7.cell? ⟨wr.heap.size, 0, none⟩ = some (.slice An dat.length cn) ∧ w7.cell? ⟨wr.heap.size, 1, none⟩ = some (.int .i64 safe)) := ⟨HG7.out.cell 0, HNN7.out.cell 0, HNN7.out.cell 1⟩
        refine hK.out _ _ (fun _ => HSS) ?_
        clear h7 hm7 ho5 hF5
        clear hK K
        simp only [Act.put, List.setIfInBounds_toArray, List.set_cons_zero, List.set_cons_succ]
        refine reg_take (.pointer (some ⟨g, 0, none⟩)) (i := 11) (n := 39) HSS rfl (by kernel_rfl) (by kernel_rfl) (by kernel_rfl) (by kernel_rfl) (fun _ _ _ h => h) (fun W hW => exec_field rfl rfl (fptDisk0 _ _)) ?_
        simp only [Act.put, List.setIfInBounds_toArray, List.set_cons_zero, List.set_cons_succ]
        refine reg_step (i := 12) rfl (by kernel_rfl) (fun K hK => ?_)
        refine wp_store rfl rfl rfl rfl (stNodesC A7 n7 c7 (HG7.out.cell 0) (HG7.out.frozen 0)) (hK.out _ _ (fun h => absurd (List.mem_singleton.2 rfl) h) ?_)
        clear hK K
        refine reg_done (by kernel_rfl) ?_ _
        have HG8 := Sec.mk (HG7.out.set_ 0 (.slice A7 n7 c7))
        simp only [List.set_cons_zero] at HG8
        have H8 := Sec.mk ((H7.out.wide (X' := fun k => wz.heap.size ≤ k ∧ k ≠ g) (fun k _ h => ⟨h.1, h.2.1⟩)).keep ((Mod.refl (fun k => k = g) w7).setCell (p := ⟨g, 0, none⟩) (fun _ => rfl) (.slice A7 n7 c7)) (fun k h e => h.2 e))
        have HD8 := Sec.mk (HD7.out.far (p := ⟨g, 0, none⟩) (by show w.heap.size ≠ g; omega) (.slice A7 n7 c7))
        have HQ8 := Sec.mk (HQ7.out.far (p := ⟨g, 0, none⟩) (by show w.heap.size + 1 ≠ g; omega) (.slice A7 n7 c7))
        have HW8 := Sec.mk (HW7.out.setCell (p := ⟨g, 0, none⟩) (fun h => by exfalso; simp only at h; omega) (.slice A7 n7 c7))
        clear HSS HG7 HNN7 HD7 HQ7 HW7 H7
        go_wp2
        go_roundw
        case rel =>
          refine ⟨k + 1, A7, n7, c7, by omega, by go_num, HG8, ⟨?_⟩, HD8, HQ8, HW8⟩
          rw [HTK.out]
          exact H8.out
        case measure => simp [intOf]; omega
      · obtain rfl : k = x.1.length := by omega
        have m0' : wr.cell? ⟨g, 0, none⟩ = some (.slice B0 m0 e0) := HGB.out.cell 0
        have m1' : wr.cell? ⟨g, 1, none⟩ = some (.slice B1 m1 e1) := HGB.out.cell 1
        have m2' : wr.cell? ⟨g, 2, none⟩ = some (.slice B2 m2 e2) := HGB.out.cell 2
        have m3' : wr.cell? ⟨g, 3, none⟩ = some (.slice B3 m3 e3) := HGB.out.cell 3
        have m4' : wr.cell? ⟨g, 4, none⟩ = some (.int .i64 x.2.2.2.2) := HGB.out.cell 4
        have q0 : wr.cell? ⟨w.heap.size + 1, 0, none⟩ = some (.slice none 0 0) := HQq.out.cell 0
        have q1 : wr.cell? ⟨w.heap.size + 1, 1, none⟩ = some (.slice none 0 0) := HQq.out.cell 1
        have q2 : wr.cell? ⟨w.heap.size + 1, 2, none⟩ = some (.slice none 0 0) := HQq.out.cell 2
        have q3 : wr.cell? ⟨w.heap.size + 1, 3, none⟩ = some (.slice none 0 0) := HQq.out.cell 3
        have q4 : wr.cell? ⟨w.heap.size + 1, 4, none⟩ = some (.int .i64 0) := HQq.out.cell 4
        have f0 : wr.frozen? ⟨w.heap.size + 1, 0, none⟩ = false := HQq.out.frozen 0
        have f1 : wr.frozen? ⟨w.heap.size + 1, 1, none⟩ = false := HQq.out.frozen 1
        have f2 : wr.frozen? ⟨w.heap.size + 1, 2, none⟩ = false := HQq.out.frozen 2
        have f3 : wr.frozen? ⟨w.heap.size + 1, 3, none⟩ = false := HQq.out.frozen 3
        have f4 : wr.frozen? ⟨w.heap.size + 1, 4, none⟩ = false := HQq.out.frozen 4
        have hlq : w.heap.size + 1 < wr.heap.size := HQq.out.lt
        have H3' := H3.out
        rw [List.take_length] at H3'
        have HFB := Sec.mk (set5_blk HQq.out (.slice B0 m0 e0) (.slice B1 m1 e1) (.slice B2 m2 e2) (.slice B3 m3 e3) (.int .i64 x.2.2.2.2))
        have HFM := Sec.mk (set5_mod wr (w.heap.size + 1) (.slice B0 m0 e0) (.slice B1 m1 e1) (.slice B2 m2 e2) (.slice B3 m3 e3) (.int .i64 x.2.2.2.2))
        have H4 := Sec.mk (H3'.keep HFM.out (fun k h e => by omega))
        have HM5 := Sec.mk (HMw.out.trans HFM.out (fun i hi hlt => by omega))
        clear H3'
        go_wp2
        refine bodyPost_ret (results_blk rfl rfl HFB.out Tryd.underlying27 (by kernel_rfl)) rfl ?_
        exact ⟨_, _, _, _, rfl, H4.out.wide (fun k _ h => by omega), HM5.out⟩
end Go.Proofs.YtkkgighgnbbgiaaDoor
