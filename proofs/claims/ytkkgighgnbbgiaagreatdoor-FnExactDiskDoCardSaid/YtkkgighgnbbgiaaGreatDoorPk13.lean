/- The program's copy of a disk. The laws' helpers over Op and over slices of it. -/
import Derived.Test.YtkkgighgnbbgiaaGreatDoorPk12
import Derived.Test.YtkkgighgnbbgiaaGreatDoorPk2
import Derived.Test.YtkkgighgnbbgiaaGreatDoorPk1
import Derived.Test.YtkkgighgnbbgiaaGreatDoorProg
import Derived.WalkKit
namespace Go.Proofs.YtkkgighgnbbgiaaGreatDoor
open Go.RowKit Mem
set_option linter.unusedVariables false
set_option linter.unusedSimpArgs false
theorem in4_nil (lo : Nat) (w : World) : In4B lo w [] [] [] [] := by
  refine ⟨⟨fun k hk => ?_, fun k hk => ?_, fun k hk => ?_⟩, fun k hk => ?_⟩
  · cases hk
  · cases hk
  · cases hk
  · rcases hk with hk | hk | hk | hk <;> cases hk
theorem bldBytes0I (w : World) : (Instr.buildSlice 52 0 #[]).run Tryz.prog w = .ok (.slice (some ⟨w.heap.size, 0, none⟩) 0 0) (w.alloc (.cells #[] 5)) := by go_simp
set_option maxHeartbeats 8000000 in
set_option maxRecDepth 100000 in
theorem copyI_v {w : World} {v : Value} {x : DiskT} {N : Nat} (h : RdV true dDisk w v x) (hI : DInv N x) (hN : N ≤ 100000) (hk : x.2.2.1.length ≤ 100000) : Calls Tryz.prog 29 #[v] w (RetD w x) := by
  have HQW := Sec.mk (okDisk h)
  have HNO := Sec.mk hI.len
  have hn1 := hI.names
  have hn0 := hI.nodes
  have hn3 := hI.pend
  clear hI
  obtain ⟨v0, v1, v2, v3, rfl, k0, k1, k2, k3⟩ := rdDisk h
  obtain ⟨A0, c0, rfl, hc0, hr0⟩ := k0.slice
  obtain ⟨A1, c1, rfl, hc1, hr1⟩ := k1.slice
  obtain ⟨A2, c2, rfl, hc2, hr2⟩ := k2.slice
  obtain ⟨A3, c3, rfl, hc3, hr3⟩ := k3.slice
  have HR0 := Sec.mk hr0
  have HR1 := Sec.mk hr1
  have HR2 := Sec.mk hr2
  have HR3 := Sec.mk hr3
  have HBr := Sec.mk ((Blk.new w 34 [.slice A0 x.1.length c0, .slice A1 x.2.1.length c1, .slice A2 x.2.2.1.length c2, .slice A3 x.2.2.2.1.length c3, .int .i64 x.2.2.2.2]).alloc (.cells #[.slice none 0 0, .slice none 0 0, .slice none 0 0, .slice none 0 0, .int .i64 0] 34))
  have HBC := Blk.new (w.alloc (.cells #[.slice A0 x.1.length c0, .slice A1 x.2.1.length c1, .slice A2 x.2.2.1.length c2, .slice A3 x.2.2.2.1.length c3, .int .i64 x.2.2.2.2] 34)) 34 [.slice none 0 0, .slice none 0 0, .slice none 0 0, .slice none 0 0, .int .i64 0]
  have HMr := Sec.mk (((Mod.refl (fun _ => False) w).alloc (.cells #[.slice A0 x.1.length c0, .slice A1 x.2.1.length c1, .slice A2 x.2.2.1.length c2, .slice A3 x.2.2.2.1.length c3, .int .i64 x.2.2.2.2] 34)).alloc (.cells #[.slice none 0 0, .slice none 0 0, .slice none 0 0, .slice none 0 0, .int .i64 0] 34))
  have HCr : Sec (Blk ((w.alloc (.cells #[.slice A0 x.1.length c0, .slice A1 x.2.1.length c1, .slice A2 x.2.2.1.length c2, .slice A3 x.2.2.2.1.length c3, .int .i64 x.2.2.2.2] 34)).alloc (.cells #[.slice none 0 0, .slice none 0 0, .slice none 0 0, .slice none 0 0, .int .i64 0] 34)) (w.heap.size + 1) 34 [.slice none 0 0, .slice none 0 0, .slice none 0 0, .slice none 0 0, .int .i64 0]) := ⟨by simpa using HBC⟩
  clear h k0 k1 k2 k3 hr0 hr1 hr2 hr3 HBC
  go_enter Tryz.func29, Tryz.ntmps29
  go_upto_region 1 with (fail)
  generalize ((w.alloc (.cells #[.slice A0 x.1.length c0, .slice A1 x.2.1.length c1, .slice A2 x.2.2.1.length c2, .slice A3 x.2.2.2.1.length c3, .int .i64 x.2.2.2.2] 34)).alloc (.cells #[.slice none 0 0, .slice none 0 0, .slice none 0 0, .slice none 0 0, .int .i64 0] 34)) = wz at *
  have hwz := HCr.out.lt
  have hwz' := HBr.out.lt
  go_cut [3] (fun p wx => ∃ (g : Nat) (B1 B2 B3 : Option Addr) (m1 e1 m2 e2 m3 e3 : Nat), p = .pointer (some ⟨g, 0, none⟩) ∧ wz.heap.size ≤ g ∧ Sec (Blk wx g 34 [.slice none 0 0, .slice B1 m1 e1, .slice B2 m2 e2, .slice B3 m3 e3, .int .i64 x.2.2.2.2]) ∧ Sec (Out4 (fun k => wz.heap.size ≤ k ∧ k ≠ g) wx (.slice none 0 0) (.slice B1 m1 e1) (.slice B2 m2 e2) (.slice B3 m3 e3) ([], x.2.1, x.2.2.1, x.2.2.2.1, x.2.2.2.2)) ∧ Sec (New wz wx))
  case first =>
    refine reg_start [16] (fun W => Sec (New wz W)) (by kernel_rfl) ?_
    have HSS : Sec (New wz wz.drew) := ⟨(Mod.refl _ _).drew⟩
    refine reg_take (.pointer (some ⟨w.heap.size, 1, none⟩)) (i := 1) (n := 7) HSS rfl (by kernel_rfl) (by kernel_rfl) (by kernel_rfl) (by kernel_rfl) (fun _ _ _ h => h) (fun W hW => exec_field rfl rfl (fptDisk1 _ _)) ?_
    simp only [Act.put, List.setIfInBounds_toArray, List.set_cons_zero, List.set_cons_succ]
    refine reg_take (.slice A1 x.2.1.length c1) (i := 2) (n := 8) HSS rfl (by kernel_rfl) (by kernel_rfl) (by kernel_rfl) (by kernel_rfl) (fun _ _ _ h => h) (fun W hW => exec_load rfl rfl (ldEntsD ((HBr.out.mod hW.out id).cell 1))) ?_
    simp only [Act.put, List.setIfInBounds_toArray, List.set_cons_zero, List.set_cons_succ]
    refine reg_take (.pointer (some ⟨w.heap.size, 2, none⟩)) (i := 5) (n := 11) HSS rfl (by kernel_rfl) (by kernel_rfl) (by kernel_rfl) (by kernel_rfl) (fun _ _ _ h => h) (fun W hW => exec_field rfl rfl (fptDisk2 _ _)) ?_
    simp only [Act.put, List.setIfInBounds_toArray, List.set_cons_zero, List.set_cons_succ]
    refine reg_take (.slice A2 x.2.2.1.length c2) (i := 6) (n := 12) HSS rfl (by kernel_rfl) (by kernel_rfl) (by kernel_rfl) (by kernel_rfl) (fun _ _ _ h => h) (fun W hW => exec_load rfl rfl (ldEntsD ((HBr.out.mod hW.out id).cell 2))) ?_
    simp only [Act.put, List.setIfInBounds_toArray, List.set_cons_zero, List.set_cons_succ]
    refine reg_take (.pointer (some ⟨w.heap.size, 3, none⟩)) (i := 9) (n := 15) HSS rfl (by kernel_rfl) (by kernel_rfl) (by kernel_rfl) (by kernel_rfl) (fun _ _ _ h => h) (fun W hW => exec_field rfl rfl (fptDisk3 _ _)) ?_
    simp only [Act.put, List.setIfInBounds_toArray, List.set_cons_zero, List.set_cons_succ]
    refine reg_take (.slice A3 x.2.2.2.1.length c3) (i := 10) (n := 16) HSS rfl (by kernel_rfl) (by kernel_rfl) (by kernel_rfl) (by kernel_rfl) (fun _ _ _ h => h) (fun W hW => exec_load rfl rfl (ldDopsI ((HBr.out.mod hW.out id).cell 3))) ?_
    simp only [Act.put, List.setIfInBounds_toArray, List.set_cons_zero, List.set_cons_succ]
    refine reg_take (.pointer (some ⟨w.heap.size, 4, none⟩)) (i := 12) (n := 18) HSS rfl (by kernel_rfl) (by kernel_rfl) (by kernel_rfl) (by kernel_rfl) (fun _ _ _ h => h) (fun W hW => exec_field rfl rfl (fptDisk4 _ _)) ?_
    simp only [Act.put, List.setIfInBounds_toArray, List.set_cons_zero, List.set_cons_succ]
    refine reg_take (.int .i64 x.2.2.2.2) (i := 13) (n := 19) HSS rfl (by kernel_rfl) (by kernel_rfl) (by kernel_rfl) (by kernel_rfl) (fun _ _ _ h => h) (fun W hW => exec_load rfl rfl (ldIntD ((HBr.out.mod hW.out id).cell 4))) ?_
    simp only [Act.put, List.setIfInBounds_toArray, List.set_cons_zero, List.set_cons_succ]
    have HR1z := Sec.mk (HR1.out.mod (w' := wz) (B' := (· < wz.heap.size)) (fun k hk => Nat.lt_of_lt_of_le hk HMr.out.size) (fun k hk => HMr.out.block k hk id))
    have HR2z := Sec.mk (HR2.out.mod (w' := wz) (B' := (· < wz.heap.size)) (fun k hk => Nat.lt_of_lt_of_le hk HMr.out.size) (fun k hk => HMr.out.block k hk id))
    have HR3z := Sec.mk (HR3.out.mod (w' := wz) (B' := (· < wz.heap.size)) (fun k hk => Nat.lt_of_lt_of_le hk HMr.out.size) (fun k hk => HMr.out.block k hk id))
    refine cp_000000 ⟨⟨_, _, _, rfl⟩, ⟨_, _, _, rfl⟩, ⟨_, _, _, rfl⟩, ⟨_, _, _, rfl⟩, ⟨_, _, _, rfl⟩, ⟨_, _, _, rfl⟩, ⟨_, _, _, rfl⟩, ⟨_, _, _, rfl⟩, ⟨_, _, _, rfl⟩, by kernel_rfl, by kernel_rfl, by kernel_rfl, by kernel_rfl, by kernel_rfl, by kernel_rfl, by kernel_rfl, by kernel_rfl, by kernel_rfl, by kernel_rfl, by kernel_rfl, by kernel_rfl, by kernel_rfl, by kernel_rfl, by kernel_rfl, by kernel_rfl, by kernel_rfl, by kernel_rfl, by kernel_rfl, by kernel_rfl, by kernel_rfl, by kernel_rfl, by kernel_rfl, by kernel_rfl, by kernel_rfl, by kernel_rfl, by kernel_rfl, by kernel_rfl, by kernel_rfl, by kernel_rfl, by kernel_rfl, by kernel_rfl, by kernel_rfl⟩ HR1z HR2z HR3z (by omega) (by omega) (by omega) ⟨?_⟩ (FA := []) (FB := []) (FC := []) (FG := []) HSS ⟨in4_nil _ _⟩
    intro g3 R0 R1 R2 m0 e0 m1 e1 m2 e2 u6 u10 u14 u20 W FA FB FC hNW hI4 hO0 hO1 hO2 hB3
    have hFM := set5_mod W g3 (.slice none 0 0) (.slice R0 m0 e0) (.slice R1 m1 e1) (.slice R2 m2 e2) (.int .i64 x.2.2.2.2)
    have hg3 := hI4.2 g3 (Or.inr (Or.inr (Or.inr (by simp))))
    have hne : ∀ k, In4 FA FB FC [] k → wz.heap.size ≤ k ∧ k ≠ g3 := fun k hk => by
      rcases hk with hk | hk | hk | hk
      · exact ⟨(hI4.2 k (Or.inl hk)).1, fun e => (hI4.1.1 k hk).2.2 (by rw [e]; simp)⟩
      · exact ⟨(hI4.2 k (Or.inr (Or.inl hk))).1, fun e => (hI4.1.2.1 k hk).2 (by rw [e]; simp)⟩
      · exact ⟨(hI4.2 k (Or.inr (Or.inr (Or.inl hk)))).1, fun e => hI4.1.2.2 k hk (by rw [e]; simp)⟩
      · cases hk
    have HFB := Sec.mk (set5_blk hB3 (.slice none 0 0) (.slice R0 m0 e0) (.slice R1 m1 e1) (.slice R2 m2 e2) (.int .i64 x.2.2.2.2))
    have HO4 : Sec (Out4 (fun k => wz.heap.size ≤ k ∧ k ≠ g3) (set5 W g3 (.slice none 0 0) (.slice R0 m0 e0) (.slice R1 m1 e1) (.slice R2 m2 e2) (.int .i64 x.2.2.2.2)) (.slice none 0 0) (.slice R0 m0 e0) (.slice R1 m1 e1) (.slice R2 m2 e2) ([], x.2.1, x.2.2.1, x.2.2.2.1, x.2.2.2.2)) := by
      refine ⟨⟨[], FA, FB, FC, Own.nil _ _ _, hO0.keep hFM (fun k hk e => (hne k (Or.inl hk)).2 e), hO1.keep hFM (fun k hk e => (hne k (Or.inr (Or.inl hk))).2 e), hO2.keep hFM (fun k hk e => (hne k (Or.inr (Or.inr (Or.inl hk)))).2 e), ⟨fun k hk => (by cases hk), fun k hk => ⟨(hI4.1.1 k hk).1, (hI4.1.1 k hk).2.1⟩, fun k hk => (hI4.1.2.1 k hk).1⟩, ?_, HQW.out⟩⟩
      rintro k (hk | hk | hk | hk)
      · cases hk
      · exact hne k (Or.inl hk)
      · exact hne k (Or.inr (Or.inl hk))
      · exact hne k (Or.inr (Or.inr (Or.inl hk)))
    have HNF : Sec (New wz (set5 W g3 (.slice none 0 0) (.slice R0 m0 e0) (.slice R1 m1 e1) (.slice R2 m2 e2) (.int .i64 x.2.2.2.2))) := ⟨hNW.trans hFM (fun i hi hlt => by have := hg3.1; omega)⟩
    have hgz := hg3.1
    clear hFM hg3 hne hNW hI4 hO0 hO1 hO2 hB3
    unfold cpAct
    go_wp2
    go_meet
    exact ⟨g3, R0, R1, R2, m0, e0, m1, e1, m2, e2, rfl, hgz, HFB, HO4, HNF⟩
  case rest =>
    rename World => wc
    obtain ⟨g, B1, B2, B3, m1, e1, m2, e2, m3, e3, rfl, hg, HBG, HO, HMc⟩ := hcut
    have hgl := HBG.out.lt
    have hsc := HMc.out.size
    have HBd := Sec.mk (HBr.out.mod HMc.out id)
    have HQ4 := Sec.mk (HCr.out.mod HMc.out id)
    have HM4 := Sec.mk (HMr.out.transN HMc.out)
    have d0 : wc.cell? ⟨w.heap.size, 0, none⟩ = some (.slice A0 x.1.length c0) := HBd.out.cell 0
    have hwc : w.heap.size < wc.heap.size := HBd.out.lt
    go_wp2
    clear d0
    go_loopw [24] (fun i wr => ∃ (k : Nat) (B0 : Option Addr) (m0 e0 : Nat), k ≤ x.1.length ∧ i = .int .i64 (k : Int) ∧ Sec (Blk wr g 34 [.slice B0 m0 e0, .slice B1 m1 e1, .slice B2 m2 e2, .slice B3 m3 e3, .int .i64 x.2.2.2.2]) ∧ Sec (Out4 (fun k => wz.heap.size ≤ k ∧ k ≠ g) wr (.slice B0 m0 e0) (.slice B1 m1 e1) (.slice B2 m2 e2) (.slice B3 m3 e3) (x.1.take k, x.2.1, x.2.2.1, x.2.2.2.1, x.2.2.2.2)) ∧ Sec (Blk wr w.heap.size 34 [.slice A0 x.1.length c0, .slice A1 x.2.1.length c1, .slice A2 x.2.2.1.length c2, .slice A3 x.2.2.2.1.length c3, .int .i64 x.2.2.2.2]) ∧ Sec (Blk wr (w.heap.size + 1) 34 [.slice none 0 0, .slice none 0 0, .slice none 0 0, .slice none 0 0, .int .i64 0]) ∧ Sec (New w wr)) (fun i _ => x.1.length - (intOf i).toNat)
    case atStart => exact ⟨0, none, 0, 0, Nat.zero_le _, rfl, HBG, ⟨by rw [List.take_zero]; exact HO.out⟩, HBd, HQ4, HM4⟩
    case round =>
      clear HBG HO HBd HQ4 HM4
      obtain ⟨k, B0, m0, e0, hk', rfl, HGB, H3, HD, HQq, HMw⟩ := hrel
      have hgr := HGB.out.lt
      have hwr := HD.out.lt
      have hsz0 := HMr.out.size
      by_cases hlt : k < x.1.length
      · obtain ⟨bd, An, cn, hA0, n0, n1, hcc, hcm, hrow, hw⟩ := node_at (HR0.out.mod (w' := wr) (fun _ h => h) (fun k hk => HMw.out.block k hk id)) (w' := wr) (fun _ _ => rfl) hlt
        subst hA0
        have hki : (k : Int) < (x.1.length : Int) := by omega
        have HTK : Sec (x.1.take (k + 1) = x.1.take k ++ [x.1[k]]) := ⟨List.take_succ_eq_append_getElem hlt⟩
        have hdl := HNO.out _ (List.getElem_mem hlt)
        have hlk : (x.1.take k).length = k := by rw [List.length_take]; omega
        have HLK := Sec.mk hlk
        have HRW := Sec.mk hrow
        have HWP := Sec.mk hw
        clear hrow hw hlk
        have HPX : Sec (∃ z : NodeT, z = x.1[k]) := ⟨⟨_, rfl⟩⟩
        obtain ⟨z, hz⟩ := HPX.out
        rw [← hz] at n0 n1 hcc HRW HWP HTK hdl
        clear hz HPX
        obtain ⟨dat, safe⟩ := z
        simp only at n0 n1 hcc hdl
        have HMN : Sec (New wr (wr.alloc (.cells #[.slice An dat.length cn, .int .i64 safe] 88))) := ⟨(Mod.refl _ _).alloc _⟩
        have HGN := Sec.mk (HGB.out.mod HMN.out id)
        have HNN := Sec.mk (Blk.new wr 88 [.slice An dat.length cn, .int .i64 safe])
        have H3N := Sec.mk ((H3.out.wide (X' := fun k => (wz.heap.size ≤ k ∧ k ≠ g) ∧ k < wr.heap.size) (fun k h1 h2 => ⟨h2, h1⟩)).new HMN.out)
        have HRB := Sec.mk (HRW.out.mod (w' := wr.alloc (.cells #[.slice An dat.length cn, .int .i64 safe] 88)) (fun _ h => h) (fun k hk => Below.heap_alloc _ _ _ (Nat.lt_of_lt_of_le hk (Nat.le_of_lt hwr))))
        have hsn : wr.heap.size < (wr.alloc (.cells #[.slice An dat.length cn, .int .i64 safe] 88)).heap.size := by simp
        go_wp2
        clear n0 n1 HRW
        generalize wr.alloc (.cells #[.slice An dat.length cn, .int .i64 safe] 88) = wn at *
        refine reg_start [12] (fun W => Sec (W.cell? ⟨g, 0, none⟩ = some (.slice B0 m0 e0) ∧ W.cell? ⟨wr.heap.size, 0, none⟩ = some (.slice An dat.length cn) ∧ W.cell? ⟨wr.heap.size, 1, none⟩ = some (.int .i64 safe))) (by kernel_rfl) ?_
        have HSS : Sec (wn.drew.cell? ⟨g, 0, none⟩ = some (.slice B0 m0 e0) ∧ wn.drew.cell? ⟨wr.heap.size, 0, none⟩ = some (.slice An dat.length cn) ∧ wn.drew.cell? ⟨wr.heap.size, 1, none⟩ = some (.int .i64 safe)) := ⟨HGN.out.cell 0, HNN.out.cell 0, HNN.out.cell 1⟩
        refine reg_take (.pointer (some ⟨g, 0, none⟩)) (i := 0) (n := 28) HSS rfl (by kernel_rfl) (by kernel_rfl) (by kernel_rfl) (by kernel_rfl) (fun _ _ _ h => h) (fun W hW => exec_field rfl rfl (fptDisk0 _ _)) ?_
        simp only [Act.put, List.setIfInBounds_toArray, List.set_cons_zero, List.set_cons_succ]
        refine reg_take (.slice B0 m0 e0) (i := 1) (n := 29) HSS rfl (by kernel_rfl) (by kernel_rfl) (by kernel_rfl) (by kernel_rfl) (fun _ _ _ h => h) (fun W hW => exec_load rfl rfl (ldNodesD hW.out.1)) ?_
        simp only [Act.put, List.setIfInBounds_toArray, List.set_cons_zero, List.set_cons_succ]
        refine reg_take (.pointer (some ⟨wr.heap.size, 0, none⟩)) (i := 3) (n := 31) HSS rfl (by kernel_rfl) (by kernel_rfl) (by kernel_rfl) (by kernel_rfl) (fun _ _ _ h => h) (fun W hW => exec_field rfl rfl (fptNode0D _ _)) ?_
        simp only [Act.put, List.setIfInBounds_toArray, List.set_cons_zero, List.set_cons_succ]
        refine reg_take (.slice An dat.length cn) (i := 4) (n := 32) HSS rfl (by kernel_rfl) (by kernel_rfl) (by kernel_rfl) (by kernel_rfl) (fun _ _ _ h => h) (fun W hW => exec_load rfl rfl (ldBytesD hW.out.2.1)) ?_
        simp only [Act.put, List.setIfInBounds_toArray, List.set_cons_zero, List.set_cons_succ]
        refine reg_take (.pointer (some ⟨wr.heap.size, 1, none⟩)) (i := 6) (n := 34) HSS rfl (by kernel_rfl) (by kernel_rfl) (by kernel_rfl) (by kernel_rfl) (fun _ _ _ h => h) (fun W hW => exec_field rfl rfl (fptNode1D _ _)) ?_
        simp only [Act.put, List.setIfInBounds_toArray, List.set_cons_zero, List.set_cons_succ]
        refine reg_take (.int .i64 safe) (i := 7) (n := 35) HSS rfl (by kernel_rfl) (by kernel_rfl) (by kernel_rfl) (by kernel_rfl) (fun _ _ _ h => h) (fun W hW => exec_load rfl rfl (ldIntD hW.out.2.2)) ?_
        simp only [Act.put, List.setIfInBounds_toArray, List.set_cons_zero, List.set_cons_succ]
        refine reg_step (i := 2) rfl (by kernel_rfl) (fun K hK => ?_)
        have HMN4 : Sec (Mine Ty.byte 5 wn (wn.drew.alloc (.cells #[] 5)) (.slice (some ⟨wn.drew.heap.size, 0, none⟩) 0 0) []) := ⟨Mine.empty _ _ rfl (Mod.refl _ _).drew⟩
        have HN4' := Sec.mk HMN4.out.new
        have HSS : Sec ((wn.drew.alloc (.cells #[] 5)).cell? ⟨g, 0, none⟩ = some (.slice B0 m0 e0) ∧ (wn.drew.alloc (.cells #[] 5)).cell? ⟨wr.heap.size, 0, none⟩ = some (.slice An dat.length cn) ∧ (wn.drew.alloc (.cells #[] 5)).cell? ⟨wr.heap.size, 1, none⟩ = some (.int .i64 safe)) := ⟨(HGN.out.mod HN4'.out id).cell 0, (HNN.out.mod HN4'.out id).cell 0, (HNN.out.mod HN4'.out id).cell 1⟩
        refine wp_valw (n := 30) (v := .slice (some ⟨wn.drew.heap.size, 0, none⟩) 0 0) (w' := (wn.drew.alloc (.cells #[] 5))) (exec_buildSlice (parts := []) (vs := []) rfl rfl (bldBytes0I _)) rfl ?_
        refine hK.out _ _ (fun _ => HSS) ?_
        clear hK K
        simp only [Act.put, List.setIfInBounds_toArray, List.set_cons_zero, List.set_cons_succ]
        refine reg_step (i := 5) rfl (by kernel_rfl) (fun K hK => ?_)
        refine wp_appM _ (.tmp 30) (.tmp 32) _ rfl Tryz.underlying52 elt_byte flat_byte rfl rfl HMN4.out (HRB.out.mod (w' := (wn.drew.alloc (.cells #[] 5))) (B' := (· < w.heap.size)) (fun _ h => h) (fun k hk => HN4'.out.block k (by have : k < w.heap.size := hk; omega) id)) (by simp; omega) ?_
        intro A5 n5 c5 w5 hm5
        rw [List.nil_append] at hm5
        obtain ⟨rfl, -, -⟩ := hm5.len
        have HMN5 := Sec.mk hm5
        have HN5 := Sec.mk hm5.new
        have HSS : Sec (w5.cell? ⟨g, 0, none⟩ = some (.slice B0 m0 e0) ∧ w5.cell? ⟨wr.heap.size, 0, none⟩ = some (.slice An dat.length cn) ∧ w5.cell? ⟨wr.heap.size, 1, none⟩ = some (.int .i64 safe)) := ⟨(HGN.out.mod HN5.out id).cell 0, (HNN.out.mod HN5.out id).cell 0, (HNN.out.mod HN5.out id).cell 1⟩
        refine hK.out _ _ (fun _ => HSS) ?_
        clear hm5
        clear hK K
        simp only [Act.put, List.setIfInBounds_toArray, List.set_cons_zero, List.set_cons_succ]
        refine reg_take (.agg #[.slice A5 dat.length c5, .int .i64 safe]) (i := 8) (n := 36) HSS rfl (by kernel_rfl) (by kernel_rfl) (by kernel_rfl) (by kernel_rfl) (fun _ _ _ h => h) (fun W hW => exec_build (parts := [(0, .tmp 33), (1, .tmp 35)]) rfl rfl (bldNode _ _ _ _ _)) ?_
        simp only [Act.put, List.setIfInBounds_toArray, List.set_cons_zero, List.set_cons_succ]
        refine reg_step (i := 9) rfl (by kernel_rfl) (fun K hK => ?_)
        refine wp_valw (n := 37) (v := .slice (some ⟨w5.heap.size, 0, none⟩) 1 1) (w' := (w5.alloc (.cells #[.slice A5 dat.length c5, .int .i64 safe] 88))) (exec_buildSlice (parts := [(0, .tmp 36)]) (vs := [(0, .agg #[.slice A5 dat.length c5, .int .i64 safe])]) rfl rfl (bldNode1 _ _ _ _ _)) rfl ?_
        have HN6 := Sec.mk (HN5.out.alloc (.cells #[.slice A5 dat.length c5, .int .i64 safe] 88))
        have HSS : Sec ((w5.alloc (.cells #[.slice A5 dat.length c5, .int .i64 safe] 88)).cell? ⟨g, 0, none⟩ = some (.slice B0 m0 e0) ∧ (w5.alloc (.cells #[.slice A5 dat.length c5, .int .i64 safe] 88)).cell? ⟨wr.heap.size, 0, none⟩ = some (.slice An dat.length cn) ∧ (w5.alloc (.cells #[.slice A5 dat.length c5, .int .i64 safe] 88)).cell? ⟨wr.heap.size, 1, none⟩ = some (.int .i64 safe)) := ⟨(HGN.out.mod HN6.out id).cell 0, (HNN.out.mod HN6.out id).cell 0, (HNN.out.mod HN6.out id).cell 1⟩
        refine hK.out _ _ (fun _ => HSS) ?_
        clear hK K
        simp only [Act.put, List.setIfInBounds_toArray, List.set_cons_zero, List.set_cons_succ]
        refine reg_step (i := 10) rfl (by kernel_rfl) (fun K hK => ?_)
        obtain ⟨⟨F5, ho5, hF5⟩, -⟩ := HMN5.out
        have hs5 := HN5.out.size
        refine Out4.wp0 (X := fun k => wz.heap.size ≤ k ∧ k ≠ g ∧ k ≠ wr.heap.size) _ (.tmp 29) (.tmp 37) _ rfl Tryz.underlying30 rfl rfl (H3N.out.new HN6.out) (y := (dat, safe)) (mNode (x := (dat, safe)) HWP.out (ho5.keep ((Mod.refl (fun _ => False) w5).alloc _) (fun _ _ h => h))) (fun k hk => by have := hF5 k (by simpa using hk); omega) (lit_cells _ _ _ rfl) (fun k hk => by omega) (fun k hk => by simp at hk; omega) (by have := HLK.out; simp only at this ⊢; omega) ?_
        intro A7 n7 c7 w7 h7 hm7
        have H7 := Sec.mk h7
        have HG7 := Sec.mk ((HGN.out.mod HN6.out id).mod hm7 (by omega))
        have HNN7 := Sec.mk ((HNN.out.mod HN6.out id).mod hm7 (by omega))
        have HD7 := Sec.mk (((HD.out.mod HMN.out id).mod HN6.out id).mod hm7 (by omega))
        have HQ7 := Sec.mk (((HQq.out.mod HMN.out id).mod HN6.out id).mod hm7 (by omega))
        have HW7 := Sec.mk (((HMw.out.transN HMN.out).transN HN6.out).trans hm7 (fun i hi hlt => by omega))
        have HSS : Sec (w7.cell? ⟨g, 0, none⟩ = some (.slice B0 m0 e0) ∧ w7.cell? ⟨wr.heap.size, 0, none⟩ = some (.slice An dat.length cn) ∧ w7.cell? ⟨wr.heap.size, 1, none⟩ = some (.int .i64 safe)) := ⟨HG7.out.cell 0, HNN7.out.cell 0, HNN7.out.cell 1⟩
        refine hK.out _ _ (fun _ => HSS) ?_
        clear h7 hm7 ho5 hF5
        clear hK K
        simp only [Act.put, List.setIfInBounds_toArray, List.set_cons_zero, List.set_cons_succ]
        refine reg_take (.pointer (some ⟨g, 0, none⟩)) (i := 11) (n := 39) HSS rfl (by kernel_rfl) (by kernel_rfl) (by kernel_rfl) (by kernel_rfl) (fun _ _ _ h => h) (fun W hW => exec_field rfl rfl (fptDisk0 _ _)) ?_
        simp only [Act.put, List.setIfInBounds_toArray, List.set_cons_zero, List.set_cons_succ]
        refine reg_step (i := 12) rfl (by kernel_rfl) (fun K hK => ?_)
        refine wp_store rfl rfl rfl rfl (stNodesC A7 n7 c7 (HG7.out.cell 0) (HG7.out.frozen 0)) (hK.out _ _ (fun h => absurd (List.mem_singleton.2 rfl) h) ?_)
        clear hK K
        refine reg_done (by kernel_rfl) ?_ _
        have HG8 := Sec.mk (HG7.out.set_ 0 (.slice A7 n7 c7))
        simp only [List.set_cons_zero] at HG8
        have H8 := Sec.mk ((H7.out.wide (X' := fun k => wz.heap.size ≤ k ∧ k ≠ g) (fun k _ h => ⟨h.1, h.2.1⟩)).keep ((Mod.refl (fun k => k = g) w7).setCell (p := ⟨g, 0, none⟩) (fun _ => rfl) (.slice A7 n7 c7)) (fun k h e => h.2 e))
        have HD8 := Sec.mk (HD7.out.far (p := ⟨g, 0, none⟩) (by show w.heap.size ≠ g; omega) (.slice A7 n7 c7))
        have HQ8 := Sec.mk (HQ7.out.far (p := ⟨g, 0, none⟩) (by show w.heap.size + 1 ≠ g; omega) (.slice A7 n7 c7))
        have HW8 := Sec.mk (HW7.out.setCell (p := ⟨g, 0, none⟩) (fun h => by exfalso; simp only at h; omega) (.slice A7 n7 c7))
        clear HSS HG7 HNN7 HD7 HQ7 HW7 H7
        go_wp2
        go_roundw
        case rel =>
          refine ⟨k + 1, A7, n7, c7, by omega, by go_num, HG8, ⟨?_⟩, HD8, HQ8, HW8⟩
          rw [HTK.out]
          exact H8.out
        case measure => simp [intOf]; omega
      · obtain rfl : k = x.1.length := by omega
        have m0' : wr.cell? ⟨g, 0, none⟩ = some (.slice B0 m0 e0) := HGB.out.cell 0
        have m1' : wr.cell? ⟨g, 1, none⟩ = some (.slice B1 m1 e1) := HGB.out.cell 1
        have m2' : wr.cell? ⟨g, 2, none⟩ = some (.slice B2 m2 e2) := HGB.out.cell 2
        have m3' : wr.cell? ⟨g, 3, none⟩ = some (.slice B3 m3 e3) := HGB.out.cell 3
        have m4' : wr.cell? ⟨g, 4, none⟩ = some (.int .i64 x.2.2.2.2) := HGB.out.cell 4
        have q0 : wr.cell? ⟨w.heap.size + 1, 0, none⟩ = some (.slice none 0 0) := HQq.out.cell 0
        have q1 : wr.cell? ⟨w.heap.size + 1, 1, none⟩ = some (.slice none 0 0) := HQq.out.cell 1
        have q2 : wr.cell? ⟨w.heap.size + 1, 2, none⟩ = some (.slice none 0 0) := HQq.out.cell 2
        have q3 : wr.cell? ⟨w.heap.size + 1, 3, none⟩ = some (.slice none 0 0) := HQq.out.cell 3
        have q4 : wr.cell? ⟨w.heap.size + 1, 4, none⟩ = some (.int .i64 0) := HQq.out.cell 4
        have f0 : wr.frozen? ⟨w.heap.size + 1, 0, none⟩ = false := HQq.out.frozen 0
        have f1 : wr.frozen? ⟨w.heap.size + 1, 1, none⟩ = false := HQq.out.frozen 1
        have f2 : wr.frozen? ⟨w.heap.size + 1, 2, none⟩ = false := HQq.out.frozen 2
        have f3 : wr.frozen? ⟨w.heap.size + 1, 3, none⟩ = false := HQq.out.frozen 3
        have f4 : wr.frozen? ⟨w.heap.size + 1, 4, none⟩ = false := HQq.out.frozen 4
        have hlq : w.heap.size + 1 < wr.heap.size := HQq.out.lt
        have H3' := H3.out
        rw [List.take_length] at H3'
        have HFB := Sec.mk (set5_blk HQq.out (.slice B0 m0 e0) (.slice B1 m1 e1) (.slice B2 m2 e2) (.slice B3 m3 e3) (.int .i64 x.2.2.2.2))
        have HFM := Sec.mk (set5_mod wr (w.heap.size + 1) (.slice B0 m0 e0) (.slice B1 m1 e1) (.slice B2 m2 e2) (.slice B3 m3 e3) (.int .i64 x.2.2.2.2))
        have H4 := Sec.mk (H3'.keep HFM.out (fun k h e => by omega))
        have HM5 := Sec.mk (HMw.out.trans HFM.out (fun i hi hlt => by omega))
        clear H3'
        go_wp2
        refine bodyPost_ret (results_blk rfl rfl HFB.out Tryz.underlying34 (by kernel_rfl)) rfl ?_
        exact ⟨_, _, _, _, rfl, H4.out.wide (fun k _ h => by omega), HM5.out⟩
end Go.Proofs.YtkkgighgnbbgiaaGreatDoor

namespace Go.Proofs.YtkkgighgnbbgiaaGreatDoor
open Go.RowKit Mem
set_option linter.unusedVariables false
set_option linter.unusedSimpArgs false
abbrev OpT := Int × (Bytes × (Bytes × Bytes))
abbrev dOp : Ty OpT := Ty.pair (Ty.int .i64) (Ty.pair Ty.str (Ty.pair Ty.str dBS))
set_option synthInstance.maxSize 2000
theorem rdOp {w : World} {v : Value} {x : OpT} (h : RdV true dOp w v x) : ∃ v3, v = .agg #[.int .i64 x.1, .string ⟨(x.2.1).toArray⟩, .string ⟨(x.2.2.1).toArray⟩, v3] ∧ RdV false dBS w v3 x.2.2.2 := by
  obtain ⟨cs, rfl, c0, r0, rfl, h0, c1, r1, rfl, h1, c2, c3, rfl, h2, h3⟩ := h
  obtain ⟨rfl, g0⟩ := h0
  obtain ⟨rfl, g1⟩ := h1
  obtain ⟨rfl, g2⟩ := h2
  obtain ⟨A3, cp3, rfl, g3⟩ := h3
  exact ⟨_, rfl, ⟨_, rfl, A3, cp3, rfl, g3⟩⟩
theorem cellsOp {w : World} {v : Value} {x : OpT} (h : RdV true dOp w v x) : ∃ A3 q3, v = .agg #[.int .i64 x.1, .string ⟨(x.2.1).toArray⟩, .string ⟨(x.2.2.1).toArray⟩, .slice A3 x.2.2.2.length q3] := by
  obtain ⟨v3, rfl, k3⟩ := rdOp h
  obtain ⟨A3, q3, rfl, _⟩ := k3.slice
  exact ⟨A3, q3, rfl⟩
theorem fldOp0 : Fld dOp 0 (Ty.int .i64) (fun x => x.1) (fun x y => (y, x.2)) := (Fld.fst (Fld.one rfl))
theorem fldOp1 : Fld dOp 1 Ty.str (fun x => x.2.1) (fun x y => (x.1, y, x.2.2)) := (Fld.snd (Fld.fst (Fld.one rfl)) rfl)
theorem fldOp2 : Fld dOp 2 Ty.str (fun x => x.2.2.1) (fun x y => (x.1, x.2.1, y, x.2.2.2)) := (Fld.snd (Fld.snd (Fld.fst (Fld.one rfl)) rfl) rfl)
theorem fldOp3 : Fld dOp 3 dBS (fun x => x.2.2.2) (fun x y => (x.1, x.2.1, x.2.2.1, y)) := (Fld.snd (Fld.snd (Fld.snd (Fld.one rfl) rfl) rfl) rfl)
theorem eltOp : Elt Tryz.prog 57 dOp.sz (.agg #[.int .i64 0, .string ⟨#[]⟩, .string ⟨#[]⟩, .slice none 0 0]) := Elt.of (b := 64) (by kernel_rfl) rfl (by decide) (by decide)
theorem mOp {w : World} {x : OpT} {F3 : List Nat} {v3 : Value} (g0 : IntKind.i64.wrap x.1 = x.1) (g1 : x.2.1.length ≤ 9223372036854775807) (g2 : x.2.2.1.length ≤ 9223372036854775807) (o3 : Own Ty.byte 5 w F3 v3 x.2.2.2) : dOp.M w (F3) x [.int .i64 x.1, .string ⟨(x.2.1).toArray⟩, .string ⟨(x.2.2.1).toArray⟩, v3] :=
  ⟨_, _, [], _, rfl, rfl, (by simpa using o3.nd), ⟨rfl, rfl, g0⟩, ⟨_, _, [], _, rfl, rfl, (by simpa using o3.nd), ⟨rfl, rfl, g1⟩, ⟨_, _, [], _, rfl, rfl, (by simpa using o3.nd), ⟨rfl, rfl, g2⟩, ⟨_, rfl, o3⟩⟩⟩⟩
theorem ofOp {w : World} {lo hi : Nat} {x : OpT} {v3 : Value} (g0 : IntKind.i64.wrap x.1 = x.1) (g1 : x.2.1.length ≤ 9223372036854775807) (g2 : x.2.2.1.length ≤ 9223372036854775807) (h : OwI Ty.byte 5 w lo hi v3 x.2.2.2) : OwV true dOp w lo hi (.agg #[.int .i64 x.1, .string ⟨(x.2.1).toArray⟩, .string ⟨(x.2.2.1).toArray⟩, v3]) x := by
  obtain ⟨F, ho, hF⟩ := h
  exact ⟨_, _, rfl, mOp g0 g1 g2 ho, hF⟩

set_option maxHeartbeats 1000000 in
set_option maxRecDepth 100000 in
theorem eqOp_v {w : World} {v v' : Value} {x x' : OpT} (h : RdV true dOp w v x) (h' : RdV true dOp w v' x') : Calls Tryz.prog 35 #[v, v'] w (Ret (.bool (decide (x = x'))) w) := by
  obtain ⟨v3, rfl, k3⟩ := rdOp h
  obtain ⟨u3, rfl, k3'⟩ := rdOp h'
  obtain ⟨a0, a1, a2, a3⟩ := x
  obtain ⟨b0, b1, b2, b3⟩ := x'
  simp only at k3 k3' ⊢
  have HB0 := Sec.mk ((Blk.new w 57 [.int .i64 a0, .string ⟨(a1).toArray⟩, .string ⟨(a2).toArray⟩, v3]).alloc (.cells #[.int .i64 b0, .string ⟨(b1).toArray⟩, .string ⟨(b2).toArray⟩, u3] 57))
  have HB1 := Sec.mk (Blk.new (w.alloc (.cells #[.int .i64 a0, .string ⟨(a1).toArray⟩, .string ⟨(a2).toArray⟩, v3] 57)) 57 [.int .i64 b0, .string ⟨(b1).toArray⟩, .string ⟨(b2).toArray⟩, u3])
  rw [show (w.alloc (.cells #[.int .i64 a0, .string ⟨(a1).toArray⟩, .string ⟨(a2).toArray⟩, v3] 57)).heap.size = w.heap.size + 1 by simp] at HB1
  have HM0 := Sec.mk (((Mod.refl (fun _ => False) w).alloc (.cells #[.int .i64 a0, .string ⟨(a1).toArray⟩, .string ⟨(a2).toArray⟩, v3] 57)).alloc (.cells #[.int .i64 b0, .string ⟨(b1).toArray⟩, .string ⟨(b2).toArray⟩, u3] 57))
  have H3 := Sec.mk (k3.step HM0.out)
  have H3' := Sec.mk (k3'.step HM0.out)
  clear h h' k3 k3'
  by_cases e0 : a0 = b0
  rotate_left
  · have HE : Sec (decide ((a0, a1, a2, a3) = (b0, b1, b2, b3)) = false) := ⟨by simp [e0]⟩
    have hb0 : (a0 != b0) = true := by simpa using e0
    clear e0
    go_enter Tryz.func35, Tryz.ntmps35
    go_wp2
    go_ret
    exact ⟨by rw [HE.out]; rfl, HM0.out⟩
  have hb0 : (a0 != b0) = false := by simp [e0]
  have S0 := Sec.mk e0
  clear e0
  by_cases e1 : a1 = b1
  rotate_left
  · have HE : Sec (decide ((a0, a1, a2, a3) = (b0, b1, b2, b3)) = false) := ⟨by simp [e1]⟩
    have hb1 : (a1 == b1) = false := by simpa using e1
    clear e1
    go_enter Tryz.func35, Tryz.ntmps35
    go_wp2
    go_ret
    exact ⟨by rw [HE.out]; rfl, HM0.out⟩
  have hb1 : (a1 == b1) = true := by simp [e1]
  have S1 := Sec.mk e1
  clear e1
  by_cases e2 : a2 = b2
  rotate_left
  · have HE : Sec (decide ((a0, a1, a2, a3) = (b0, b1, b2, b3)) = false) := ⟨by simp [e2]⟩
    have hb2 : (a2 == b2) = false := by simpa using e2
    clear e2
    go_enter Tryz.func35, Tryz.ntmps35
    go_wp2
    go_ret
    exact ⟨by rw [HE.out]; rfl, HM0.out⟩
  have hb2 : (a2 == b2) = true := by simp [e2]
  have S2 := Sec.mk e2
  clear e2
  by_cases e3 : a3 = b3
  rotate_left
  · have HE : Sec (decide ((a0, a1, a2, a3) = (b0, b1, b2, b3)) = false) := ⟨by simp [e3]⟩
    have E3 : Sec (decide (a3 = b3) = false) := ⟨by simp [e3]⟩
    clear e3
    go_enter Tryz.func35, Tryz.ntmps35
    go_wp2_with fail
    refine (eqByteS_v (H3.out) (H3'.out)).mono ?_
    rw [E3.out]
    rintro e w3 ⟨rfl, hm3⟩
    have m3 := Sec.mk hm3
    clear hm3
    go_wp2
    go_ret
    exact ⟨by rw [HE.out]; rfl, HM0.out.transN m3.out⟩
  have E3 : Sec (decide (a3 = b3) = true) := ⟨by simp [e3]⟩
  have S3 := Sec.mk e3
  clear e3
  have HE : Sec (decide ((a0, a1, a2, a3) = (b0, b1, b2, b3)) = true) := ⟨by simp [S0.out, S1.out, S2.out, S3.out]⟩
  go_enter Tryz.func35, Tryz.ntmps35
  go_wp2_with fail
  refine (eqByteS_v (H3.out) (H3'.out)).mono ?_
  rw [E3.out]
  rintro e w3 ⟨rfl, hm3⟩
  have m3 := Sec.mk hm3
  clear hm3
  go_wp2
  go_ret
  exact ⟨by rw [HE.out]; rfl, HM0.out.transN m3.out⟩

def mkOp1 (k : Nat) (x : OpT) : OpT := (((k : Nat) : Int), markT (k + 1), markT (k + 2), mkBS1 (k + 3) x.2.2.2)
def cntOp (x : OpT) : Nat := 1 + 1 + 1 + cntBS x.2.2.2
theorem cntOp_mk (k : Nat) (x : OpT) : cntOp (mkOp1 k x) = cntOp x := by simp only [cntOp, mkOp1, cntBS_mk]
theorem mkOp1_idem (k k' : Nat) (x : OpT) : mkOp1 k' (mkOp1 k x) = mkOp1 k' x := by simp only [mkOp1, cntBS_mk, mkBS1_idem]
abbrev OpST := List OpT
abbrev dOpS : Ty OpST := Ty.slice 57 dOp
def cntOpS (xs : OpST) : Nat := preS cntOp xs xs.length
def mkOpS1 (k : Nat) (xs : OpST) : OpST := markL mkOp1 cntOp k xs
theorem cntOpS_mk (k : Nat) (xs : OpST) : cntOpS (mkOpS1 k xs) = cntOpS xs := by unfold cntOpS mkOpS1; rw [preS_mark _ _ cntOp_mk, markL_len]
theorem mkOpS1_idem (k k' : Nat) (xs : OpST) : mkOpS1 k' (mkOpS1 k xs) = mkOpS1 k' xs := markL_idem _ _ cntOp_mk mkOp1_idem k k' xs
theorem idxOpS (ad : Addr) (m c k : Nat) (h : k < m) (w : World) : (Instr.indexAt 39 (.slice (some ad) m c) (.int .i64 (k : Int))).run Tryz.prog w = .ok (.pointer (some (ad.add (k * 4)))) w := by
  have h0 : (0 : Int) ≤ (k : Int) := by omega
  have h1 : (k : Int) < (m : Int) := by omega
  go_simp
theorem fptOp1 (p : Addr) (w : World) : (Instr.fieldAt 57 (.pointer (some p)) 1).run Tryz.prog w = .ok (.pointer (some ⟨p.block, p.off + 1, none⟩)) w := by go_simp
theorem fptOp2 (p : Addr) (w : World) : (Instr.fieldAt 57 (.pointer (some p)) 2).run Tryz.prog w = .ok (.pointer (some ⟨p.block, p.off + 2, none⟩)) w := by go_simp

set_option maxHeartbeats 1000000 in
set_option maxRecDepth 100000 in
theorem eqOpS_v {w : World} {v v' : Value} {xs ys : OpST} (h : RdV false dOpS w v xs) (h' : RdV false dOpS w v' ys) : Calls Tryz.prog 12 #[v, v'] w (Ret (.bool (decide (xs = ys))) w) := by
  obtain ⟨A, c, rfl, -, hr⟩ := h.slice
  obtain ⟨A', c', rfl, -, hr'⟩ := h'.slice
  have hl := hr.2.1
  have HR := Sec.mk hr
  have HR' := Sec.mk hr'
  clear h h' hr hr'
  by_cases hne : xs.length = ys.length
  rotate_left
  · have hnb : ((xs.length : Int) != (ys.length : Int)) = true := by simp; omega
    have HE : Sec (decide (xs = ys) = false) := ⟨by simp [show xs ≠ ys from fun e => hne (by rw [e])]⟩
    clear hne
    go_enter Tryz.func12, Tryz.ntmps12
    go_wp2
    go_ret
    exact ⟨by rw [HE.out]; rfl, Mod.refl _ _⟩
  have hnb : ((xs.length : Int) != (ys.length : Int)) = false := by simp [hne]
  have HNE := Sec.mk hne
  clear hne
  go_enter Tryz.func12, Tryz.ntmps12
  go_wp2
  go_loopw [5] (fun i wr => ∃ k : Nat, k ≤ xs.length ∧ i = .int .i64 k ∧ Sec (xs.take k = ys.take k) ∧ Sec (New w wr)) (fun i _ => xs.length - (intOf i).toNat)
  case atStart => exact ⟨0, Nat.zero_le _, rfl, Sec.mk (by simp), Sec.mk (Mod.refl _ _)⟩
  case round =>
    obtain ⟨k, hk, rfl, HT, HM⟩ := hrel
    by_cases hlt : k < xs.length
    · have hlt2 : k < ys.length := by rw [← HNE.out]; exact hlt
      obtain ⟨ad, vx, rfl, hx⟩ := HR.out.elem (P := Tryz.prog) hlt 57 Tryz.underlying57 rfl (by kernel_rfl)
      obtain ⟨ad', vy, rfl, hy⟩ := HR'.out.elem (P := Tryz.prog) hlt2 57 Tryz.underlying57 rfl (by kernel_rfl)
      have HX : Sec (∀ W, New wr W → (Instr.loadAt 57 (.pointer (some (ad.add (k * 4))))).run Tryz.prog W = .ok vx W ∧ RdV true dOp W vx xs[k]) := ⟨fun W hW => hx W (fun i hi => (hW.block i (Nat.lt_of_lt_of_le hi HM.out.size) id).trans (HM.out.block i hi id)) (fun i hi => Nat.lt_of_lt_of_le hi (Nat.le_trans HM.out.size hW.size))⟩
      have HY : Sec (∀ W, New wr W → (Instr.loadAt 57 (.pointer (some (ad'.add (k * 4))))).run Tryz.prog W = .ok vy W ∧ RdV true dOp W vy (ys[k]'hlt2)) := ⟨fun W hW => hy W (fun i hi => (hW.block i (Nat.lt_of_lt_of_le hi HM.out.size) id).trans (HM.out.block i hi id)) (fun i hi => Nat.lt_of_lt_of_le hi (Nat.le_trans HM.out.size hW.size))⟩
      have HXY : Sec (xs[k] = ys[k]'hlt2 → xs.take (k + 1) = ys.take (k + 1)) := ⟨fun h => by rw [List.take_succ_eq_append_getElem hlt, List.take_succ_eq_append_getElem hlt2, HT.out, h]⟩
      have HNQ : Sec (xs[k] ≠ ys[k]'hlt2 → decide (xs = ys) = false) := ⟨fun h => by simp only [decide_eq_false_iff_not]; intro e; exact h (by subst e; rfl)⟩
      clear hx hy HT
      generalize xs[k] = x at *
      generalize ys[k]'hlt2 = y at *
      have hki : (k : Int) < (xs.length : Int) := by omega
      have hkj : (k : Int) < (ys.length : Int) := by omega
      go_wp2
      refine reg_start [] (fun W => Sec (New wr W)) (by kernel_rfl) ?_
      have HSS : Sec (New wr wr.drew) := ⟨(Mod.refl _ _).drew⟩
      refine reg_take (.slice (some ad) xs.length c) (i := 0) (n := 17) HSS rfl (by kernel_rfl) (by kernel_rfl) (by kernel_rfl) (by kernel_rfl) (fun _ _ _ h => h) (fun W hW => exec_move rfl rfl) ?_
      simp only [Act.put, List.setIfInBounds_toArray, List.set_cons_zero, List.set_cons_succ]
      refine reg_take (.int .i64 (k : Int)) (i := 1) (n := 18) HSS rfl (by kernel_rfl) (by kernel_rfl) (by kernel_rfl) (by kernel_rfl) (fun _ _ _ h => h) (fun W hW => exec_move rfl rfl) ?_
      simp only [Act.put, List.setIfInBounds_toArray, List.set_cons_zero, List.set_cons_succ]
      refine reg_take (.pointer (some (ad.add (k * 4)))) (i := 2) (n := 19) HSS rfl (by kernel_rfl) (by kernel_rfl) (by kernel_rfl) (by kernel_rfl) (fun _ _ _ h => h) (fun W hW => exec_indexAddr rfl rfl rfl (idxOpS _ _ _ _ hlt _)) ?_
      simp only [Act.put, List.setIfInBounds_toArray, List.set_cons_zero, List.set_cons_succ]
      refine reg_take (vx) (i := 3) (n := 20) HSS rfl (by kernel_rfl) (by kernel_rfl) (by kernel_rfl) (by kernel_rfl) (fun _ _ _ h => h) (fun W hW => exec_load rfl rfl (HX.out W hW.out).1) ?_
      simp only [Act.put, List.setIfInBounds_toArray, List.set_cons_zero, List.set_cons_succ]
      refine reg_take (.slice (some ad') ys.length c') (i := 4) (n := 21) HSS rfl (by kernel_rfl) (by kernel_rfl) (by kernel_rfl) (by kernel_rfl) (fun _ _ _ h => h) (fun W hW => exec_move rfl rfl) ?_
      simp only [Act.put, List.setIfInBounds_toArray, List.set_cons_zero, List.set_cons_succ]
      refine reg_take (.int .i64 (k : Int)) (i := 5) (n := 22) HSS rfl (by kernel_rfl) (by kernel_rfl) (by kernel_rfl) (by kernel_rfl) (fun _ _ _ h => h) (fun W hW => exec_move rfl rfl) ?_
      simp only [Act.put, List.setIfInBounds_toArray, List.set_cons_zero, List.set_cons_succ]
      refine reg_take (.pointer (some (ad'.add (k * 4)))) (i := 6) (n := 23) HSS rfl (by kernel_rfl) (by kernel_rfl) (by kernel_rfl) (by kernel_rfl) (fun _ _ _ h => h) (fun W hW => exec_indexAddr rfl rfl rfl (idxOpS _ _ _ _ hlt2 _)) ?_
      simp only [Act.put, List.setIfInBounds_toArray, List.set_cons_zero, List.set_cons_succ]
      refine reg_take (vy) (i := 7) (n := 24) HSS rfl (by kernel_rfl) (by kernel_rfl) (by kernel_rfl) (by kernel_rfl) (fun _ _ _ h => h) (fun W hW => exec_load rfl rfl (HY.out W hW.out).1) ?_
      simp only [Act.put, List.setIfInBounds_toArray, List.set_cons_zero, List.set_cons_succ]
      refine reg_step (i := 8) rfl (by kernel_rfl) (fun K hK => ?_)
      refine wp_call (n := 25) (vals := [vx, vy]) rfl rfl rfl (by kernel_rfl) (eqOp_v (HX.out _ HSS.out).2 (HY.out _ HSS.out).2) ?_
      rintro e w1 ⟨rfl, hm1⟩
      have HS1 : Sec (New wr w1) := ⟨HSS.out.transN hm1⟩
      refine ⟨_, rfl, hK.out _ _ (fun _ => HS1) ?_⟩
      clear hK K hm1
      simp only [Act.put, List.setIfInBounds_toArray, List.set_cons_zero, List.set_cons_succ]
      refine reg_step (i := 9) rfl (by kernel_rfl) (fun K hK => ?_)
      refine wp_val (n := 26) (v := .bool (!decide (x = y))) (exec_un rfl rfl (Mem.not_r _ _)) rfl (hK.out _ _ (fun _ => HS1) ?_)
      clear hK K
      simp only [Act.put, List.setIfInBounds_toArray, List.set_cons_zero, List.set_cons_succ]
      refine reg_done (by kernel_rfl) ?_ _
      have HM' := Sec.mk (HM.out.transN HS1.out)
      by_cases hxy : x = y
      · have HT' := Sec.mk (HXY.out hxy)
        have hd : decide (x = y) = true := by simp [hxy]
        clear hxy HXY HNQ HX HY
        rw [hd]
        go_wp2
        go_roundw
        case rel => exact ⟨k + 1, by omega, by go_num, HT', HM'⟩
        case measure => simp [intOf]; omega
      · have HE := Sec.mk (HNQ.out hxy)
        have hd : decide (x = y) = false := by simp [hxy]
        clear hxy HXY HNQ HX HY
        rw [hd]
        go_wp2
        go_ret
        exact ⟨by rw [HE.out]; rfl, HM'.out⟩
    · have HE : Sec (decide (xs = ys) = true) := ⟨by
        have h1 := HT.out
        rw [List.take_of_length_le (by omega), List.take_of_length_le (by rw [← HNE.out]; omega)] at h1
        simp [h1]⟩
      go_wp2
      go_ret
      exact ⟨by rw [HE.out]; rfl, HM.out⟩


set_option maxHeartbeats 1000000 in
set_option maxRecDepth 100000 in
theorem markOpS_calls {A : Option Addr} {c : Nat} {xs : OpST} {F : List Nat} {w : World} (h : Own dOp 57 w F (.slice A xs.length c) xs) (k : Nat) (hk : k + cntOpS xs ≤ 1152921504606846976) :
    Calls Tryz.prog 14 #[.slice A xs.length c, .int .i64 k] w fun e w' => e = .returned (.int .i64 ((k + cntOpS xs : Nat) : Int)) ∧ ∃ F', Own dOp 57 w' F' (.slice A xs.length c) (mkOpS1 k xs) ∧ (∀ i, i ∈ F' → i ∈ F) ∧ Mod (· ∈ F) w w' := by
  have hlx := h.len_le
  have HO := Sec.mk h
  have HKK : Sec (cntOpS xs = preS cntOp xs xs.length) := ⟨rfl⟩
  rw [HKK.out] at hk ⊢
  clear h
  go_enter Tryz.func14, Tryz.ntmps14
  go_wp2
  go_loopw [1, 5] (fun q i wr => ∃ (j : Nat) (ys : OpST) (G : List Nat), j ≤ xs.length ∧ i = .int .i64 j ∧ q = .int .i64 ((k + preS cntOp xs j : Nat) : Int) ∧ Sec (ys = (mkOpS1 k xs).take j ++ xs.drop j) ∧ Sec (Own dOp 57 wr G (.slice A xs.length c) ys) ∧ Sec (∀ k, k ∈ G → k ∈ F) ∧ Sec (Mod (· ∈ F) w wr)) (fun _ i _ => xs.length - (intOf i).toNat)
  case atStart => exact ⟨0, xs, F, Nat.zero_le _, rfl, by rw [preS_zero]; rfl, ⟨by simp⟩, HO, ⟨fun _ h => h⟩, ⟨Mod.refl _ _⟩⟩
  case round =>
    obtain ⟨j, ys, G, hj, rfl, rfl, HY, HO, HF, HM⟩ := hrel
    by_cases hlt : j < xs.length
    · have hyl : ys.length = xs.length := by rw [HY.out]; exact take_drop_len (markL_len _ _ k xs) j
      have hjy : j < ys.length := by omega
      have hyj : ys[j] = xs[j] := by simp only [HY.out]; exact take_drop_at (markL_len _ _ k xs) hlt _
      have hks := preS_succ cntOp xs hlt
      have hkl := preS_le cntOp xs (j + 1)
      have HZ := Sec.mk (markL_at mkOp1 cntOp k xs (i := j) (by rw [markL_len]; exact hlt))
      have HTD : Sec (ys.set j (mkOp1 (k + preS cntOp xs j) xs[j]) = (mkOpS1 k xs).take (j + 1) ++ xs.drop (j + 1)) := ⟨by rw [← HZ.out, HY.out]; exact take_drop_set (markL_len _ _ k xs) hlt⟩
      have HX : Sec (Own dOp 57 wr G (.slice A xs.length c) (ys.set j xs[j])) := ⟨by rw [← hyj, List.set_getElem_self]; exact HO.out⟩
      obtain ⟨g, rfl, hgG, -, -⟩ := HO.out.cellsAt hjy
      have HgF := Sec.mk (HF.out g hgG)
      have HKS := Sec.mk hks
      have hkb : preS cntOp xs j + cntOp xs[j] ≤ preS cntOp xs xs.length := by omega
      clear hks hkl hyj HZ HO hgG
      have HCN : Sec (cntOp xs[j] = 1 + 1 + 1 + cntBS xs[j].2.2.2) := ⟨rfl⟩
      have hcn := HCN.out
      generalize hps : preS cntOp xs j = s at *
      generalize hxj : xs[j] = x at *
      have HJ := Sec.mk hjy
      obtain ⟨_, hA0, -, hcell0, hfz0⟩ := HX.out.cellsAt (j := j) (by rw [List.length_set]; exact hjy)
      injection hA0 with hA0
      injection hA0 with hA0
      subst hA0
      simp only [show dOp.sz = 4 from rfl] at hcell0
      obtain ⟨p0, hc0⟩ := hcell0 0 (by decide)
      have hf0 := hfz0 (j * 4 + 0)
      simp only [Nat.add_zero] at hc0 hf0
      clear hcell0 hfz0
      obtain ⟨hgg, hst⟩ := Own.fstoreAt fldOp0 (fun _ _ _ _ h => h.1) HJ.out HX.out
      obtain ⟨G0, ho, hG0⟩ := hst (.int .i64 ((k : Int) + (s : Int))) ((k : Int) + (s : Int)) (fun _ => ⟨rfl, rfl, by rw [IntKind.wrap_i64]; omega⟩)
      simp only [show dOp.sz = 4 from rfl, Nat.add_zero] at ho
      have HX0 := Sec.mk ho
      have HF0 := Sec.mk (fun i hi => HF.out i (hG0 i hi))
      have HM0 := Sec.mk (HM.out.setCell (p := ⟨g, j * 4, none⟩) (fun _ => HgF.out) (.int .i64 ((k : Int) + (s : Int))))
      clear hgg hst ho hG0
      go_wp2_with fail
      refine Calls.mono (markText_i _ ((k + s) + 1) ?_ ?_ _) ?_
      · first | rfl | omega
      · (try dsimp only at hcn ⊢); omega
      rintro e wt1 ⟨rfl, hmt1⟩
      have HXt1 := Sec.mk (HX0.out.new hmt1)
      have HMt1 := Sec.mk (HM0.out.transN hmt1)
      clear hmt1
      obtain ⟨_, hA1, -, hcell1, hfz1⟩ := HXt1.out.cellsAt (j := j) (by rw [List.length_set]; exact hjy)
      injection hA1 with hA1
      injection hA1 with hA1
      subst hA1
      simp only [show dOp.sz = 4 from rfl] at hcell1
      obtain ⟨p1, hc1⟩ := hcell1 1 (by decide)
      have hf1 := hfz1 (j * 4 + 1)
      clear hcell1 hfz1
      obtain ⟨hgg, hst⟩ := Own.fstoreAt fldOp1 (fun _ _ _ _ h => h.1) HJ.out HXt1.out
      obtain ⟨G1, ho, hG1⟩ := hst (.string ⟨((markT ((k + s) + 1))).toArray⟩) (markT ((k + s) + 1)) (fun _ => ⟨rfl, rfl, markT_len _ (by (try dsimp only at hcn ⊢); omega)⟩)
      simp only [show dOp.sz = 4 from rfl] at ho
      have HX1 := Sec.mk ho
      have HF1 := Sec.mk (fun i hi => HF0.out i (hG1 i hi))
      have HM1 := Sec.mk (HMt1.out.setCell (p := ⟨g, j * 4 + 1, none⟩) (fun _ => HgF.out) (.string ⟨((markT ((k + s) + 1))).toArray⟩))
      clear hgg hst ho hG1
      go_wp2_with fail
      refine Calls.mono (markText_i _ ((k + s) + 2) ?_ ?_ _) ?_
      · first | rfl | omega
      · (try dsimp only at hcn ⊢); omega
      rintro e wt2 ⟨rfl, hmt2⟩
      have HXt2 := Sec.mk (HX1.out.new hmt2)
      have HMt2 := Sec.mk (HM1.out.transN hmt2)
      clear hmt2
      obtain ⟨_, hA2, -, hcell2, hfz2⟩ := HXt2.out.cellsAt (j := j) (by rw [List.length_set]; exact hjy)
      injection hA2 with hA2
      injection hA2 with hA2
      subst hA2
      simp only [show dOp.sz = 4 from rfl] at hcell2
      obtain ⟨p2, hc2⟩ := hcell2 2 (by decide)
      have hf2 := hfz2 (j * 4 + 2)
      clear hcell2 hfz2
      obtain ⟨hgg, hst⟩ := Own.fstoreAt fldOp2 (fun _ _ _ _ h => h.1) HJ.out HXt2.out
      obtain ⟨G2, ho, hG2⟩ := hst (.string ⟨((markT ((k + s) + 2))).toArray⟩) (markT ((k + s) + 2)) (fun _ => ⟨rfl, rfl, markT_len _ (by (try dsimp only at hcn ⊢); omega)⟩)
      simp only [show dOp.sz = 4 from rfl] at ho
      have HX2 := Sec.mk ho
      have HF2 := Sec.mk (fun i hi => HF1.out i (hG2 i hi))
      have HM2 := Sec.mk (HMt2.out.setCell (p := ⟨g, j * 4 + 2, none⟩) (fun _ => HgF.out) (.string ⟨((markT ((k + s) + 2))).toArray⟩))
      clear hgg hst ho hG2
      obtain ⟨v3, G3, _, hc3, ho3, hG3, hst3⟩ := Own.fsubAt fldOp3 HJ.out HX2.out
      simp only [show dOp.sz = 4 from rfl] at hc3
      rw [World.cell?_setCell_other _ _ _ _ (by simp)] at hc3
      have HV3 := Sec.mk ho3
      have HG3 := Sec.mk hG3
      have HT3 := Sec.mk hst3
      clear ho3 hG3 hst3
      go_wp2_with fail
      refine Calls.mono (markByteS_i HV3.out _ ((k + s) + 3) ?_ ?_) ?_
      · first | rfl | omega
      · (try dsimp only at hcn ⊢); omega
      rintro e w3 ⟨rfl, ⟨F3, ho3, hF3⟩, hm3⟩
      obtain ⟨G3', ho, hG3'⟩ := HT3.out w3 _ F3 hm3 ho3 hF3
      have HX3 := Sec.mk ho
      have HF3 := Sec.mk (fun i hi => HF2.out i (hG3' i hi))
      have HM3 : Sec (Mod (· ∈ F) w w3) := ⟨HM2.out.trans hm3 fun i hi _ => HF2.out i (HG3.out i hi)⟩
      clear ho3 hF3 hm3 ho hG3' HT3 HV3 HG3
      obtain ⟨s3, hs3⟩ : ∃ t, t = ((k + s) + 3) + cntBS x.2.2.2 := ⟨_, rfl⟩
      try dsimp only at HX3
      rw [← hs3]
      have HS3 := Sec.mk hs3
      have hbd3 : s3 ≤ 1152921504606846976 := by have := HS3.out; (try dsimp only at hcn); omega
      clear hs3
      have HEQ : Sec (mkOp1 (k + s) x = (((k : Int) + (s : Int)), (markT ((k + s) + 1)), (markT ((k + s) + 2)), mkBS1 ((k + s) + 3) x.2.2.2)) := ⟨by have h3 := HS3.out; subst h3; simp only [mkOp1, Int.natCast_add]⟩
      rw [HEQ.out] at HTD
      go_wp2
      go_roundw
      case rel => exact ⟨j + 1, _, G3', by omega, by go_num, by rw [HKS.out, HCN.out]; congr 1; try (have := HS3.out; omega), HTD, HX3, HF3, HM3⟩
      case measure => simp [intOf]; omega
    · obtain rfl : j = xs.length := by omega
      go_wp2
      go_ret
      have he : ys = mkOpS1 k xs := by
        rw [HY.out, List.take_of_length_le (by unfold mkOpS1; rw [markL_len]; exact Nat.le_refl _)]; simp
      subst he
      exact ⟨by simp, G, HO.out, HF.out, HM.out⟩


theorem markOpS_f {w : World} {F : List Nat} {v : Value} {x : OpST} (h : OwF false dOpS w F v x) (k : Nat) (hk : k + cntOpS x ≤ 1152921504606846976) :
    Calls Tryz.prog 14 #[v, .int .i64 k] w (Marks false dOpS w F v (k + cntOpS x) (mkOpS1 k x)) := by
  obtain ⟨A, c, rfl, ho⟩ := h.slice
  refine (markOpS_calls ho k hk).mono ?_
  rintro e w' ⟨rfl, F', ho', hF', hm⟩
  refine ⟨rfl, ⟨F', ?_, hF'⟩, hm⟩
  have hl : (mkOpS1 k x).length = x.length := markL_len _ _ k x
  rw [← hl] at ho'
  rw [← hl]
  exact OwF.of_slice ho'
theorem markOpS_i {w : World} {F : List Nat} {v : Value} {x : OpST} (h : OwF false dOpS w F v x) (q : Int) (k : Nat) (hq : q = (k : Int)) (hk : k + cntOpS x ≤ 1152921504606846976) :
    Calls Tryz.prog 14 #[v, .int .i64 q] w (Marks false dOpS w F v (k + cntOpS x) (mkOpS1 k x)) := by subst hq; exact markOpS_f h k hk
theorem markOpS_v {w : World} {lo hi : Nat} {v : Value} {x : OpST} (h : OwV false dOpS w lo hi v x) (k : Nat) (hk : k + cntOpS x ≤ 1152921504606846976) :
    Calls Tryz.prog 14 #[v, .int .i64 k] w fun e w' => e = .returned (.int .i64 ((k + cntOpS x : Nat) : Int)) ∧ OwV false dOpS w' lo hi v (mkOpS1 k x) ∧ Mod (fun i => lo ≤ i ∧ i < hi) w w' :=
  h.mark fun F hF => markOpS_f hF k hk











































































































































end Go.Proofs.YtkkgighgnbbgiaaGreatDoor
