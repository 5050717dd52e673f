/- The walk of the law FnExactDiskValid. -/
import Derived.Test.YtinfibggdbakoaaValidS
import Derived.Test.YtinfibggdbakoaaValidI
import Derived.Test.YtinfibggdbakoaaTDisk
import Derived.Test.YtinfibggdbakoaaOpenDisk
namespace Go.Proofs.Ytinfibggdbakoaa
open Go.RowKit Mem
set_option linter.unusedVariables false
set_option synthInstance.maxSize 2000
theorem ldDiskL {w : World} {g : Nat} {c0 c1 c2 c3 c4 : Value} (h : Blk w g 26 [c0, c1, c2, c3, c4]) : (Instr.loadAt 26 (.pointer (some ⟨g, 0, none⟩))).run Try.prog w = .ok (.agg #[c0, c1, c2, c3, c4]) w := by
  have k0 : w.cell? ⟨g, 0, none⟩ = some c0 := h.cell 0
  have k1 : w.cell? ⟨g, 1, none⟩ = some c1 := h.cell 1
  have k2 : w.cell? ⟨g, 2, none⟩ = some c2 := h.cell 2
  have k3 : w.cell? ⟨g, 3, none⟩ = some c3 := h.cell 3
  have k4 : w.cell? ⟨g, 4, none⟩ = some c4 := h.cell 4
  go_simp
theorem ldDiskI {w : World} {g : Nat} {c0 c1 c2 c3 c4 : Value} (h : Blk w g 33 [c0, c1, c2, c3, c4]) : (Instr.loadAt 33 (.pointer (some ⟨g, 0, none⟩))).run Try.prog w = .ok (.agg #[c0, c1, c2, c3, c4]) w := by
  have k0 : w.cell? ⟨g, 0, none⟩ = some c0 := h.cell 0
  have k1 : w.cell? ⟨g, 1, none⟩ = some c1 := h.cell 1
  have k2 : w.cell? ⟨g, 2, none⟩ = some c2 := h.cell 2
  have k3 : w.cell? ⟨g, 3, none⟩ = some c3 := h.cell 3
  have k4 : w.cell? ⟨g, 4, none⟩ = some c4 := h.cell 4
  go_simp
theorem eqDisk_same {w : World} {v v' : Value} {x : DiskT} (h : RdV true dDisk w v x) (h' : RdV true dDisk w v' x) : Calls Try.prog 10 #[v, v'] w (Ret (.bool true) w) := by
  have := eqDisk_v h h'
  rw [show decide (x = x) = true by simp] at this
  exact this
set_option maxHeartbeats 2000000 in
set_option maxRecDepth 100000 in
theorem lawFnExactDiskValid_walk {w : World} {vD : Value} {xD : DiskT} (haD : RdV true dDisk w vD xD) : Calls Try.prog 3 #[vD] w (Ret (.bool true) w) := by
  have HR := Sec.mk haD
  obtain ⟨A0, q0, A1, q1, A2, q2, A3, q3, rfl⟩ := cellsDisk haD
  clear haD
  have HBA := Sec.mk (Blk.new w 26 [.slice A0 xD.1.length q0, .slice A1 xD.2.1.length q1, .slice A2 xD.2.2.1.length q2, .slice A3 xD.2.2.2.1.length q3, .int .i64 xD.2.2.2.2])
  have HM0 := Sec.mk ((Mod.refl (fun _ => False) w).alloc (.cells #[.slice A0 xD.1.length q0, .slice A1 xD.2.1.length q1, .slice A2 xD.2.2.1.length q2, .slice A3 xD.2.2.2.1.length q3, .int .i64 xD.2.2.2.2] 26))
  have HR1 : Sec (∀ W, New w W → RdV true dDisk W (.agg #[.slice A0 xD.1.length q0, .slice A1 xD.2.1.length q1, .slice A2 xD.2.2.1.length q2, .slice A3 xD.2.2.2.1.length q3, .int .i64 xD.2.2.2.2]) xD) := ⟨fun W h => HR.out.step h⟩
  clear HR
  by_cases hsz : szDisk xD ≤ 1048576
  rotate_left
  · have hif : Sec ((if (1048576 : Int) < ((szDisk xD : Nat) : Int) then (-1 : Int) else 1048576 - ((szDisk xD : Nat) : Int)) = -1) := ⟨if_pos (by omega)⟩
    go_enter Try.func3, Try.ntmps3
    go_wp2_with fail
    refine (szDisk_v (HR1.out _ HM0.out) 1048576 (by omega) (by omega)).mono ?_
    rintro e w1 ⟨rfl, hm1⟩
    rw [hif.out]
    have HM1 := Sec.mk (HM0.out.transN hm1)
    clear hm1
    go_wp2
    go_ret
    exact ⟨by simp, HM1.out⟩
  have hif : Sec ((if (1048576 : Int) < ((szDisk xD : Nat) : Int) then (-1 : Int) else 1048576 - ((szDisk xD : Nat) : Int)) = 1048576 - ((szDisk xD : Nat) : Int)) := ⟨if_neg (by omega)⟩
  have HS := Sec.mk hsz
  go_enter Try.func3, Try.ntmps3
  go_wp2_with fail
  refine (szDisk_v (HR1.out _ HM0.out) 1048576 (by omega) (by omega)).mono ?_
  rintro e w1 ⟨rfl, hm1⟩
  rw [hif.out]
  have HM1 := Sec.mk (HM0.out.transN hm1)
  have HB1 := Sec.mk (HBA.out.mod hm1 id)
  have hl1 := HB1.out.lt
  have hlf : ¬ (1048576 - ((szDisk xD : Nat) : Int) < 0) := by omega
  have k1_0 : w1.cell? ⟨w.heap.size, 0, none⟩ = some (.slice A0 xD.1.length q0) := HB1.out.cell 0
  have k1_1 : w1.cell? ⟨w.heap.size, 1, none⟩ = some (.slice A1 xD.2.1.length q1) := HB1.out.cell 1
  have k1_2 : w1.cell? ⟨w.heap.size, 2, none⟩ = some (.slice A2 xD.2.2.1.length q2) := HB1.out.cell 2
  have k1_3 : w1.cell? ⟨w.heap.size, 3, none⟩ = some (.slice A3 xD.2.2.2.1.length q3) := HB1.out.cell 3
  have k1_4 : w1.cell? ⟨w.heap.size, 4, none⟩ = some (.int .i64 xD.2.2.2.2) := HB1.out.cell 4
  clear hm1 hif HM0 HBA
  go_wp2_with fail
  refine (toDisk_v (HR1.out _ HM1.out) HS.out).mono ?_
  rintro e w2 ⟨v2, rfl, ho2, hm2⟩
  have HO2 := Sec.mk ho2
  have HM2 := Sec.mk (HM1.out.transN hm2)
  have HB2 := Sec.mk (HB1.out.mod hm2 id)
  clear hm2 ho2 k1_0 k1_1 k1_2 k1_3 k1_4 HM1 HB1 hl1
  go_wp2_with fail
  refine (diskValidS_v HO2.out.rd).mono ?_
  rintro e w3 ⟨rfl, hm3⟩
  have HM3 := Sec.mk (HM2.out.transN hm3)
  have HB3 := Sec.mk (HB2.out.mod hm3 id)
  have hl3 := HB3.out.lt
  have k3_0 : w3.cell? ⟨w.heap.size, 0, none⟩ = some (.slice A0 xD.1.length q0) := HB3.out.cell 0
  have k3_1 : w3.cell? ⟨w.heap.size, 1, none⟩ = some (.slice A1 xD.2.1.length q1) := HB3.out.cell 1
  have k3_2 : w3.cell? ⟨w.heap.size, 2, none⟩ = some (.slice A2 xD.2.2.1.length q2) := HB3.out.cell 2
  have k3_3 : w3.cell? ⟨w.heap.size, 3, none⟩ = some (.slice A3 xD.2.2.2.1.length q3) := HB3.out.cell 3
  have k3_4 : w3.cell? ⟨w.heap.size, 4, none⟩ = some (.int .i64 xD.2.2.2.2) := HB3.out.cell 4
  clear hm3 HO2 HM2 HB2
  go_wp2_with fail
  refine (toDisk_v (HR1.out _ HM3.out) HS.out).mono ?_
  rintro e w4 ⟨v4, rfl, ho4, hm4⟩
  obtain ⟨C0, d0, C1, d1, C2, d2, C3, d3, rfl⟩ := cellsDisk ho4.rd
  have HO4 := Sec.mk ho4
  have HM4 := Sec.mk ((HM3.out.transN hm4).alloc (.cells #[.slice C0 xD.1.length d0, .slice C1 xD.2.1.length d1, .slice C2 xD.2.2.1.length d2, .slice C3 xD.2.2.2.1.length d3, .int .i64 xD.2.2.2.2] 33))
  have HB4 := Sec.mk ((HB3.out.mod hm4 id).alloc (.cells #[.slice C0 xD.1.length d0, .slice C1 xD.2.1.length d1, .slice C2 xD.2.2.1.length d2, .slice C3 xD.2.2.2.1.length d3, .int .i64 xD.2.2.2.2] 33))
  have HX4 := Sec.mk (Blk.new w4 33 [.slice C0 xD.1.length d0, .slice C1 xD.2.1.length d1, .slice C2 xD.2.2.1.length d2, .slice C3 xD.2.2.2.1.length d3, .int .i64 xD.2.2.2.2])
  have HO5 : Sec (∀ W, New (w4.alloc (.cells #[.slice C0 xD.1.length d0, .slice C1 xD.2.1.length d1, .slice C2 xD.2.2.1.length d2, .slice C3 xD.2.2.2.1.length d3, .int .i64 xD.2.2.2.2] 33)) W → RdV true dDisk W (.agg #[.slice C0 xD.1.length d0, .slice C1 xD.2.1.length d1, .slice C2 xD.2.2.1.length d2, .slice C3 xD.2.2.2.1.length d3, .int .i64 xD.2.2.2.2]) xD) := ⟨fun W h => HO4.out.rd.step (((Mod.refl (fun _ => False) w4).alloc _).transN h)⟩
  clear ho4 hm4 HM3 HB3 hl3 k3_0 k3_1 k3_2 k3_3 k3_4 HO4
  go_wp2_with fail
  refine (diskValidI_v (HO5.out _ (Mod.refl _ _))).mono ?_
  rintro e w6 ⟨rfl, hm6⟩
  have HM6 := Sec.mk (HM4.out.transN hm6)
  have HB6 := Sec.mk (HB4.out.mod hm6 id)
  have HX6 := Sec.mk (HX4.out.mod hm6 id)
  have HO6 : Sec (∀ W, New w6 W → RdV true dDisk W (.agg #[.slice C0 xD.1.length d0, .slice C1 xD.2.1.length d1, .slice C2 xD.2.2.1.length d2, .slice C3 xD.2.2.2.1.length d3, .int .i64 xD.2.2.2.2]) xD) := ⟨fun W h => HO5.out W (hm6.transN h)⟩
  clear hm6 HM4 HB4 HX4 HO5
  go_wp2
  refine reg_start [] (fun W => Sec (New w6 W)) (by kernel_rfl) ?_
  have HSS : Sec (New w6 w6.drew) := ⟨(Mod.refl _ _).drew⟩
  refine reg_take (.agg #[.slice C0 xD.1.length d0, .slice C1 xD.2.1.length d1, .slice C2 xD.2.2.1.length d2, .slice C3 xD.2.2.2.1.length d3, .int .i64 xD.2.2.2.2]) (i := 0) (n := 22) HSS rfl (by kernel_rfl) (by kernel_rfl) (by kernel_rfl) (by kernel_rfl) (fun _ _ _ h => h) (fun W hW => exec_load rfl rfl (ldDiskI (HX6.out.mod hW.out id))) ?_
  simp only [Act.put, List.setIfInBounds_toArray, List.set_cons_zero, List.set_cons_succ]
  refine reg_take (.agg #[.slice A0 xD.1.length q0, .slice A1 xD.2.1.length q1, .slice A2 xD.2.2.1.length q2, .slice A3 xD.2.2.2.1.length q3, .int .i64 xD.2.2.2.2]) (i := 1) (n := 23) HSS rfl (by kernel_rfl) (by kernel_rfl) (by kernel_rfl) (by kernel_rfl) (fun _ _ _ h => h) (fun W hW => exec_load rfl rfl (ldDiskL (HB6.out.mod hW.out id))) ?_
  simp only [Act.put, List.setIfInBounds_toArray, List.set_cons_zero, List.set_cons_succ]
  refine reg_step (i := 2) rfl (by kernel_rfl) (fun K hK => ?_)
  refine wp_call (n := 24) (vals := [.agg #[.slice A0 xD.1.length q0, .slice A1 xD.2.1.length q1, .slice A2 xD.2.2.1.length q2, .slice A3 xD.2.2.2.1.length q3, .int .i64 xD.2.2.2.2]]) rfl rfl rfl (by kernel_rfl) (toDisk_v (HR1.out _ (HM6.out.transN HSS.out)) HS.out) ?_
  rintro e w7 ⟨v7, rfl, ho7, hm7⟩
  have HO7 := Sec.mk ho7
  have HSS : Sec (New w6 w7) := ⟨HSS.out.transN hm7⟩
  refine ⟨_, rfl, hK.out _ _ (fun _ => HSS) ?_⟩
  clear hm7 ho7
  clear hK K
  simp only [Act.put, List.setIfInBounds_toArray, List.set_cons_zero, List.set_cons_succ]
  refine reg_step (i := 3) rfl (by kernel_rfl) (fun K hK => ?_)
  refine wp_call (n := 25) (vals := [.agg #[.slice C0 xD.1.length d0, .slice C1 xD.2.1.length d1, .slice C2 xD.2.2.1.length d2, .slice C3 xD.2.2.2.1.length d3, .int .i64 xD.2.2.2.2], v7]) rfl rfl rfl (by kernel_rfl) (eqDisk_same (HO6.out _ HSS.out) HO7.out.rd) ?_
  rintro e w8 ⟨rfl, hm8⟩
  have HSS : Sec (New w6 w8) := ⟨HSS.out.transN hm8⟩
  refine ⟨_, rfl, hK.out _ _ (fun _ => HSS) ?_⟩
  clear hm8
  clear hK K
  simp only [Act.put, List.setIfInBounds_toArray, List.set_cons_zero, List.set_cons_succ]
  refine reg_take (.bool false) (i := 4) (n := 26) HSS rfl (by kernel_rfl) (by kernel_rfl) (by kernel_rfl) (by kernel_rfl) (fun _ _ _ h => h) (fun W hW => exec_un rfl rfl (by go_simp)) ?_
  simp only [Act.put, List.setIfInBounds_toArray, List.set_cons_zero, List.set_cons_succ]
  refine reg_done (by kernel_rfl) ?_ _
  go_wp2
  go_ret
  exact ⟨by simp, HM6.out.transN HSS.out⟩
end Go.Proofs.Ytinfibggdbakoaa
