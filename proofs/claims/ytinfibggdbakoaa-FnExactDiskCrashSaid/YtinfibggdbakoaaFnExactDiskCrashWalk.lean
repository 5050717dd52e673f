/- The walk of the law FnExactDiskCrash. -/
import Derived.Test.YtinfibggdbakoaaCrashV
import Derived.Test.YtinfibggdbakoaaOpenDisk
namespace Go.Proofs.Ytinfibggdbakoaa
open Go.RowKit Mem
set_option linter.unusedVariables false
set_option synthInstance.maxSize 2000

set_option maxHeartbeats 4000000 in
set_option maxRecDepth 100000 in
theorem lawFnExactDiskCrash_walk {w : World} {vD : Value} {xD : DiskT} (haD : RdV true dDisk w vD xD) (aDirs : Int) (hwaDirs : IntKind.i64.wrap aDirs = aDirs) {vPicks : Value} {xPicks : List Int} (haPicks : RdV false dIntS w vPicks xPicks) :
    Calls Try.prog 5 #[vD, .int .i64 aDirs, vPicks] w (Ret (.bool true) w) := by
  have HRaD := Sec.mk haD
  clear haD
  have HRaPicks := Sec.mk haPicks
  clear haPicks
  obtain ⟨caD_0, caD_1, caD_2, caD_3, caD_4, caD_5, caD_6, caD_7, rfl⟩ := cellsDisk HRaD.out
  obtain ⟨A0, c0, rfl, hcap0, hrow0⟩ := HRaPicks.out.slice
  have hmax0 := hrow0.2.1
  clear hrow0
  by_cases hlen0 : 1048576 < xPicks.length
  · go_enter Try.func5, Try.ntmps5
    go_wp2
    go_ret
    exact ⟨by simp, (Mod.refl _ _).alloc _⟩
  have hbl0 : szIntS xPicks ≤ 1048576 := by show xPicks.length ≤ _; omega
  have hcl0 := cntIntS_lt hbl0
  by_cases hsz0 : ((szDisk xD : Nat) : Int) ≤ 1048576
  rotate_left
  · have hif : Sec ((if (1048576 : Int) < ((szDisk xD : Nat) : Int) then (-1 : Int) else 1048576 - ((szDisk xD : Nat) : Int)) = -1) := ⟨if_pos (by omega)⟩
    go_enter Try.func5, Try.ntmps5
    have HM0 := Sec.mk ((Mod.refl (fun _ => False) w).alloc (.cells #[.slice caD_0 xD.1.length caD_1, .slice caD_2 xD.2.1.length caD_3, .slice caD_4 xD.2.2.1.length caD_5, .slice caD_6 xD.2.2.2.1.length caD_7, .int .i64 xD.2.2.2.2] 26))
    have HBK_aD := Sec.mk (Blk.new w 26 [.slice caD_0 xD.1.length caD_1, .slice caD_2 xD.2.1.length caD_3, .slice caD_4 xD.2.2.1.length caD_5, .slice caD_6 xD.2.2.2.1.length caD_7, .int .i64 xD.2.2.2.2])
    have hz0 : ((w.alloc (.cells #[.slice caD_0 xD.1.length caD_1, .slice caD_2 xD.2.1.length caD_3, .slice caD_4 xD.2.2.1.length caD_5, .slice caD_6 xD.2.2.2.1.length caD_7, .int .i64 xD.2.2.2.2] 26))).heap.size = w.heap.size + 1 := by simp
    have kaD_0 : ((w.alloc (.cells #[.slice caD_0 xD.1.length caD_1, .slice caD_2 xD.2.1.length caD_3, .slice caD_4 xD.2.2.1.length caD_5, .slice caD_6 xD.2.2.2.1.length caD_7, .int .i64 xD.2.2.2.2] 26))).cell? ⟨w.heap.size, 0, none⟩ = some (.slice caD_0 xD.1.length caD_1) := HBK_aD.out.cell 0
    have kaD_1 : ((w.alloc (.cells #[.slice caD_0 xD.1.length caD_1, .slice caD_2 xD.2.1.length caD_3, .slice caD_4 xD.2.2.1.length caD_5, .slice caD_6 xD.2.2.2.1.length caD_7, .int .i64 xD.2.2.2.2] 26))).cell? ⟨w.heap.size, 1, none⟩ = some (.slice caD_2 xD.2.1.length caD_3) := HBK_aD.out.cell 1
    have kaD_2 : ((w.alloc (.cells #[.slice caD_0 xD.1.length caD_1, .slice caD_2 xD.2.1.length caD_3, .slice caD_4 xD.2.2.1.length caD_5, .slice caD_6 xD.2.2.2.1.length caD_7, .int .i64 xD.2.2.2.2] 26))).cell? ⟨w.heap.size, 2, none⟩ = some (.slice caD_4 xD.2.2.1.length caD_5) := HBK_aD.out.cell 2
    have kaD_3 : ((w.alloc (.cells #[.slice caD_0 xD.1.length caD_1, .slice caD_2 xD.2.1.length caD_3, .slice caD_4 xD.2.2.1.length caD_5, .slice caD_6 xD.2.2.2.1.length caD_7, .int .i64 xD.2.2.2.2] 26))).cell? ⟨w.heap.size, 3, none⟩ = some (.slice caD_6 xD.2.2.2.1.length caD_7) := HBK_aD.out.cell 3
    have kaD_4 : ((w.alloc (.cells #[.slice caD_0 xD.1.length caD_1, .slice caD_2 xD.2.1.length caD_3, .slice caD_4 xD.2.2.1.length caD_5, .slice caD_6 xD.2.2.2.1.length caD_7, .int .i64 xD.2.2.2.2] 26))).cell? ⟨w.heap.size, 4, none⟩ = some (.int .i64 xD.2.2.2.2) := HBK_aD.out.cell 4
    go_wp2_with fail
    refine (szDisk_v (HRaD.out.step HM0.out) (1048576) (by omega) (by omega)).mono ?_
    rintro e w1 ⟨rfl, hm1⟩
    rw [hif.out]
    clear kaD_0 kaD_1 kaD_2 kaD_3 kaD_4
    have HBK1_aD := Sec.mk (HBK_aD.out.mod hm1 id)
    clear HBK_aD
    have HM1 := Sec.mk (HM0.out.transN hm1)
    clear HM0
    have hs1 := hm1.size
    clear hm1
    have kaD_0 : (w1).cell? ⟨w.heap.size, 0, none⟩ = some (.slice caD_0 xD.1.length caD_1) := HBK1_aD.out.cell 0
    have kaD_1 : (w1).cell? ⟨w.heap.size, 1, none⟩ = some (.slice caD_2 xD.2.1.length caD_3) := HBK1_aD.out.cell 1
    have kaD_2 : (w1).cell? ⟨w.heap.size, 2, none⟩ = some (.slice caD_4 xD.2.2.1.length caD_5) := HBK1_aD.out.cell 2
    have kaD_3 : (w1).cell? ⟨w.heap.size, 3, none⟩ = some (.slice caD_6 xD.2.2.2.1.length caD_7) := HBK1_aD.out.cell 3
    have kaD_4 : (w1).cell? ⟨w.heap.size, 4, none⟩ = some (.int .i64 xD.2.2.2.2) := HBK1_aD.out.cell 4
    go_wp2
    go_ret
    exact ⟨by simp, HM1.out⟩
  have hif0 : Sec ((if (1048576 : Int) < ((szDisk xD : Nat) : Int) then (-1 : Int) else 1048576 - ((szDisk xD : Nat) : Int)) = 1048576 - ((szDisk xD : Nat) : Int)) := ⟨if_neg (by omega)⟩
  have hb0 : szDisk xD ≤ 1048576 := by omega
  have hc0 := cntDisk_lt hb0
  have hlf0 : ¬ (1048576 - ((szDisk xD : Nat) : Int) < 0) := by omega
  have hcr := DiskCrash_cnt (xD) (aDirs) (xPicks) hb0 hbl0
  generalize hFN : DiskCrashL xD aDirs xPicks = r at *
  have HFN := Sec.mk hFN
  clear hFN
  go_enter Try.func5, Try.ntmps5
  have HM0 := Sec.mk ((Mod.refl (fun _ => False) w).alloc (.cells #[.slice caD_0 xD.1.length caD_1, .slice caD_2 xD.2.1.length caD_3, .slice caD_4 xD.2.2.1.length caD_5, .slice caD_6 xD.2.2.2.1.length caD_7, .int .i64 xD.2.2.2.2] 26))
  have HBK_aD := Sec.mk (Blk.new w 26 [.slice caD_0 xD.1.length caD_1, .slice caD_2 xD.2.1.length caD_3, .slice caD_4 xD.2.2.1.length caD_5, .slice caD_6 xD.2.2.2.1.length caD_7, .int .i64 xD.2.2.2.2])
  have hz0 : ((w.alloc (.cells #[.slice caD_0 xD.1.length caD_1, .slice caD_2 xD.2.1.length caD_3, .slice caD_4 xD.2.2.1.length caD_5, .slice caD_6 xD.2.2.2.1.length caD_7, .int .i64 xD.2.2.2.2] 26))).heap.size = w.heap.size + 1 := by simp
  have kaD_0 : ((w.alloc (.cells #[.slice caD_0 xD.1.length caD_1, .slice caD_2 xD.2.1.length caD_3, .slice caD_4 xD.2.2.1.length caD_5, .slice caD_6 xD.2.2.2.1.length caD_7, .int .i64 xD.2.2.2.2] 26))).cell? ⟨w.heap.size, 0, none⟩ = some (.slice caD_0 xD.1.length caD_1) := HBK_aD.out.cell 0
  have kaD_1 : ((w.alloc (.cells #[.slice caD_0 xD.1.length caD_1, .slice caD_2 xD.2.1.length caD_3, .slice caD_4 xD.2.2.1.length caD_5, .slice caD_6 xD.2.2.2.1.length caD_7, .int .i64 xD.2.2.2.2] 26))).cell? ⟨w.heap.size, 1, none⟩ = some (.slice caD_2 xD.2.1.length caD_3) := HBK_aD.out.cell 1
  have kaD_2 : ((w.alloc (.cells #[.slice caD_0 xD.1.length caD_1, .slice caD_2 xD.2.1.length caD_3, .slice caD_4 xD.2.2.1.length caD_5, .slice caD_6 xD.2.2.2.1.length caD_7, .int .i64 xD.2.2.2.2] 26))).cell? ⟨w.heap.size, 2, none⟩ = some (.slice caD_4 xD.2.2.1.length caD_5) := HBK_aD.out.cell 2
  have kaD_3 : ((w.alloc (.cells #[.slice caD_0 xD.1.length caD_1, .slice caD_2 xD.2.1.length caD_3, .slice caD_4 xD.2.2.1.length caD_5, .slice caD_6 xD.2.2.2.1.length caD_7, .int .i64 xD.2.2.2.2] 26))).cell? ⟨w.heap.size, 3, none⟩ = some (.slice caD_6 xD.2.2.2.1.length caD_7) := HBK_aD.out.cell 3
  have kaD_4 : ((w.alloc (.cells #[.slice caD_0 xD.1.length caD_1, .slice caD_2 xD.2.1.length caD_3, .slice caD_4 xD.2.2.1.length caD_5, .slice caD_6 xD.2.2.2.1.length caD_7, .int .i64 xD.2.2.2.2] 26))).cell? ⟨w.heap.size, 4, none⟩ = some (.int .i64 xD.2.2.2.2) := HBK_aD.out.cell 4
  go_wp2_with fail
  refine (szDisk_v (HRaD.out.step HM0.out) (1048576) (by omega) (by omega)).mono ?_
  rintro e w1 ⟨rfl, hm1⟩
  rw [hif0.out]
  clear kaD_0 kaD_1 kaD_2 kaD_3 kaD_4
  have HBK1_aD := Sec.mk (HBK_aD.out.mod hm1 id)
  clear HBK_aD
  have HM1 := Sec.mk (HM0.out.transN hm1)
  clear HM0
  have hs1 := hm1.size
  clear hm1
  have kaD_0 : (w1).cell? ⟨w.heap.size, 0, none⟩ = some (.slice caD_0 xD.1.length caD_1) := HBK1_aD.out.cell 0
  have kaD_1 : (w1).cell? ⟨w.heap.size, 1, none⟩ = some (.slice caD_2 xD.2.1.length caD_3) := HBK1_aD.out.cell 1
  have kaD_2 : (w1).cell? ⟨w.heap.size, 2, none⟩ = some (.slice caD_4 xD.2.2.1.length caD_5) := HBK1_aD.out.cell 2
  have kaD_3 : (w1).cell? ⟨w.heap.size, 3, none⟩ = some (.slice caD_6 xD.2.2.2.1.length caD_7) := HBK1_aD.out.cell 3
  have kaD_4 : (w1).cell? ⟨w.heap.size, 4, none⟩ = some (.int .i64 xD.2.2.2.2) := HBK1_aD.out.cell 4
  go_wp2_with fail
  refine (toDisk_v (HRaD.out.step HM1.out) hb0).mono ?_
  rintro e w2 ⟨v2, rfl, ho2, hm2⟩
  clear kaD_0 kaD_1 kaD_2 kaD_3 kaD_4
  have HBK2_aD := Sec.mk (HBK1_aD.out.mod hm2 id)
  clear HBK1_aD
  have HM2 := Sec.mk (HM1.out.transN hm2)
  clear HM1
  have hs2 := hm2.size
  clear hm2
  have kaD_0 : (w2).cell? ⟨w.heap.size, 0, none⟩ = some (.slice caD_0 xD.1.length caD_1) := HBK2_aD.out.cell 0
  have kaD_1 : (w2).cell? ⟨w.heap.size, 1, none⟩ = some (.slice caD_2 xD.2.1.length caD_3) := HBK2_aD.out.cell 1
  have kaD_2 : (w2).cell? ⟨w.heap.size, 2, none⟩ = some (.slice caD_4 xD.2.2.1.length caD_5) := HBK2_aD.out.cell 2
  have kaD_3 : (w2).cell? ⟨w.heap.size, 3, none⟩ = some (.slice caD_6 xD.2.2.2.1.length caD_7) := HBK2_aD.out.cell 3
  have kaD_4 : (w2).cell? ⟨w.heap.size, 4, none⟩ = some (.int .i64 xD.2.2.2.2) := HBK2_aD.out.cell 4
  have TDW0_2 := Sec.mk ho2
  clear ho2
  go_wp2_with fail
  refine (toIntS_v (HRaPicks.out.step HM2.out) hbl0).mono ?_
  rintro e w3 ⟨v3, rfl, ho3, hm3⟩
  clear kaD_0 kaD_1 kaD_2 kaD_3 kaD_4
  have HBK3_aD := Sec.mk (HBK2_aD.out.mod hm3 id)
  clear HBK2_aD
  have TDW0_3 := Sec.mk (TDW0_2.out.step hm3)
  clear TDW0_2
  have HM3 := Sec.mk (HM2.out.transN hm3)
  clear HM2
  have hs3 := hm3.size
  clear hm3
  have kaD_0 : (w3).cell? ⟨w.heap.size, 0, none⟩ = some (.slice caD_0 xD.1.length caD_1) := HBK3_aD.out.cell 0
  have kaD_1 : (w3).cell? ⟨w.heap.size, 1, none⟩ = some (.slice caD_2 xD.2.1.length caD_3) := HBK3_aD.out.cell 1
  have kaD_2 : (w3).cell? ⟨w.heap.size, 2, none⟩ = some (.slice caD_4 xD.2.2.1.length caD_5) := HBK3_aD.out.cell 2
  have kaD_3 : (w3).cell? ⟨w.heap.size, 3, none⟩ = some (.slice caD_6 xD.2.2.2.1.length caD_7) := HBK3_aD.out.cell 3
  have kaD_4 : (w3).cell? ⟨w.heap.size, 4, none⟩ = some (.int .i64 xD.2.2.2.2) := HBK3_aD.out.cell 4
  have TPICKSW0_3 := Sec.mk ho3
  clear ho3
  go_wp2_with fail
  refine (specDiskCrash_v TDW0_3.out.rd aDirs hwaDirs TPICKSW0_3.out.rd hb0 hbl0).mono ?_
  rw [HFN.out]
  rintro e w4 ⟨v4, rfl, ho4, hm4⟩
  clear kaD_0 kaD_1 kaD_2 kaD_3 kaD_4
  have HBK4_aD := Sec.mk (HBK3_aD.out.mod hm4 id)
  clear HBK3_aD
  have TDW0_4 := Sec.mk (TDW0_3.out.step hm4)
  clear TDW0_3
  have TPICKSW0_4 := Sec.mk (TPICKSW0_3.out.step hm4)
  clear TPICKSW0_3
  have HM4 := Sec.mk (HM3.out.transN hm4)
  clear HM3
  have hs4 := hm4.size
  clear hm4
  have kaD_0 : (w4).cell? ⟨w.heap.size, 0, none⟩ = some (.slice caD_0 xD.1.length caD_1) := HBK4_aD.out.cell 0
  have kaD_1 : (w4).cell? ⟨w.heap.size, 1, none⟩ = some (.slice caD_2 xD.2.1.length caD_3) := HBK4_aD.out.cell 1
  have kaD_2 : (w4).cell? ⟨w.heap.size, 2, none⟩ = some (.slice caD_4 xD.2.2.1.length caD_5) := HBK4_aD.out.cell 2
  have kaD_3 : (w4).cell? ⟨w.heap.size, 3, none⟩ = some (.slice caD_6 xD.2.2.2.1.length caD_7) := HBK4_aD.out.cell 3
  have kaD_4 : (w4).cell? ⟨w.heap.size, 4, none⟩ = some (.int .i64 xD.2.2.2.2) := HBK4_aD.out.cell 4
  have W0_4 := Sec.mk ho4
  clear ho4
  obtain ⟨cw0_0, cw0_1, cw0_2, cw0_3, cw0_4, cw0_5, cw0_6, cw0_7, rfl⟩ := cellsDisk W0_4.out.rd
  have hma4 := ((Mod.refl (fun _ => False) w4).alloc (.cells #[.slice cw0_0 r.1.length cw0_1, .slice cw0_2 r.2.1.length cw0_3, .slice cw0_4 r.2.2.1.length cw0_5, .slice cw0_6 r.2.2.2.1.length cw0_7, .int .i64 r.2.2.2.2] 33))
  clear kaD_0 kaD_1 kaD_2 kaD_3 kaD_4
  have HBK5_aD := Sec.mk (HBK4_aD.out.mod hma4 id)
  clear HBK4_aD
  have TDW0_5 := Sec.mk (TDW0_4.out.step hma4)
  clear TDW0_4
  have TPICKSW0_5 := Sec.mk (TPICKSW0_4.out.step hma4)
  clear TPICKSW0_4
  have W0_5 := Sec.mk (W0_4.out.step hma4)
  clear W0_4
  have HM5 := Sec.mk (HM4.out.transN hma4)
  clear HM4
  have hs5 := hma4.size
  clear hma4
  have kaD_0 : (w4.alloc (.cells #[.slice cw0_0 r.1.length cw0_1, .slice cw0_2 r.2.1.length cw0_3, .slice cw0_4 r.2.2.1.length cw0_5, .slice cw0_6 r.2.2.2.1.length cw0_7, .int .i64 r.2.2.2.2] 33)).cell? ⟨w.heap.size, 0, none⟩ = some (.slice caD_0 xD.1.length caD_1) := HBK5_aD.out.cell 0
  have kaD_1 : (w4.alloc (.cells #[.slice cw0_0 r.1.length cw0_1, .slice cw0_2 r.2.1.length cw0_3, .slice cw0_4 r.2.2.1.length cw0_5, .slice cw0_6 r.2.2.2.1.length cw0_7, .int .i64 r.2.2.2.2] 33)).cell? ⟨w.heap.size, 1, none⟩ = some (.slice caD_2 xD.2.1.length caD_3) := HBK5_aD.out.cell 1
  have kaD_2 : (w4.alloc (.cells #[.slice cw0_0 r.1.length cw0_1, .slice cw0_2 r.2.1.length cw0_3, .slice cw0_4 r.2.2.1.length cw0_5, .slice cw0_6 r.2.2.2.1.length cw0_7, .int .i64 r.2.2.2.2] 33)).cell? ⟨w.heap.size, 2, none⟩ = some (.slice caD_4 xD.2.2.1.length caD_5) := HBK5_aD.out.cell 2
  have kaD_3 : (w4.alloc (.cells #[.slice cw0_0 r.1.length cw0_1, .slice cw0_2 r.2.1.length cw0_3, .slice cw0_4 r.2.2.1.length cw0_5, .slice cw0_6 r.2.2.2.1.length cw0_7, .int .i64 r.2.2.2.2] 33)).cell? ⟨w.heap.size, 3, none⟩ = some (.slice caD_6 xD.2.2.2.1.length caD_7) := HBK5_aD.out.cell 3
  have kaD_4 : (w4.alloc (.cells #[.slice cw0_0 r.1.length cw0_1, .slice cw0_2 r.2.1.length cw0_3, .slice cw0_4 r.2.2.1.length cw0_5, .slice cw0_6 r.2.2.2.1.length cw0_7, .int .i64 r.2.2.2.2] 33)).cell? ⟨w.heap.size, 4, none⟩ = some (.int .i64 xD.2.2.2.2) := HBK5_aD.out.cell 4
  have HBK_w0 := Sec.mk (Blk.new w4 33 [.slice cw0_0 r.1.length cw0_1, .slice cw0_2 r.2.1.length cw0_3, .slice cw0_4 r.2.2.1.length cw0_5, .slice cw0_6 r.2.2.2.1.length cw0_7, .int .i64 r.2.2.2.2])
  have hz4 : (w4.alloc (.cells #[.slice cw0_0 r.1.length cw0_1, .slice cw0_2 r.2.1.length cw0_3, .slice cw0_4 r.2.2.1.length cw0_5, .slice cw0_6 r.2.2.2.1.length cw0_7, .int .i64 r.2.2.2.2] 33)).heap.size = w4.heap.size + 1 := by simp
  clear kaD_0 kaD_1 kaD_2 kaD_3 kaD_4
  have kaD_0 : (w4.alloc (.cells #[.slice cw0_0 r.1.length cw0_1, .slice cw0_2 r.2.1.length cw0_3, .slice cw0_4 r.2.2.1.length cw0_5, .slice cw0_6 r.2.2.2.1.length cw0_7, .int .i64 r.2.2.2.2] 33)).cell? ⟨w.heap.size, 0, none⟩ = some (.slice caD_0 xD.1.length caD_1) := HBK5_aD.out.cell 0
  have kaD_1 : (w4.alloc (.cells #[.slice cw0_0 r.1.length cw0_1, .slice cw0_2 r.2.1.length cw0_3, .slice cw0_4 r.2.2.1.length cw0_5, .slice cw0_6 r.2.2.2.1.length cw0_7, .int .i64 r.2.2.2.2] 33)).cell? ⟨w.heap.size, 1, none⟩ = some (.slice caD_2 xD.2.1.length caD_3) := HBK5_aD.out.cell 1
  have kaD_2 : (w4.alloc (.cells #[.slice cw0_0 r.1.length cw0_1, .slice cw0_2 r.2.1.length cw0_3, .slice cw0_4 r.2.2.1.length cw0_5, .slice cw0_6 r.2.2.2.1.length cw0_7, .int .i64 r.2.2.2.2] 33)).cell? ⟨w.heap.size, 2, none⟩ = some (.slice caD_4 xD.2.2.1.length caD_5) := HBK5_aD.out.cell 2
  have kaD_3 : (w4.alloc (.cells #[.slice cw0_0 r.1.length cw0_1, .slice cw0_2 r.2.1.length cw0_3, .slice cw0_4 r.2.2.1.length cw0_5, .slice cw0_6 r.2.2.2.1.length cw0_7, .int .i64 r.2.2.2.2] 33)).cell? ⟨w.heap.size, 3, none⟩ = some (.slice caD_6 xD.2.2.2.1.length caD_7) := HBK5_aD.out.cell 3
  have kaD_4 : (w4.alloc (.cells #[.slice cw0_0 r.1.length cw0_1, .slice cw0_2 r.2.1.length cw0_3, .slice cw0_4 r.2.2.1.length cw0_5, .slice cw0_6 r.2.2.2.1.length cw0_7, .int .i64 r.2.2.2.2] 33)).cell? ⟨w.heap.size, 4, none⟩ = some (.int .i64 xD.2.2.2.2) := HBK5_aD.out.cell 4
  have kw0_0 : (w4.alloc (.cells #[.slice cw0_0 r.1.length cw0_1, .slice cw0_2 r.2.1.length cw0_3, .slice cw0_4 r.2.2.1.length cw0_5, .slice cw0_6 r.2.2.2.1.length cw0_7, .int .i64 r.2.2.2.2] 33)).cell? ⟨w4.heap.size, 0, none⟩ = some (.slice cw0_0 r.1.length cw0_1) := HBK_w0.out.cell 0
  have kw0_1 : (w4.alloc (.cells #[.slice cw0_0 r.1.length cw0_1, .slice cw0_2 r.2.1.length cw0_3, .slice cw0_4 r.2.2.1.length cw0_5, .slice cw0_6 r.2.2.2.1.length cw0_7, .int .i64 r.2.2.2.2] 33)).cell? ⟨w4.heap.size, 1, none⟩ = some (.slice cw0_2 r.2.1.length cw0_3) := HBK_w0.out.cell 1
  have kw0_2 : (w4.alloc (.cells #[.slice cw0_0 r.1.length cw0_1, .slice cw0_2 r.2.1.length cw0_3, .slice cw0_4 r.2.2.1.length cw0_5, .slice cw0_6 r.2.2.2.1.length cw0_7, .int .i64 r.2.2.2.2] 33)).cell? ⟨w4.heap.size, 2, none⟩ = some (.slice cw0_4 r.2.2.1.length cw0_5) := HBK_w0.out.cell 2
  have kw0_3 : (w4.alloc (.cells #[.slice cw0_0 r.1.length cw0_1, .slice cw0_2 r.2.1.length cw0_3, .slice cw0_4 r.2.2.1.length cw0_5, .slice cw0_6 r.2.2.2.1.length cw0_7, .int .i64 r.2.2.2.2] 33)).cell? ⟨w4.heap.size, 3, none⟩ = some (.slice cw0_6 r.2.2.2.1.length cw0_7) := HBK_w0.out.cell 3
  have kw0_4 : (w4.alloc (.cells #[.slice cw0_0 r.1.length cw0_1, .slice cw0_2 r.2.1.length cw0_3, .slice cw0_4 r.2.2.1.length cw0_5, .slice cw0_6 r.2.2.2.1.length cw0_7, .int .i64 r.2.2.2.2] 33)).cell? ⟨w4.heap.size, 4, none⟩ = some (.int .i64 r.2.2.2.2) := HBK_w0.out.cell 4
  clear TDW0_5
  clear TPICKSW0_5
  go_wp2_with fail
  refine (toDisk_v (HRaD.out.step HM5.out) hb0).mono ?_
  rintro e w6 ⟨v6, rfl, ho6, hm6⟩
  clear kaD_0 kaD_1 kaD_2 kaD_3 kaD_4
  clear kw0_0 kw0_1 kw0_2 kw0_3 kw0_4
  have HBK6_aD := Sec.mk (HBK5_aD.out.mod hm6 id)
  clear HBK5_aD
  have HBK6_w0 := Sec.mk (HBK_w0.out.mod hm6 id)
  clear HBK_w0
  have W0_6 := Sec.mk (W0_5.out.step hm6)
  clear W0_5
  have HM6 := Sec.mk (HM5.out.transN hm6)
  clear HM5
  have hs6 := hm6.size
  clear hm6
  have kaD_0 : (w6).cell? ⟨w.heap.size, 0, none⟩ = some (.slice caD_0 xD.1.length caD_1) := HBK6_aD.out.cell 0
  have kaD_1 : (w6).cell? ⟨w.heap.size, 1, none⟩ = some (.slice caD_2 xD.2.1.length caD_3) := HBK6_aD.out.cell 1
  have kaD_2 : (w6).cell? ⟨w.heap.size, 2, none⟩ = some (.slice caD_4 xD.2.2.1.length caD_5) := HBK6_aD.out.cell 2
  have kaD_3 : (w6).cell? ⟨w.heap.size, 3, none⟩ = some (.slice caD_6 xD.2.2.2.1.length caD_7) := HBK6_aD.out.cell 3
  have kaD_4 : (w6).cell? ⟨w.heap.size, 4, none⟩ = some (.int .i64 xD.2.2.2.2) := HBK6_aD.out.cell 4
  have kw0_0 : (w6).cell? ⟨w4.heap.size, 0, none⟩ = some (.slice cw0_0 r.1.length cw0_1) := HBK6_w0.out.cell 0
  have kw0_1 : (w6).cell? ⟨w4.heap.size, 1, none⟩ = some (.slice cw0_2 r.2.1.length cw0_3) := HBK6_w0.out.cell 1
  have kw0_2 : (w6).cell? ⟨w4.heap.size, 2, none⟩ = some (.slice cw0_4 r.2.2.1.length cw0_5) := HBK6_w0.out.cell 2
  have kw0_3 : (w6).cell? ⟨w4.heap.size, 3, none⟩ = some (.slice cw0_6 r.2.2.2.1.length cw0_7) := HBK6_w0.out.cell 3
  have kw0_4 : (w6).cell? ⟨w4.heap.size, 4, none⟩ = some (.int .i64 r.2.2.2.2) := HBK6_w0.out.cell 4
  have X0_6 := Sec.mk ho6
  clear ho6
  obtain ⟨cx0_0, cx0_1, cx0_2, cx0_3, cx0_4, cx0_5, cx0_6, cx0_7, rfl⟩ := cellsDisk X0_6.out.rd
  have hma6 := ((Mod.refl (fun _ => False) w6).alloc (.cells #[.slice cx0_0 xD.1.length cx0_1, .slice cx0_2 xD.2.1.length cx0_3, .slice cx0_4 xD.2.2.1.length cx0_5, .slice cx0_6 xD.2.2.2.1.length cx0_7, .int .i64 xD.2.2.2.2] 33))
  clear kaD_0 kaD_1 kaD_2 kaD_3 kaD_4
  clear kw0_0 kw0_1 kw0_2 kw0_3 kw0_4
  have HBK7_aD := Sec.mk (HBK6_aD.out.mod hma6 id)
  clear HBK6_aD
  have HBK7_w0 := Sec.mk (HBK6_w0.out.mod hma6 id)
  clear HBK6_w0
  have W0_7 := Sec.mk (W0_6.out.step hma6)
  clear W0_6
  have X0_7 := Sec.mk (X0_6.out.step hma6)
  clear X0_6
  have HM7 := Sec.mk (HM6.out.transN hma6)
  clear HM6
  have hs7 := hma6.size
  clear hma6
  have kaD_0 : (w6.alloc (.cells #[.slice cx0_0 xD.1.length cx0_1, .slice cx0_2 xD.2.1.length cx0_3, .slice cx0_4 xD.2.2.1.length cx0_5, .slice cx0_6 xD.2.2.2.1.length cx0_7, .int .i64 xD.2.2.2.2] 33)).cell? ⟨w.heap.size, 0, none⟩ = some (.slice caD_0 xD.1.length caD_1) := HBK7_aD.out.cell 0
  have kaD_1 : (w6.alloc (.cells #[.slice cx0_0 xD.1.length cx0_1, .slice cx0_2 xD.2.1.length cx0_3, .slice cx0_4 xD.2.2.1.length cx0_5, .slice cx0_6 xD.2.2.2.1.length cx0_7, .int .i64 xD.2.2.2.2] 33)).cell? ⟨w.heap.size, 1, none⟩ = some (.slice caD_2 xD.2.1.length caD_3) := HBK7_aD.out.cell 1
  have kaD_2 : (w6.alloc (.cells #[.slice cx0_0 xD.1.length cx0_1, .slice cx0_2 xD.2.1.length cx0_3, .slice cx0_4 xD.2.2.1.length cx0_5, .slice cx0_6 xD.2.2.2.1.length cx0_7, .int .i64 xD.2.2.2.2] 33)).cell? ⟨w.heap.size, 2, none⟩ = some (.slice caD_4 xD.2.2.1.length caD_5) := HBK7_aD.out.cell 2
  have kaD_3 : (w6.alloc (.cells #[.slice cx0_0 xD.1.length cx0_1, .slice cx0_2 xD.2.1.length cx0_3, .slice cx0_4 xD.2.2.1.length cx0_5, .slice cx0_6 xD.2.2.2.1.length cx0_7, .int .i64 xD.2.2.2.2] 33)).cell? ⟨w.heap.size, 3, none⟩ = some (.slice caD_6 xD.2.2.2.1.length caD_7) := HBK7_aD.out.cell 3
  have kaD_4 : (w6.alloc (.cells #[.slice cx0_0 xD.1.length cx0_1, .slice cx0_2 xD.2.1.length cx0_3, .slice cx0_4 xD.2.2.1.length cx0_5, .slice cx0_6 xD.2.2.2.1.length cx0_7, .int .i64 xD.2.2.2.2] 33)).cell? ⟨w.heap.size, 4, none⟩ = some (.int .i64 xD.2.2.2.2) := HBK7_aD.out.cell 4
  have kw0_0 : (w6.alloc (.cells #[.slice cx0_0 xD.1.length cx0_1, .slice cx0_2 xD.2.1.length cx0_3, .slice cx0_4 xD.2.2.1.length cx0_5, .slice cx0_6 xD.2.2.2.1.length cx0_7, .int .i64 xD.2.2.2.2] 33)).cell? ⟨w4.heap.size, 0, none⟩ = some (.slice cw0_0 r.1.length cw0_1) := HBK7_w0.out.cell 0
  have kw0_1 : (w6.alloc (.cells #[.slice cx0_0 xD.1.length cx0_1, .slice cx0_2 xD.2.1.length cx0_3, .slice cx0_4 xD.2.2.1.length cx0_5, .slice cx0_6 xD.2.2.2.1.length cx0_7, .int .i64 xD.2.2.2.2] 33)).cell? ⟨w4.heap.size, 1, none⟩ = some (.slice cw0_2 r.2.1.length cw0_3) := HBK7_w0.out.cell 1
  have kw0_2 : (w6.alloc (.cells #[.slice cx0_0 xD.1.length cx0_1, .slice cx0_2 xD.2.1.length cx0_3, .slice cx0_4 xD.2.2.1.length cx0_5, .slice cx0_6 xD.2.2.2.1.length cx0_7, .int .i64 xD.2.2.2.2] 33)).cell? ⟨w4.heap.size, 2, none⟩ = some (.slice cw0_4 r.2.2.1.length cw0_5) := HBK7_w0.out.cell 2
  have kw0_3 : (w6.alloc (.cells #[.slice cx0_0 xD.1.length cx0_1, .slice cx0_2 xD.2.1.length cx0_3, .slice cx0_4 xD.2.2.1.length cx0_5, .slice cx0_6 xD.2.2.2.1.length cx0_7, .int .i64 xD.2.2.2.2] 33)).cell? ⟨w4.heap.size, 3, none⟩ = some (.slice cw0_6 r.2.2.2.1.length cw0_7) := HBK7_w0.out.cell 3
  have kw0_4 : (w6.alloc (.cells #[.slice cx0_0 xD.1.length cx0_1, .slice cx0_2 xD.2.1.length cx0_3, .slice cx0_4 xD.2.2.1.length cx0_5, .slice cx0_6 xD.2.2.2.1.length cx0_7, .int .i64 xD.2.2.2.2] 33)).cell? ⟨w4.heap.size, 4, none⟩ = some (.int .i64 r.2.2.2.2) := HBK7_w0.out.cell 4
  have HBK_x0 := Sec.mk (Blk.new w6 33 [.slice cx0_0 xD.1.length cx0_1, .slice cx0_2 xD.2.1.length cx0_3, .slice cx0_4 xD.2.2.1.length cx0_5, .slice cx0_6 xD.2.2.2.1.length cx0_7, .int .i64 xD.2.2.2.2])
  have hz6 : (w6.alloc (.cells #[.slice cx0_0 xD.1.length cx0_1, .slice cx0_2 xD.2.1.length cx0_3, .slice cx0_4 xD.2.2.1.length cx0_5, .slice cx0_6 xD.2.2.2.1.length cx0_7, .int .i64 xD.2.2.2.2] 33)).heap.size = w6.heap.size + 1 := by simp
  clear kaD_0 kaD_1 kaD_2 kaD_3 kaD_4
  clear kw0_0 kw0_1 kw0_2 kw0_3 kw0_4
  have kaD_0 : (w6.alloc (.cells #[.slice cx0_0 xD.1.length cx0_1, .slice cx0_2 xD.2.1.length cx0_3, .slice cx0_4 xD.2.2.1.length cx0_5, .slice cx0_6 xD.2.2.2.1.length cx0_7, .int .i64 xD.2.2.2.2] 33)).cell? ⟨w.heap.size, 0, none⟩ = some (.slice caD_0 xD.1.length caD_1) := HBK7_aD.out.cell 0
  have kaD_1 : (w6.alloc (.cells #[.slice cx0_0 xD.1.length cx0_1, .slice cx0_2 xD.2.1.length cx0_3, .slice cx0_4 xD.2.2.1.length cx0_5, .slice cx0_6 xD.2.2.2.1.length cx0_7, .int .i64 xD.2.2.2.2] 33)).cell? ⟨w.heap.size, 1, none⟩ = some (.slice caD_2 xD.2.1.length caD_3) := HBK7_aD.out.cell 1
  have kaD_2 : (w6.alloc (.cells #[.slice cx0_0 xD.1.length cx0_1, .slice cx0_2 xD.2.1.length cx0_3, .slice cx0_4 xD.2.2.1.length cx0_5, .slice cx0_6 xD.2.2.2.1.length cx0_7, .int .i64 xD.2.2.2.2] 33)).cell? ⟨w.heap.size, 2, none⟩ = some (.slice caD_4 xD.2.2.1.length caD_5) := HBK7_aD.out.cell 2
  have kaD_3 : (w6.alloc (.cells #[.slice cx0_0 xD.1.length cx0_1, .slice cx0_2 xD.2.1.length cx0_3, .slice cx0_4 xD.2.2.1.length cx0_5, .slice cx0_6 xD.2.2.2.1.length cx0_7, .int .i64 xD.2.2.2.2] 33)).cell? ⟨w.heap.size, 3, none⟩ = some (.slice caD_6 xD.2.2.2.1.length caD_7) := HBK7_aD.out.cell 3
  have kaD_4 : (w6.alloc (.cells #[.slice cx0_0 xD.1.length cx0_1, .slice cx0_2 xD.2.1.length cx0_3, .slice cx0_4 xD.2.2.1.length cx0_5, .slice cx0_6 xD.2.2.2.1.length cx0_7, .int .i64 xD.2.2.2.2] 33)).cell? ⟨w.heap.size, 4, none⟩ = some (.int .i64 xD.2.2.2.2) := HBK7_aD.out.cell 4
  have kw0_0 : (w6.alloc (.cells #[.slice cx0_0 xD.1.length cx0_1, .slice cx0_2 xD.2.1.length cx0_3, .slice cx0_4 xD.2.2.1.length cx0_5, .slice cx0_6 xD.2.2.2.1.length cx0_7, .int .i64 xD.2.2.2.2] 33)).cell? ⟨w4.heap.size, 0, none⟩ = some (.slice cw0_0 r.1.length cw0_1) := HBK7_w0.out.cell 0
  have kw0_1 : (w6.alloc (.cells #[.slice cx0_0 xD.1.length cx0_1, .slice cx0_2 xD.2.1.length cx0_3, .slice cx0_4 xD.2.2.1.length cx0_5, .slice cx0_6 xD.2.2.2.1.length cx0_7, .int .i64 xD.2.2.2.2] 33)).cell? ⟨w4.heap.size, 1, none⟩ = some (.slice cw0_2 r.2.1.length cw0_3) := HBK7_w0.out.cell 1
  have kw0_2 : (w6.alloc (.cells #[.slice cx0_0 xD.1.length cx0_1, .slice cx0_2 xD.2.1.length cx0_3, .slice cx0_4 xD.2.2.1.length cx0_5, .slice cx0_6 xD.2.2.2.1.length cx0_7, .int .i64 xD.2.2.2.2] 33)).cell? ⟨w4.heap.size, 2, none⟩ = some (.slice cw0_4 r.2.2.1.length cw0_5) := HBK7_w0.out.cell 2
  have kw0_3 : (w6.alloc (.cells #[.slice cx0_0 xD.1.length cx0_1, .slice cx0_2 xD.2.1.length cx0_3, .slice cx0_4 xD.2.2.1.length cx0_5, .slice cx0_6 xD.2.2.2.1.length cx0_7, .int .i64 xD.2.2.2.2] 33)).cell? ⟨w4.heap.size, 3, none⟩ = some (.slice cw0_6 r.2.2.2.1.length cw0_7) := HBK7_w0.out.cell 3
  have kw0_4 : (w6.alloc (.cells #[.slice cx0_0 xD.1.length cx0_1, .slice cx0_2 xD.2.1.length cx0_3, .slice cx0_4 xD.2.2.1.length cx0_5, .slice cx0_6 xD.2.2.2.1.length cx0_7, .int .i64 xD.2.2.2.2] 33)).cell? ⟨w4.heap.size, 4, none⟩ = some (.int .i64 r.2.2.2.2) := HBK7_w0.out.cell 4
  have kx0_0 : (w6.alloc (.cells #[.slice cx0_0 xD.1.length cx0_1, .slice cx0_2 xD.2.1.length cx0_3, .slice cx0_4 xD.2.2.1.length cx0_5, .slice cx0_6 xD.2.2.2.1.length cx0_7, .int .i64 xD.2.2.2.2] 33)).cell? ⟨w6.heap.size, 0, none⟩ = some (.slice cx0_0 xD.1.length cx0_1) := HBK_x0.out.cell 0
  have kx0_1 : (w6.alloc (.cells #[.slice cx0_0 xD.1.length cx0_1, .slice cx0_2 xD.2.1.length cx0_3, .slice cx0_4 xD.2.2.1.length cx0_5, .slice cx0_6 xD.2.2.2.1.length cx0_7, .int .i64 xD.2.2.2.2] 33)).cell? ⟨w6.heap.size, 1, none⟩ = some (.slice cx0_2 xD.2.1.length cx0_3) := HBK_x0.out.cell 1
  have kx0_2 : (w6.alloc (.cells #[.slice cx0_0 xD.1.length cx0_1, .slice cx0_2 xD.2.1.length cx0_3, .slice cx0_4 xD.2.2.1.length cx0_5, .slice cx0_6 xD.2.2.2.1.length cx0_7, .int .i64 xD.2.2.2.2] 33)).cell? ⟨w6.heap.size, 2, none⟩ = some (.slice cx0_4 xD.2.2.1.length cx0_5) := HBK_x0.out.cell 2
  have kx0_3 : (w6.alloc (.cells #[.slice cx0_0 xD.1.length cx0_1, .slice cx0_2 xD.2.1.length cx0_3, .slice cx0_4 xD.2.2.1.length cx0_5, .slice cx0_6 xD.2.2.2.1.length cx0_7, .int .i64 xD.2.2.2.2] 33)).cell? ⟨w6.heap.size, 3, none⟩ = some (.slice cx0_6 xD.2.2.2.1.length cx0_7) := HBK_x0.out.cell 3
  have kx0_4 : (w6.alloc (.cells #[.slice cx0_0 xD.1.length cx0_1, .slice cx0_2 xD.2.1.length cx0_3, .slice cx0_4 xD.2.2.1.length cx0_5, .slice cx0_6 xD.2.2.2.1.length cx0_7, .int .i64 xD.2.2.2.2] 33)).cell? ⟨w6.heap.size, 4, none⟩ = some (.int .i64 xD.2.2.2.2) := HBK_x0.out.cell 4
  go_wp2_with fail
  refine (toIntS_v (HRaPicks.out.step HM7.out) hbl0).mono ?_
  rintro e w8 ⟨v8, rfl, ho8, hm8⟩
  clear kaD_0 kaD_1 kaD_2 kaD_3 kaD_4
  clear kw0_0 kw0_1 kw0_2 kw0_3 kw0_4
  clear kx0_0 kx0_1 kx0_2 kx0_3 kx0_4
  have HBK8_aD := Sec.mk (HBK7_aD.out.mod hm8 id)
  clear HBK7_aD
  have HBK8_w0 := Sec.mk (HBK7_w0.out.mod hm8 id)
  clear HBK7_w0
  have HBK8_x0 := Sec.mk (HBK_x0.out.mod hm8 id)
  clear HBK_x0
  have W0_8 := Sec.mk (W0_7.out.step hm8)
  clear W0_7
  have X0_8 := Sec.mk (X0_7.out.step hm8)
  clear X0_7
  have HM8 := Sec.mk (HM7.out.transN hm8)
  clear HM7
  have hs8 := hm8.size
  clear hm8
  have kaD_0 : (w8).cell? ⟨w.heap.size, 0, none⟩ = some (.slice caD_0 xD.1.length caD_1) := HBK8_aD.out.cell 0
  have kaD_1 : (w8).cell? ⟨w.heap.size, 1, none⟩ = some (.slice caD_2 xD.2.1.length caD_3) := HBK8_aD.out.cell 1
  have kaD_2 : (w8).cell? ⟨w.heap.size, 2, none⟩ = some (.slice caD_4 xD.2.2.1.length caD_5) := HBK8_aD.out.cell 2
  have kaD_3 : (w8).cell? ⟨w.heap.size, 3, none⟩ = some (.slice caD_6 xD.2.2.2.1.length caD_7) := HBK8_aD.out.cell 3
  have kaD_4 : (w8).cell? ⟨w.heap.size, 4, none⟩ = some (.int .i64 xD.2.2.2.2) := HBK8_aD.out.cell 4
  have kw0_0 : (w8).cell? ⟨w4.heap.size, 0, none⟩ = some (.slice cw0_0 r.1.length cw0_1) := HBK8_w0.out.cell 0
  have kw0_1 : (w8).cell? ⟨w4.heap.size, 1, none⟩ = some (.slice cw0_2 r.2.1.length cw0_3) := HBK8_w0.out.cell 1
  have kw0_2 : (w8).cell? ⟨w4.heap.size, 2, none⟩ = some (.slice cw0_4 r.2.2.1.length cw0_5) := HBK8_w0.out.cell 2
  have kw0_3 : (w8).cell? ⟨w4.heap.size, 3, none⟩ = some (.slice cw0_6 r.2.2.2.1.length cw0_7) := HBK8_w0.out.cell 3
  have kw0_4 : (w8).cell? ⟨w4.heap.size, 4, none⟩ = some (.int .i64 r.2.2.2.2) := HBK8_w0.out.cell 4
  have kx0_0 : (w8).cell? ⟨w6.heap.size, 0, none⟩ = some (.slice cx0_0 xD.1.length cx0_1) := HBK8_x0.out.cell 0
  have kx0_1 : (w8).cell? ⟨w6.heap.size, 1, none⟩ = some (.slice cx0_2 xD.2.1.length cx0_3) := HBK8_x0.out.cell 1
  have kx0_2 : (w8).cell? ⟨w6.heap.size, 2, none⟩ = some (.slice cx0_4 xD.2.2.1.length cx0_5) := HBK8_x0.out.cell 2
  have kx0_3 : (w8).cell? ⟨w6.heap.size, 3, none⟩ = some (.slice cx0_6 xD.2.2.2.1.length cx0_7) := HBK8_x0.out.cell 3
  have kx0_4 : (w8).cell? ⟨w6.heap.size, 4, none⟩ = some (.int .i64 xD.2.2.2.2) := HBK8_x0.out.cell 4
  have X2_8 := Sec.mk ho8
  clear ho8
  go_wp2_with fail
  refine (implDiskCrash_v X0_8.out.rd aDirs hwaDirs X2_8.out.rd hb0 hbl0).mono ?_
  rw [HFN.out]
  rintro e w9 ⟨v9, rfl, ho9, hm9⟩
  clear kaD_0 kaD_1 kaD_2 kaD_3 kaD_4
  clear kw0_0 kw0_1 kw0_2 kw0_3 kw0_4
  clear kx0_0 kx0_1 kx0_2 kx0_3 kx0_4
  have HBK9_aD := Sec.mk (HBK8_aD.out.mod hm9 id)
  clear HBK8_aD
  have HBK9_w0 := Sec.mk (HBK8_w0.out.mod hm9 id)
  clear HBK8_w0
  have HBK9_x0 := Sec.mk (HBK8_x0.out.mod hm9 id)
  clear HBK8_x0
  have W0_9 := Sec.mk (W0_8.out.step hm9)
  clear W0_8
  have X0_9 := Sec.mk (X0_8.out.step hm9)
  clear X0_8
  have X2_9 := Sec.mk (X2_8.out.step hm9)
  clear X2_8
  have HM9 := Sec.mk (HM8.out.transN hm9)
  clear HM8
  have hs9 := hm9.size
  clear hm9
  have kaD_0 : (w9).cell? ⟨w.heap.size, 0, none⟩ = some (.slice caD_0 xD.1.length caD_1) := HBK9_aD.out.cell 0
  have kaD_1 : (w9).cell? ⟨w.heap.size, 1, none⟩ = some (.slice caD_2 xD.2.1.length caD_3) := HBK9_aD.out.cell 1
  have kaD_2 : (w9).cell? ⟨w.heap.size, 2, none⟩ = some (.slice caD_4 xD.2.2.1.length caD_5) := HBK9_aD.out.cell 2
  have kaD_3 : (w9).cell? ⟨w.heap.size, 3, none⟩ = some (.slice caD_6 xD.2.2.2.1.length caD_7) := HBK9_aD.out.cell 3
  have kaD_4 : (w9).cell? ⟨w.heap.size, 4, none⟩ = some (.int .i64 xD.2.2.2.2) := HBK9_aD.out.cell 4
  have kw0_0 : (w9).cell? ⟨w4.heap.size, 0, none⟩ = some (.slice cw0_0 r.1.length cw0_1) := HBK9_w0.out.cell 0
  have kw0_1 : (w9).cell? ⟨w4.heap.size, 1, none⟩ = some (.slice cw0_2 r.2.1.length cw0_3) := HBK9_w0.out.cell 1
  have kw0_2 : (w9).cell? ⟨w4.heap.size, 2, none⟩ = some (.slice cw0_4 r.2.2.1.length cw0_5) := HBK9_w0.out.cell 2
  have kw0_3 : (w9).cell? ⟨w4.heap.size, 3, none⟩ = some (.slice cw0_6 r.2.2.2.1.length cw0_7) := HBK9_w0.out.cell 3
  have kw0_4 : (w9).cell? ⟨w4.heap.size, 4, none⟩ = some (.int .i64 r.2.2.2.2) := HBK9_w0.out.cell 4
  have kx0_0 : (w9).cell? ⟨w6.heap.size, 0, none⟩ = some (.slice cx0_0 xD.1.length cx0_1) := HBK9_x0.out.cell 0
  have kx0_1 : (w9).cell? ⟨w6.heap.size, 1, none⟩ = some (.slice cx0_2 xD.2.1.length cx0_3) := HBK9_x0.out.cell 1
  have kx0_2 : (w9).cell? ⟨w6.heap.size, 2, none⟩ = some (.slice cx0_4 xD.2.2.1.length cx0_5) := HBK9_x0.out.cell 2
  have kx0_3 : (w9).cell? ⟨w6.heap.size, 3, none⟩ = some (.slice cx0_6 xD.2.2.2.1.length cx0_7) := HBK9_x0.out.cell 3
  have kx0_4 : (w9).cell? ⟨w6.heap.size, 4, none⟩ = some (.int .i64 xD.2.2.2.2) := HBK9_x0.out.cell 4
  have G0_9 := Sec.mk ho9
  clear ho9
  obtain ⟨cg0_0, cg0_1, cg0_2, cg0_3, cg0_4, cg0_5, cg0_6, cg0_7, rfl⟩ := cellsDisk G0_9.out.rd
  have hma9 := ((Mod.refl (fun _ => False) w9).alloc (.cells #[.slice cg0_0 r.1.length cg0_1, .slice cg0_2 r.2.1.length cg0_3, .slice cg0_4 r.2.2.1.length cg0_5, .slice cg0_6 r.2.2.2.1.length cg0_7, .int .i64 r.2.2.2.2] 33))
  clear kaD_0 kaD_1 kaD_2 kaD_3 kaD_4
  clear kw0_0 kw0_1 kw0_2 kw0_3 kw0_4
  clear kx0_0 kx0_1 kx0_2 kx0_3 kx0_4
  have HBK10_aD := Sec.mk (HBK9_aD.out.mod hma9 id)
  clear HBK9_aD
  have HBK10_w0 := Sec.mk (HBK9_w0.out.mod hma9 id)
  clear HBK9_w0
  have HBK10_x0 := Sec.mk (HBK9_x0.out.mod hma9 id)
  clear HBK9_x0
  have W0_10 := Sec.mk (W0_9.out.step hma9)
  clear W0_9
  have X0_10 := Sec.mk (X0_9.out.step hma9)
  clear X0_9
  have X2_10 := Sec.mk (X2_9.out.step hma9)
  clear X2_9
  have G0_10 := Sec.mk (G0_9.out.step hma9)
  clear G0_9
  have HM10 := Sec.mk (HM9.out.transN hma9)
  clear HM9
  have hs10 := hma9.size
  clear hma9
  have kaD_0 : (w9.alloc (.cells #[.slice cg0_0 r.1.length cg0_1, .slice cg0_2 r.2.1.length cg0_3, .slice cg0_4 r.2.2.1.length cg0_5, .slice cg0_6 r.2.2.2.1.length cg0_7, .int .i64 r.2.2.2.2] 33)).cell? ⟨w.heap.size, 0, none⟩ = some (.slice caD_0 xD.1.length caD_1) := HBK10_aD.out.cell 0
  have kaD_1 : (w9.alloc (.cells #[.slice cg0_0 r.1.length cg0_1, .slice cg0_2 r.2.1.length cg0_3, .slice cg0_4 r.2.2.1.length cg0_5, .slice cg0_6 r.2.2.2.1.length cg0_7, .int .i64 r.2.2.2.2] 33)).cell? ⟨w.heap.size, 1, none⟩ = some (.slice caD_2 xD.2.1.length caD_3) := HBK10_aD.out.cell 1
  have kaD_2 : (w9.alloc (.cells #[.slice cg0_0 r.1.length cg0_1, .slice cg0_2 r.2.1.length cg0_3, .slice cg0_4 r.2.2.1.length cg0_5, .slice cg0_6 r.2.2.2.1.length cg0_7, .int .i64 r.2.2.2.2] 33)).cell? ⟨w.heap.size, 2, none⟩ = some (.slice caD_4 xD.2.2.1.length caD_5) := HBK10_aD.out.cell 2
  have kaD_3 : (w9.alloc (.cells #[.slice cg0_0 r.1.length cg0_1, .slice cg0_2 r.2.1.length cg0_3, .slice cg0_4 r.2.2.1.length cg0_5, .slice cg0_6 r.2.2.2.1.length cg0_7, .int .i64 r.2.2.2.2] 33)).cell? ⟨w.heap.size, 3, none⟩ = some (.slice caD_6 xD.2.2.2.1.length caD_7) := HBK10_aD.out.cell 3
  have kaD_4 : (w9.alloc (.cells #[.slice cg0_0 r.1.length cg0_1, .slice cg0_2 r.2.1.length cg0_3, .slice cg0_4 r.2.2.1.length cg0_5, .slice cg0_6 r.2.2.2.1.length cg0_7, .int .i64 r.2.2.2.2] 33)).cell? ⟨w.heap.size, 4, none⟩ = some (.int .i64 xD.2.2.2.2) := HBK10_aD.out.cell 4
  have kw0_0 : (w9.alloc (.cells #[.slice cg0_0 r.1.length cg0_1, .slice cg0_2 r.2.1.length cg0_3, .slice cg0_4 r.2.2.1.length cg0_5, .slice cg0_6 r.2.2.2.1.length cg0_7, .int .i64 r.2.2.2.2] 33)).cell? ⟨w4.heap.size, 0, none⟩ = some (.slice cw0_0 r.1.length cw0_1) := HBK10_w0.out.cell 0
  have kw0_1 : (w9.alloc (.cells #[.slice cg0_0 r.1.length cg0_1, .slice cg0_2 r.2.1.length cg0_3, .slice cg0_4 r.2.2.1.length cg0_5, .slice cg0_6 r.2.2.2.1.length cg0_7, .int .i64 r.2.2.2.2] 33)).cell? ⟨w4.heap.size, 1, none⟩ = some (.slice cw0_2 r.2.1.length cw0_3) := HBK10_w0.out.cell 1
  have kw0_2 : (w9.alloc (.cells #[.slice cg0_0 r.1.length cg0_1, .slice cg0_2 r.2.1.length cg0_3, .slice cg0_4 r.2.2.1.length cg0_5, .slice cg0_6 r.2.2.2.1.length cg0_7, .int .i64 r.2.2.2.2] 33)).cell? ⟨w4.heap.size, 2, none⟩ = some (.slice cw0_4 r.2.2.1.length cw0_5) := HBK10_w0.out.cell 2
  have kw0_3 : (w9.alloc (.cells #[.slice cg0_0 r.1.length cg0_1, .slice cg0_2 r.2.1.length cg0_3, .slice cg0_4 r.2.2.1.length cg0_5, .slice cg0_6 r.2.2.2.1.length cg0_7, .int .i64 r.2.2.2.2] 33)).cell? ⟨w4.heap.size, 3, none⟩ = some (.slice cw0_6 r.2.2.2.1.length cw0_7) := HBK10_w0.out.cell 3
  have kw0_4 : (w9.alloc (.cells #[.slice cg0_0 r.1.length cg0_1, .slice cg0_2 r.2.1.length cg0_3, .slice cg0_4 r.2.2.1.length cg0_5, .slice cg0_6 r.2.2.2.1.length cg0_7, .int .i64 r.2.2.2.2] 33)).cell? ⟨w4.heap.size, 4, none⟩ = some (.int .i64 r.2.2.2.2) := HBK10_w0.out.cell 4
  have kx0_0 : (w9.alloc (.cells #[.slice cg0_0 r.1.length cg0_1, .slice cg0_2 r.2.1.length cg0_3, .slice cg0_4 r.2.2.1.length cg0_5, .slice cg0_6 r.2.2.2.1.length cg0_7, .int .i64 r.2.2.2.2] 33)).cell? ⟨w6.heap.size, 0, none⟩ = some (.slice cx0_0 xD.1.length cx0_1) := HBK10_x0.out.cell 0
  have kx0_1 : (w9.alloc (.cells #[.slice cg0_0 r.1.length cg0_1, .slice cg0_2 r.2.1.length cg0_3, .slice cg0_4 r.2.2.1.length cg0_5, .slice cg0_6 r.2.2.2.1.length cg0_7, .int .i64 r.2.2.2.2] 33)).cell? ⟨w6.heap.size, 1, none⟩ = some (.slice cx0_2 xD.2.1.length cx0_3) := HBK10_x0.out.cell 1
  have kx0_2 : (w9.alloc (.cells #[.slice cg0_0 r.1.length cg0_1, .slice cg0_2 r.2.1.length cg0_3, .slice cg0_4 r.2.2.1.length cg0_5, .slice cg0_6 r.2.2.2.1.length cg0_7, .int .i64 r.2.2.2.2] 33)).cell? ⟨w6.heap.size, 2, none⟩ = some (.slice cx0_4 xD.2.2.1.length cx0_5) := HBK10_x0.out.cell 2
  have kx0_3 : (w9.alloc (.cells #[.slice cg0_0 r.1.length cg0_1, .slice cg0_2 r.2.1.length cg0_3, .slice cg0_4 r.2.2.1.length cg0_5, .slice cg0_6 r.2.2.2.1.length cg0_7, .int .i64 r.2.2.2.2] 33)).cell? ⟨w6.heap.size, 3, none⟩ = some (.slice cx0_6 xD.2.2.2.1.length cx0_7) := HBK10_x0.out.cell 3
  have kx0_4 : (w9.alloc (.cells #[.slice cg0_0 r.1.length cg0_1, .slice cg0_2 r.2.1.length cg0_3, .slice cg0_4 r.2.2.1.length cg0_5, .slice cg0_6 r.2.2.2.1.length cg0_7, .int .i64 r.2.2.2.2] 33)).cell? ⟨w6.heap.size, 4, none⟩ = some (.int .i64 xD.2.2.2.2) := HBK10_x0.out.cell 4
  have HBK_g0 := Sec.mk (Blk.new w9 33 [.slice cg0_0 r.1.length cg0_1, .slice cg0_2 r.2.1.length cg0_3, .slice cg0_4 r.2.2.1.length cg0_5, .slice cg0_6 r.2.2.2.1.length cg0_7, .int .i64 r.2.2.2.2])
  have hz9 : (w9.alloc (.cells #[.slice cg0_0 r.1.length cg0_1, .slice cg0_2 r.2.1.length cg0_3, .slice cg0_4 r.2.2.1.length cg0_5, .slice cg0_6 r.2.2.2.1.length cg0_7, .int .i64 r.2.2.2.2] 33)).heap.size = w9.heap.size + 1 := by simp
  clear kaD_0 kaD_1 kaD_2 kaD_3 kaD_4
  clear kw0_0 kw0_1 kw0_2 kw0_3 kw0_4
  clear kx0_0 kx0_1 kx0_2 kx0_3 kx0_4
  have kaD_0 : (w9.alloc (.cells #[.slice cg0_0 r.1.length cg0_1, .slice cg0_2 r.2.1.length cg0_3, .slice cg0_4 r.2.2.1.length cg0_5, .slice cg0_6 r.2.2.2.1.length cg0_7, .int .i64 r.2.2.2.2] 33)).cell? ⟨w.heap.size, 0, none⟩ = some (.slice caD_0 xD.1.length caD_1) := HBK10_aD.out.cell 0
  have kaD_1 : (w9.alloc (.cells #[.slice cg0_0 r.1.length cg0_1, .slice cg0_2 r.2.1.length cg0_3, .slice cg0_4 r.2.2.1.length cg0_5, .slice cg0_6 r.2.2.2.1.length cg0_7, .int .i64 r.2.2.2.2] 33)).cell? ⟨w.heap.size, 1, none⟩ = some (.slice caD_2 xD.2.1.length caD_3) := HBK10_aD.out.cell 1
  have kaD_2 : (w9.alloc (.cells #[.slice cg0_0 r.1.length cg0_1, .slice cg0_2 r.2.1.length cg0_3, .slice cg0_4 r.2.2.1.length cg0_5, .slice cg0_6 r.2.2.2.1.length cg0_7, .int .i64 r.2.2.2.2] 33)).cell? ⟨w.heap.size, 2, none⟩ = some (.slice caD_4 xD.2.2.1.length caD_5) := HBK10_aD.out.cell 2
  have kaD_3 : (w9.alloc (.cells #[.slice cg0_0 r.1.length cg0_1, .slice cg0_2 r.2.1.length cg0_3, .slice cg0_4 r.2.2.1.length cg0_5, .slice cg0_6 r.2.2.2.1.length cg0_7, .int .i64 r.2.2.2.2] 33)).cell? ⟨w.heap.size, 3, none⟩ = some (.slice caD_6 xD.2.2.2.1.length caD_7) := HBK10_aD.out.cell 3
  have kaD_4 : (w9.alloc (.cells #[.slice cg0_0 r.1.length cg0_1, .slice cg0_2 r.2.1.length cg0_3, .slice cg0_4 r.2.2.1.length cg0_5, .slice cg0_6 r.2.2.2.1.length cg0_7, .int .i64 r.2.2.2.2] 33)).cell? ⟨w.heap.size, 4, none⟩ = some (.int .i64 xD.2.2.2.2) := HBK10_aD.out.cell 4
  have kw0_0 : (w9.alloc (.cells #[.slice cg0_0 r.1.length cg0_1, .slice cg0_2 r.2.1.length cg0_3, .slice cg0_4 r.2.2.1.length cg0_5, .slice cg0_6 r.2.2.2.1.length cg0_7, .int .i64 r.2.2.2.2] 33)).cell? ⟨w4.heap.size, 0, none⟩ = some (.slice cw0_0 r.1.length cw0_1) := HBK10_w0.out.cell 0
  have kw0_1 : (w9.alloc (.cells #[.slice cg0_0 r.1.length cg0_1, .slice cg0_2 r.2.1.length cg0_3, .slice cg0_4 r.2.2.1.length cg0_5, .slice cg0_6 r.2.2.2.1.length cg0_7, .int .i64 r.2.2.2.2] 33)).cell? ⟨w4.heap.size, 1, none⟩ = some (.slice cw0_2 r.2.1.length cw0_3) := HBK10_w0.out.cell 1
  have kw0_2 : (w9.alloc (.cells #[.slice cg0_0 r.1.length cg0_1, .slice cg0_2 r.2.1.length cg0_3, .slice cg0_4 r.2.2.1.length cg0_5, .slice cg0_6 r.2.2.2.1.length cg0_7, .int .i64 r.2.2.2.2] 33)).cell? ⟨w4.heap.size, 2, none⟩ = some (.slice cw0_4 r.2.2.1.length cw0_5) := HBK10_w0.out.cell 2
  have kw0_3 : (w9.alloc (.cells #[.slice cg0_0 r.1.length cg0_1, .slice cg0_2 r.2.1.length cg0_3, .slice cg0_4 r.2.2.1.length cg0_5, .slice cg0_6 r.2.2.2.1.length cg0_7, .int .i64 r.2.2.2.2] 33)).cell? ⟨w4.heap.size, 3, none⟩ = some (.slice cw0_6 r.2.2.2.1.length cw0_7) := HBK10_w0.out.cell 3
  have kw0_4 : (w9.alloc (.cells #[.slice cg0_0 r.1.length cg0_1, .slice cg0_2 r.2.1.length cg0_3, .slice cg0_4 r.2.2.1.length cg0_5, .slice cg0_6 r.2.2.2.1.length cg0_7, .int .i64 r.2.2.2.2] 33)).cell? ⟨w4.heap.size, 4, none⟩ = some (.int .i64 r.2.2.2.2) := HBK10_w0.out.cell 4
  have kx0_0 : (w9.alloc (.cells #[.slice cg0_0 r.1.length cg0_1, .slice cg0_2 r.2.1.length cg0_3, .slice cg0_4 r.2.2.1.length cg0_5, .slice cg0_6 r.2.2.2.1.length cg0_7, .int .i64 r.2.2.2.2] 33)).cell? ⟨w6.heap.size, 0, none⟩ = some (.slice cx0_0 xD.1.length cx0_1) := HBK10_x0.out.cell 0
  have kx0_1 : (w9.alloc (.cells #[.slice cg0_0 r.1.length cg0_1, .slice cg0_2 r.2.1.length cg0_3, .slice cg0_4 r.2.2.1.length cg0_5, .slice cg0_6 r.2.2.2.1.length cg0_7, .int .i64 r.2.2.2.2] 33)).cell? ⟨w6.heap.size, 1, none⟩ = some (.slice cx0_2 xD.2.1.length cx0_3) := HBK10_x0.out.cell 1
  have kx0_2 : (w9.alloc (.cells #[.slice cg0_0 r.1.length cg0_1, .slice cg0_2 r.2.1.length cg0_3, .slice cg0_4 r.2.2.1.length cg0_5, .slice cg0_6 r.2.2.2.1.length cg0_7, .int .i64 r.2.2.2.2] 33)).cell? ⟨w6.heap.size, 2, none⟩ = some (.slice cx0_4 xD.2.2.1.length cx0_5) := HBK10_x0.out.cell 2
  have kx0_3 : (w9.alloc (.cells #[.slice cg0_0 r.1.length cg0_1, .slice cg0_2 r.2.1.length cg0_3, .slice cg0_4 r.2.2.1.length cg0_5, .slice cg0_6 r.2.2.2.1.length cg0_7, .int .i64 r.2.2.2.2] 33)).cell? ⟨w6.heap.size, 3, none⟩ = some (.slice cx0_6 xD.2.2.2.1.length cx0_7) := HBK10_x0.out.cell 3
  have kx0_4 : (w9.alloc (.cells #[.slice cg0_0 r.1.length cg0_1, .slice cg0_2 r.2.1.length cg0_3, .slice cg0_4 r.2.2.1.length cg0_5, .slice cg0_6 r.2.2.2.1.length cg0_7, .int .i64 r.2.2.2.2] 33)).cell? ⟨w6.heap.size, 4, none⟩ = some (.int .i64 xD.2.2.2.2) := HBK10_x0.out.cell 4
  have kg0_0 : (w9.alloc (.cells #[.slice cg0_0 r.1.length cg0_1, .slice cg0_2 r.2.1.length cg0_3, .slice cg0_4 r.2.2.1.length cg0_5, .slice cg0_6 r.2.2.2.1.length cg0_7, .int .i64 r.2.2.2.2] 33)).cell? ⟨w9.heap.size, 0, none⟩ = some (.slice cg0_0 r.1.length cg0_1) := HBK_g0.out.cell 0
  have kg0_1 : (w9.alloc (.cells #[.slice cg0_0 r.1.length cg0_1, .slice cg0_2 r.2.1.length cg0_3, .slice cg0_4 r.2.2.1.length cg0_5, .slice cg0_6 r.2.2.2.1.length cg0_7, .int .i64 r.2.2.2.2] 33)).cell? ⟨w9.heap.size, 1, none⟩ = some (.slice cg0_2 r.2.1.length cg0_3) := HBK_g0.out.cell 1
  have kg0_2 : (w9.alloc (.cells #[.slice cg0_0 r.1.length cg0_1, .slice cg0_2 r.2.1.length cg0_3, .slice cg0_4 r.2.2.1.length cg0_5, .slice cg0_6 r.2.2.2.1.length cg0_7, .int .i64 r.2.2.2.2] 33)).cell? ⟨w9.heap.size, 2, none⟩ = some (.slice cg0_4 r.2.2.1.length cg0_5) := HBK_g0.out.cell 2
  have kg0_3 : (w9.alloc (.cells #[.slice cg0_0 r.1.length cg0_1, .slice cg0_2 r.2.1.length cg0_3, .slice cg0_4 r.2.2.1.length cg0_5, .slice cg0_6 r.2.2.2.1.length cg0_7, .int .i64 r.2.2.2.2] 33)).cell? ⟨w9.heap.size, 3, none⟩ = some (.slice cg0_6 r.2.2.2.1.length cg0_7) := HBK_g0.out.cell 3
  have kg0_4 : (w9.alloc (.cells #[.slice cg0_0 r.1.length cg0_1, .slice cg0_2 r.2.1.length cg0_3, .slice cg0_4 r.2.2.1.length cg0_5, .slice cg0_6 r.2.2.2.1.length cg0_7, .int .i64 r.2.2.2.2] 33)).cell? ⟨w9.heap.size, 4, none⟩ = some (.int .i64 r.2.2.2.2) := HBK_g0.out.cell 4
  go_wp2_with fail
  refine (eqDisk_v G0_10.out.rd W0_10.out.rd).mono ?_
  rintro e w11 ⟨rfl, hm11⟩
  clear kaD_0 kaD_1 kaD_2 kaD_3 kaD_4
  clear kw0_0 kw0_1 kw0_2 kw0_3 kw0_4
  clear kx0_0 kx0_1 kx0_2 kx0_3 kx0_4
  clear kg0_0 kg0_1 kg0_2 kg0_3 kg0_4
  have HBK11_aD := Sec.mk (HBK10_aD.out.mod hm11 id)
  clear HBK10_aD
  have HBK11_w0 := Sec.mk (HBK10_w0.out.mod hm11 id)
  clear HBK10_w0
  have HBK11_x0 := Sec.mk (HBK10_x0.out.mod hm11 id)
  clear HBK10_x0
  have HBK11_g0 := Sec.mk (HBK_g0.out.mod hm11 id)
  clear HBK_g0
  have W0_11 := Sec.mk (W0_10.out.step hm11)
  clear W0_10
  have X0_11 := Sec.mk (X0_10.out.step hm11)
  clear X0_10
  have X2_11 := Sec.mk (X2_10.out.step hm11)
  clear X2_10
  have G0_11 := Sec.mk (G0_10.out.step hm11)
  clear G0_10
  have HM11 := Sec.mk (HM10.out.transN hm11)
  clear HM10
  have hs11 := hm11.size
  clear hm11
  have kaD_0 : (w11).cell? ⟨w.heap.size, 0, none⟩ = some (.slice caD_0 xD.1.length caD_1) := HBK11_aD.out.cell 0
  have kaD_1 : (w11).cell? ⟨w.heap.size, 1, none⟩ = some (.slice caD_2 xD.2.1.length caD_3) := HBK11_aD.out.cell 1
  have kaD_2 : (w11).cell? ⟨w.heap.size, 2, none⟩ = some (.slice caD_4 xD.2.2.1.length caD_5) := HBK11_aD.out.cell 2
  have kaD_3 : (w11).cell? ⟨w.heap.size, 3, none⟩ = some (.slice caD_6 xD.2.2.2.1.length caD_7) := HBK11_aD.out.cell 3
  have kaD_4 : (w11).cell? ⟨w.heap.size, 4, none⟩ = some (.int .i64 xD.2.2.2.2) := HBK11_aD.out.cell 4
  have kw0_0 : (w11).cell? ⟨w4.heap.size, 0, none⟩ = some (.slice cw0_0 r.1.length cw0_1) := HBK11_w0.out.cell 0
  have kw0_1 : (w11).cell? ⟨w4.heap.size, 1, none⟩ = some (.slice cw0_2 r.2.1.length cw0_3) := HBK11_w0.out.cell 1
  have kw0_2 : (w11).cell? ⟨w4.heap.size, 2, none⟩ = some (.slice cw0_4 r.2.2.1.length cw0_5) := HBK11_w0.out.cell 2
  have kw0_3 : (w11).cell? ⟨w4.heap.size, 3, none⟩ = some (.slice cw0_6 r.2.2.2.1.length cw0_7) := HBK11_w0.out.cell 3
  have kw0_4 : (w11).cell? ⟨w4.heap.size, 4, none⟩ = some (.int .i64 r.2.2.2.2) := HBK11_w0.out.cell 4
  have kx0_0 : (w11).cell? ⟨w6.heap.size, 0, none⟩ = some (.slice cx0_0 xD.1.length cx0_1) := HBK11_x0.out.cell 0
  have kx0_1 : (w11).cell? ⟨w6.heap.size, 1, none⟩ = some (.slice cx0_2 xD.2.1.length cx0_3) := HBK11_x0.out.cell 1
  have kx0_2 : (w11).cell? ⟨w6.heap.size, 2, none⟩ = some (.slice cx0_4 xD.2.2.1.length cx0_5) := HBK11_x0.out.cell 2
  have kx0_3 : (w11).cell? ⟨w6.heap.size, 3, none⟩ = some (.slice cx0_6 xD.2.2.2.1.length cx0_7) := HBK11_x0.out.cell 3
  have kx0_4 : (w11).cell? ⟨w6.heap.size, 4, none⟩ = some (.int .i64 xD.2.2.2.2) := HBK11_x0.out.cell 4
  have kg0_0 : (w11).cell? ⟨w9.heap.size, 0, none⟩ = some (.slice cg0_0 r.1.length cg0_1) := HBK11_g0.out.cell 0
  have kg0_1 : (w11).cell? ⟨w9.heap.size, 1, none⟩ = some (.slice cg0_2 r.2.1.length cg0_3) := HBK11_g0.out.cell 1
  have kg0_2 : (w11).cell? ⟨w9.heap.size, 2, none⟩ = some (.slice cg0_4 r.2.2.1.length cg0_5) := HBK11_g0.out.cell 2
  have kg0_3 : (w11).cell? ⟨w9.heap.size, 3, none⟩ = some (.slice cg0_6 r.2.2.2.1.length cg0_7) := HBK11_g0.out.cell 3
  have kg0_4 : (w11).cell? ⟨w9.heap.size, 4, none⟩ = some (.int .i64 r.2.2.2.2) := HBK11_g0.out.cell 4
  rw [show decide (r = r) = true by simp]
  go_wp2
  refine reg_start [] (fun W => Sec (New (w11) W)) (by kernel_rfl) ?_
  have HSS : Sec (New (w11) (w11).drew) := ⟨(Mod.refl _ _).drew⟩
  refine reg_take (.agg #[.slice cx0_0 xD.1.length cx0_1, .slice cx0_2 xD.2.1.length cx0_3, .slice cx0_4 xD.2.2.1.length cx0_5, .slice cx0_6 xD.2.2.2.1.length cx0_7, .int .i64 xD.2.2.2.2]) (i := 0) (n := 42) HSS rfl (by kernel_rfl) (by kernel_rfl) (by kernel_rfl) (by kernel_rfl) (fun _ _ _ h => h) (fun W hW => exec_load rfl rfl (ldDiskI (HBK11_x0.out.mod hW.out id))) ?_
  simp only [Act.put, List.setIfInBounds_toArray, List.set_cons_zero, List.set_cons_succ]
  refine reg_take (.agg #[.slice caD_0 xD.1.length caD_1, .slice caD_2 xD.2.1.length caD_3, .slice caD_4 xD.2.2.1.length caD_5, .slice caD_6 xD.2.2.2.1.length caD_7, .int .i64 xD.2.2.2.2]) (i := 1) (n := 43) HSS rfl (by kernel_rfl) (by kernel_rfl) (by kernel_rfl) (by kernel_rfl) (fun _ _ _ h => h) (fun W hW => exec_load rfl rfl (ldDiskL (HBK11_aD.out.mod hW.out id))) ?_
  simp only [Act.put, List.setIfInBounds_toArray, List.set_cons_zero, List.set_cons_succ]
  refine reg_step (i := 2) rfl (by kernel_rfl) (fun K hK => ?_)
  refine wp_call (n := 44) (vals := [.agg #[.slice caD_0 xD.1.length caD_1, .slice caD_2 xD.2.1.length caD_3, .slice caD_4 xD.2.2.1.length caD_5, .slice caD_6 xD.2.2.2.1.length caD_7, .int .i64 xD.2.2.2.2]]) rfl rfl rfl (by kernel_rfl) (toDisk_v (HRaD.out.step (HM11.out.transN HSS.out)) hb0) ?_
  rintro e w12' ⟨v12, rfl, ho12, hm12⟩
  have HO12 := Sec.mk ho12
  have HSS : Sec (New (w11) w12') := ⟨HSS.out.transN hm12⟩
  refine ⟨_, rfl, hK.out _ _ (fun _ => HSS) ?_⟩
  clear hm12 ho12
  clear hK K
  simp only [Act.put, List.setIfInBounds_toArray, List.set_cons_zero, List.set_cons_succ]
  refine reg_step (i := 3) rfl (by kernel_rfl) (fun K hK => ?_)
  refine wp_call (n := 45) (vals := [.agg #[.slice cx0_0 xD.1.length cx0_1, .slice cx0_2 xD.2.1.length cx0_3, .slice cx0_4 xD.2.2.1.length cx0_5, .slice cx0_6 xD.2.2.2.1.length cx0_7, .int .i64 xD.2.2.2.2], v12]) rfl rfl rfl (by kernel_rfl) (eqDisk_same (X0_11.out.rd.step HSS.out) HO12.out.rd) ?_
  rintro e w12 ⟨rfl, hn12⟩
  have HSS : Sec (New (w11) w12) := ⟨HSS.out.transN hn12⟩
  refine ⟨_, rfl, hK.out _ _ (fun _ => HSS) ?_⟩
  clear hn12
  clear hK K
  simp only [Act.put, List.setIfInBounds_toArray, List.set_cons_zero, List.set_cons_succ]
  refine reg_take (.bool false) (i := 4) (n := 46) HSS rfl (by kernel_rfl) (by kernel_rfl) (by kernel_rfl) (by kernel_rfl) (fun _ _ _ h => h) (fun W hW => exec_un rfl rfl (by go_simp)) ?_
  simp only [Act.put, List.setIfInBounds_toArray, List.set_cons_zero, List.set_cons_succ]
  refine reg_done (by kernel_rfl) ?_ _
  clear HO12
  have hm12 := HSS.out
  clear kaD_0 kaD_1 kaD_2 kaD_3 kaD_4
  clear kw0_0 kw0_1 kw0_2 kw0_3 kw0_4
  clear kx0_0 kx0_1 kx0_2 kx0_3 kx0_4
  clear kg0_0 kg0_1 kg0_2 kg0_3 kg0_4
  have HBK12_aD := Sec.mk (HBK11_aD.out.mod hm12 id)
  clear HBK11_aD
  have HBK12_w0 := Sec.mk (HBK11_w0.out.mod hm12 id)
  clear HBK11_w0
  have HBK12_x0 := Sec.mk (HBK11_x0.out.mod hm12 id)
  clear HBK11_x0
  have HBK12_g0 := Sec.mk (HBK11_g0.out.mod hm12 id)
  clear HBK11_g0
  have W0_12 := Sec.mk (W0_11.out.step hm12)
  clear W0_11
  have X0_12 := Sec.mk (X0_11.out.step hm12)
  clear X0_11
  have X2_12 := Sec.mk (X2_11.out.step hm12)
  clear X2_11
  have G0_12 := Sec.mk (G0_11.out.step hm12)
  clear G0_11
  have HM12 := Sec.mk (HM11.out.transN hm12)
  clear HM11
  have hs12 := hm12.size
  clear hm12
  have kaD_0 : (w12).cell? ⟨w.heap.size, 0, none⟩ = some (.slice caD_0 xD.1.length caD_1) := HBK12_aD.out.cell 0
  have kaD_1 : (w12).cell? ⟨w.heap.size, 1, none⟩ = some (.slice caD_2 xD.2.1.length caD_3) := HBK12_aD.out.cell 1
  have kaD_2 : (w12).cell? ⟨w.heap.size, 2, none⟩ = some (.slice caD_4 xD.2.2.1.length caD_5) := HBK12_aD.out.cell 2
  have kaD_3 : (w12).cell? ⟨w.heap.size, 3, none⟩ = some (.slice caD_6 xD.2.2.2.1.length caD_7) := HBK12_aD.out.cell 3
  have kaD_4 : (w12).cell? ⟨w.heap.size, 4, none⟩ = some (.int .i64 xD.2.2.2.2) := HBK12_aD.out.cell 4
  have kw0_0 : (w12).cell? ⟨w4.heap.size, 0, none⟩ = some (.slice cw0_0 r.1.length cw0_1) := HBK12_w0.out.cell 0
  have kw0_1 : (w12).cell? ⟨w4.heap.size, 1, none⟩ = some (.slice cw0_2 r.2.1.length cw0_3) := HBK12_w0.out.cell 1
  have kw0_2 : (w12).cell? ⟨w4.heap.size, 2, none⟩ = some (.slice cw0_4 r.2.2.1.length cw0_5) := HBK12_w0.out.cell 2
  have kw0_3 : (w12).cell? ⟨w4.heap.size, 3, none⟩ = some (.slice cw0_6 r.2.2.2.1.length cw0_7) := HBK12_w0.out.cell 3
  have kw0_4 : (w12).cell? ⟨w4.heap.size, 4, none⟩ = some (.int .i64 r.2.2.2.2) := HBK12_w0.out.cell 4
  have kx0_0 : (w12).cell? ⟨w6.heap.size, 0, none⟩ = some (.slice cx0_0 xD.1.length cx0_1) := HBK12_x0.out.cell 0
  have kx0_1 : (w12).cell? ⟨w6.heap.size, 1, none⟩ = some (.slice cx0_2 xD.2.1.length cx0_3) := HBK12_x0.out.cell 1
  have kx0_2 : (w12).cell? ⟨w6.heap.size, 2, none⟩ = some (.slice cx0_4 xD.2.2.1.length cx0_5) := HBK12_x0.out.cell 2
  have kx0_3 : (w12).cell? ⟨w6.heap.size, 3, none⟩ = some (.slice cx0_6 xD.2.2.2.1.length cx0_7) := HBK12_x0.out.cell 3
  have kx0_4 : (w12).cell? ⟨w6.heap.size, 4, none⟩ = some (.int .i64 xD.2.2.2.2) := HBK12_x0.out.cell 4
  have kg0_0 : (w12).cell? ⟨w9.heap.size, 0, none⟩ = some (.slice cg0_0 r.1.length cg0_1) := HBK12_g0.out.cell 0
  have kg0_1 : (w12).cell? ⟨w9.heap.size, 1, none⟩ = some (.slice cg0_2 r.2.1.length cg0_3) := HBK12_g0.out.cell 1
  have kg0_2 : (w12).cell? ⟨w9.heap.size, 2, none⟩ = some (.slice cg0_4 r.2.2.1.length cg0_5) := HBK12_g0.out.cell 2
  have kg0_3 : (w12).cell? ⟨w9.heap.size, 3, none⟩ = some (.slice cg0_6 r.2.2.2.1.length cg0_7) := HBK12_g0.out.cell 3
  have kg0_4 : (w12).cell? ⟨w9.heap.size, 4, none⟩ = some (.int .i64 r.2.2.2.2) := HBK12_g0.out.cell 4
  clear HSS
  go_wp2_with fail
  refine (toIntS_v (HRaPicks.out.step HM12.out) hbl0).mono ?_
  rintro e w13 ⟨v13, rfl, ho13, hm13⟩
  clear kaD_0 kaD_1 kaD_2 kaD_3 kaD_4
  clear kw0_0 kw0_1 kw0_2 kw0_3 kw0_4
  clear kx0_0 kx0_1 kx0_2 kx0_3 kx0_4
  clear kg0_0 kg0_1 kg0_2 kg0_3 kg0_4
  have HBK13_aD := Sec.mk (HBK12_aD.out.mod hm13 id)
  clear HBK12_aD
  have HBK13_w0 := Sec.mk (HBK12_w0.out.mod hm13 id)
  clear HBK12_w0
  have HBK13_x0 := Sec.mk (HBK12_x0.out.mod hm13 id)
  clear HBK12_x0
  have HBK13_g0 := Sec.mk (HBK12_g0.out.mod hm13 id)
  clear HBK12_g0
  have W0_13 := Sec.mk (W0_12.out.step hm13)
  clear W0_12
  have X0_13 := Sec.mk (X0_12.out.step hm13)
  clear X0_12
  have X2_13 := Sec.mk (X2_12.out.step hm13)
  clear X2_12
  have G0_13 := Sec.mk (G0_12.out.step hm13)
  clear G0_12
  have HM13 := Sec.mk (HM12.out.transN hm13)
  clear HM12
  have hs13 := hm13.size
  clear hm13
  have kaD_0 : (w13).cell? ⟨w.heap.size, 0, none⟩ = some (.slice caD_0 xD.1.length caD_1) := HBK13_aD.out.cell 0
  have kaD_1 : (w13).cell? ⟨w.heap.size, 1, none⟩ = some (.slice caD_2 xD.2.1.length caD_3) := HBK13_aD.out.cell 1
  have kaD_2 : (w13).cell? ⟨w.heap.size, 2, none⟩ = some (.slice caD_4 xD.2.2.1.length caD_5) := HBK13_aD.out.cell 2
  have kaD_3 : (w13).cell? ⟨w.heap.size, 3, none⟩ = some (.slice caD_6 xD.2.2.2.1.length caD_7) := HBK13_aD.out.cell 3
  have kaD_4 : (w13).cell? ⟨w.heap.size, 4, none⟩ = some (.int .i64 xD.2.2.2.2) := HBK13_aD.out.cell 4
  have kw0_0 : (w13).cell? ⟨w4.heap.size, 0, none⟩ = some (.slice cw0_0 r.1.length cw0_1) := HBK13_w0.out.cell 0
  have kw0_1 : (w13).cell? ⟨w4.heap.size, 1, none⟩ = some (.slice cw0_2 r.2.1.length cw0_3) := HBK13_w0.out.cell 1
  have kw0_2 : (w13).cell? ⟨w4.heap.size, 2, none⟩ = some (.slice cw0_4 r.2.2.1.length cw0_5) := HBK13_w0.out.cell 2
  have kw0_3 : (w13).cell? ⟨w4.heap.size, 3, none⟩ = some (.slice cw0_6 r.2.2.2.1.length cw0_7) := HBK13_w0.out.cell 3
  have kw0_4 : (w13).cell? ⟨w4.heap.size, 4, none⟩ = some (.int .i64 r.2.2.2.2) := HBK13_w0.out.cell 4
  have kx0_0 : (w13).cell? ⟨w6.heap.size, 0, none⟩ = some (.slice cx0_0 xD.1.length cx0_1) := HBK13_x0.out.cell 0
  have kx0_1 : (w13).cell? ⟨w6.heap.size, 1, none⟩ = some (.slice cx0_2 xD.2.1.length cx0_3) := HBK13_x0.out.cell 1
  have kx0_2 : (w13).cell? ⟨w6.heap.size, 2, none⟩ = some (.slice cx0_4 xD.2.2.1.length cx0_5) := HBK13_x0.out.cell 2
  have kx0_3 : (w13).cell? ⟨w6.heap.size, 3, none⟩ = some (.slice cx0_6 xD.2.2.2.1.length cx0_7) := HBK13_x0.out.cell 3
  have kx0_4 : (w13).cell? ⟨w6.heap.size, 4, none⟩ = some (.int .i64 xD.2.2.2.2) := HBK13_x0.out.cell 4
  have kg0_0 : (w13).cell? ⟨w9.heap.size, 0, none⟩ = some (.slice cg0_0 r.1.length cg0_1) := HBK13_g0.out.cell 0
  have kg0_1 : (w13).cell? ⟨w9.heap.size, 1, none⟩ = some (.slice cg0_2 r.2.1.length cg0_3) := HBK13_g0.out.cell 1
  have kg0_2 : (w13).cell? ⟨w9.heap.size, 2, none⟩ = some (.slice cg0_4 r.2.2.1.length cg0_5) := HBK13_g0.out.cell 2
  have kg0_3 : (w13).cell? ⟨w9.heap.size, 3, none⟩ = some (.slice cg0_6 r.2.2.2.1.length cg0_7) := HBK13_g0.out.cell 3
  have kg0_4 : (w13).cell? ⟨w9.heap.size, 4, none⟩ = some (.int .i64 r.2.2.2.2) := HBK13_g0.out.cell 4
  have TCMP_13 := Sec.mk ho13
  clear ho13
  go_wp2_with fail
  refine (eqIntS_v X2_13.out.rd TCMP_13.out.rd).mono ?_
  rintro e w14 ⟨rfl, hm14⟩
  clear kaD_0 kaD_1 kaD_2 kaD_3 kaD_4
  clear kw0_0 kw0_1 kw0_2 kw0_3 kw0_4
  clear kx0_0 kx0_1 kx0_2 kx0_3 kx0_4
  clear kg0_0 kg0_1 kg0_2 kg0_3 kg0_4
  have HBK14_aD := Sec.mk (HBK13_aD.out.mod hm14 id)
  clear HBK13_aD
  have HBK14_w0 := Sec.mk (HBK13_w0.out.mod hm14 id)
  clear HBK13_w0
  have HBK14_x0 := Sec.mk (HBK13_x0.out.mod hm14 id)
  clear HBK13_x0
  have HBK14_g0 := Sec.mk (HBK13_g0.out.mod hm14 id)
  clear HBK13_g0
  have W0_14 := Sec.mk (W0_13.out.step hm14)
  clear W0_13
  have X0_14 := Sec.mk (X0_13.out.step hm14)
  clear X0_13
  have X2_14 := Sec.mk (X2_13.out.step hm14)
  clear X2_13
  have G0_14 := Sec.mk (G0_13.out.step hm14)
  clear G0_13
  have TCMP_14 := Sec.mk (TCMP_13.out.step hm14)
  clear TCMP_13
  have HM14 := Sec.mk (HM13.out.transN hm14)
  clear HM13
  have hs14 := hm14.size
  clear hm14
  have kaD_0 : (w14).cell? ⟨w.heap.size, 0, none⟩ = some (.slice caD_0 xD.1.length caD_1) := HBK14_aD.out.cell 0
  have kaD_1 : (w14).cell? ⟨w.heap.size, 1, none⟩ = some (.slice caD_2 xD.2.1.length caD_3) := HBK14_aD.out.cell 1
  have kaD_2 : (w14).cell? ⟨w.heap.size, 2, none⟩ = some (.slice caD_4 xD.2.2.1.length caD_5) := HBK14_aD.out.cell 2
  have kaD_3 : (w14).cell? ⟨w.heap.size, 3, none⟩ = some (.slice caD_6 xD.2.2.2.1.length caD_7) := HBK14_aD.out.cell 3
  have kaD_4 : (w14).cell? ⟨w.heap.size, 4, none⟩ = some (.int .i64 xD.2.2.2.2) := HBK14_aD.out.cell 4
  have kw0_0 : (w14).cell? ⟨w4.heap.size, 0, none⟩ = some (.slice cw0_0 r.1.length cw0_1) := HBK14_w0.out.cell 0
  have kw0_1 : (w14).cell? ⟨w4.heap.size, 1, none⟩ = some (.slice cw0_2 r.2.1.length cw0_3) := HBK14_w0.out.cell 1
  have kw0_2 : (w14).cell? ⟨w4.heap.size, 2, none⟩ = some (.slice cw0_4 r.2.2.1.length cw0_5) := HBK14_w0.out.cell 2
  have kw0_3 : (w14).cell? ⟨w4.heap.size, 3, none⟩ = some (.slice cw0_6 r.2.2.2.1.length cw0_7) := HBK14_w0.out.cell 3
  have kw0_4 : (w14).cell? ⟨w4.heap.size, 4, none⟩ = some (.int .i64 r.2.2.2.2) := HBK14_w0.out.cell 4
  have kx0_0 : (w14).cell? ⟨w6.heap.size, 0, none⟩ = some (.slice cx0_0 xD.1.length cx0_1) := HBK14_x0.out.cell 0
  have kx0_1 : (w14).cell? ⟨w6.heap.size, 1, none⟩ = some (.slice cx0_2 xD.2.1.length cx0_3) := HBK14_x0.out.cell 1
  have kx0_2 : (w14).cell? ⟨w6.heap.size, 2, none⟩ = some (.slice cx0_4 xD.2.2.1.length cx0_5) := HBK14_x0.out.cell 2
  have kx0_3 : (w14).cell? ⟨w6.heap.size, 3, none⟩ = some (.slice cx0_6 xD.2.2.2.1.length cx0_7) := HBK14_x0.out.cell 3
  have kx0_4 : (w14).cell? ⟨w6.heap.size, 4, none⟩ = some (.int .i64 xD.2.2.2.2) := HBK14_x0.out.cell 4
  have kg0_0 : (w14).cell? ⟨w9.heap.size, 0, none⟩ = some (.slice cg0_0 r.1.length cg0_1) := HBK14_g0.out.cell 0
  have kg0_1 : (w14).cell? ⟨w9.heap.size, 1, none⟩ = some (.slice cg0_2 r.2.1.length cg0_3) := HBK14_g0.out.cell 1
  have kg0_2 : (w14).cell? ⟨w9.heap.size, 2, none⟩ = some (.slice cg0_4 r.2.2.1.length cg0_5) := HBK14_g0.out.cell 2
  have kg0_3 : (w14).cell? ⟨w9.heap.size, 3, none⟩ = some (.slice cg0_6 r.2.2.2.1.length cg0_7) := HBK14_g0.out.cell 3
  have kg0_4 : (w14).cell? ⟨w9.heap.size, 4, none⟩ = some (.int .i64 r.2.2.2.2) := HBK14_g0.out.cell 4
  rw [show decide (xPicks = xPicks) = true by simp]
  clear TCMP_14
  go_wp2_with fail
  refine (markDisk_v X0_14.out (1) (by omega)).mono ?_
  rintro e w15 ⟨rfl, ho15, hm15⟩
  clear X0_14
  clear kaD_0 kaD_1 kaD_2 kaD_3 kaD_4
  clear kw0_0 kw0_1 kw0_2 kw0_3 kw0_4
  clear kx0_0 kx0_1 kx0_2 kx0_3 kx0_4
  clear kg0_0 kg0_1 kg0_2 kg0_3 kg0_4
  have HBK15_aD := Sec.mk (HBK14_aD.out.mod hm15 (by omega))
  clear HBK14_aD
  have HBK15_w0 := Sec.mk (HBK14_w0.out.mod hm15 (by omega))
  clear HBK14_w0
  have HBK15_x0 := Sec.mk (HBK14_x0.out.mod hm15 (by omega))
  clear HBK14_x0
  have HBK15_g0 := Sec.mk (HBK14_g0.out.mod hm15 (by omega))
  clear HBK14_g0
  have W0_15 := Sec.mk (W0_14.out.keep hm15 (fun k h1 h2 h3 => by omega))
  clear W0_14
  have X2_15 := Sec.mk (X2_14.out.keep hm15 (fun k h1 h2 h3 => by omega))
  clear X2_14
  have G0_15 := Sec.mk (G0_14.out.keep hm15 (fun k h1 h2 h3 => by omega))
  clear G0_14
  have HM15 := Sec.mk (HM14.out.trans hm15 (fun i hi hlt => by omega))
  clear HM14
  have hs15 := hm15.size
  clear hm15
  have kaD_0 : (w15).cell? ⟨w.heap.size, 0, none⟩ = some (.slice caD_0 xD.1.length caD_1) := HBK15_aD.out.cell 0
  have kaD_1 : (w15).cell? ⟨w.heap.size, 1, none⟩ = some (.slice caD_2 xD.2.1.length caD_3) := HBK15_aD.out.cell 1
  have kaD_2 : (w15).cell? ⟨w.heap.size, 2, none⟩ = some (.slice caD_4 xD.2.2.1.length caD_5) := HBK15_aD.out.cell 2
  have kaD_3 : (w15).cell? ⟨w.heap.size, 3, none⟩ = some (.slice caD_6 xD.2.2.2.1.length caD_7) := HBK15_aD.out.cell 3
  have kaD_4 : (w15).cell? ⟨w.heap.size, 4, none⟩ = some (.int .i64 xD.2.2.2.2) := HBK15_aD.out.cell 4
  have kw0_0 : (w15).cell? ⟨w4.heap.size, 0, none⟩ = some (.slice cw0_0 r.1.length cw0_1) := HBK15_w0.out.cell 0
  have kw0_1 : (w15).cell? ⟨w4.heap.size, 1, none⟩ = some (.slice cw0_2 r.2.1.length cw0_3) := HBK15_w0.out.cell 1
  have kw0_2 : (w15).cell? ⟨w4.heap.size, 2, none⟩ = some (.slice cw0_4 r.2.2.1.length cw0_5) := HBK15_w0.out.cell 2
  have kw0_3 : (w15).cell? ⟨w4.heap.size, 3, none⟩ = some (.slice cw0_6 r.2.2.2.1.length cw0_7) := HBK15_w0.out.cell 3
  have kw0_4 : (w15).cell? ⟨w4.heap.size, 4, none⟩ = some (.int .i64 r.2.2.2.2) := HBK15_w0.out.cell 4
  have kx0_0 : (w15).cell? ⟨w6.heap.size, 0, none⟩ = some (.slice cx0_0 xD.1.length cx0_1) := HBK15_x0.out.cell 0
  have kx0_1 : (w15).cell? ⟨w6.heap.size, 1, none⟩ = some (.slice cx0_2 xD.2.1.length cx0_3) := HBK15_x0.out.cell 1
  have kx0_2 : (w15).cell? ⟨w6.heap.size, 2, none⟩ = some (.slice cx0_4 xD.2.2.1.length cx0_5) := HBK15_x0.out.cell 2
  have kx0_3 : (w15).cell? ⟨w6.heap.size, 3, none⟩ = some (.slice cx0_6 xD.2.2.2.1.length cx0_7) := HBK15_x0.out.cell 3
  have kx0_4 : (w15).cell? ⟨w6.heap.size, 4, none⟩ = some (.int .i64 xD.2.2.2.2) := HBK15_x0.out.cell 4
  have kg0_0 : (w15).cell? ⟨w9.heap.size, 0, none⟩ = some (.slice cg0_0 r.1.length cg0_1) := HBK15_g0.out.cell 0
  have kg0_1 : (w15).cell? ⟨w9.heap.size, 1, none⟩ = some (.slice cg0_2 r.2.1.length cg0_3) := HBK15_g0.out.cell 1
  have kg0_2 : (w15).cell? ⟨w9.heap.size, 2, none⟩ = some (.slice cg0_4 r.2.2.1.length cg0_5) := HBK15_g0.out.cell 2
  have kg0_3 : (w15).cell? ⟨w9.heap.size, 3, none⟩ = some (.slice cg0_6 r.2.2.2.1.length cg0_7) := HBK15_g0.out.cell 3
  have kg0_4 : (w15).cell? ⟨w9.heap.size, 4, none⟩ = some (.int .i64 r.2.2.2.2) := HBK15_g0.out.cell 4
  have X0_15 := Sec.mk ho15
  clear ho15
  go_wp2_with fail
  refine (markIntS_v X2_15.out (1 + cntDisk xD) (by omega)).mono ?_
  rintro e w16 ⟨rfl, ho16, hm16⟩
  clear X2_15
  clear kaD_0 kaD_1 kaD_2 kaD_3 kaD_4
  clear kw0_0 kw0_1 kw0_2 kw0_3 kw0_4
  clear kx0_0 kx0_1 kx0_2 kx0_3 kx0_4
  clear kg0_0 kg0_1 kg0_2 kg0_3 kg0_4
  have HBK16_aD := Sec.mk (HBK15_aD.out.mod hm16 (by omega))
  clear HBK15_aD
  have HBK16_w0 := Sec.mk (HBK15_w0.out.mod hm16 (by omega))
  clear HBK15_w0
  have HBK16_x0 := Sec.mk (HBK15_x0.out.mod hm16 (by omega))
  clear HBK15_x0
  have HBK16_g0 := Sec.mk (HBK15_g0.out.mod hm16 (by omega))
  clear HBK15_g0
  have W0_16 := Sec.mk (W0_15.out.keep hm16 (fun k h1 h2 h3 => by omega))
  clear W0_15
  have X0_16 := Sec.mk (X0_15.out.keep hm16 (fun k h1 h2 h3 => by omega))
  clear X0_15
  have G0_16 := Sec.mk (G0_15.out.keep hm16 (fun k h1 h2 h3 => by omega))
  clear G0_15
  have HM16 := Sec.mk (HM15.out.trans hm16 (fun i hi hlt => by omega))
  clear HM15
  have hs16 := hm16.size
  clear hm16
  have kaD_0 : (w16).cell? ⟨w.heap.size, 0, none⟩ = some (.slice caD_0 xD.1.length caD_1) := HBK16_aD.out.cell 0
  have kaD_1 : (w16).cell? ⟨w.heap.size, 1, none⟩ = some (.slice caD_2 xD.2.1.length caD_3) := HBK16_aD.out.cell 1
  have kaD_2 : (w16).cell? ⟨w.heap.size, 2, none⟩ = some (.slice caD_4 xD.2.2.1.length caD_5) := HBK16_aD.out.cell 2
  have kaD_3 : (w16).cell? ⟨w.heap.size, 3, none⟩ = some (.slice caD_6 xD.2.2.2.1.length caD_7) := HBK16_aD.out.cell 3
  have kaD_4 : (w16).cell? ⟨w.heap.size, 4, none⟩ = some (.int .i64 xD.2.2.2.2) := HBK16_aD.out.cell 4
  have kw0_0 : (w16).cell? ⟨w4.heap.size, 0, none⟩ = some (.slice cw0_0 r.1.length cw0_1) := HBK16_w0.out.cell 0
  have kw0_1 : (w16).cell? ⟨w4.heap.size, 1, none⟩ = some (.slice cw0_2 r.2.1.length cw0_3) := HBK16_w0.out.cell 1
  have kw0_2 : (w16).cell? ⟨w4.heap.size, 2, none⟩ = some (.slice cw0_4 r.2.2.1.length cw0_5) := HBK16_w0.out.cell 2
  have kw0_3 : (w16).cell? ⟨w4.heap.size, 3, none⟩ = some (.slice cw0_6 r.2.2.2.1.length cw0_7) := HBK16_w0.out.cell 3
  have kw0_4 : (w16).cell? ⟨w4.heap.size, 4, none⟩ = some (.int .i64 r.2.2.2.2) := HBK16_w0.out.cell 4
  have kx0_0 : (w16).cell? ⟨w6.heap.size, 0, none⟩ = some (.slice cx0_0 xD.1.length cx0_1) := HBK16_x0.out.cell 0
  have kx0_1 : (w16).cell? ⟨w6.heap.size, 1, none⟩ = some (.slice cx0_2 xD.2.1.length cx0_3) := HBK16_x0.out.cell 1
  have kx0_2 : (w16).cell? ⟨w6.heap.size, 2, none⟩ = some (.slice cx0_4 xD.2.2.1.length cx0_5) := HBK16_x0.out.cell 2
  have kx0_3 : (w16).cell? ⟨w6.heap.size, 3, none⟩ = some (.slice cx0_6 xD.2.2.2.1.length cx0_7) := HBK16_x0.out.cell 3
  have kx0_4 : (w16).cell? ⟨w6.heap.size, 4, none⟩ = some (.int .i64 xD.2.2.2.2) := HBK16_x0.out.cell 4
  have kg0_0 : (w16).cell? ⟨w9.heap.size, 0, none⟩ = some (.slice cg0_0 r.1.length cg0_1) := HBK16_g0.out.cell 0
  have kg0_1 : (w16).cell? ⟨w9.heap.size, 1, none⟩ = some (.slice cg0_2 r.2.1.length cg0_3) := HBK16_g0.out.cell 1
  have kg0_2 : (w16).cell? ⟨w9.heap.size, 2, none⟩ = some (.slice cg0_4 r.2.2.1.length cg0_5) := HBK16_g0.out.cell 2
  have kg0_3 : (w16).cell? ⟨w9.heap.size, 3, none⟩ = some (.slice cg0_6 r.2.2.2.1.length cg0_7) := HBK16_g0.out.cell 3
  have kg0_4 : (w16).cell? ⟨w9.heap.size, 4, none⟩ = some (.int .i64 r.2.2.2.2) := HBK16_g0.out.cell 4
  have X2_16 := Sec.mk ho16
  clear ho16
  go_wp2_with fail
  refine (eqDisk_v G0_16.out.rd W0_16.out.rd).mono ?_
  rintro e w17 ⟨rfl, hm17⟩
  clear kaD_0 kaD_1 kaD_2 kaD_3 kaD_4
  clear kw0_0 kw0_1 kw0_2 kw0_3 kw0_4
  clear kx0_0 kx0_1 kx0_2 kx0_3 kx0_4
  clear kg0_0 kg0_1 kg0_2 kg0_3 kg0_4
  have HBK17_aD := Sec.mk (HBK16_aD.out.mod hm17 id)
  clear HBK16_aD
  have HBK17_w0 := Sec.mk (HBK16_w0.out.mod hm17 id)
  clear HBK16_w0
  have HBK17_x0 := Sec.mk (HBK16_x0.out.mod hm17 id)
  clear HBK16_x0
  have HBK17_g0 := Sec.mk (HBK16_g0.out.mod hm17 id)
  clear HBK16_g0
  have W0_17 := Sec.mk (W0_16.out.step hm17)
  clear W0_16
  have X0_17 := Sec.mk (X0_16.out.step hm17)
  clear X0_16
  have X2_17 := Sec.mk (X2_16.out.step hm17)
  clear X2_16
  have G0_17 := Sec.mk (G0_16.out.step hm17)
  clear G0_16
  have HM17 := Sec.mk (HM16.out.transN hm17)
  clear HM16
  have hs17 := hm17.size
  clear hm17
  have kaD_0 : (w17).cell? ⟨w.heap.size, 0, none⟩ = some (.slice caD_0 xD.1.length caD_1) := HBK17_aD.out.cell 0
  have kaD_1 : (w17).cell? ⟨w.heap.size, 1, none⟩ = some (.slice caD_2 xD.2.1.length caD_3) := HBK17_aD.out.cell 1
  have kaD_2 : (w17).cell? ⟨w.heap.size, 2, none⟩ = some (.slice caD_4 xD.2.2.1.length caD_5) := HBK17_aD.out.cell 2
  have kaD_3 : (w17).cell? ⟨w.heap.size, 3, none⟩ = some (.slice caD_6 xD.2.2.2.1.length caD_7) := HBK17_aD.out.cell 3
  have kaD_4 : (w17).cell? ⟨w.heap.size, 4, none⟩ = some (.int .i64 xD.2.2.2.2) := HBK17_aD.out.cell 4
  have kw0_0 : (w17).cell? ⟨w4.heap.size, 0, none⟩ = some (.slice cw0_0 r.1.length cw0_1) := HBK17_w0.out.cell 0
  have kw0_1 : (w17).cell? ⟨w4.heap.size, 1, none⟩ = some (.slice cw0_2 r.2.1.length cw0_3) := HBK17_w0.out.cell 1
  have kw0_2 : (w17).cell? ⟨w4.heap.size, 2, none⟩ = some (.slice cw0_4 r.2.2.1.length cw0_5) := HBK17_w0.out.cell 2
  have kw0_3 : (w17).cell? ⟨w4.heap.size, 3, none⟩ = some (.slice cw0_6 r.2.2.2.1.length cw0_7) := HBK17_w0.out.cell 3
  have kw0_4 : (w17).cell? ⟨w4.heap.size, 4, none⟩ = some (.int .i64 r.2.2.2.2) := HBK17_w0.out.cell 4
  have kx0_0 : (w17).cell? ⟨w6.heap.size, 0, none⟩ = some (.slice cx0_0 xD.1.length cx0_1) := HBK17_x0.out.cell 0
  have kx0_1 : (w17).cell? ⟨w6.heap.size, 1, none⟩ = some (.slice cx0_2 xD.2.1.length cx0_3) := HBK17_x0.out.cell 1
  have kx0_2 : (w17).cell? ⟨w6.heap.size, 2, none⟩ = some (.slice cx0_4 xD.2.2.1.length cx0_5) := HBK17_x0.out.cell 2
  have kx0_3 : (w17).cell? ⟨w6.heap.size, 3, none⟩ = some (.slice cx0_6 xD.2.2.2.1.length cx0_7) := HBK17_x0.out.cell 3
  have kx0_4 : (w17).cell? ⟨w6.heap.size, 4, none⟩ = some (.int .i64 xD.2.2.2.2) := HBK17_x0.out.cell 4
  have kg0_0 : (w17).cell? ⟨w9.heap.size, 0, none⟩ = some (.slice cg0_0 r.1.length cg0_1) := HBK17_g0.out.cell 0
  have kg0_1 : (w17).cell? ⟨w9.heap.size, 1, none⟩ = some (.slice cg0_2 r.2.1.length cg0_3) := HBK17_g0.out.cell 1
  have kg0_2 : (w17).cell? ⟨w9.heap.size, 2, none⟩ = some (.slice cg0_4 r.2.2.1.length cg0_5) := HBK17_g0.out.cell 2
  have kg0_3 : (w17).cell? ⟨w9.heap.size, 3, none⟩ = some (.slice cg0_6 r.2.2.2.1.length cg0_7) := HBK17_g0.out.cell 3
  have kg0_4 : (w17).cell? ⟨w9.heap.size, 4, none⟩ = some (.int .i64 r.2.2.2.2) := HBK17_g0.out.cell 4
  rw [show decide (r = r) = true by simp]
  go_wp2_with fail
  refine (markDisk_v G0_17.out (1) (by omega)).mono ?_
  rintro e w18 ⟨rfl, ho18, hm18⟩
  clear G0_17
  clear kaD_0 kaD_1 kaD_2 kaD_3 kaD_4
  clear kw0_0 kw0_1 kw0_2 kw0_3 kw0_4
  clear kx0_0 kx0_1 kx0_2 kx0_3 kx0_4
  clear kg0_0 kg0_1 kg0_2 kg0_3 kg0_4
  have HBK18_aD := Sec.mk (HBK17_aD.out.mod hm18 (by omega))
  clear HBK17_aD
  have HBK18_w0 := Sec.mk (HBK17_w0.out.mod hm18 (by omega))
  clear HBK17_w0
  have HBK18_x0 := Sec.mk (HBK17_x0.out.mod hm18 (by omega))
  clear HBK17_x0
  have HBK18_g0 := Sec.mk (HBK17_g0.out.mod hm18 (by omega))
  clear HBK17_g0
  have W0_18 := Sec.mk (W0_17.out.keep hm18 (fun k h1 h2 h3 => by omega))
  clear W0_17
  have X0_18 := Sec.mk (X0_17.out.keep hm18 (fun k h1 h2 h3 => by omega))
  clear X0_17
  have X2_18 := Sec.mk (X2_17.out.keep hm18 (fun k h1 h2 h3 => by omega))
  clear X2_17
  have HM18 := Sec.mk (HM17.out.trans hm18 (fun i hi hlt => by omega))
  clear HM17
  have hs18 := hm18.size
  clear hm18
  have kaD_0 : (w18).cell? ⟨w.heap.size, 0, none⟩ = some (.slice caD_0 xD.1.length caD_1) := HBK18_aD.out.cell 0
  have kaD_1 : (w18).cell? ⟨w.heap.size, 1, none⟩ = some (.slice caD_2 xD.2.1.length caD_3) := HBK18_aD.out.cell 1
  have kaD_2 : (w18).cell? ⟨w.heap.size, 2, none⟩ = some (.slice caD_4 xD.2.2.1.length caD_5) := HBK18_aD.out.cell 2
  have kaD_3 : (w18).cell? ⟨w.heap.size, 3, none⟩ = some (.slice caD_6 xD.2.2.2.1.length caD_7) := HBK18_aD.out.cell 3
  have kaD_4 : (w18).cell? ⟨w.heap.size, 4, none⟩ = some (.int .i64 xD.2.2.2.2) := HBK18_aD.out.cell 4
  have kw0_0 : (w18).cell? ⟨w4.heap.size, 0, none⟩ = some (.slice cw0_0 r.1.length cw0_1) := HBK18_w0.out.cell 0
  have kw0_1 : (w18).cell? ⟨w4.heap.size, 1, none⟩ = some (.slice cw0_2 r.2.1.length cw0_3) := HBK18_w0.out.cell 1
  have kw0_2 : (w18).cell? ⟨w4.heap.size, 2, none⟩ = some (.slice cw0_4 r.2.2.1.length cw0_5) := HBK18_w0.out.cell 2
  have kw0_3 : (w18).cell? ⟨w4.heap.size, 3, none⟩ = some (.slice cw0_6 r.2.2.2.1.length cw0_7) := HBK18_w0.out.cell 3
  have kw0_4 : (w18).cell? ⟨w4.heap.size, 4, none⟩ = some (.int .i64 r.2.2.2.2) := HBK18_w0.out.cell 4
  have kx0_0 : (w18).cell? ⟨w6.heap.size, 0, none⟩ = some (.slice cx0_0 xD.1.length cx0_1) := HBK18_x0.out.cell 0
  have kx0_1 : (w18).cell? ⟨w6.heap.size, 1, none⟩ = some (.slice cx0_2 xD.2.1.length cx0_3) := HBK18_x0.out.cell 1
  have kx0_2 : (w18).cell? ⟨w6.heap.size, 2, none⟩ = some (.slice cx0_4 xD.2.2.1.length cx0_5) := HBK18_x0.out.cell 2
  have kx0_3 : (w18).cell? ⟨w6.heap.size, 3, none⟩ = some (.slice cx0_6 xD.2.2.2.1.length cx0_7) := HBK18_x0.out.cell 3
  have kx0_4 : (w18).cell? ⟨w6.heap.size, 4, none⟩ = some (.int .i64 xD.2.2.2.2) := HBK18_x0.out.cell 4
  have kg0_0 : (w18).cell? ⟨w9.heap.size, 0, none⟩ = some (.slice cg0_0 r.1.length cg0_1) := HBK18_g0.out.cell 0
  have kg0_1 : (w18).cell? ⟨w9.heap.size, 1, none⟩ = some (.slice cg0_2 r.2.1.length cg0_3) := HBK18_g0.out.cell 1
  have kg0_2 : (w18).cell? ⟨w9.heap.size, 2, none⟩ = some (.slice cg0_4 r.2.2.1.length cg0_5) := HBK18_g0.out.cell 2
  have kg0_3 : (w18).cell? ⟨w9.heap.size, 3, none⟩ = some (.slice cg0_6 r.2.2.2.1.length cg0_7) := HBK18_g0.out.cell 3
  have kg0_4 : (w18).cell? ⟨w9.heap.size, 4, none⟩ = some (.int .i64 r.2.2.2.2) := HBK18_g0.out.cell 4
  have G0_18 := Sec.mk ho18
  clear ho18
  have HX := Sec.mk (mkDisk1_idem 1 1 r).symm
  have HK := Sec.mk (cntDisk_mk 1 r)
  go_wp2_with fail
  refine (heldDisk_v G0_18.out.rd 1 HX.out (by rw [HK.out]; omega)).mono ?_
  rintro e w19 ⟨rfl, hm19⟩
  rw [HK.out]
  clear kaD_0 kaD_1 kaD_2 kaD_3 kaD_4
  clear kw0_0 kw0_1 kw0_2 kw0_3 kw0_4
  clear kx0_0 kx0_1 kx0_2 kx0_3 kx0_4
  clear kg0_0 kg0_1 kg0_2 kg0_3 kg0_4
  have HBK19_aD := Sec.mk (HBK18_aD.out.mod hm19 id)
  clear HBK18_aD
  have HBK19_w0 := Sec.mk (HBK18_w0.out.mod hm19 id)
  clear HBK18_w0
  have HBK19_x0 := Sec.mk (HBK18_x0.out.mod hm19 id)
  clear HBK18_x0
  have HBK19_g0 := Sec.mk (HBK18_g0.out.mod hm19 id)
  clear HBK18_g0
  have W0_19 := Sec.mk (W0_18.out.step hm19)
  clear W0_18
  have X0_19 := Sec.mk (X0_18.out.step hm19)
  clear X0_18
  have X2_19 := Sec.mk (X2_18.out.step hm19)
  clear X2_18
  have G0_19 := Sec.mk (G0_18.out.step hm19)
  clear G0_18
  have HM19 := Sec.mk (HM18.out.transN hm19)
  clear HM18
  have hs19 := hm19.size
  clear hm19
  have kaD_0 : (w19).cell? ⟨w.heap.size, 0, none⟩ = some (.slice caD_0 xD.1.length caD_1) := HBK19_aD.out.cell 0
  have kaD_1 : (w19).cell? ⟨w.heap.size, 1, none⟩ = some (.slice caD_2 xD.2.1.length caD_3) := HBK19_aD.out.cell 1
  have kaD_2 : (w19).cell? ⟨w.heap.size, 2, none⟩ = some (.slice caD_4 xD.2.2.1.length caD_5) := HBK19_aD.out.cell 2
  have kaD_3 : (w19).cell? ⟨w.heap.size, 3, none⟩ = some (.slice caD_6 xD.2.2.2.1.length caD_7) := HBK19_aD.out.cell 3
  have kaD_4 : (w19).cell? ⟨w.heap.size, 4, none⟩ = some (.int .i64 xD.2.2.2.2) := HBK19_aD.out.cell 4
  have kw0_0 : (w19).cell? ⟨w4.heap.size, 0, none⟩ = some (.slice cw0_0 r.1.length cw0_1) := HBK19_w0.out.cell 0
  have kw0_1 : (w19).cell? ⟨w4.heap.size, 1, none⟩ = some (.slice cw0_2 r.2.1.length cw0_3) := HBK19_w0.out.cell 1
  have kw0_2 : (w19).cell? ⟨w4.heap.size, 2, none⟩ = some (.slice cw0_4 r.2.2.1.length cw0_5) := HBK19_w0.out.cell 2
  have kw0_3 : (w19).cell? ⟨w4.heap.size, 3, none⟩ = some (.slice cw0_6 r.2.2.2.1.length cw0_7) := HBK19_w0.out.cell 3
  have kw0_4 : (w19).cell? ⟨w4.heap.size, 4, none⟩ = some (.int .i64 r.2.2.2.2) := HBK19_w0.out.cell 4
  have kx0_0 : (w19).cell? ⟨w6.heap.size, 0, none⟩ = some (.slice cx0_0 xD.1.length cx0_1) := HBK19_x0.out.cell 0
  have kx0_1 : (w19).cell? ⟨w6.heap.size, 1, none⟩ = some (.slice cx0_2 xD.2.1.length cx0_3) := HBK19_x0.out.cell 1
  have kx0_2 : (w19).cell? ⟨w6.heap.size, 2, none⟩ = some (.slice cx0_4 xD.2.2.1.length cx0_5) := HBK19_x0.out.cell 2
  have kx0_3 : (w19).cell? ⟨w6.heap.size, 3, none⟩ = some (.slice cx0_6 xD.2.2.2.1.length cx0_7) := HBK19_x0.out.cell 3
  have kx0_4 : (w19).cell? ⟨w6.heap.size, 4, none⟩ = some (.int .i64 xD.2.2.2.2) := HBK19_x0.out.cell 4
  have kg0_0 : (w19).cell? ⟨w9.heap.size, 0, none⟩ = some (.slice cg0_0 r.1.length cg0_1) := HBK19_g0.out.cell 0
  have kg0_1 : (w19).cell? ⟨w9.heap.size, 1, none⟩ = some (.slice cg0_2 r.2.1.length cg0_3) := HBK19_g0.out.cell 1
  have kg0_2 : (w19).cell? ⟨w9.heap.size, 2, none⟩ = some (.slice cg0_4 r.2.2.1.length cg0_5) := HBK19_g0.out.cell 2
  have kg0_3 : (w19).cell? ⟨w9.heap.size, 3, none⟩ = some (.slice cg0_6 r.2.2.2.1.length cg0_7) := HBK19_g0.out.cell 3
  have kg0_4 : (w19).cell? ⟨w9.heap.size, 4, none⟩ = some (.int .i64 r.2.2.2.2) := HBK19_g0.out.cell 4
  go_wp2_with fail
  refine (toDisk_v (HRaD.out.step HM19.out) hb0).mono ?_
  rintro e w20 ⟨v20, rfl, ho20, hm20⟩
  clear kaD_0 kaD_1 kaD_2 kaD_3 kaD_4
  clear kw0_0 kw0_1 kw0_2 kw0_3 kw0_4
  clear kx0_0 kx0_1 kx0_2 kx0_3 kx0_4
  clear kg0_0 kg0_1 kg0_2 kg0_3 kg0_4
  have HBK20_aD := Sec.mk (HBK19_aD.out.mod hm20 id)
  clear HBK19_aD
  have HBK20_w0 := Sec.mk (HBK19_w0.out.mod hm20 id)
  clear HBK19_w0
  have HBK20_x0 := Sec.mk (HBK19_x0.out.mod hm20 id)
  clear HBK19_x0
  have HBK20_g0 := Sec.mk (HBK19_g0.out.mod hm20 id)
  clear HBK19_g0
  have W0_20 := Sec.mk (W0_19.out.step hm20)
  clear W0_19
  have X0_20 := Sec.mk (X0_19.out.step hm20)
  clear X0_19
  have X2_20 := Sec.mk (X2_19.out.step hm20)
  clear X2_19
  have G0_20 := Sec.mk (G0_19.out.step hm20)
  clear G0_19
  have HM20 := Sec.mk (HM19.out.transN hm20)
  clear HM19
  have hs20 := hm20.size
  clear hm20
  have kaD_0 : (w20).cell? ⟨w.heap.size, 0, none⟩ = some (.slice caD_0 xD.1.length caD_1) := HBK20_aD.out.cell 0
  have kaD_1 : (w20).cell? ⟨w.heap.size, 1, none⟩ = some (.slice caD_2 xD.2.1.length caD_3) := HBK20_aD.out.cell 1
  have kaD_2 : (w20).cell? ⟨w.heap.size, 2, none⟩ = some (.slice caD_4 xD.2.2.1.length caD_5) := HBK20_aD.out.cell 2
  have kaD_3 : (w20).cell? ⟨w.heap.size, 3, none⟩ = some (.slice caD_6 xD.2.2.2.1.length caD_7) := HBK20_aD.out.cell 3
  have kaD_4 : (w20).cell? ⟨w.heap.size, 4, none⟩ = some (.int .i64 xD.2.2.2.2) := HBK20_aD.out.cell 4
  have kw0_0 : (w20).cell? ⟨w4.heap.size, 0, none⟩ = some (.slice cw0_0 r.1.length cw0_1) := HBK20_w0.out.cell 0
  have kw0_1 : (w20).cell? ⟨w4.heap.size, 1, none⟩ = some (.slice cw0_2 r.2.1.length cw0_3) := HBK20_w0.out.cell 1
  have kw0_2 : (w20).cell? ⟨w4.heap.size, 2, none⟩ = some (.slice cw0_4 r.2.2.1.length cw0_5) := HBK20_w0.out.cell 2
  have kw0_3 : (w20).cell? ⟨w4.heap.size, 3, none⟩ = some (.slice cw0_6 r.2.2.2.1.length cw0_7) := HBK20_w0.out.cell 3
  have kw0_4 : (w20).cell? ⟨w4.heap.size, 4, none⟩ = some (.int .i64 r.2.2.2.2) := HBK20_w0.out.cell 4
  have kx0_0 : (w20).cell? ⟨w6.heap.size, 0, none⟩ = some (.slice cx0_0 xD.1.length cx0_1) := HBK20_x0.out.cell 0
  have kx0_1 : (w20).cell? ⟨w6.heap.size, 1, none⟩ = some (.slice cx0_2 xD.2.1.length cx0_3) := HBK20_x0.out.cell 1
  have kx0_2 : (w20).cell? ⟨w6.heap.size, 2, none⟩ = some (.slice cx0_4 xD.2.2.1.length cx0_5) := HBK20_x0.out.cell 2
  have kx0_3 : (w20).cell? ⟨w6.heap.size, 3, none⟩ = some (.slice cx0_6 xD.2.2.2.1.length cx0_7) := HBK20_x0.out.cell 3
  have kx0_4 : (w20).cell? ⟨w6.heap.size, 4, none⟩ = some (.int .i64 xD.2.2.2.2) := HBK20_x0.out.cell 4
  have kg0_0 : (w20).cell? ⟨w9.heap.size, 0, none⟩ = some (.slice cg0_0 r.1.length cg0_1) := HBK20_g0.out.cell 0
  have kg0_1 : (w20).cell? ⟨w9.heap.size, 1, none⟩ = some (.slice cg0_2 r.2.1.length cg0_3) := HBK20_g0.out.cell 1
  have kg0_2 : (w20).cell? ⟨w9.heap.size, 2, none⟩ = some (.slice cg0_4 r.2.2.1.length cg0_5) := HBK20_g0.out.cell 2
  have kg0_3 : (w20).cell? ⟨w9.heap.size, 3, none⟩ = some (.slice cg0_6 r.2.2.2.1.length cg0_7) := HBK20_g0.out.cell 3
  have kg0_4 : (w20).cell? ⟨w9.heap.size, 4, none⟩ = some (.int .i64 r.2.2.2.2) := HBK20_g0.out.cell 4
  have TDH0_20 := Sec.mk ho20
  clear ho20
  go_wp2_with fail
  refine (toIntS_v (HRaPicks.out.step HM20.out) hbl0).mono ?_
  rintro e w21 ⟨v21, rfl, ho21, hm21⟩
  clear kaD_0 kaD_1 kaD_2 kaD_3 kaD_4
  clear kw0_0 kw0_1 kw0_2 kw0_3 kw0_4
  clear kx0_0 kx0_1 kx0_2 kx0_3 kx0_4
  clear kg0_0 kg0_1 kg0_2 kg0_3 kg0_4
  have HBK21_aD := Sec.mk (HBK20_aD.out.mod hm21 id)
  clear HBK20_aD
  have HBK21_w0 := Sec.mk (HBK20_w0.out.mod hm21 id)
  clear HBK20_w0
  have HBK21_x0 := Sec.mk (HBK20_x0.out.mod hm21 id)
  clear HBK20_x0
  have HBK21_g0 := Sec.mk (HBK20_g0.out.mod hm21 id)
  clear HBK20_g0
  have W0_21 := Sec.mk (W0_20.out.step hm21)
  clear W0_20
  have X0_21 := Sec.mk (X0_20.out.step hm21)
  clear X0_20
  have X2_21 := Sec.mk (X2_20.out.step hm21)
  clear X2_20
  have G0_21 := Sec.mk (G0_20.out.step hm21)
  clear G0_20
  have TDH0_21 := Sec.mk (TDH0_20.out.step hm21)
  clear TDH0_20
  have HM21 := Sec.mk (HM20.out.transN hm21)
  clear HM20
  have hs21 := hm21.size
  clear hm21
  have kaD_0 : (w21).cell? ⟨w.heap.size, 0, none⟩ = some (.slice caD_0 xD.1.length caD_1) := HBK21_aD.out.cell 0
  have kaD_1 : (w21).cell? ⟨w.heap.size, 1, none⟩ = some (.slice caD_2 xD.2.1.length caD_3) := HBK21_aD.out.cell 1
  have kaD_2 : (w21).cell? ⟨w.heap.size, 2, none⟩ = some (.slice caD_4 xD.2.2.1.length caD_5) := HBK21_aD.out.cell 2
  have kaD_3 : (w21).cell? ⟨w.heap.size, 3, none⟩ = some (.slice caD_6 xD.2.2.2.1.length caD_7) := HBK21_aD.out.cell 3
  have kaD_4 : (w21).cell? ⟨w.heap.size, 4, none⟩ = some (.int .i64 xD.2.2.2.2) := HBK21_aD.out.cell 4
  have kw0_0 : (w21).cell? ⟨w4.heap.size, 0, none⟩ = some (.slice cw0_0 r.1.length cw0_1) := HBK21_w0.out.cell 0
  have kw0_1 : (w21).cell? ⟨w4.heap.size, 1, none⟩ = some (.slice cw0_2 r.2.1.length cw0_3) := HBK21_w0.out.cell 1
  have kw0_2 : (w21).cell? ⟨w4.heap.size, 2, none⟩ = some (.slice cw0_4 r.2.2.1.length cw0_5) := HBK21_w0.out.cell 2
  have kw0_3 : (w21).cell? ⟨w4.heap.size, 3, none⟩ = some (.slice cw0_6 r.2.2.2.1.length cw0_7) := HBK21_w0.out.cell 3
  have kw0_4 : (w21).cell? ⟨w4.heap.size, 4, none⟩ = some (.int .i64 r.2.2.2.2) := HBK21_w0.out.cell 4
  have kx0_0 : (w21).cell? ⟨w6.heap.size, 0, none⟩ = some (.slice cx0_0 xD.1.length cx0_1) := HBK21_x0.out.cell 0
  have kx0_1 : (w21).cell? ⟨w6.heap.size, 1, none⟩ = some (.slice cx0_2 xD.2.1.length cx0_3) := HBK21_x0.out.cell 1
  have kx0_2 : (w21).cell? ⟨w6.heap.size, 2, none⟩ = some (.slice cx0_4 xD.2.2.1.length cx0_5) := HBK21_x0.out.cell 2
  have kx0_3 : (w21).cell? ⟨w6.heap.size, 3, none⟩ = some (.slice cx0_6 xD.2.2.2.1.length cx0_7) := HBK21_x0.out.cell 3
  have kx0_4 : (w21).cell? ⟨w6.heap.size, 4, none⟩ = some (.int .i64 xD.2.2.2.2) := HBK21_x0.out.cell 4
  have kg0_0 : (w21).cell? ⟨w9.heap.size, 0, none⟩ = some (.slice cg0_0 r.1.length cg0_1) := HBK21_g0.out.cell 0
  have kg0_1 : (w21).cell? ⟨w9.heap.size, 1, none⟩ = some (.slice cg0_2 r.2.1.length cg0_3) := HBK21_g0.out.cell 1
  have kg0_2 : (w21).cell? ⟨w9.heap.size, 2, none⟩ = some (.slice cg0_4 r.2.2.1.length cg0_5) := HBK21_g0.out.cell 2
  have kg0_3 : (w21).cell? ⟨w9.heap.size, 3, none⟩ = some (.slice cg0_6 r.2.2.2.1.length cg0_7) := HBK21_g0.out.cell 3
  have kg0_4 : (w21).cell? ⟨w9.heap.size, 4, none⟩ = some (.int .i64 r.2.2.2.2) := HBK21_g0.out.cell 4
  have TPICKSH0_21 := Sec.mk ho21
  clear ho21
  go_wp2_with fail
  refine (implDiskCrash_v TDH0_21.out.rd aDirs hwaDirs TPICKSH0_21.out.rd hb0 hbl0).mono ?_
  rw [HFN.out]
  rintro e w22 ⟨v22, rfl, ho22, hm22⟩
  clear kaD_0 kaD_1 kaD_2 kaD_3 kaD_4
  clear kw0_0 kw0_1 kw0_2 kw0_3 kw0_4
  clear kx0_0 kx0_1 kx0_2 kx0_3 kx0_4
  clear kg0_0 kg0_1 kg0_2 kg0_3 kg0_4
  have HBK22_aD := Sec.mk (HBK21_aD.out.mod hm22 id)
  clear HBK21_aD
  have HBK22_w0 := Sec.mk (HBK21_w0.out.mod hm22 id)
  clear HBK21_w0
  have HBK22_x0 := Sec.mk (HBK21_x0.out.mod hm22 id)
  clear HBK21_x0
  have HBK22_g0 := Sec.mk (HBK21_g0.out.mod hm22 id)
  clear HBK21_g0
  have W0_22 := Sec.mk (W0_21.out.step hm22)
  clear W0_21
  have X0_22 := Sec.mk (X0_21.out.step hm22)
  clear X0_21
  have X2_22 := Sec.mk (X2_21.out.step hm22)
  clear X2_21
  have G0_22 := Sec.mk (G0_21.out.step hm22)
  clear G0_21
  have TDH0_22 := Sec.mk (TDH0_21.out.step hm22)
  clear TDH0_21
  have TPICKSH0_22 := Sec.mk (TPICKSH0_21.out.step hm22)
  clear TPICKSH0_21
  have HM22 := Sec.mk (HM21.out.transN hm22)
  clear HM21
  have hs22 := hm22.size
  clear hm22
  have kaD_0 : (w22).cell? ⟨w.heap.size, 0, none⟩ = some (.slice caD_0 xD.1.length caD_1) := HBK22_aD.out.cell 0
  have kaD_1 : (w22).cell? ⟨w.heap.size, 1, none⟩ = some (.slice caD_2 xD.2.1.length caD_3) := HBK22_aD.out.cell 1
  have kaD_2 : (w22).cell? ⟨w.heap.size, 2, none⟩ = some (.slice caD_4 xD.2.2.1.length caD_5) := HBK22_aD.out.cell 2
  have kaD_3 : (w22).cell? ⟨w.heap.size, 3, none⟩ = some (.slice caD_6 xD.2.2.2.1.length caD_7) := HBK22_aD.out.cell 3
  have kaD_4 : (w22).cell? ⟨w.heap.size, 4, none⟩ = some (.int .i64 xD.2.2.2.2) := HBK22_aD.out.cell 4
  have kw0_0 : (w22).cell? ⟨w4.heap.size, 0, none⟩ = some (.slice cw0_0 r.1.length cw0_1) := HBK22_w0.out.cell 0
  have kw0_1 : (w22).cell? ⟨w4.heap.size, 1, none⟩ = some (.slice cw0_2 r.2.1.length cw0_3) := HBK22_w0.out.cell 1
  have kw0_2 : (w22).cell? ⟨w4.heap.size, 2, none⟩ = some (.slice cw0_4 r.2.2.1.length cw0_5) := HBK22_w0.out.cell 2
  have kw0_3 : (w22).cell? ⟨w4.heap.size, 3, none⟩ = some (.slice cw0_6 r.2.2.2.1.length cw0_7) := HBK22_w0.out.cell 3
  have kw0_4 : (w22).cell? ⟨w4.heap.size, 4, none⟩ = some (.int .i64 r.2.2.2.2) := HBK22_w0.out.cell 4
  have kx0_0 : (w22).cell? ⟨w6.heap.size, 0, none⟩ = some (.slice cx0_0 xD.1.length cx0_1) := HBK22_x0.out.cell 0
  have kx0_1 : (w22).cell? ⟨w6.heap.size, 1, none⟩ = some (.slice cx0_2 xD.2.1.length cx0_3) := HBK22_x0.out.cell 1
  have kx0_2 : (w22).cell? ⟨w6.heap.size, 2, none⟩ = some (.slice cx0_4 xD.2.2.1.length cx0_5) := HBK22_x0.out.cell 2
  have kx0_3 : (w22).cell? ⟨w6.heap.size, 3, none⟩ = some (.slice cx0_6 xD.2.2.2.1.length cx0_7) := HBK22_x0.out.cell 3
  have kx0_4 : (w22).cell? ⟨w6.heap.size, 4, none⟩ = some (.int .i64 xD.2.2.2.2) := HBK22_x0.out.cell 4
  have kg0_0 : (w22).cell? ⟨w9.heap.size, 0, none⟩ = some (.slice cg0_0 r.1.length cg0_1) := HBK22_g0.out.cell 0
  have kg0_1 : (w22).cell? ⟨w9.heap.size, 1, none⟩ = some (.slice cg0_2 r.2.1.length cg0_3) := HBK22_g0.out.cell 1
  have kg0_2 : (w22).cell? ⟨w9.heap.size, 2, none⟩ = some (.slice cg0_4 r.2.2.1.length cg0_5) := HBK22_g0.out.cell 2
  have kg0_3 : (w22).cell? ⟨w9.heap.size, 3, none⟩ = some (.slice cg0_6 r.2.2.2.1.length cg0_7) := HBK22_g0.out.cell 3
  have kg0_4 : (w22).cell? ⟨w9.heap.size, 4, none⟩ = some (.int .i64 r.2.2.2.2) := HBK22_g0.out.cell 4
  have H0_22 := Sec.mk ho22
  clear ho22
  obtain ⟨ch0_0, ch0_1, ch0_2, ch0_3, ch0_4, ch0_5, ch0_6, ch0_7, rfl⟩ := cellsDisk H0_22.out.rd
  have hma22 := ((Mod.refl (fun _ => False) w22).alloc (.cells #[.slice ch0_0 r.1.length ch0_1, .slice ch0_2 r.2.1.length ch0_3, .slice ch0_4 r.2.2.1.length ch0_5, .slice ch0_6 r.2.2.2.1.length ch0_7, .int .i64 r.2.2.2.2] 33))
  clear kaD_0 kaD_1 kaD_2 kaD_3 kaD_4
  clear kw0_0 kw0_1 kw0_2 kw0_3 kw0_4
  clear kx0_0 kx0_1 kx0_2 kx0_3 kx0_4
  clear kg0_0 kg0_1 kg0_2 kg0_3 kg0_4
  have HBK23_aD := Sec.mk (HBK22_aD.out.mod hma22 id)
  clear HBK22_aD
  have HBK23_w0 := Sec.mk (HBK22_w0.out.mod hma22 id)
  clear HBK22_w0
  have HBK23_x0 := Sec.mk (HBK22_x0.out.mod hma22 id)
  clear HBK22_x0
  have HBK23_g0 := Sec.mk (HBK22_g0.out.mod hma22 id)
  clear HBK22_g0
  have W0_23 := Sec.mk (W0_22.out.step hma22)
  clear W0_22
  have X0_23 := Sec.mk (X0_22.out.step hma22)
  clear X0_22
  have X2_23 := Sec.mk (X2_22.out.step hma22)
  clear X2_22
  have G0_23 := Sec.mk (G0_22.out.step hma22)
  clear G0_22
  have TDH0_23 := Sec.mk (TDH0_22.out.step hma22)
  clear TDH0_22
  have TPICKSH0_23 := Sec.mk (TPICKSH0_22.out.step hma22)
  clear TPICKSH0_22
  have H0_23 := Sec.mk (H0_22.out.step hma22)
  clear H0_22
  have HM23 := Sec.mk (HM22.out.transN hma22)
  clear HM22
  have hs23 := hma22.size
  clear hma22
  have kaD_0 : (w22.alloc (.cells #[.slice ch0_0 r.1.length ch0_1, .slice ch0_2 r.2.1.length ch0_3, .slice ch0_4 r.2.2.1.length ch0_5, .slice ch0_6 r.2.2.2.1.length ch0_7, .int .i64 r.2.2.2.2] 33)).cell? ⟨w.heap.size, 0, none⟩ = some (.slice caD_0 xD.1.length caD_1) := HBK23_aD.out.cell 0
  have kaD_1 : (w22.alloc (.cells #[.slice ch0_0 r.1.length ch0_1, .slice ch0_2 r.2.1.length ch0_3, .slice ch0_4 r.2.2.1.length ch0_5, .slice ch0_6 r.2.2.2.1.length ch0_7, .int .i64 r.2.2.2.2] 33)).cell? ⟨w.heap.size, 1, none⟩ = some (.slice caD_2 xD.2.1.length caD_3) := HBK23_aD.out.cell 1
  have kaD_2 : (w22.alloc (.cells #[.slice ch0_0 r.1.length ch0_1, .slice ch0_2 r.2.1.length ch0_3, .slice ch0_4 r.2.2.1.length ch0_5, .slice ch0_6 r.2.2.2.1.length ch0_7, .int .i64 r.2.2.2.2] 33)).cell? ⟨w.heap.size, 2, none⟩ = some (.slice caD_4 xD.2.2.1.length caD_5) := HBK23_aD.out.cell 2
  have kaD_3 : (w22.alloc (.cells #[.slice ch0_0 r.1.length ch0_1, .slice ch0_2 r.2.1.length ch0_3, .slice ch0_4 r.2.2.1.length ch0_5, .slice ch0_6 r.2.2.2.1.length ch0_7, .int .i64 r.2.2.2.2] 33)).cell? ⟨w.heap.size, 3, none⟩ = some (.slice caD_6 xD.2.2.2.1.length caD_7) := HBK23_aD.out.cell 3
  have kaD_4 : (w22.alloc (.cells #[.slice ch0_0 r.1.length ch0_1, .slice ch0_2 r.2.1.length ch0_3, .slice ch0_4 r.2.2.1.length ch0_5, .slice ch0_6 r.2.2.2.1.length ch0_7, .int .i64 r.2.2.2.2] 33)).cell? ⟨w.heap.size, 4, none⟩ = some (.int .i64 xD.2.2.2.2) := HBK23_aD.out.cell 4
  have kw0_0 : (w22.alloc (.cells #[.slice ch0_0 r.1.length ch0_1, .slice ch0_2 r.2.1.length ch0_3, .slice ch0_4 r.2.2.1.length ch0_5, .slice ch0_6 r.2.2.2.1.length ch0_7, .int .i64 r.2.2.2.2] 33)).cell? ⟨w4.heap.size, 0, none⟩ = some (.slice cw0_0 r.1.length cw0_1) := HBK23_w0.out.cell 0
  have kw0_1 : (w22.alloc (.cells #[.slice ch0_0 r.1.length ch0_1, .slice ch0_2 r.2.1.length ch0_3, .slice ch0_4 r.2.2.1.length ch0_5, .slice ch0_6 r.2.2.2.1.length ch0_7, .int .i64 r.2.2.2.2] 33)).cell? ⟨w4.heap.size, 1, none⟩ = some (.slice cw0_2 r.2.1.length cw0_3) := HBK23_w0.out.cell 1
  have kw0_2 : (w22.alloc (.cells #[.slice ch0_0 r.1.length ch0_1, .slice ch0_2 r.2.1.length ch0_3, .slice ch0_4 r.2.2.1.length ch0_5, .slice ch0_6 r.2.2.2.1.length ch0_7, .int .i64 r.2.2.2.2] 33)).cell? ⟨w4.heap.size, 2, none⟩ = some (.slice cw0_4 r.2.2.1.length cw0_5) := HBK23_w0.out.cell 2
  have kw0_3 : (w22.alloc (.cells #[.slice ch0_0 r.1.length ch0_1, .slice ch0_2 r.2.1.length ch0_3, .slice ch0_4 r.2.2.1.length ch0_5, .slice ch0_6 r.2.2.2.1.length ch0_7, .int .i64 r.2.2.2.2] 33)).cell? ⟨w4.heap.size, 3, none⟩ = some (.slice cw0_6 r.2.2.2.1.length cw0_7) := HBK23_w0.out.cell 3
  have kw0_4 : (w22.alloc (.cells #[.slice ch0_0 r.1.length ch0_1, .slice ch0_2 r.2.1.length ch0_3, .slice ch0_4 r.2.2.1.length ch0_5, .slice ch0_6 r.2.2.2.1.length ch0_7, .int .i64 r.2.2.2.2] 33)).cell? ⟨w4.heap.size, 4, none⟩ = some (.int .i64 r.2.2.2.2) := HBK23_w0.out.cell 4
  have kx0_0 : (w22.alloc (.cells #[.slice ch0_0 r.1.length ch0_1, .slice ch0_2 r.2.1.length ch0_3, .slice ch0_4 r.2.2.1.length ch0_5, .slice ch0_6 r.2.2.2.1.length ch0_7, .int .i64 r.2.2.2.2] 33)).cell? ⟨w6.heap.size, 0, none⟩ = some (.slice cx0_0 xD.1.length cx0_1) := HBK23_x0.out.cell 0
  have kx0_1 : (w22.alloc (.cells #[.slice ch0_0 r.1.length ch0_1, .slice ch0_2 r.2.1.length ch0_3, .slice ch0_4 r.2.2.1.length ch0_5, .slice ch0_6 r.2.2.2.1.length ch0_7, .int .i64 r.2.2.2.2] 33)).cell? ⟨w6.heap.size, 1, none⟩ = some (.slice cx0_2 xD.2.1.length cx0_3) := HBK23_x0.out.cell 1
  have kx0_2 : (w22.alloc (.cells #[.slice ch0_0 r.1.length ch0_1, .slice ch0_2 r.2.1.length ch0_3, .slice ch0_4 r.2.2.1.length ch0_5, .slice ch0_6 r.2.2.2.1.length ch0_7, .int .i64 r.2.2.2.2] 33)).cell? ⟨w6.heap.size, 2, none⟩ = some (.slice cx0_4 xD.2.2.1.length cx0_5) := HBK23_x0.out.cell 2
  have kx0_3 : (w22.alloc (.cells #[.slice ch0_0 r.1.length ch0_1, .slice ch0_2 r.2.1.length ch0_3, .slice ch0_4 r.2.2.1.length ch0_5, .slice ch0_6 r.2.2.2.1.length ch0_7, .int .i64 r.2.2.2.2] 33)).cell? ⟨w6.heap.size, 3, none⟩ = some (.slice cx0_6 xD.2.2.2.1.length cx0_7) := HBK23_x0.out.cell 3
  have kx0_4 : (w22.alloc (.cells #[.slice ch0_0 r.1.length ch0_1, .slice ch0_2 r.2.1.length ch0_3, .slice ch0_4 r.2.2.1.length ch0_5, .slice ch0_6 r.2.2.2.1.length ch0_7, .int .i64 r.2.2.2.2] 33)).cell? ⟨w6.heap.size, 4, none⟩ = some (.int .i64 xD.2.2.2.2) := HBK23_x0.out.cell 4
  have kg0_0 : (w22.alloc (.cells #[.slice ch0_0 r.1.length ch0_1, .slice ch0_2 r.2.1.length ch0_3, .slice ch0_4 r.2.2.1.length ch0_5, .slice ch0_6 r.2.2.2.1.length ch0_7, .int .i64 r.2.2.2.2] 33)).cell? ⟨w9.heap.size, 0, none⟩ = some (.slice cg0_0 r.1.length cg0_1) := HBK23_g0.out.cell 0
  have kg0_1 : (w22.alloc (.cells #[.slice ch0_0 r.1.length ch0_1, .slice ch0_2 r.2.1.length ch0_3, .slice ch0_4 r.2.2.1.length ch0_5, .slice ch0_6 r.2.2.2.1.length ch0_7, .int .i64 r.2.2.2.2] 33)).cell? ⟨w9.heap.size, 1, none⟩ = some (.slice cg0_2 r.2.1.length cg0_3) := HBK23_g0.out.cell 1
  have kg0_2 : (w22.alloc (.cells #[.slice ch0_0 r.1.length ch0_1, .slice ch0_2 r.2.1.length ch0_3, .slice ch0_4 r.2.2.1.length ch0_5, .slice ch0_6 r.2.2.2.1.length ch0_7, .int .i64 r.2.2.2.2] 33)).cell? ⟨w9.heap.size, 2, none⟩ = some (.slice cg0_4 r.2.2.1.length cg0_5) := HBK23_g0.out.cell 2
  have kg0_3 : (w22.alloc (.cells #[.slice ch0_0 r.1.length ch0_1, .slice ch0_2 r.2.1.length ch0_3, .slice ch0_4 r.2.2.1.length ch0_5, .slice ch0_6 r.2.2.2.1.length ch0_7, .int .i64 r.2.2.2.2] 33)).cell? ⟨w9.heap.size, 3, none⟩ = some (.slice cg0_6 r.2.2.2.1.length cg0_7) := HBK23_g0.out.cell 3
  have kg0_4 : (w22.alloc (.cells #[.slice ch0_0 r.1.length ch0_1, .slice ch0_2 r.2.1.length ch0_3, .slice ch0_4 r.2.2.1.length ch0_5, .slice ch0_6 r.2.2.2.1.length ch0_7, .int .i64 r.2.2.2.2] 33)).cell? ⟨w9.heap.size, 4, none⟩ = some (.int .i64 r.2.2.2.2) := HBK23_g0.out.cell 4
  have HBK_h0 := Sec.mk (Blk.new w22 33 [.slice ch0_0 r.1.length ch0_1, .slice ch0_2 r.2.1.length ch0_3, .slice ch0_4 r.2.2.1.length ch0_5, .slice ch0_6 r.2.2.2.1.length ch0_7, .int .i64 r.2.2.2.2])
  have hz22 : (w22.alloc (.cells #[.slice ch0_0 r.1.length ch0_1, .slice ch0_2 r.2.1.length ch0_3, .slice ch0_4 r.2.2.1.length ch0_5, .slice ch0_6 r.2.2.2.1.length ch0_7, .int .i64 r.2.2.2.2] 33)).heap.size = w22.heap.size + 1 := by simp
  clear kaD_0 kaD_1 kaD_2 kaD_3 kaD_4
  clear kw0_0 kw0_1 kw0_2 kw0_3 kw0_4
  clear kx0_0 kx0_1 kx0_2 kx0_3 kx0_4
  clear kg0_0 kg0_1 kg0_2 kg0_3 kg0_4
  have kaD_0 : (w22.alloc (.cells #[.slice ch0_0 r.1.length ch0_1, .slice ch0_2 r.2.1.length ch0_3, .slice ch0_4 r.2.2.1.length ch0_5, .slice ch0_6 r.2.2.2.1.length ch0_7, .int .i64 r.2.2.2.2] 33)).cell? ⟨w.heap.size, 0, none⟩ = some (.slice caD_0 xD.1.length caD_1) := HBK23_aD.out.cell 0
  have kaD_1 : (w22.alloc (.cells #[.slice ch0_0 r.1.length ch0_1, .slice ch0_2 r.2.1.length ch0_3, .slice ch0_4 r.2.2.1.length ch0_5, .slice ch0_6 r.2.2.2.1.length ch0_7, .int .i64 r.2.2.2.2] 33)).cell? ⟨w.heap.size, 1, none⟩ = some (.slice caD_2 xD.2.1.length caD_3) := HBK23_aD.out.cell 1
  have kaD_2 : (w22.alloc (.cells #[.slice ch0_0 r.1.length ch0_1, .slice ch0_2 r.2.1.length ch0_3, .slice ch0_4 r.2.2.1.length ch0_5, .slice ch0_6 r.2.2.2.1.length ch0_7, .int .i64 r.2.2.2.2] 33)).cell? ⟨w.heap.size, 2, none⟩ = some (.slice caD_4 xD.2.2.1.length caD_5) := HBK23_aD.out.cell 2
  have kaD_3 : (w22.alloc (.cells #[.slice ch0_0 r.1.length ch0_1, .slice ch0_2 r.2.1.length ch0_3, .slice ch0_4 r.2.2.1.length ch0_5, .slice ch0_6 r.2.2.2.1.length ch0_7, .int .i64 r.2.2.2.2] 33)).cell? ⟨w.heap.size, 3, none⟩ = some (.slice caD_6 xD.2.2.2.1.length caD_7) := HBK23_aD.out.cell 3
  have kaD_4 : (w22.alloc (.cells #[.slice ch0_0 r.1.length ch0_1, .slice ch0_2 r.2.1.length ch0_3, .slice ch0_4 r.2.2.1.length ch0_5, .slice ch0_6 r.2.2.2.1.length ch0_7, .int .i64 r.2.2.2.2] 33)).cell? ⟨w.heap.size, 4, none⟩ = some (.int .i64 xD.2.2.2.2) := HBK23_aD.out.cell 4
  have kw0_0 : (w22.alloc (.cells #[.slice ch0_0 r.1.length ch0_1, .slice ch0_2 r.2.1.length ch0_3, .slice ch0_4 r.2.2.1.length ch0_5, .slice ch0_6 r.2.2.2.1.length ch0_7, .int .i64 r.2.2.2.2] 33)).cell? ⟨w4.heap.size, 0, none⟩ = some (.slice cw0_0 r.1.length cw0_1) := HBK23_w0.out.cell 0
  have kw0_1 : (w22.alloc (.cells #[.slice ch0_0 r.1.length ch0_1, .slice ch0_2 r.2.1.length ch0_3, .slice ch0_4 r.2.2.1.length ch0_5, .slice ch0_6 r.2.2.2.1.length ch0_7, .int .i64 r.2.2.2.2] 33)).cell? ⟨w4.heap.size, 1, none⟩ = some (.slice cw0_2 r.2.1.length cw0_3) := HBK23_w0.out.cell 1
  have kw0_2 : (w22.alloc (.cells #[.slice ch0_0 r.1.length ch0_1, .slice ch0_2 r.2.1.length ch0_3, .slice ch0_4 r.2.2.1.length ch0_5, .slice ch0_6 r.2.2.2.1.length ch0_7, .int .i64 r.2.2.2.2] 33)).cell? ⟨w4.heap.size, 2, none⟩ = some (.slice cw0_4 r.2.2.1.length cw0_5) := HBK23_w0.out.cell 2
  have kw0_3 : (w22.alloc (.cells #[.slice ch0_0 r.1.length ch0_1, .slice ch0_2 r.2.1.length ch0_3, .slice ch0_4 r.2.2.1.length ch0_5, .slice ch0_6 r.2.2.2.1.length ch0_7, .int .i64 r.2.2.2.2] 33)).cell? ⟨w4.heap.size, 3, none⟩ = some (.slice cw0_6 r.2.2.2.1.length cw0_7) := HBK23_w0.out.cell 3
  have kw0_4 : (w22.alloc (.cells #[.slice ch0_0 r.1.length ch0_1, .slice ch0_2 r.2.1.length ch0_3, .slice ch0_4 r.2.2.1.length ch0_5, .slice ch0_6 r.2.2.2.1.length ch0_7, .int .i64 r.2.2.2.2] 33)).cell? ⟨w4.heap.size, 4, none⟩ = some (.int .i64 r.2.2.2.2) := HBK23_w0.out.cell 4
  have kx0_0 : (w22.alloc (.cells #[.slice ch0_0 r.1.length ch0_1, .slice ch0_2 r.2.1.length ch0_3, .slice ch0_4 r.2.2.1.length ch0_5, .slice ch0_6 r.2.2.2.1.length ch0_7, .int .i64 r.2.2.2.2] 33)).cell? ⟨w6.heap.size, 0, none⟩ = some (.slice cx0_0 xD.1.length cx0_1) := HBK23_x0.out.cell 0
  have kx0_1 : (w22.alloc (.cells #[.slice ch0_0 r.1.length ch0_1, .slice ch0_2 r.2.1.length ch0_3, .slice ch0_4 r.2.2.1.length ch0_5, .slice ch0_6 r.2.2.2.1.length ch0_7, .int .i64 r.2.2.2.2] 33)).cell? ⟨w6.heap.size, 1, none⟩ = some (.slice cx0_2 xD.2.1.length cx0_3) := HBK23_x0.out.cell 1
  have kx0_2 : (w22.alloc (.cells #[.slice ch0_0 r.1.length ch0_1, .slice ch0_2 r.2.1.length ch0_3, .slice ch0_4 r.2.2.1.length ch0_5, .slice ch0_6 r.2.2.2.1.length ch0_7, .int .i64 r.2.2.2.2] 33)).cell? ⟨w6.heap.size, 2, none⟩ = some (.slice cx0_4 xD.2.2.1.length cx0_5) := HBK23_x0.out.cell 2
  have kx0_3 : (w22.alloc (.cells #[.slice ch0_0 r.1.length ch0_1, .slice ch0_2 r.2.1.length ch0_3, .slice ch0_4 r.2.2.1.length ch0_5, .slice ch0_6 r.2.2.2.1.length ch0_7, .int .i64 r.2.2.2.2] 33)).cell? ⟨w6.heap.size, 3, none⟩ = some (.slice cx0_6 xD.2.2.2.1.length cx0_7) := HBK23_x0.out.cell 3
  have kx0_4 : (w22.alloc (.cells #[.slice ch0_0 r.1.length ch0_1, .slice ch0_2 r.2.1.length ch0_3, .slice ch0_4 r.2.2.1.length ch0_5, .slice ch0_6 r.2.2.2.1.length ch0_7, .int .i64 r.2.2.2.2] 33)).cell? ⟨w6.heap.size, 4, none⟩ = some (.int .i64 xD.2.2.2.2) := HBK23_x0.out.cell 4
  have kg0_0 : (w22.alloc (.cells #[.slice ch0_0 r.1.length ch0_1, .slice ch0_2 r.2.1.length ch0_3, .slice ch0_4 r.2.2.1.length ch0_5, .slice ch0_6 r.2.2.2.1.length ch0_7, .int .i64 r.2.2.2.2] 33)).cell? ⟨w9.heap.size, 0, none⟩ = some (.slice cg0_0 r.1.length cg0_1) := HBK23_g0.out.cell 0
  have kg0_1 : (w22.alloc (.cells #[.slice ch0_0 r.1.length ch0_1, .slice ch0_2 r.2.1.length ch0_3, .slice ch0_4 r.2.2.1.length ch0_5, .slice ch0_6 r.2.2.2.1.length ch0_7, .int .i64 r.2.2.2.2] 33)).cell? ⟨w9.heap.size, 1, none⟩ = some (.slice cg0_2 r.2.1.length cg0_3) := HBK23_g0.out.cell 1
  have kg0_2 : (w22.alloc (.cells #[.slice ch0_0 r.1.length ch0_1, .slice ch0_2 r.2.1.length ch0_3, .slice ch0_4 r.2.2.1.length ch0_5, .slice ch0_6 r.2.2.2.1.length ch0_7, .int .i64 r.2.2.2.2] 33)).cell? ⟨w9.heap.size, 2, none⟩ = some (.slice cg0_4 r.2.2.1.length cg0_5) := HBK23_g0.out.cell 2
  have kg0_3 : (w22.alloc (.cells #[.slice ch0_0 r.1.length ch0_1, .slice ch0_2 r.2.1.length ch0_3, .slice ch0_4 r.2.2.1.length ch0_5, .slice ch0_6 r.2.2.2.1.length ch0_7, .int .i64 r.2.2.2.2] 33)).cell? ⟨w9.heap.size, 3, none⟩ = some (.slice cg0_6 r.2.2.2.1.length cg0_7) := HBK23_g0.out.cell 3
  have kg0_4 : (w22.alloc (.cells #[.slice ch0_0 r.1.length ch0_1, .slice ch0_2 r.2.1.length ch0_3, .slice ch0_4 r.2.2.1.length ch0_5, .slice ch0_6 r.2.2.2.1.length ch0_7, .int .i64 r.2.2.2.2] 33)).cell? ⟨w9.heap.size, 4, none⟩ = some (.int .i64 r.2.2.2.2) := HBK23_g0.out.cell 4
  have kh0_0 : (w22.alloc (.cells #[.slice ch0_0 r.1.length ch0_1, .slice ch0_2 r.2.1.length ch0_3, .slice ch0_4 r.2.2.1.length ch0_5, .slice ch0_6 r.2.2.2.1.length ch0_7, .int .i64 r.2.2.2.2] 33)).cell? ⟨w22.heap.size, 0, none⟩ = some (.slice ch0_0 r.1.length ch0_1) := HBK_h0.out.cell 0
  have kh0_1 : (w22.alloc (.cells #[.slice ch0_0 r.1.length ch0_1, .slice ch0_2 r.2.1.length ch0_3, .slice ch0_4 r.2.2.1.length ch0_5, .slice ch0_6 r.2.2.2.1.length ch0_7, .int .i64 r.2.2.2.2] 33)).cell? ⟨w22.heap.size, 1, none⟩ = some (.slice ch0_2 r.2.1.length ch0_3) := HBK_h0.out.cell 1
  have kh0_2 : (w22.alloc (.cells #[.slice ch0_0 r.1.length ch0_1, .slice ch0_2 r.2.1.length ch0_3, .slice ch0_4 r.2.2.1.length ch0_5, .slice ch0_6 r.2.2.2.1.length ch0_7, .int .i64 r.2.2.2.2] 33)).cell? ⟨w22.heap.size, 2, none⟩ = some (.slice ch0_4 r.2.2.1.length ch0_5) := HBK_h0.out.cell 2
  have kh0_3 : (w22.alloc (.cells #[.slice ch0_0 r.1.length ch0_1, .slice ch0_2 r.2.1.length ch0_3, .slice ch0_4 r.2.2.1.length ch0_5, .slice ch0_6 r.2.2.2.1.length ch0_7, .int .i64 r.2.2.2.2] 33)).cell? ⟨w22.heap.size, 3, none⟩ = some (.slice ch0_6 r.2.2.2.1.length ch0_7) := HBK_h0.out.cell 3
  have kh0_4 : (w22.alloc (.cells #[.slice ch0_0 r.1.length ch0_1, .slice ch0_2 r.2.1.length ch0_3, .slice ch0_4 r.2.2.1.length ch0_5, .slice ch0_6 r.2.2.2.1.length ch0_7, .int .i64 r.2.2.2.2] 33)).cell? ⟨w22.heap.size, 4, none⟩ = some (.int .i64 r.2.2.2.2) := HBK_h0.out.cell 4
  clear TDH0_23
  clear TPICKSH0_23
  go_wp2_with fail
  refine (eqDisk_v H0_23.out.rd W0_23.out.rd).mono ?_
  rintro e w24 ⟨rfl, hm24⟩
  clear kaD_0 kaD_1 kaD_2 kaD_3 kaD_4
  clear kw0_0 kw0_1 kw0_2 kw0_3 kw0_4
  clear kx0_0 kx0_1 kx0_2 kx0_3 kx0_4
  clear kg0_0 kg0_1 kg0_2 kg0_3 kg0_4
  clear kh0_0 kh0_1 kh0_2 kh0_3 kh0_4
  have HBK24_aD := Sec.mk (HBK23_aD.out.mod hm24 id)
  clear HBK23_aD
  have HBK24_w0 := Sec.mk (HBK23_w0.out.mod hm24 id)
  clear HBK23_w0
  have HBK24_x0 := Sec.mk (HBK23_x0.out.mod hm24 id)
  clear HBK23_x0
  have HBK24_g0 := Sec.mk (HBK23_g0.out.mod hm24 id)
  clear HBK23_g0
  have HBK24_h0 := Sec.mk (HBK_h0.out.mod hm24 id)
  clear HBK_h0
  have W0_24 := Sec.mk (W0_23.out.step hm24)
  clear W0_23
  have X0_24 := Sec.mk (X0_23.out.step hm24)
  clear X0_23
  have X2_24 := Sec.mk (X2_23.out.step hm24)
  clear X2_23
  have G0_24 := Sec.mk (G0_23.out.step hm24)
  clear G0_23
  have H0_24 := Sec.mk (H0_23.out.step hm24)
  clear H0_23
  have HM24 := Sec.mk (HM23.out.transN hm24)
  clear HM23
  have hs24 := hm24.size
  clear hm24
  have kaD_0 : (w24).cell? ⟨w.heap.size, 0, none⟩ = some (.slice caD_0 xD.1.length caD_1) := HBK24_aD.out.cell 0
  have kaD_1 : (w24).cell? ⟨w.heap.size, 1, none⟩ = some (.slice caD_2 xD.2.1.length caD_3) := HBK24_aD.out.cell 1
  have kaD_2 : (w24).cell? ⟨w.heap.size, 2, none⟩ = some (.slice caD_4 xD.2.2.1.length caD_5) := HBK24_aD.out.cell 2
  have kaD_3 : (w24).cell? ⟨w.heap.size, 3, none⟩ = some (.slice caD_6 xD.2.2.2.1.length caD_7) := HBK24_aD.out.cell 3
  have kaD_4 : (w24).cell? ⟨w.heap.size, 4, none⟩ = some (.int .i64 xD.2.2.2.2) := HBK24_aD.out.cell 4
  have kw0_0 : (w24).cell? ⟨w4.heap.size, 0, none⟩ = some (.slice cw0_0 r.1.length cw0_1) := HBK24_w0.out.cell 0
  have kw0_1 : (w24).cell? ⟨w4.heap.size, 1, none⟩ = some (.slice cw0_2 r.2.1.length cw0_3) := HBK24_w0.out.cell 1
  have kw0_2 : (w24).cell? ⟨w4.heap.size, 2, none⟩ = some (.slice cw0_4 r.2.2.1.length cw0_5) := HBK24_w0.out.cell 2
  have kw0_3 : (w24).cell? ⟨w4.heap.size, 3, none⟩ = some (.slice cw0_6 r.2.2.2.1.length cw0_7) := HBK24_w0.out.cell 3
  have kw0_4 : (w24).cell? ⟨w4.heap.size, 4, none⟩ = some (.int .i64 r.2.2.2.2) := HBK24_w0.out.cell 4
  have kx0_0 : (w24).cell? ⟨w6.heap.size, 0, none⟩ = some (.slice cx0_0 xD.1.length cx0_1) := HBK24_x0.out.cell 0
  have kx0_1 : (w24).cell? ⟨w6.heap.size, 1, none⟩ = some (.slice cx0_2 xD.2.1.length cx0_3) := HBK24_x0.out.cell 1
  have kx0_2 : (w24).cell? ⟨w6.heap.size, 2, none⟩ = some (.slice cx0_4 xD.2.2.1.length cx0_5) := HBK24_x0.out.cell 2
  have kx0_3 : (w24).cell? ⟨w6.heap.size, 3, none⟩ = some (.slice cx0_6 xD.2.2.2.1.length cx0_7) := HBK24_x0.out.cell 3
  have kx0_4 : (w24).cell? ⟨w6.heap.size, 4, none⟩ = some (.int .i64 xD.2.2.2.2) := HBK24_x0.out.cell 4
  have kg0_0 : (w24).cell? ⟨w9.heap.size, 0, none⟩ = some (.slice cg0_0 r.1.length cg0_1) := HBK24_g0.out.cell 0
  have kg0_1 : (w24).cell? ⟨w9.heap.size, 1, none⟩ = some (.slice cg0_2 r.2.1.length cg0_3) := HBK24_g0.out.cell 1
  have kg0_2 : (w24).cell? ⟨w9.heap.size, 2, none⟩ = some (.slice cg0_4 r.2.2.1.length cg0_5) := HBK24_g0.out.cell 2
  have kg0_3 : (w24).cell? ⟨w9.heap.size, 3, none⟩ = some (.slice cg0_6 r.2.2.2.1.length cg0_7) := HBK24_g0.out.cell 3
  have kg0_4 : (w24).cell? ⟨w9.heap.size, 4, none⟩ = some (.int .i64 r.2.2.2.2) := HBK24_g0.out.cell 4
  have kh0_0 : (w24).cell? ⟨w22.heap.size, 0, none⟩ = some (.slice ch0_0 r.1.length ch0_1) := HBK24_h0.out.cell 0
  have kh0_1 : (w24).cell? ⟨w22.heap.size, 1, none⟩ = some (.slice ch0_2 r.2.1.length ch0_3) := HBK24_h0.out.cell 1
  have kh0_2 : (w24).cell? ⟨w22.heap.size, 2, none⟩ = some (.slice ch0_4 r.2.2.1.length ch0_5) := HBK24_h0.out.cell 2
  have kh0_3 : (w24).cell? ⟨w22.heap.size, 3, none⟩ = some (.slice ch0_6 r.2.2.2.1.length ch0_7) := HBK24_h0.out.cell 3
  have kh0_4 : (w24).cell? ⟨w22.heap.size, 4, none⟩ = some (.int .i64 r.2.2.2.2) := HBK24_h0.out.cell 4
  rw [show decide (r = r) = true by simp]
  go_wp2_with fail
  refine (heldDisk_v G0_24.out.rd 1 HX.out (by rw [HK.out]; omega)).mono ?_
  rintro e w25 ⟨rfl, hm25⟩
  rw [HK.out]
  clear kaD_0 kaD_1 kaD_2 kaD_3 kaD_4
  clear kw0_0 kw0_1 kw0_2 kw0_3 kw0_4
  clear kx0_0 kx0_1 kx0_2 kx0_3 kx0_4
  clear kg0_0 kg0_1 kg0_2 kg0_3 kg0_4
  clear kh0_0 kh0_1 kh0_2 kh0_3 kh0_4
  have HBK25_aD := Sec.mk (HBK24_aD.out.mod hm25 id)
  clear HBK24_aD
  have HBK25_w0 := Sec.mk (HBK24_w0.out.mod hm25 id)
  clear HBK24_w0
  have HBK25_x0 := Sec.mk (HBK24_x0.out.mod hm25 id)
  clear HBK24_x0
  have HBK25_g0 := Sec.mk (HBK24_g0.out.mod hm25 id)
  clear HBK24_g0
  have HBK25_h0 := Sec.mk (HBK24_h0.out.mod hm25 id)
  clear HBK24_h0
  have W0_25 := Sec.mk (W0_24.out.step hm25)
  clear W0_24
  have X0_25 := Sec.mk (X0_24.out.step hm25)
  clear X0_24
  have X2_25 := Sec.mk (X2_24.out.step hm25)
  clear X2_24
  have G0_25 := Sec.mk (G0_24.out.step hm25)
  clear G0_24
  have H0_25 := Sec.mk (H0_24.out.step hm25)
  clear H0_24
  have HM25 := Sec.mk (HM24.out.transN hm25)
  clear HM24
  have hs25 := hm25.size
  clear hm25
  have kaD_0 : (w25).cell? ⟨w.heap.size, 0, none⟩ = some (.slice caD_0 xD.1.length caD_1) := HBK25_aD.out.cell 0
  have kaD_1 : (w25).cell? ⟨w.heap.size, 1, none⟩ = some (.slice caD_2 xD.2.1.length caD_3) := HBK25_aD.out.cell 1
  have kaD_2 : (w25).cell? ⟨w.heap.size, 2, none⟩ = some (.slice caD_4 xD.2.2.1.length caD_5) := HBK25_aD.out.cell 2
  have kaD_3 : (w25).cell? ⟨w.heap.size, 3, none⟩ = some (.slice caD_6 xD.2.2.2.1.length caD_7) := HBK25_aD.out.cell 3
  have kaD_4 : (w25).cell? ⟨w.heap.size, 4, none⟩ = some (.int .i64 xD.2.2.2.2) := HBK25_aD.out.cell 4
  have kw0_0 : (w25).cell? ⟨w4.heap.size, 0, none⟩ = some (.slice cw0_0 r.1.length cw0_1) := HBK25_w0.out.cell 0
  have kw0_1 : (w25).cell? ⟨w4.heap.size, 1, none⟩ = some (.slice cw0_2 r.2.1.length cw0_3) := HBK25_w0.out.cell 1
  have kw0_2 : (w25).cell? ⟨w4.heap.size, 2, none⟩ = some (.slice cw0_4 r.2.2.1.length cw0_5) := HBK25_w0.out.cell 2
  have kw0_3 : (w25).cell? ⟨w4.heap.size, 3, none⟩ = some (.slice cw0_6 r.2.2.2.1.length cw0_7) := HBK25_w0.out.cell 3
  have kw0_4 : (w25).cell? ⟨w4.heap.size, 4, none⟩ = some (.int .i64 r.2.2.2.2) := HBK25_w0.out.cell 4
  have kx0_0 : (w25).cell? ⟨w6.heap.size, 0, none⟩ = some (.slice cx0_0 xD.1.length cx0_1) := HBK25_x0.out.cell 0
  have kx0_1 : (w25).cell? ⟨w6.heap.size, 1, none⟩ = some (.slice cx0_2 xD.2.1.length cx0_3) := HBK25_x0.out.cell 1
  have kx0_2 : (w25).cell? ⟨w6.heap.size, 2, none⟩ = some (.slice cx0_4 xD.2.2.1.length cx0_5) := HBK25_x0.out.cell 2
  have kx0_3 : (w25).cell? ⟨w6.heap.size, 3, none⟩ = some (.slice cx0_6 xD.2.2.2.1.length cx0_7) := HBK25_x0.out.cell 3
  have kx0_4 : (w25).cell? ⟨w6.heap.size, 4, none⟩ = some (.int .i64 xD.2.2.2.2) := HBK25_x0.out.cell 4
  have kg0_0 : (w25).cell? ⟨w9.heap.size, 0, none⟩ = some (.slice cg0_0 r.1.length cg0_1) := HBK25_g0.out.cell 0
  have kg0_1 : (w25).cell? ⟨w9.heap.size, 1, none⟩ = some (.slice cg0_2 r.2.1.length cg0_3) := HBK25_g0.out.cell 1
  have kg0_2 : (w25).cell? ⟨w9.heap.size, 2, none⟩ = some (.slice cg0_4 r.2.2.1.length cg0_5) := HBK25_g0.out.cell 2
  have kg0_3 : (w25).cell? ⟨w9.heap.size, 3, none⟩ = some (.slice cg0_6 r.2.2.2.1.length cg0_7) := HBK25_g0.out.cell 3
  have kg0_4 : (w25).cell? ⟨w9.heap.size, 4, none⟩ = some (.int .i64 r.2.2.2.2) := HBK25_g0.out.cell 4
  have kh0_0 : (w25).cell? ⟨w22.heap.size, 0, none⟩ = some (.slice ch0_0 r.1.length ch0_1) := HBK25_h0.out.cell 0
  have kh0_1 : (w25).cell? ⟨w22.heap.size, 1, none⟩ = some (.slice ch0_2 r.2.1.length ch0_3) := HBK25_h0.out.cell 1
  have kh0_2 : (w25).cell? ⟨w22.heap.size, 2, none⟩ = some (.slice ch0_4 r.2.2.1.length ch0_5) := HBK25_h0.out.cell 2
  have kh0_3 : (w25).cell? ⟨w22.heap.size, 3, none⟩ = some (.slice ch0_6 r.2.2.2.1.length ch0_7) := HBK25_h0.out.cell 3
  have kh0_4 : (w25).cell? ⟨w22.heap.size, 4, none⟩ = some (.int .i64 r.2.2.2.2) := HBK25_h0.out.cell 4
  go_wp2
  go_ret
  exact ⟨by simp, HM25.out⟩
end Go.Proofs.Ytinfibggdbakoaa
