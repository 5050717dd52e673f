/- The walk of the law FnExactDiskRead. -/
import Derived.Test.YtinfibggdbakoaaDReadV
import Derived.Test.YtinfibggdbakoaaOpenDisk
namespace Go.Proofs.Ytinfibggdbakoaa
open Go.RowKit Mem
set_option linter.unusedVariables false
set_option synthInstance.maxSize 2000

set_option maxHeartbeats 4000000 in
set_option maxRecDepth 100000 in
theorem lawFnExactDiskRead_walk {w : World} {vD : Value} {xD : DiskT} (haD : RdV true dDisk w vD xD) {aName : Bytes} (hsaName : aName.length ≤ 9223372036854775807) :
    Calls Try.prog 4 #[vD, .string ⟨aName.toArray⟩] w (Ret (.bool true) w) := by
  have HRaD := Sec.mk haD
  clear haD
  obtain ⟨caD_0, caD_1, caD_2, caD_3, caD_4, caD_5, caD_6, caD_7, rfl⟩ := cellsDisk HRaD.out
  by_cases hlen0 : 1048576 < aName.length
  · go_enter Try.func4, Try.ntmps4
    go_wp2
    go_ret
    exact ⟨by simp, (Mod.refl _ _).alloc _⟩
  have hbl0 : aName.length ≤ 1048576 := by omega
  by_cases hsz0 : ((szDisk xD : Nat) : Int) ≤ 1048576
  rotate_left
  · have hif : Sec ((if (1048576 : Int) < ((szDisk xD : Nat) : Int) then (-1 : Int) else 1048576 - ((szDisk xD : Nat) : Int)) = -1) := ⟨if_pos (by omega)⟩
    go_enter Try.func4, Try.ntmps4
    have HM0 := Sec.mk ((Mod.refl (fun _ => False) w).alloc (.cells #[.slice caD_0 xD.1.length caD_1, .slice caD_2 xD.2.1.length caD_3, .slice caD_4 xD.2.2.1.length caD_5, .slice caD_6 xD.2.2.2.1.length caD_7, .int .i64 xD.2.2.2.2] 26))
    have HBK_aD := Sec.mk (Blk.new w 26 [.slice caD_0 xD.1.length caD_1, .slice caD_2 xD.2.1.length caD_3, .slice caD_4 xD.2.2.1.length caD_5, .slice caD_6 xD.2.2.2.1.length caD_7, .int .i64 xD.2.2.2.2])
    have hz0 : ((w.alloc (.cells #[.slice caD_0 xD.1.length caD_1, .slice caD_2 xD.2.1.length caD_3, .slice caD_4 xD.2.2.1.length caD_5, .slice caD_6 xD.2.2.2.1.length caD_7, .int .i64 xD.2.2.2.2] 26))).heap.size = w.heap.size + 1 := by simp
    have kaD_0 : ((w.alloc (.cells #[.slice caD_0 xD.1.length caD_1, .slice caD_2 xD.2.1.length caD_3, .slice caD_4 xD.2.2.1.length caD_5, .slice caD_6 xD.2.2.2.1.length caD_7, .int .i64 xD.2.2.2.2] 26))).cell? ⟨w.heap.size, 0, none⟩ = some (.slice caD_0 xD.1.length caD_1) := HBK_aD.out.cell 0
    have kaD_1 : ((w.alloc (.cells #[.slice caD_0 xD.1.length caD_1, .slice caD_2 xD.2.1.length caD_3, .slice caD_4 xD.2.2.1.length caD_5, .slice caD_6 xD.2.2.2.1.length caD_7, .int .i64 xD.2.2.2.2] 26))).cell? ⟨w.heap.size, 1, none⟩ = some (.slice caD_2 xD.2.1.length caD_3) := HBK_aD.out.cell 1
    have kaD_2 : ((w.alloc (.cells #[.slice caD_0 xD.1.length caD_1, .slice caD_2 xD.2.1.length caD_3, .slice caD_4 xD.2.2.1.length caD_5, .slice caD_6 xD.2.2.2.1.length caD_7, .int .i64 xD.2.2.2.2] 26))).cell? ⟨w.heap.size, 2, none⟩ = some (.slice caD_4 xD.2.2.1.length caD_5) := HBK_aD.out.cell 2
    have kaD_3 : ((w.alloc (.cells #[.slice caD_0 xD.1.length caD_1, .slice caD_2 xD.2.1.length caD_3, .slice caD_4 xD.2.2.1.length caD_5, .slice caD_6 xD.2.2.2.1.length caD_7, .int .i64 xD.2.2.2.2] 26))).cell? ⟨w.heap.size, 3, none⟩ = some (.slice caD_6 xD.2.2.2.1.length caD_7) := HBK_aD.out.cell 3
    have kaD_4 : ((w.alloc (.cells #[.slice caD_0 xD.1.length caD_1, .slice caD_2 xD.2.1.length caD_3, .slice caD_4 xD.2.2.1.length caD_5, .slice caD_6 xD.2.2.2.1.length caD_7, .int .i64 xD.2.2.2.2] 26))).cell? ⟨w.heap.size, 4, none⟩ = some (.int .i64 xD.2.2.2.2) := HBK_aD.out.cell 4
    go_wp2_with fail
    refine (szDisk_v (HRaD.out.step HM0.out) (1048576) (by omega) (by omega)).mono ?_
    rintro e w1 ⟨rfl, hm1⟩
    rw [hif.out]
    clear kaD_0 kaD_1 kaD_2 kaD_3 kaD_4
    have HBK1_aD := Sec.mk (HBK_aD.out.mod hm1 id)
    clear HBK_aD
    have HM1 := Sec.mk (HM0.out.transN hm1)
    clear HM0
    have hs1 := hm1.size
    clear hm1
    have kaD_0 : (w1).cell? ⟨w.heap.size, 0, none⟩ = some (.slice caD_0 xD.1.length caD_1) := HBK1_aD.out.cell 0
    have kaD_1 : (w1).cell? ⟨w.heap.size, 1, none⟩ = some (.slice caD_2 xD.2.1.length caD_3) := HBK1_aD.out.cell 1
    have kaD_2 : (w1).cell? ⟨w.heap.size, 2, none⟩ = some (.slice caD_4 xD.2.2.1.length caD_5) := HBK1_aD.out.cell 2
    have kaD_3 : (w1).cell? ⟨w.heap.size, 3, none⟩ = some (.slice caD_6 xD.2.2.2.1.length caD_7) := HBK1_aD.out.cell 3
    have kaD_4 : (w1).cell? ⟨w.heap.size, 4, none⟩ = some (.int .i64 xD.2.2.2.2) := HBK1_aD.out.cell 4
    go_wp2
    go_ret
    exact ⟨by simp, HM1.out⟩
  have hif0 : Sec ((if (1048576 : Int) < ((szDisk xD : Nat) : Int) then (-1 : Int) else 1048576 - ((szDisk xD : Nat) : Int)) = 1048576 - ((szDisk xD : Nat) : Int)) := ⟨if_neg (by omega)⟩
  have hb0 : szDisk xD ≤ 1048576 := by omega
  have hc0 := cntDisk_lt hb0
  have hlf0 : ¬ (1048576 - ((szDisk xD : Nat) : Int) < 0) := by omega
  have hcr := DiskRead_cnt (xD) (aName) hb0 hbl0
  generalize hFN : DiskReadL xD aName = r at *
  have HFN := Sec.mk hFN
  clear hFN
  go_enter Try.func4, Try.ntmps4
  have HM0 := Sec.mk ((Mod.refl (fun _ => False) w).alloc (.cells #[.slice caD_0 xD.1.length caD_1, .slice caD_2 xD.2.1.length caD_3, .slice caD_4 xD.2.2.1.length caD_5, .slice caD_6 xD.2.2.2.1.length caD_7, .int .i64 xD.2.2.2.2] 26))
  have HBK_aD := Sec.mk (Blk.new w 26 [.slice caD_0 xD.1.length caD_1, .slice caD_2 xD.2.1.length caD_3, .slice caD_4 xD.2.2.1.length caD_5, .slice caD_6 xD.2.2.2.1.length caD_7, .int .i64 xD.2.2.2.2])
  have hz0 : ((w.alloc (.cells #[.slice caD_0 xD.1.length caD_1, .slice caD_2 xD.2.1.length caD_3, .slice caD_4 xD.2.2.1.length caD_5, .slice caD_6 xD.2.2.2.1.length caD_7, .int .i64 xD.2.2.2.2] 26))).heap.size = w.heap.size + 1 := by simp
  have kaD_0 : ((w.alloc (.cells #[.slice caD_0 xD.1.length caD_1, .slice caD_2 xD.2.1.length caD_3, .slice caD_4 xD.2.2.1.length caD_5, .slice caD_6 xD.2.2.2.1.length caD_7, .int .i64 xD.2.2.2.2] 26))).cell? ⟨w.heap.size, 0, none⟩ = some (.slice caD_0 xD.1.length caD_1) := HBK_aD.out.cell 0
  have kaD_1 : ((w.alloc (.cells #[.slice caD_0 xD.1.length caD_1, .slice caD_2 xD.2.1.length caD_3, .slice caD_4 xD.2.2.1.length caD_5, .slice caD_6 xD.2.2.2.1.length caD_7, .int .i64 xD.2.2.2.2] 26))).cell? ⟨w.heap.size, 1, none⟩ = some (.slice caD_2 xD.2.1.length caD_3) := HBK_aD.out.cell 1
  have kaD_2 : ((w.alloc (.cells #[.slice caD_0 xD.1.length caD_1, .slice caD_2 xD.2.1.length caD_3, .slice caD_4 xD.2.2.1.length caD_5, .slice caD_6 xD.2.2.2.1.length caD_7, .int .i64 xD.2.2.2.2] 26))).cell? ⟨w.heap.size, 2, none⟩ = some (.slice caD_4 xD.2.2.1.length caD_5) := HBK_aD.out.cell 2
  have kaD_3 : ((w.alloc (.cells #[.slice caD_0 xD.1.length caD_1, .slice caD_2 xD.2.1.length caD_3, .slice caD_4 xD.2.2.1.length caD_5, .slice caD_6 xD.2.2.2.1.length caD_7, .int .i64 xD.2.2.2.2] 26))).cell? ⟨w.heap.size, 3, none⟩ = some (.slice caD_6 xD.2.2.2.1.length caD_7) := HBK_aD.out.cell 3
  have kaD_4 : ((w.alloc (.cells #[.slice caD_0 xD.1.length caD_1, .slice caD_2 xD.2.1.length caD_3, .slice caD_4 xD.2.2.1.length caD_5, .slice caD_6 xD.2.2.2.1.length caD_7, .int .i64 xD.2.2.2.2] 26))).cell? ⟨w.heap.size, 4, none⟩ = some (.int .i64 xD.2.2.2.2) := HBK_aD.out.cell 4
  go_wp2_with fail
  refine (szDisk_v (HRaD.out.step HM0.out) (1048576) (by omega) (by omega)).mono ?_
  rintro e w1 ⟨rfl, hm1⟩
  rw [hif0.out]
  clear kaD_0 kaD_1 kaD_2 kaD_3 kaD_4
  have HBK1_aD := Sec.mk (HBK_aD.out.mod hm1 id)
  clear HBK_aD
  have HM1 := Sec.mk (HM0.out.transN hm1)
  clear HM0
  have hs1 := hm1.size
  clear hm1
  have kaD_0 : (w1).cell? ⟨w.heap.size, 0, none⟩ = some (.slice caD_0 xD.1.length caD_1) := HBK1_aD.out.cell 0
  have kaD_1 : (w1).cell? ⟨w.heap.size, 1, none⟩ = some (.slice caD_2 xD.2.1.length caD_3) := HBK1_aD.out.cell 1
  have kaD_2 : (w1).cell? ⟨w.heap.size, 2, none⟩ = some (.slice caD_4 xD.2.2.1.length caD_5) := HBK1_aD.out.cell 2
  have kaD_3 : (w1).cell? ⟨w.heap.size, 3, none⟩ = some (.slice caD_6 xD.2.2.2.1.length caD_7) := HBK1_aD.out.cell 3
  have kaD_4 : (w1).cell? ⟨w.heap.size, 4, none⟩ = some (.int .i64 xD.2.2.2.2) := HBK1_aD.out.cell 4
  go_wp2_with fail
  refine (toDisk_v (HRaD.out.step HM1.out) hb0).mono ?_
  rintro e w2 ⟨v2, rfl, ho2, hm2⟩
  clear kaD_0 kaD_1 kaD_2 kaD_3 kaD_4
  have HBK2_aD := Sec.mk (HBK1_aD.out.mod hm2 id)
  clear HBK1_aD
  have HM2 := Sec.mk (HM1.out.transN hm2)
  clear HM1
  have hs2 := hm2.size
  clear hm2
  have kaD_0 : (w2).cell? ⟨w.heap.size, 0, none⟩ = some (.slice caD_0 xD.1.length caD_1) := HBK2_aD.out.cell 0
  have kaD_1 : (w2).cell? ⟨w.heap.size, 1, none⟩ = some (.slice caD_2 xD.2.1.length caD_3) := HBK2_aD.out.cell 1
  have kaD_2 : (w2).cell? ⟨w.heap.size, 2, none⟩ = some (.slice caD_4 xD.2.2.1.length caD_5) := HBK2_aD.out.cell 2
  have kaD_3 : (w2).cell? ⟨w.heap.size, 3, none⟩ = some (.slice caD_6 xD.2.2.2.1.length caD_7) := HBK2_aD.out.cell 3
  have kaD_4 : (w2).cell? ⟨w.heap.size, 4, none⟩ = some (.int .i64 xD.2.2.2.2) := HBK2_aD.out.cell 4
  have TDW0_2 := Sec.mk ho2
  clear ho2
  go_wp2_with fail
  refine (specDiskRead_v TDW0_2.out.rd aName hsaName hb0 hbl0).mono ?_
  rw [HFN.out]
  rintro e w3 ⟨v3, rfl, ho3, hm3⟩
  clear kaD_0 kaD_1 kaD_2 kaD_3 kaD_4
  have HBK3_aD := Sec.mk (HBK2_aD.out.mod hm3 id)
  clear HBK2_aD
  have TDW0_3 := Sec.mk (TDW0_2.out.step hm3)
  clear TDW0_2
  have HM3 := Sec.mk (HM2.out.transN hm3)
  clear HM2
  have hs3 := hm3.size
  clear hm3
  have kaD_0 : (w3).cell? ⟨w.heap.size, 0, none⟩ = some (.slice caD_0 xD.1.length caD_1) := HBK3_aD.out.cell 0
  have kaD_1 : (w3).cell? ⟨w.heap.size, 1, none⟩ = some (.slice caD_2 xD.2.1.length caD_3) := HBK3_aD.out.cell 1
  have kaD_2 : (w3).cell? ⟨w.heap.size, 2, none⟩ = some (.slice caD_4 xD.2.2.1.length caD_5) := HBK3_aD.out.cell 2
  have kaD_3 : (w3).cell? ⟨w.heap.size, 3, none⟩ = some (.slice caD_6 xD.2.2.2.1.length caD_7) := HBK3_aD.out.cell 3
  have kaD_4 : (w3).cell? ⟨w.heap.size, 4, none⟩ = some (.int .i64 xD.2.2.2.2) := HBK3_aD.out.cell 4
  have W0_3 := Sec.mk ho3
  clear ho3
  obtain ⟨cw0_0, cw0_1, rfl⟩ := cellsContent W0_3.out.rd
  have hma3 := ((Mod.refl (fun _ => False) w3).alloc (.cells #[.bool r.1, .slice cw0_0 r.2.length cw0_1] 39))
  clear kaD_0 kaD_1 kaD_2 kaD_3 kaD_4
  have HBK4_aD := Sec.mk (HBK3_aD.out.mod hma3 id)
  clear HBK3_aD
  have TDW0_4 := Sec.mk (TDW0_3.out.step hma3)
  clear TDW0_3
  have W0_4 := Sec.mk (W0_3.out.step hma3)
  clear W0_3
  have HM4 := Sec.mk (HM3.out.transN hma3)
  clear HM3
  have hs4 := hma3.size
  clear hma3
  have kaD_0 : (w3.alloc (.cells #[.bool r.1, .slice cw0_0 r.2.length cw0_1] 39)).cell? ⟨w.heap.size, 0, none⟩ = some (.slice caD_0 xD.1.length caD_1) := HBK4_aD.out.cell 0
  have kaD_1 : (w3.alloc (.cells #[.bool r.1, .slice cw0_0 r.2.length cw0_1] 39)).cell? ⟨w.heap.size, 1, none⟩ = some (.slice caD_2 xD.2.1.length caD_3) := HBK4_aD.out.cell 1
  have kaD_2 : (w3.alloc (.cells #[.bool r.1, .slice cw0_0 r.2.length cw0_1] 39)).cell? ⟨w.heap.size, 2, none⟩ = some (.slice caD_4 xD.2.2.1.length caD_5) := HBK4_aD.out.cell 2
  have kaD_3 : (w3.alloc (.cells #[.bool r.1, .slice cw0_0 r.2.length cw0_1] 39)).cell? ⟨w.heap.size, 3, none⟩ = some (.slice caD_6 xD.2.2.2.1.length caD_7) := HBK4_aD.out.cell 3
  have kaD_4 : (w3.alloc (.cells #[.bool r.1, .slice cw0_0 r.2.length cw0_1] 39)).cell? ⟨w.heap.size, 4, none⟩ = some (.int .i64 xD.2.2.2.2) := HBK4_aD.out.cell 4
  have HBK_w0 := Sec.mk (Blk.new w3 39 [.bool r.1, .slice cw0_0 r.2.length cw0_1])
  have hz3 : (w3.alloc (.cells #[.bool r.1, .slice cw0_0 r.2.length cw0_1] 39)).heap.size = w3.heap.size + 1 := by simp
  clear kaD_0 kaD_1 kaD_2 kaD_3 kaD_4
  have kaD_0 : (w3.alloc (.cells #[.bool r.1, .slice cw0_0 r.2.length cw0_1] 39)).cell? ⟨w.heap.size, 0, none⟩ = some (.slice caD_0 xD.1.length caD_1) := HBK4_aD.out.cell 0
  have kaD_1 : (w3.alloc (.cells #[.bool r.1, .slice cw0_0 r.2.length cw0_1] 39)).cell? ⟨w.heap.size, 1, none⟩ = some (.slice caD_2 xD.2.1.length caD_3) := HBK4_aD.out.cell 1
  have kaD_2 : (w3.alloc (.cells #[.bool r.1, .slice cw0_0 r.2.length cw0_1] 39)).cell? ⟨w.heap.size, 2, none⟩ = some (.slice caD_4 xD.2.2.1.length caD_5) := HBK4_aD.out.cell 2
  have kaD_3 : (w3.alloc (.cells #[.bool r.1, .slice cw0_0 r.2.length cw0_1] 39)).cell? ⟨w.heap.size, 3, none⟩ = some (.slice caD_6 xD.2.2.2.1.length caD_7) := HBK4_aD.out.cell 3
  have kaD_4 : (w3.alloc (.cells #[.bool r.1, .slice cw0_0 r.2.length cw0_1] 39)).cell? ⟨w.heap.size, 4, none⟩ = some (.int .i64 xD.2.2.2.2) := HBK4_aD.out.cell 4
  have kw0_0 : (w3.alloc (.cells #[.bool r.1, .slice cw0_0 r.2.length cw0_1] 39)).cell? ⟨w3.heap.size, 0, none⟩ = some (.bool r.1) := HBK_w0.out.cell 0
  have kw0_1 : (w3.alloc (.cells #[.bool r.1, .slice cw0_0 r.2.length cw0_1] 39)).cell? ⟨w3.heap.size, 1, none⟩ = some (.slice cw0_0 r.2.length cw0_1) := HBK_w0.out.cell 1
  clear TDW0_4
  go_wp2_with fail
  refine (toDisk_v (HRaD.out.step HM4.out) hb0).mono ?_
  rintro e w5 ⟨v5, rfl, ho5, hm5⟩
  clear kaD_0 kaD_1 kaD_2 kaD_3 kaD_4
  clear kw0_0 kw0_1
  have HBK5_aD := Sec.mk (HBK4_aD.out.mod hm5 id)
  clear HBK4_aD
  have HBK5_w0 := Sec.mk (HBK_w0.out.mod hm5 id)
  clear HBK_w0
  have W0_5 := Sec.mk (W0_4.out.step hm5)
  clear W0_4
  have HM5 := Sec.mk (HM4.out.transN hm5)
  clear HM4
  have hs5 := hm5.size
  clear hm5
  have kaD_0 : (w5).cell? ⟨w.heap.size, 0, none⟩ = some (.slice caD_0 xD.1.length caD_1) := HBK5_aD.out.cell 0
  have kaD_1 : (w5).cell? ⟨w.heap.size, 1, none⟩ = some (.slice caD_2 xD.2.1.length caD_3) := HBK5_aD.out.cell 1
  have kaD_2 : (w5).cell? ⟨w.heap.size, 2, none⟩ = some (.slice caD_4 xD.2.2.1.length caD_5) := HBK5_aD.out.cell 2
  have kaD_3 : (w5).cell? ⟨w.heap.size, 3, none⟩ = some (.slice caD_6 xD.2.2.2.1.length caD_7) := HBK5_aD.out.cell 3
  have kaD_4 : (w5).cell? ⟨w.heap.size, 4, none⟩ = some (.int .i64 xD.2.2.2.2) := HBK5_aD.out.cell 4
  have kw0_0 : (w5).cell? ⟨w3.heap.size, 0, none⟩ = some (.bool r.1) := HBK5_w0.out.cell 0
  have kw0_1 : (w5).cell? ⟨w3.heap.size, 1, none⟩ = some (.slice cw0_0 r.2.length cw0_1) := HBK5_w0.out.cell 1
  have X0_5 := Sec.mk ho5
  clear ho5
  obtain ⟨cx0_0, cx0_1, cx0_2, cx0_3, cx0_4, cx0_5, cx0_6, cx0_7, rfl⟩ := cellsDisk X0_5.out.rd
  have hma5 := ((Mod.refl (fun _ => False) w5).alloc (.cells #[.slice cx0_0 xD.1.length cx0_1, .slice cx0_2 xD.2.1.length cx0_3, .slice cx0_4 xD.2.2.1.length cx0_5, .slice cx0_6 xD.2.2.2.1.length cx0_7, .int .i64 xD.2.2.2.2] 33))
  clear kaD_0 kaD_1 kaD_2 kaD_3 kaD_4
  clear kw0_0 kw0_1
  have HBK6_aD := Sec.mk (HBK5_aD.out.mod hma5 id)
  clear HBK5_aD
  have HBK6_w0 := Sec.mk (HBK5_w0.out.mod hma5 id)
  clear HBK5_w0
  have W0_6 := Sec.mk (W0_5.out.step hma5)
  clear W0_5
  have X0_6 := Sec.mk (X0_5.out.step hma5)
  clear X0_5
  have HM6 := Sec.mk (HM5.out.transN hma5)
  clear HM5
  have hs6 := hma5.size
  clear hma5
  have kaD_0 : (w5.alloc (.cells #[.slice cx0_0 xD.1.length cx0_1, .slice cx0_2 xD.2.1.length cx0_3, .slice cx0_4 xD.2.2.1.length cx0_5, .slice cx0_6 xD.2.2.2.1.length cx0_7, .int .i64 xD.2.2.2.2] 33)).cell? ⟨w.heap.size, 0, none⟩ = some (.slice caD_0 xD.1.length caD_1) := HBK6_aD.out.cell 0
  have kaD_1 : (w5.alloc (.cells #[.slice cx0_0 xD.1.length cx0_1, .slice cx0_2 xD.2.1.length cx0_3, .slice cx0_4 xD.2.2.1.length cx0_5, .slice cx0_6 xD.2.2.2.1.length cx0_7, .int .i64 xD.2.2.2.2] 33)).cell? ⟨w.heap.size, 1, none⟩ = some (.slice caD_2 xD.2.1.length caD_3) := HBK6_aD.out.cell 1
  have kaD_2 : (w5.alloc (.cells #[.slice cx0_0 xD.1.length cx0_1, .slice cx0_2 xD.2.1.length cx0_3, .slice cx0_4 xD.2.2.1.length cx0_5, .slice cx0_6 xD.2.2.2.1.length cx0_7, .int .i64 xD.2.2.2.2] 33)).cell? ⟨w.heap.size, 2, none⟩ = some (.slice caD_4 xD.2.2.1.length caD_5) := HBK6_aD.out.cell 2
  have kaD_3 : (w5.alloc (.cells #[.slice cx0_0 xD.1.length cx0_1, .slice cx0_2 xD.2.1.length cx0_3, .slice cx0_4 xD.2.2.1.length cx0_5, .slice cx0_6 xD.2.2.2.1.length cx0_7, .int .i64 xD.2.2.2.2] 33)).cell? ⟨w.heap.size, 3, none⟩ = some (.slice caD_6 xD.2.2.2.1.length caD_7) := HBK6_aD.out.cell 3
  have kaD_4 : (w5.alloc (.cells #[.slice cx0_0 xD.1.length cx0_1, .slice cx0_2 xD.2.1.length cx0_3, .slice cx0_4 xD.2.2.1.length cx0_5, .slice cx0_6 xD.2.2.2.1.length cx0_7, .int .i64 xD.2.2.2.2] 33)).cell? ⟨w.heap.size, 4, none⟩ = some (.int .i64 xD.2.2.2.2) := HBK6_aD.out.cell 4
  have kw0_0 : (w5.alloc (.cells #[.slice cx0_0 xD.1.length cx0_1, .slice cx0_2 xD.2.1.length cx0_3, .slice cx0_4 xD.2.2.1.length cx0_5, .slice cx0_6 xD.2.2.2.1.length cx0_7, .int .i64 xD.2.2.2.2] 33)).cell? ⟨w3.heap.size, 0, none⟩ = some (.bool r.1) := HBK6_w0.out.cell 0
  have kw0_1 : (w5.alloc (.cells #[.slice cx0_0 xD.1.length cx0_1, .slice cx0_2 xD.2.1.length cx0_3, .slice cx0_4 xD.2.2.1.length cx0_5, .slice cx0_6 xD.2.2.2.1.length cx0_7, .int .i64 xD.2.2.2.2] 33)).cell? ⟨w3.heap.size, 1, none⟩ = some (.slice cw0_0 r.2.length cw0_1) := HBK6_w0.out.cell 1
  have HBK_x0 := Sec.mk (Blk.new w5 33 [.slice cx0_0 xD.1.length cx0_1, .slice cx0_2 xD.2.1.length cx0_3, .slice cx0_4 xD.2.2.1.length cx0_5, .slice cx0_6 xD.2.2.2.1.length cx0_7, .int .i64 xD.2.2.2.2])
  have hz5 : (w5.alloc (.cells #[.slice cx0_0 xD.1.length cx0_1, .slice cx0_2 xD.2.1.length cx0_3, .slice cx0_4 xD.2.2.1.length cx0_5, .slice cx0_6 xD.2.2.2.1.length cx0_7, .int .i64 xD.2.2.2.2] 33)).heap.size = w5.heap.size + 1 := by simp
  clear kaD_0 kaD_1 kaD_2 kaD_3 kaD_4
  clear kw0_0 kw0_1
  have kaD_0 : (w5.alloc (.cells #[.slice cx0_0 xD.1.length cx0_1, .slice cx0_2 xD.2.1.length cx0_3, .slice cx0_4 xD.2.2.1.length cx0_5, .slice cx0_6 xD.2.2.2.1.length cx0_7, .int .i64 xD.2.2.2.2] 33)).cell? ⟨w.heap.size, 0, none⟩ = some (.slice caD_0 xD.1.length caD_1) := HBK6_aD.out.cell 0
  have kaD_1 : (w5.alloc (.cells #[.slice cx0_0 xD.1.length cx0_1, .slice cx0_2 xD.2.1.length cx0_3, .slice cx0_4 xD.2.2.1.length cx0_5, .slice cx0_6 xD.2.2.2.1.length cx0_7, .int .i64 xD.2.2.2.2] 33)).cell? ⟨w.heap.size, 1, none⟩ = some (.slice caD_2 xD.2.1.length caD_3) := HBK6_aD.out.cell 1
  have kaD_2 : (w5.alloc (.cells #[.slice cx0_0 xD.1.length cx0_1, .slice cx0_2 xD.2.1.length cx0_3, .slice cx0_4 xD.2.2.1.length cx0_5, .slice cx0_6 xD.2.2.2.1.length cx0_7, .int .i64 xD.2.2.2.2] 33)).cell? ⟨w.heap.size, 2, none⟩ = some (.slice caD_4 xD.2.2.1.length caD_5) := HBK6_aD.out.cell 2
  have kaD_3 : (w5.alloc (.cells #[.slice cx0_0 xD.1.length cx0_1, .slice cx0_2 xD.2.1.length cx0_3, .slice cx0_4 xD.2.2.1.length cx0_5, .slice cx0_6 xD.2.2.2.1.length cx0_7, .int .i64 xD.2.2.2.2] 33)).cell? ⟨w.heap.size, 3, none⟩ = some (.slice caD_6 xD.2.2.2.1.length caD_7) := HBK6_aD.out.cell 3
  have kaD_4 : (w5.alloc (.cells #[.slice cx0_0 xD.1.length cx0_1, .slice cx0_2 xD.2.1.length cx0_3, .slice cx0_4 xD.2.2.1.length cx0_5, .slice cx0_6 xD.2.2.2.1.length cx0_7, .int .i64 xD.2.2.2.2] 33)).cell? ⟨w.heap.size, 4, none⟩ = some (.int .i64 xD.2.2.2.2) := HBK6_aD.out.cell 4
  have kw0_0 : (w5.alloc (.cells #[.slice cx0_0 xD.1.length cx0_1, .slice cx0_2 xD.2.1.length cx0_3, .slice cx0_4 xD.2.2.1.length cx0_5, .slice cx0_6 xD.2.2.2.1.length cx0_7, .int .i64 xD.2.2.2.2] 33)).cell? ⟨w3.heap.size, 0, none⟩ = some (.bool r.1) := HBK6_w0.out.cell 0
  have kw0_1 : (w5.alloc (.cells #[.slice cx0_0 xD.1.length cx0_1, .slice cx0_2 xD.2.1.length cx0_3, .slice cx0_4 xD.2.2.1.length cx0_5, .slice cx0_6 xD.2.2.2.1.length cx0_7, .int .i64 xD.2.2.2.2] 33)).cell? ⟨w3.heap.size, 1, none⟩ = some (.slice cw0_0 r.2.length cw0_1) := HBK6_w0.out.cell 1
  have kx0_0 : (w5.alloc (.cells #[.slice cx0_0 xD.1.length cx0_1, .slice cx0_2 xD.2.1.length cx0_3, .slice cx0_4 xD.2.2.1.length cx0_5, .slice cx0_6 xD.2.2.2.1.length cx0_7, .int .i64 xD.2.2.2.2] 33)).cell? ⟨w5.heap.size, 0, none⟩ = some (.slice cx0_0 xD.1.length cx0_1) := HBK_x0.out.cell 0
  have kx0_1 : (w5.alloc (.cells #[.slice cx0_0 xD.1.length cx0_1, .slice cx0_2 xD.2.1.length cx0_3, .slice cx0_4 xD.2.2.1.length cx0_5, .slice cx0_6 xD.2.2.2.1.length cx0_7, .int .i64 xD.2.2.2.2] 33)).cell? ⟨w5.heap.size, 1, none⟩ = some (.slice cx0_2 xD.2.1.length cx0_3) := HBK_x0.out.cell 1
  have kx0_2 : (w5.alloc (.cells #[.slice cx0_0 xD.1.length cx0_1, .slice cx0_2 xD.2.1.length cx0_3, .slice cx0_4 xD.2.2.1.length cx0_5, .slice cx0_6 xD.2.2.2.1.length cx0_7, .int .i64 xD.2.2.2.2] 33)).cell? ⟨w5.heap.size, 2, none⟩ = some (.slice cx0_4 xD.2.2.1.length cx0_5) := HBK_x0.out.cell 2
  have kx0_3 : (w5.alloc (.cells #[.slice cx0_0 xD.1.length cx0_1, .slice cx0_2 xD.2.1.length cx0_3, .slice cx0_4 xD.2.2.1.length cx0_5, .slice cx0_6 xD.2.2.2.1.length cx0_7, .int .i64 xD.2.2.2.2] 33)).cell? ⟨w5.heap.size, 3, none⟩ = some (.slice cx0_6 xD.2.2.2.1.length cx0_7) := HBK_x0.out.cell 3
  have kx0_4 : (w5.alloc (.cells #[.slice cx0_0 xD.1.length cx0_1, .slice cx0_2 xD.2.1.length cx0_3, .slice cx0_4 xD.2.2.1.length cx0_5, .slice cx0_6 xD.2.2.2.1.length cx0_7, .int .i64 xD.2.2.2.2] 33)).cell? ⟨w5.heap.size, 4, none⟩ = some (.int .i64 xD.2.2.2.2) := HBK_x0.out.cell 4
  go_wp2_with fail
  refine (implDiskRead_v X0_6.out.rd aName hsaName hb0 hbl0).mono ?_
  rw [HFN.out]
  rintro e w7 ⟨v7, rfl, ho7, hm7⟩
  clear kaD_0 kaD_1 kaD_2 kaD_3 kaD_4
  clear kw0_0 kw0_1
  clear kx0_0 kx0_1 kx0_2 kx0_3 kx0_4
  have HBK7_aD := Sec.mk (HBK6_aD.out.mod hm7 id)
  clear HBK6_aD
  have HBK7_w0 := Sec.mk (HBK6_w0.out.mod hm7 id)
  clear HBK6_w0
  have HBK7_x0 := Sec.mk (HBK_x0.out.mod hm7 id)
  clear HBK_x0
  have W0_7 := Sec.mk (W0_6.out.step hm7)
  clear W0_6
  have X0_7 := Sec.mk (X0_6.out.step hm7)
  clear X0_6
  have HM7 := Sec.mk (HM6.out.transN hm7)
  clear HM6
  have hs7 := hm7.size
  clear hm7
  have kaD_0 : (w7).cell? ⟨w.heap.size, 0, none⟩ = some (.slice caD_0 xD.1.length caD_1) := HBK7_aD.out.cell 0
  have kaD_1 : (w7).cell? ⟨w.heap.size, 1, none⟩ = some (.slice caD_2 xD.2.1.length caD_3) := HBK7_aD.out.cell 1
  have kaD_2 : (w7).cell? ⟨w.heap.size, 2, none⟩ = some (.slice caD_4 xD.2.2.1.length caD_5) := HBK7_aD.out.cell 2
  have kaD_3 : (w7).cell? ⟨w.heap.size, 3, none⟩ = some (.slice caD_6 xD.2.2.2.1.length caD_7) := HBK7_aD.out.cell 3
  have kaD_4 : (w7).cell? ⟨w.heap.size, 4, none⟩ = some (.int .i64 xD.2.2.2.2) := HBK7_aD.out.cell 4
  have kw0_0 : (w7).cell? ⟨w3.heap.size, 0, none⟩ = some (.bool r.1) := HBK7_w0.out.cell 0
  have kw0_1 : (w7).cell? ⟨w3.heap.size, 1, none⟩ = some (.slice cw0_0 r.2.length cw0_1) := HBK7_w0.out.cell 1
  have kx0_0 : (w7).cell? ⟨w5.heap.size, 0, none⟩ = some (.slice cx0_0 xD.1.length cx0_1) := HBK7_x0.out.cell 0
  have kx0_1 : (w7).cell? ⟨w5.heap.size, 1, none⟩ = some (.slice cx0_2 xD.2.1.length cx0_3) := HBK7_x0.out.cell 1
  have kx0_2 : (w7).cell? ⟨w5.heap.size, 2, none⟩ = some (.slice cx0_4 xD.2.2.1.length cx0_5) := HBK7_x0.out.cell 2
  have kx0_3 : (w7).cell? ⟨w5.heap.size, 3, none⟩ = some (.slice cx0_6 xD.2.2.2.1.length cx0_7) := HBK7_x0.out.cell 3
  have kx0_4 : (w7).cell? ⟨w5.heap.size, 4, none⟩ = some (.int .i64 xD.2.2.2.2) := HBK7_x0.out.cell 4
  have G0_7 := Sec.mk ho7
  clear ho7
  obtain ⟨cg0_0, cg0_1, rfl⟩ := cellsContent G0_7.out.rd
  have hma7 := ((Mod.refl (fun _ => False) w7).alloc (.cells #[.bool r.1, .slice cg0_0 r.2.length cg0_1] 39))
  clear kaD_0 kaD_1 kaD_2 kaD_3 kaD_4
  clear kw0_0 kw0_1
  clear kx0_0 kx0_1 kx0_2 kx0_3 kx0_4
  have HBK8_aD := Sec.mk (HBK7_aD.out.mod hma7 id)
  clear HBK7_aD
  have HBK8_w0 := Sec.mk (HBK7_w0.out.mod hma7 id)
  clear HBK7_w0
  have HBK8_x0 := Sec.mk (HBK7_x0.out.mod hma7 id)
  clear HBK7_x0
  have W0_8 := Sec.mk (W0_7.out.step hma7)
  clear W0_7
  have X0_8 := Sec.mk (X0_7.out.step hma7)
  clear X0_7
  have G0_8 := Sec.mk (G0_7.out.step hma7)
  clear G0_7
  have HM8 := Sec.mk (HM7.out.transN hma7)
  clear HM7
  have hs8 := hma7.size
  clear hma7
  have kaD_0 : (w7.alloc (.cells #[.bool r.1, .slice cg0_0 r.2.length cg0_1] 39)).cell? ⟨w.heap.size, 0, none⟩ = some (.slice caD_0 xD.1.length caD_1) := HBK8_aD.out.cell 0
  have kaD_1 : (w7.alloc (.cells #[.bool r.1, .slice cg0_0 r.2.length cg0_1] 39)).cell? ⟨w.heap.size, 1, none⟩ = some (.slice caD_2 xD.2.1.length caD_3) := HBK8_aD.out.cell 1
  have kaD_2 : (w7.alloc (.cells #[.bool r.1, .slice cg0_0 r.2.length cg0_1] 39)).cell? ⟨w.heap.size, 2, none⟩ = some (.slice caD_4 xD.2.2.1.length caD_5) := HBK8_aD.out.cell 2
  have kaD_3 : (w7.alloc (.cells #[.bool r.1, .slice cg0_0 r.2.length cg0_1] 39)).cell? ⟨w.heap.size, 3, none⟩ = some (.slice caD_6 xD.2.2.2.1.length caD_7) := HBK8_aD.out.cell 3
  have kaD_4 : (w7.alloc (.cells #[.bool r.1, .slice cg0_0 r.2.length cg0_1] 39)).cell? ⟨w.heap.size, 4, none⟩ = some (.int .i64 xD.2.2.2.2) := HBK8_aD.out.cell 4
  have kw0_0 : (w7.alloc (.cells #[.bool r.1, .slice cg0_0 r.2.length cg0_1] 39)).cell? ⟨w3.heap.size, 0, none⟩ = some (.bool r.1) := HBK8_w0.out.cell 0
  have kw0_1 : (w7.alloc (.cells #[.bool r.1, .slice cg0_0 r.2.length cg0_1] 39)).cell? ⟨w3.heap.size, 1, none⟩ = some (.slice cw0_0 r.2.length cw0_1) := HBK8_w0.out.cell 1
  have kx0_0 : (w7.alloc (.cells #[.bool r.1, .slice cg0_0 r.2.length cg0_1] 39)).cell? ⟨w5.heap.size, 0, none⟩ = some (.slice cx0_0 xD.1.length cx0_1) := HBK8_x0.out.cell 0
  have kx0_1 : (w7.alloc (.cells #[.bool r.1, .slice cg0_0 r.2.length cg0_1] 39)).cell? ⟨w5.heap.size, 1, none⟩ = some (.slice cx0_2 xD.2.1.length cx0_3) := HBK8_x0.out.cell 1
  have kx0_2 : (w7.alloc (.cells #[.bool r.1, .slice cg0_0 r.2.length cg0_1] 39)).cell? ⟨w5.heap.size, 2, none⟩ = some (.slice cx0_4 xD.2.2.1.length cx0_5) := HBK8_x0.out.cell 2
  have kx0_3 : (w7.alloc (.cells #[.bool r.1, .slice cg0_0 r.2.length cg0_1] 39)).cell? ⟨w5.heap.size, 3, none⟩ = some (.slice cx0_6 xD.2.2.2.1.length cx0_7) := HBK8_x0.out.cell 3
  have kx0_4 : (w7.alloc (.cells #[.bool r.1, .slice cg0_0 r.2.length cg0_1] 39)).cell? ⟨w5.heap.size, 4, none⟩ = some (.int .i64 xD.2.2.2.2) := HBK8_x0.out.cell 4
  have HBK_g0 := Sec.mk (Blk.new w7 39 [.bool r.1, .slice cg0_0 r.2.length cg0_1])
  have hz7 : (w7.alloc (.cells #[.bool r.1, .slice cg0_0 r.2.length cg0_1] 39)).heap.size = w7.heap.size + 1 := by simp
  clear kaD_0 kaD_1 kaD_2 kaD_3 kaD_4
  clear kw0_0 kw0_1
  clear kx0_0 kx0_1 kx0_2 kx0_3 kx0_4
  have kaD_0 : (w7.alloc (.cells #[.bool r.1, .slice cg0_0 r.2.length cg0_1] 39)).cell? ⟨w.heap.size, 0, none⟩ = some (.slice caD_0 xD.1.length caD_1) := HBK8_aD.out.cell 0
  have kaD_1 : (w7.alloc (.cells #[.bool r.1, .slice cg0_0 r.2.length cg0_1] 39)).cell? ⟨w.heap.size, 1, none⟩ = some (.slice caD_2 xD.2.1.length caD_3) := HBK8_aD.out.cell 1
  have kaD_2 : (w7.alloc (.cells #[.bool r.1, .slice cg0_0 r.2.length cg0_1] 39)).cell? ⟨w.heap.size, 2, none⟩ = some (.slice caD_4 xD.2.2.1.length caD_5) := HBK8_aD.out.cell 2
  have kaD_3 : (w7.alloc (.cells #[.bool r.1, .slice cg0_0 r.2.length cg0_1] 39)).cell? ⟨w.heap.size, 3, none⟩ = some (.slice caD_6 xD.2.2.2.1.length caD_7) := HBK8_aD.out.cell 3
  have kaD_4 : (w7.alloc (.cells #[.bool r.1, .slice cg0_0 r.2.length cg0_1] 39)).cell? ⟨w.heap.size, 4, none⟩ = some (.int .i64 xD.2.2.2.2) := HBK8_aD.out.cell 4
  have kw0_0 : (w7.alloc (.cells #[.bool r.1, .slice cg0_0 r.2.length cg0_1] 39)).cell? ⟨w3.heap.size, 0, none⟩ = some (.bool r.1) := HBK8_w0.out.cell 0
  have kw0_1 : (w7.alloc (.cells #[.bool r.1, .slice cg0_0 r.2.length cg0_1] 39)).cell? ⟨w3.heap.size, 1, none⟩ = some (.slice cw0_0 r.2.length cw0_1) := HBK8_w0.out.cell 1
  have kx0_0 : (w7.alloc (.cells #[.bool r.1, .slice cg0_0 r.2.length cg0_1] 39)).cell? ⟨w5.heap.size, 0, none⟩ = some (.slice cx0_0 xD.1.length cx0_1) := HBK8_x0.out.cell 0
  have kx0_1 : (w7.alloc (.cells #[.bool r.1, .slice cg0_0 r.2.length cg0_1] 39)).cell? ⟨w5.heap.size, 1, none⟩ = some (.slice cx0_2 xD.2.1.length cx0_3) := HBK8_x0.out.cell 1
  have kx0_2 : (w7.alloc (.cells #[.bool r.1, .slice cg0_0 r.2.length cg0_1] 39)).cell? ⟨w5.heap.size, 2, none⟩ = some (.slice cx0_4 xD.2.2.1.length cx0_5) := HBK8_x0.out.cell 2
  have kx0_3 : (w7.alloc (.cells #[.bool r.1, .slice cg0_0 r.2.length cg0_1] 39)).cell? ⟨w5.heap.size, 3, none⟩ = some (.slice cx0_6 xD.2.2.2.1.length cx0_7) := HBK8_x0.out.cell 3
  have kx0_4 : (w7.alloc (.cells #[.bool r.1, .slice cg0_0 r.2.length cg0_1] 39)).cell? ⟨w5.heap.size, 4, none⟩ = some (.int .i64 xD.2.2.2.2) := HBK8_x0.out.cell 4
  have kg0_0 : (w7.alloc (.cells #[.bool r.1, .slice cg0_0 r.2.length cg0_1] 39)).cell? ⟨w7.heap.size, 0, none⟩ = some (.bool r.1) := HBK_g0.out.cell 0
  have kg0_1 : (w7.alloc (.cells #[.bool r.1, .slice cg0_0 r.2.length cg0_1] 39)).cell? ⟨w7.heap.size, 1, none⟩ = some (.slice cg0_0 r.2.length cg0_1) := HBK_g0.out.cell 1
  go_wp2_with fail
  refine (eqContent_v G0_8.out.rd W0_8.out.rd).mono ?_
  rintro e w9 ⟨rfl, hm9⟩
  clear kaD_0 kaD_1 kaD_2 kaD_3 kaD_4
  clear kw0_0 kw0_1
  clear kx0_0 kx0_1 kx0_2 kx0_3 kx0_4
  clear kg0_0 kg0_1
  have HBK9_aD := Sec.mk (HBK8_aD.out.mod hm9 id)
  clear HBK8_aD
  have HBK9_w0 := Sec.mk (HBK8_w0.out.mod hm9 id)
  clear HBK8_w0
  have HBK9_x0 := Sec.mk (HBK8_x0.out.mod hm9 id)
  clear HBK8_x0
  have HBK9_g0 := Sec.mk (HBK_g0.out.mod hm9 id)
  clear HBK_g0
  have W0_9 := Sec.mk (W0_8.out.step hm9)
  clear W0_8
  have X0_9 := Sec.mk (X0_8.out.step hm9)
  clear X0_8
  have G0_9 := Sec.mk (G0_8.out.step hm9)
  clear G0_8
  have HM9 := Sec.mk (HM8.out.transN hm9)
  clear HM8
  have hs9 := hm9.size
  clear hm9
  have kaD_0 : (w9).cell? ⟨w.heap.size, 0, none⟩ = some (.slice caD_0 xD.1.length caD_1) := HBK9_aD.out.cell 0
  have kaD_1 : (w9).cell? ⟨w.heap.size, 1, none⟩ = some (.slice caD_2 xD.2.1.length caD_3) := HBK9_aD.out.cell 1
  have kaD_2 : (w9).cell? ⟨w.heap.size, 2, none⟩ = some (.slice caD_4 xD.2.2.1.length caD_5) := HBK9_aD.out.cell 2
  have kaD_3 : (w9).cell? ⟨w.heap.size, 3, none⟩ = some (.slice caD_6 xD.2.2.2.1.length caD_7) := HBK9_aD.out.cell 3
  have kaD_4 : (w9).cell? ⟨w.heap.size, 4, none⟩ = some (.int .i64 xD.2.2.2.2) := HBK9_aD.out.cell 4
  have kw0_0 : (w9).cell? ⟨w3.heap.size, 0, none⟩ = some (.bool r.1) := HBK9_w0.out.cell 0
  have kw0_1 : (w9).cell? ⟨w3.heap.size, 1, none⟩ = some (.slice cw0_0 r.2.length cw0_1) := HBK9_w0.out.cell 1
  have kx0_0 : (w9).cell? ⟨w5.heap.size, 0, none⟩ = some (.slice cx0_0 xD.1.length cx0_1) := HBK9_x0.out.cell 0
  have kx0_1 : (w9).cell? ⟨w5.heap.size, 1, none⟩ = some (.slice cx0_2 xD.2.1.length cx0_3) := HBK9_x0.out.cell 1
  have kx0_2 : (w9).cell? ⟨w5.heap.size, 2, none⟩ = some (.slice cx0_4 xD.2.2.1.length cx0_5) := HBK9_x0.out.cell 2
  have kx0_3 : (w9).cell? ⟨w5.heap.size, 3, none⟩ = some (.slice cx0_6 xD.2.2.2.1.length cx0_7) := HBK9_x0.out.cell 3
  have kx0_4 : (w9).cell? ⟨w5.heap.size, 4, none⟩ = some (.int .i64 xD.2.2.2.2) := HBK9_x0.out.cell 4
  have kg0_0 : (w9).cell? ⟨w7.heap.size, 0, none⟩ = some (.bool r.1) := HBK9_g0.out.cell 0
  have kg0_1 : (w9).cell? ⟨w7.heap.size, 1, none⟩ = some (.slice cg0_0 r.2.length cg0_1) := HBK9_g0.out.cell 1
  rw [show decide (r = r) = true by simp]
  go_wp2
  refine reg_start [] (fun W => Sec (New (w9) W)) (by kernel_rfl) ?_
  have HSS : Sec (New (w9) (w9).drew) := ⟨(Mod.refl _ _).drew⟩
  refine reg_take (.agg #[.slice cx0_0 xD.1.length cx0_1, .slice cx0_2 xD.2.1.length cx0_3, .slice cx0_4 xD.2.2.1.length cx0_5, .slice cx0_6 xD.2.2.2.1.length cx0_7, .int .i64 xD.2.2.2.2]) (i := 0) (n := 34) HSS rfl (by kernel_rfl) (by kernel_rfl) (by kernel_rfl) (by kernel_rfl) (fun _ _ _ h => h) (fun W hW => exec_load rfl rfl (ldDiskI (HBK9_x0.out.mod hW.out id))) ?_
  simp only [Act.put, List.setIfInBounds_toArray, List.set_cons_zero, List.set_cons_succ]
  refine reg_take (.agg #[.slice caD_0 xD.1.length caD_1, .slice caD_2 xD.2.1.length caD_3, .slice caD_4 xD.2.2.1.length caD_5, .slice caD_6 xD.2.2.2.1.length caD_7, .int .i64 xD.2.2.2.2]) (i := 1) (n := 35) HSS rfl (by kernel_rfl) (by kernel_rfl) (by kernel_rfl) (by kernel_rfl) (fun _ _ _ h => h) (fun W hW => exec_load rfl rfl (ldDiskL (HBK9_aD.out.mod hW.out id))) ?_
  simp only [Act.put, List.setIfInBounds_toArray, List.set_cons_zero, List.set_cons_succ]
  refine reg_step (i := 2) rfl (by kernel_rfl) (fun K hK => ?_)
  refine wp_call (n := 36) (vals := [.agg #[.slice caD_0 xD.1.length caD_1, .slice caD_2 xD.2.1.length caD_3, .slice caD_4 xD.2.2.1.length caD_5, .slice caD_6 xD.2.2.2.1.length caD_7, .int .i64 xD.2.2.2.2]]) rfl rfl rfl (by kernel_rfl) (toDisk_v (HRaD.out.step (HM9.out.transN HSS.out)) hb0) ?_
  rintro e w10' ⟨v10, rfl, ho10, hm10⟩
  have HO10 := Sec.mk ho10
  have HSS : Sec (New (w9) w10') := ⟨HSS.out.transN hm10⟩
  refine ⟨_, rfl, hK.out _ _ (fun _ => HSS) ?_⟩
  clear hm10 ho10
  clear hK K
  simp only [Act.put, List.setIfInBounds_toArray, List.set_cons_zero, List.set_cons_succ]
  refine reg_step (i := 3) rfl (by kernel_rfl) (fun K hK => ?_)
  refine wp_call (n := 37) (vals := [.agg #[.slice cx0_0 xD.1.length cx0_1, .slice cx0_2 xD.2.1.length cx0_3, .slice cx0_4 xD.2.2.1.length cx0_5, .slice cx0_6 xD.2.2.2.1.length cx0_7, .int .i64 xD.2.2.2.2], v10]) rfl rfl rfl (by kernel_rfl) (eqDisk_same (X0_9.out.rd.step HSS.out) HO10.out.rd) ?_
  rintro e w10 ⟨rfl, hn10⟩
  have HSS : Sec (New (w9) w10) := ⟨HSS.out.transN hn10⟩
  refine ⟨_, rfl, hK.out _ _ (fun _ => HSS) ?_⟩
  clear hn10
  clear hK K
  simp only [Act.put, List.setIfInBounds_toArray, List.set_cons_zero, List.set_cons_succ]
  refine reg_take (.bool false) (i := 4) (n := 38) HSS rfl (by kernel_rfl) (by kernel_rfl) (by kernel_rfl) (by kernel_rfl) (fun _ _ _ h => h) (fun W hW => exec_un rfl rfl (by go_simp)) ?_
  simp only [Act.put, List.setIfInBounds_toArray, List.set_cons_zero, List.set_cons_succ]
  refine reg_done (by kernel_rfl) ?_ _
  clear HO10
  have hm10 := HSS.out
  clear kaD_0 kaD_1 kaD_2 kaD_3 kaD_4
  clear kw0_0 kw0_1
  clear kx0_0 kx0_1 kx0_2 kx0_3 kx0_4
  clear kg0_0 kg0_1
  have HBK10_aD := Sec.mk (HBK9_aD.out.mod hm10 id)
  clear HBK9_aD
  have HBK10_w0 := Sec.mk (HBK9_w0.out.mod hm10 id)
  clear HBK9_w0
  have HBK10_x0 := Sec.mk (HBK9_x0.out.mod hm10 id)
  clear HBK9_x0
  have HBK10_g0 := Sec.mk (HBK9_g0.out.mod hm10 id)
  clear HBK9_g0
  have W0_10 := Sec.mk (W0_9.out.step hm10)
  clear W0_9
  have X0_10 := Sec.mk (X0_9.out.step hm10)
  clear X0_9
  have G0_10 := Sec.mk (G0_9.out.step hm10)
  clear G0_9
  have HM10 := Sec.mk (HM9.out.transN hm10)
  clear HM9
  have hs10 := hm10.size
  clear hm10
  have kaD_0 : (w10).cell? ⟨w.heap.size, 0, none⟩ = some (.slice caD_0 xD.1.length caD_1) := HBK10_aD.out.cell 0
  have kaD_1 : (w10).cell? ⟨w.heap.size, 1, none⟩ = some (.slice caD_2 xD.2.1.length caD_3) := HBK10_aD.out.cell 1
  have kaD_2 : (w10).cell? ⟨w.heap.size, 2, none⟩ = some (.slice caD_4 xD.2.2.1.length caD_5) := HBK10_aD.out.cell 2
  have kaD_3 : (w10).cell? ⟨w.heap.size, 3, none⟩ = some (.slice caD_6 xD.2.2.2.1.length caD_7) := HBK10_aD.out.cell 3
  have kaD_4 : (w10).cell? ⟨w.heap.size, 4, none⟩ = some (.int .i64 xD.2.2.2.2) := HBK10_aD.out.cell 4
  have kw0_0 : (w10).cell? ⟨w3.heap.size, 0, none⟩ = some (.bool r.1) := HBK10_w0.out.cell 0
  have kw0_1 : (w10).cell? ⟨w3.heap.size, 1, none⟩ = some (.slice cw0_0 r.2.length cw0_1) := HBK10_w0.out.cell 1
  have kx0_0 : (w10).cell? ⟨w5.heap.size, 0, none⟩ = some (.slice cx0_0 xD.1.length cx0_1) := HBK10_x0.out.cell 0
  have kx0_1 : (w10).cell? ⟨w5.heap.size, 1, none⟩ = some (.slice cx0_2 xD.2.1.length cx0_3) := HBK10_x0.out.cell 1
  have kx0_2 : (w10).cell? ⟨w5.heap.size, 2, none⟩ = some (.slice cx0_4 xD.2.2.1.length cx0_5) := HBK10_x0.out.cell 2
  have kx0_3 : (w10).cell? ⟨w5.heap.size, 3, none⟩ = some (.slice cx0_6 xD.2.2.2.1.length cx0_7) := HBK10_x0.out.cell 3
  have kx0_4 : (w10).cell? ⟨w5.heap.size, 4, none⟩ = some (.int .i64 xD.2.2.2.2) := HBK10_x0.out.cell 4
  have kg0_0 : (w10).cell? ⟨w7.heap.size, 0, none⟩ = some (.bool r.1) := HBK10_g0.out.cell 0
  have kg0_1 : (w10).cell? ⟨w7.heap.size, 1, none⟩ = some (.slice cg0_0 r.2.length cg0_1) := HBK10_g0.out.cell 1
  clear HSS
  go_wp2_with fail
  refine (markDisk_v X0_10.out (1) (by omega)).mono ?_
  rintro e w11 ⟨rfl, ho11, hm11⟩
  clear X0_10
  clear kaD_0 kaD_1 kaD_2 kaD_3 kaD_4
  clear kw0_0 kw0_1
  clear kx0_0 kx0_1 kx0_2 kx0_3 kx0_4
  clear kg0_0 kg0_1
  have HBK11_aD := Sec.mk (HBK10_aD.out.mod hm11 (by omega))
  clear HBK10_aD
  have HBK11_w0 := Sec.mk (HBK10_w0.out.mod hm11 (by omega))
  clear HBK10_w0
  have HBK11_x0 := Sec.mk (HBK10_x0.out.mod hm11 (by omega))
  clear HBK10_x0
  have HBK11_g0 := Sec.mk (HBK10_g0.out.mod hm11 (by omega))
  clear HBK10_g0
  have W0_11 := Sec.mk (W0_10.out.keep hm11 (fun k h1 h2 h3 => by omega))
  clear W0_10
  have G0_11 := Sec.mk (G0_10.out.keep hm11 (fun k h1 h2 h3 => by omega))
  clear G0_10
  have HM11 := Sec.mk (HM10.out.trans hm11 (fun i hi hlt => by omega))
  clear HM10
  have hs11 := hm11.size
  clear hm11
  have kaD_0 : (w11).cell? ⟨w.heap.size, 0, none⟩ = some (.slice caD_0 xD.1.length caD_1) := HBK11_aD.out.cell 0
  have kaD_1 : (w11).cell? ⟨w.heap.size, 1, none⟩ = some (.slice caD_2 xD.2.1.length caD_3) := HBK11_aD.out.cell 1
  have kaD_2 : (w11).cell? ⟨w.heap.size, 2, none⟩ = some (.slice caD_4 xD.2.2.1.length caD_5) := HBK11_aD.out.cell 2
  have kaD_3 : (w11).cell? ⟨w.heap.size, 3, none⟩ = some (.slice caD_6 xD.2.2.2.1.length caD_7) := HBK11_aD.out.cell 3
  have kaD_4 : (w11).cell? ⟨w.heap.size, 4, none⟩ = some (.int .i64 xD.2.2.2.2) := HBK11_aD.out.cell 4
  have kw0_0 : (w11).cell? ⟨w3.heap.size, 0, none⟩ = some (.bool r.1) := HBK11_w0.out.cell 0
  have kw0_1 : (w11).cell? ⟨w3.heap.size, 1, none⟩ = some (.slice cw0_0 r.2.length cw0_1) := HBK11_w0.out.cell 1
  have kx0_0 : (w11).cell? ⟨w5.heap.size, 0, none⟩ = some (.slice cx0_0 xD.1.length cx0_1) := HBK11_x0.out.cell 0
  have kx0_1 : (w11).cell? ⟨w5.heap.size, 1, none⟩ = some (.slice cx0_2 xD.2.1.length cx0_3) := HBK11_x0.out.cell 1
  have kx0_2 : (w11).cell? ⟨w5.heap.size, 2, none⟩ = some (.slice cx0_4 xD.2.2.1.length cx0_5) := HBK11_x0.out.cell 2
  have kx0_3 : (w11).cell? ⟨w5.heap.size, 3, none⟩ = some (.slice cx0_6 xD.2.2.2.1.length cx0_7) := HBK11_x0.out.cell 3
  have kx0_4 : (w11).cell? ⟨w5.heap.size, 4, none⟩ = some (.int .i64 xD.2.2.2.2) := HBK11_x0.out.cell 4
  have kg0_0 : (w11).cell? ⟨w7.heap.size, 0, none⟩ = some (.bool r.1) := HBK11_g0.out.cell 0
  have kg0_1 : (w11).cell? ⟨w7.heap.size, 1, none⟩ = some (.slice cg0_0 r.2.length cg0_1) := HBK11_g0.out.cell 1
  have X0_11 := Sec.mk ho11
  clear ho11
  go_wp2_with fail
  refine (eqContent_v G0_11.out.rd W0_11.out.rd).mono ?_
  rintro e w12 ⟨rfl, hm12⟩
  clear kaD_0 kaD_1 kaD_2 kaD_3 kaD_4
  clear kw0_0 kw0_1
  clear kx0_0 kx0_1 kx0_2 kx0_3 kx0_4
  clear kg0_0 kg0_1
  have HBK12_aD := Sec.mk (HBK11_aD.out.mod hm12 id)
  clear HBK11_aD
  have HBK12_w0 := Sec.mk (HBK11_w0.out.mod hm12 id)
  clear HBK11_w0
  have HBK12_x0 := Sec.mk (HBK11_x0.out.mod hm12 id)
  clear HBK11_x0
  have HBK12_g0 := Sec.mk (HBK11_g0.out.mod hm12 id)
  clear HBK11_g0
  have W0_12 := Sec.mk (W0_11.out.step hm12)
  clear W0_11
  have X0_12 := Sec.mk (X0_11.out.step hm12)
  clear X0_11
  have G0_12 := Sec.mk (G0_11.out.step hm12)
  clear G0_11
  have HM12 := Sec.mk (HM11.out.transN hm12)
  clear HM11
  have hs12 := hm12.size
  clear hm12
  have kaD_0 : (w12).cell? ⟨w.heap.size, 0, none⟩ = some (.slice caD_0 xD.1.length caD_1) := HBK12_aD.out.cell 0
  have kaD_1 : (w12).cell? ⟨w.heap.size, 1, none⟩ = some (.slice caD_2 xD.2.1.length caD_3) := HBK12_aD.out.cell 1
  have kaD_2 : (w12).cell? ⟨w.heap.size, 2, none⟩ = some (.slice caD_4 xD.2.2.1.length caD_5) := HBK12_aD.out.cell 2
  have kaD_3 : (w12).cell? ⟨w.heap.size, 3, none⟩ = some (.slice caD_6 xD.2.2.2.1.length caD_7) := HBK12_aD.out.cell 3
  have kaD_4 : (w12).cell? ⟨w.heap.size, 4, none⟩ = some (.int .i64 xD.2.2.2.2) := HBK12_aD.out.cell 4
  have kw0_0 : (w12).cell? ⟨w3.heap.size, 0, none⟩ = some (.bool r.1) := HBK12_w0.out.cell 0
  have kw0_1 : (w12).cell? ⟨w3.heap.size, 1, none⟩ = some (.slice cw0_0 r.2.length cw0_1) := HBK12_w0.out.cell 1
  have kx0_0 : (w12).cell? ⟨w5.heap.size, 0, none⟩ = some (.slice cx0_0 xD.1.length cx0_1) := HBK12_x0.out.cell 0
  have kx0_1 : (w12).cell? ⟨w5.heap.size, 1, none⟩ = some (.slice cx0_2 xD.2.1.length cx0_3) := HBK12_x0.out.cell 1
  have kx0_2 : (w12).cell? ⟨w5.heap.size, 2, none⟩ = some (.slice cx0_4 xD.2.2.1.length cx0_5) := HBK12_x0.out.cell 2
  have kx0_3 : (w12).cell? ⟨w5.heap.size, 3, none⟩ = some (.slice cx0_6 xD.2.2.2.1.length cx0_7) := HBK12_x0.out.cell 3
  have kx0_4 : (w12).cell? ⟨w5.heap.size, 4, none⟩ = some (.int .i64 xD.2.2.2.2) := HBK12_x0.out.cell 4
  have kg0_0 : (w12).cell? ⟨w7.heap.size, 0, none⟩ = some (.bool r.1) := HBK12_g0.out.cell 0
  have kg0_1 : (w12).cell? ⟨w7.heap.size, 1, none⟩ = some (.slice cg0_0 r.2.length cg0_1) := HBK12_g0.out.cell 1
  rw [show decide (r = r) = true by simp]
  go_wp2_with fail
  refine (markContent_v G0_12.out (1) (by omega)).mono ?_
  rintro e w13 ⟨rfl, ho13, hm13⟩
  clear G0_12
  clear kaD_0 kaD_1 kaD_2 kaD_3 kaD_4
  clear kw0_0 kw0_1
  clear kx0_0 kx0_1 kx0_2 kx0_3 kx0_4
  clear kg0_0 kg0_1
  have HBK13_aD := Sec.mk (HBK12_aD.out.mod hm13 (by omega))
  clear HBK12_aD
  have HBK13_w0 := Sec.mk (HBK12_w0.out.mod hm13 (by omega))
  clear HBK12_w0
  have HBK13_x0 := Sec.mk (HBK12_x0.out.mod hm13 (by omega))
  clear HBK12_x0
  have HBK13_g0 := Sec.mk (HBK12_g0.out.mod hm13 (by omega))
  clear HBK12_g0
  have W0_13 := Sec.mk (W0_12.out.keep hm13 (fun k h1 h2 h3 => by omega))
  clear W0_12
  have X0_13 := Sec.mk (X0_12.out.keep hm13 (fun k h1 h2 h3 => by omega))
  clear X0_12
  have HM13 := Sec.mk (HM12.out.trans hm13 (fun i hi hlt => by omega))
  clear HM12
  have hs13 := hm13.size
  clear hm13
  have kaD_0 : (w13).cell? ⟨w.heap.size, 0, none⟩ = some (.slice caD_0 xD.1.length caD_1) := HBK13_aD.out.cell 0
  have kaD_1 : (w13).cell? ⟨w.heap.size, 1, none⟩ = some (.slice caD_2 xD.2.1.length caD_3) := HBK13_aD.out.cell 1
  have kaD_2 : (w13).cell? ⟨w.heap.size, 2, none⟩ = some (.slice caD_4 xD.2.2.1.length caD_5) := HBK13_aD.out.cell 2
  have kaD_3 : (w13).cell? ⟨w.heap.size, 3, none⟩ = some (.slice caD_6 xD.2.2.2.1.length caD_7) := HBK13_aD.out.cell 3
  have kaD_4 : (w13).cell? ⟨w.heap.size, 4, none⟩ = some (.int .i64 xD.2.2.2.2) := HBK13_aD.out.cell 4
  have kw0_0 : (w13).cell? ⟨w3.heap.size, 0, none⟩ = some (.bool r.1) := HBK13_w0.out.cell 0
  have kw0_1 : (w13).cell? ⟨w3.heap.size, 1, none⟩ = some (.slice cw0_0 r.2.length cw0_1) := HBK13_w0.out.cell 1
  have kx0_0 : (w13).cell? ⟨w5.heap.size, 0, none⟩ = some (.slice cx0_0 xD.1.length cx0_1) := HBK13_x0.out.cell 0
  have kx0_1 : (w13).cell? ⟨w5.heap.size, 1, none⟩ = some (.slice cx0_2 xD.2.1.length cx0_3) := HBK13_x0.out.cell 1
  have kx0_2 : (w13).cell? ⟨w5.heap.size, 2, none⟩ = some (.slice cx0_4 xD.2.2.1.length cx0_5) := HBK13_x0.out.cell 2
  have kx0_3 : (w13).cell? ⟨w5.heap.size, 3, none⟩ = some (.slice cx0_6 xD.2.2.2.1.length cx0_7) := HBK13_x0.out.cell 3
  have kx0_4 : (w13).cell? ⟨w5.heap.size, 4, none⟩ = some (.int .i64 xD.2.2.2.2) := HBK13_x0.out.cell 4
  have kg0_0 : (w13).cell? ⟨w7.heap.size, 0, none⟩ = some (.bool r.1) := HBK13_g0.out.cell 0
  have kg0_1 : (w13).cell? ⟨w7.heap.size, 1, none⟩ = some (.slice cg0_0 r.2.length cg0_1) := HBK13_g0.out.cell 1
  have G0_13 := Sec.mk ho13
  clear ho13
  have HX := Sec.mk (mkContent1_idem 1 1 r).symm
  have HK := Sec.mk (cntContent_mk 1 r)
  go_wp2_with fail
  refine (heldContent_v G0_13.out.rd 1 HX.out (by rw [HK.out]; omega)).mono ?_
  rintro e w14 ⟨rfl, hm14⟩
  rw [HK.out]
  clear kaD_0 kaD_1 kaD_2 kaD_3 kaD_4
  clear kw0_0 kw0_1
  clear kx0_0 kx0_1 kx0_2 kx0_3 kx0_4
  clear kg0_0 kg0_1
  have HBK14_aD := Sec.mk (HBK13_aD.out.mod hm14 id)
  clear HBK13_aD
  have HBK14_w0 := Sec.mk (HBK13_w0.out.mod hm14 id)
  clear HBK13_w0
  have HBK14_x0 := Sec.mk (HBK13_x0.out.mod hm14 id)
  clear HBK13_x0
  have HBK14_g0 := Sec.mk (HBK13_g0.out.mod hm14 id)
  clear HBK13_g0
  have W0_14 := Sec.mk (W0_13.out.step hm14)
  clear W0_13
  have X0_14 := Sec.mk (X0_13.out.step hm14)
  clear X0_13
  have G0_14 := Sec.mk (G0_13.out.step hm14)
  clear G0_13
  have HM14 := Sec.mk (HM13.out.transN hm14)
  clear HM13
  have hs14 := hm14.size
  clear hm14
  have kaD_0 : (w14).cell? ⟨w.heap.size, 0, none⟩ = some (.slice caD_0 xD.1.length caD_1) := HBK14_aD.out.cell 0
  have kaD_1 : (w14).cell? ⟨w.heap.size, 1, none⟩ = some (.slice caD_2 xD.2.1.length caD_3) := HBK14_aD.out.cell 1
  have kaD_2 : (w14).cell? ⟨w.heap.size, 2, none⟩ = some (.slice caD_4 xD.2.2.1.length caD_5) := HBK14_aD.out.cell 2
  have kaD_3 : (w14).cell? ⟨w.heap.size, 3, none⟩ = some (.slice caD_6 xD.2.2.2.1.length caD_7) := HBK14_aD.out.cell 3
  have kaD_4 : (w14).cell? ⟨w.heap.size, 4, none⟩ = some (.int .i64 xD.2.2.2.2) := HBK14_aD.out.cell 4
  have kw0_0 : (w14).cell? ⟨w3.heap.size, 0, none⟩ = some (.bool r.1) := HBK14_w0.out.cell 0
  have kw0_1 : (w14).cell? ⟨w3.heap.size, 1, none⟩ = some (.slice cw0_0 r.2.length cw0_1) := HBK14_w0.out.cell 1
  have kx0_0 : (w14).cell? ⟨w5.heap.size, 0, none⟩ = some (.slice cx0_0 xD.1.length cx0_1) := HBK14_x0.out.cell 0
  have kx0_1 : (w14).cell? ⟨w5.heap.size, 1, none⟩ = some (.slice cx0_2 xD.2.1.length cx0_3) := HBK14_x0.out.cell 1
  have kx0_2 : (w14).cell? ⟨w5.heap.size, 2, none⟩ = some (.slice cx0_4 xD.2.2.1.length cx0_5) := HBK14_x0.out.cell 2
  have kx0_3 : (w14).cell? ⟨w5.heap.size, 3, none⟩ = some (.slice cx0_6 xD.2.2.2.1.length cx0_7) := HBK14_x0.out.cell 3
  have kx0_4 : (w14).cell? ⟨w5.heap.size, 4, none⟩ = some (.int .i64 xD.2.2.2.2) := HBK14_x0.out.cell 4
  have kg0_0 : (w14).cell? ⟨w7.heap.size, 0, none⟩ = some (.bool r.1) := HBK14_g0.out.cell 0
  have kg0_1 : (w14).cell? ⟨w7.heap.size, 1, none⟩ = some (.slice cg0_0 r.2.length cg0_1) := HBK14_g0.out.cell 1
  go_wp2_with fail
  refine (toDisk_v (HRaD.out.step HM14.out) hb0).mono ?_
  rintro e w15 ⟨v15, rfl, ho15, hm15⟩
  clear kaD_0 kaD_1 kaD_2 kaD_3 kaD_4
  clear kw0_0 kw0_1
  clear kx0_0 kx0_1 kx0_2 kx0_3 kx0_4
  clear kg0_0 kg0_1
  have HBK15_aD := Sec.mk (HBK14_aD.out.mod hm15 id)
  clear HBK14_aD
  have HBK15_w0 := Sec.mk (HBK14_w0.out.mod hm15 id)
  clear HBK14_w0
  have HBK15_x0 := Sec.mk (HBK14_x0.out.mod hm15 id)
  clear HBK14_x0
  have HBK15_g0 := Sec.mk (HBK14_g0.out.mod hm15 id)
  clear HBK14_g0
  have W0_15 := Sec.mk (W0_14.out.step hm15)
  clear W0_14
  have X0_15 := Sec.mk (X0_14.out.step hm15)
  clear X0_14
  have G0_15 := Sec.mk (G0_14.out.step hm15)
  clear G0_14
  have HM15 := Sec.mk (HM14.out.transN hm15)
  clear HM14
  have hs15 := hm15.size
  clear hm15
  have kaD_0 : (w15).cell? ⟨w.heap.size, 0, none⟩ = some (.slice caD_0 xD.1.length caD_1) := HBK15_aD.out.cell 0
  have kaD_1 : (w15).cell? ⟨w.heap.size, 1, none⟩ = some (.slice caD_2 xD.2.1.length caD_3) := HBK15_aD.out.cell 1
  have kaD_2 : (w15).cell? ⟨w.heap.size, 2, none⟩ = some (.slice caD_4 xD.2.2.1.length caD_5) := HBK15_aD.out.cell 2
  have kaD_3 : (w15).cell? ⟨w.heap.size, 3, none⟩ = some (.slice caD_6 xD.2.2.2.1.length caD_7) := HBK15_aD.out.cell 3
  have kaD_4 : (w15).cell? ⟨w.heap.size, 4, none⟩ = some (.int .i64 xD.2.2.2.2) := HBK15_aD.out.cell 4
  have kw0_0 : (w15).cell? ⟨w3.heap.size, 0, none⟩ = some (.bool r.1) := HBK15_w0.out.cell 0
  have kw0_1 : (w15).cell? ⟨w3.heap.size, 1, none⟩ = some (.slice cw0_0 r.2.length cw0_1) := HBK15_w0.out.cell 1
  have kx0_0 : (w15).cell? ⟨w5.heap.size, 0, none⟩ = some (.slice cx0_0 xD.1.length cx0_1) := HBK15_x0.out.cell 0
  have kx0_1 : (w15).cell? ⟨w5.heap.size, 1, none⟩ = some (.slice cx0_2 xD.2.1.length cx0_3) := HBK15_x0.out.cell 1
  have kx0_2 : (w15).cell? ⟨w5.heap.size, 2, none⟩ = some (.slice cx0_4 xD.2.2.1.length cx0_5) := HBK15_x0.out.cell 2
  have kx0_3 : (w15).cell? ⟨w5.heap.size, 3, none⟩ = some (.slice cx0_6 xD.2.2.2.1.length cx0_7) := HBK15_x0.out.cell 3
  have kx0_4 : (w15).cell? ⟨w5.heap.size, 4, none⟩ = some (.int .i64 xD.2.2.2.2) := HBK15_x0.out.cell 4
  have kg0_0 : (w15).cell? ⟨w7.heap.size, 0, none⟩ = some (.bool r.1) := HBK15_g0.out.cell 0
  have kg0_1 : (w15).cell? ⟨w7.heap.size, 1, none⟩ = some (.slice cg0_0 r.2.length cg0_1) := HBK15_g0.out.cell 1
  have TDH0_15 := Sec.mk ho15
  clear ho15
  go_wp2_with fail
  refine (implDiskRead_v TDH0_15.out.rd aName hsaName hb0 hbl0).mono ?_
  rw [HFN.out]
  rintro e w16 ⟨v16, rfl, ho16, hm16⟩
  clear kaD_0 kaD_1 kaD_2 kaD_3 kaD_4
  clear kw0_0 kw0_1
  clear kx0_0 kx0_1 kx0_2 kx0_3 kx0_4
  clear kg0_0 kg0_1
  have HBK16_aD := Sec.mk (HBK15_aD.out.mod hm16 id)
  clear HBK15_aD
  have HBK16_w0 := Sec.mk (HBK15_w0.out.mod hm16 id)
  clear HBK15_w0
  have HBK16_x0 := Sec.mk (HBK15_x0.out.mod hm16 id)
  clear HBK15_x0
  have HBK16_g0 := Sec.mk (HBK15_g0.out.mod hm16 id)
  clear HBK15_g0
  have W0_16 := Sec.mk (W0_15.out.step hm16)
  clear W0_15
  have X0_16 := Sec.mk (X0_15.out.step hm16)
  clear X0_15
  have G0_16 := Sec.mk (G0_15.out.step hm16)
  clear G0_15
  have TDH0_16 := Sec.mk (TDH0_15.out.step hm16)
  clear TDH0_15
  have HM16 := Sec.mk (HM15.out.transN hm16)
  clear HM15
  have hs16 := hm16.size
  clear hm16
  have kaD_0 : (w16).cell? ⟨w.heap.size, 0, none⟩ = some (.slice caD_0 xD.1.length caD_1) := HBK16_aD.out.cell 0
  have kaD_1 : (w16).cell? ⟨w.heap.size, 1, none⟩ = some (.slice caD_2 xD.2.1.length caD_3) := HBK16_aD.out.cell 1
  have kaD_2 : (w16).cell? ⟨w.heap.size, 2, none⟩ = some (.slice caD_4 xD.2.2.1.length caD_5) := HBK16_aD.out.cell 2
  have kaD_3 : (w16).cell? ⟨w.heap.size, 3, none⟩ = some (.slice caD_6 xD.2.2.2.1.length caD_7) := HBK16_aD.out.cell 3
  have kaD_4 : (w16).cell? ⟨w.heap.size, 4, none⟩ = some (.int .i64 xD.2.2.2.2) := HBK16_aD.out.cell 4
  have kw0_0 : (w16).cell? ⟨w3.heap.size, 0, none⟩ = some (.bool r.1) := HBK16_w0.out.cell 0
  have kw0_1 : (w16).cell? ⟨w3.heap.size, 1, none⟩ = some (.slice cw0_0 r.2.length cw0_1) := HBK16_w0.out.cell 1
  have kx0_0 : (w16).cell? ⟨w5.heap.size, 0, none⟩ = some (.slice cx0_0 xD.1.length cx0_1) := HBK16_x0.out.cell 0
  have kx0_1 : (w16).cell? ⟨w5.heap.size, 1, none⟩ = some (.slice cx0_2 xD.2.1.length cx0_3) := HBK16_x0.out.cell 1
  have kx0_2 : (w16).cell? ⟨w5.heap.size, 2, none⟩ = some (.slice cx0_4 xD.2.2.1.length cx0_5) := HBK16_x0.out.cell 2
  have kx0_3 : (w16).cell? ⟨w5.heap.size, 3, none⟩ = some (.slice cx0_6 xD.2.2.2.1.length cx0_7) := HBK16_x0.out.cell 3
  have kx0_4 : (w16).cell? ⟨w5.heap.size, 4, none⟩ = some (.int .i64 xD.2.2.2.2) := HBK16_x0.out.cell 4
  have kg0_0 : (w16).cell? ⟨w7.heap.size, 0, none⟩ = some (.bool r.1) := HBK16_g0.out.cell 0
  have kg0_1 : (w16).cell? ⟨w7.heap.size, 1, none⟩ = some (.slice cg0_0 r.2.length cg0_1) := HBK16_g0.out.cell 1
  have H0_16 := Sec.mk ho16
  clear ho16
  obtain ⟨ch0_0, ch0_1, rfl⟩ := cellsContent H0_16.out.rd
  have hma16 := ((Mod.refl (fun _ => False) w16).alloc (.cells #[.bool r.1, .slice ch0_0 r.2.length ch0_1] 39))
  clear kaD_0 kaD_1 kaD_2 kaD_3 kaD_4
  clear kw0_0 kw0_1
  clear kx0_0 kx0_1 kx0_2 kx0_3 kx0_4
  clear kg0_0 kg0_1
  have HBK17_aD := Sec.mk (HBK16_aD.out.mod hma16 id)
  clear HBK16_aD
  have HBK17_w0 := Sec.mk (HBK16_w0.out.mod hma16 id)
  clear HBK16_w0
  have HBK17_x0 := Sec.mk (HBK16_x0.out.mod hma16 id)
  clear HBK16_x0
  have HBK17_g0 := Sec.mk (HBK16_g0.out.mod hma16 id)
  clear HBK16_g0
  have W0_17 := Sec.mk (W0_16.out.step hma16)
  clear W0_16
  have X0_17 := Sec.mk (X0_16.out.step hma16)
  clear X0_16
  have G0_17 := Sec.mk (G0_16.out.step hma16)
  clear G0_16
  have TDH0_17 := Sec.mk (TDH0_16.out.step hma16)
  clear TDH0_16
  have H0_17 := Sec.mk (H0_16.out.step hma16)
  clear H0_16
  have HM17 := Sec.mk (HM16.out.transN hma16)
  clear HM16
  have hs17 := hma16.size
  clear hma16
  have kaD_0 : (w16.alloc (.cells #[.bool r.1, .slice ch0_0 r.2.length ch0_1] 39)).cell? ⟨w.heap.size, 0, none⟩ = some (.slice caD_0 xD.1.length caD_1) := HBK17_aD.out.cell 0
  have kaD_1 : (w16.alloc (.cells #[.bool r.1, .slice ch0_0 r.2.length ch0_1] 39)).cell? ⟨w.heap.size, 1, none⟩ = some (.slice caD_2 xD.2.1.length caD_3) := HBK17_aD.out.cell 1
  have kaD_2 : (w16.alloc (.cells #[.bool r.1, .slice ch0_0 r.2.length ch0_1] 39)).cell? ⟨w.heap.size, 2, none⟩ = some (.slice caD_4 xD.2.2.1.length caD_5) := HBK17_aD.out.cell 2
  have kaD_3 : (w16.alloc (.cells #[.bool r.1, .slice ch0_0 r.2.length ch0_1] 39)).cell? ⟨w.heap.size, 3, none⟩ = some (.slice caD_6 xD.2.2.2.1.length caD_7) := HBK17_aD.out.cell 3
  have kaD_4 : (w16.alloc (.cells #[.bool r.1, .slice ch0_0 r.2.length ch0_1] 39)).cell? ⟨w.heap.size, 4, none⟩ = some (.int .i64 xD.2.2.2.2) := HBK17_aD.out.cell 4
  have kw0_0 : (w16.alloc (.cells #[.bool r.1, .slice ch0_0 r.2.length ch0_1] 39)).cell? ⟨w3.heap.size, 0, none⟩ = some (.bool r.1) := HBK17_w0.out.cell 0
  have kw0_1 : (w16.alloc (.cells #[.bool r.1, .slice ch0_0 r.2.length ch0_1] 39)).cell? ⟨w3.heap.size, 1, none⟩ = some (.slice cw0_0 r.2.length cw0_1) := HBK17_w0.out.cell 1
  have kx0_0 : (w16.alloc (.cells #[.bool r.1, .slice ch0_0 r.2.length ch0_1] 39)).cell? ⟨w5.heap.size, 0, none⟩ = some (.slice cx0_0 xD.1.length cx0_1) := HBK17_x0.out.cell 0
  have kx0_1 : (w16.alloc (.cells #[.bool r.1, .slice ch0_0 r.2.length ch0_1] 39)).cell? ⟨w5.heap.size, 1, none⟩ = some (.slice cx0_2 xD.2.1.length cx0_3) := HBK17_x0.out.cell 1
  have kx0_2 : (w16.alloc (.cells #[.bool r.1, .slice ch0_0 r.2.length ch0_1] 39)).cell? ⟨w5.heap.size, 2, none⟩ = some (.slice cx0_4 xD.2.2.1.length cx0_5) := HBK17_x0.out.cell 2
  have kx0_3 : (w16.alloc (.cells #[.bool r.1, .slice ch0_0 r.2.length ch0_1] 39)).cell? ⟨w5.heap.size, 3, none⟩ = some (.slice cx0_6 xD.2.2.2.1.length cx0_7) := HBK17_x0.out.cell 3
  have kx0_4 : (w16.alloc (.cells #[.bool r.1, .slice ch0_0 r.2.length ch0_1] 39)).cell? ⟨w5.heap.size, 4, none⟩ = some (.int .i64 xD.2.2.2.2) := HBK17_x0.out.cell 4
  have kg0_0 : (w16.alloc (.cells #[.bool r.1, .slice ch0_0 r.2.length ch0_1] 39)).cell? ⟨w7.heap.size, 0, none⟩ = some (.bool r.1) := HBK17_g0.out.cell 0
  have kg0_1 : (w16.alloc (.cells #[.bool r.1, .slice ch0_0 r.2.length ch0_1] 39)).cell? ⟨w7.heap.size, 1, none⟩ = some (.slice cg0_0 r.2.length cg0_1) := HBK17_g0.out.cell 1
  have HBK_h0 := Sec.mk (Blk.new w16 39 [.bool r.1, .slice ch0_0 r.2.length ch0_1])
  have hz16 : (w16.alloc (.cells #[.bool r.1, .slice ch0_0 r.2.length ch0_1] 39)).heap.size = w16.heap.size + 1 := by simp
  clear kaD_0 kaD_1 kaD_2 kaD_3 kaD_4
  clear kw0_0 kw0_1
  clear kx0_0 kx0_1 kx0_2 kx0_3 kx0_4
  clear kg0_0 kg0_1
  have kaD_0 : (w16.alloc (.cells #[.bool r.1, .slice ch0_0 r.2.length ch0_1] 39)).cell? ⟨w.heap.size, 0, none⟩ = some (.slice caD_0 xD.1.length caD_1) := HBK17_aD.out.cell 0
  have kaD_1 : (w16.alloc (.cells #[.bool r.1, .slice ch0_0 r.2.length ch0_1] 39)).cell? ⟨w.heap.size, 1, none⟩ = some (.slice caD_2 xD.2.1.length caD_3) := HBK17_aD.out.cell 1
  have kaD_2 : (w16.alloc (.cells #[.bool r.1, .slice ch0_0 r.2.length ch0_1] 39)).cell? ⟨w.heap.size, 2, none⟩ = some (.slice caD_4 xD.2.2.1.length caD_5) := HBK17_aD.out.cell 2
  have kaD_3 : (w16.alloc (.cells #[.bool r.1, .slice ch0_0 r.2.length ch0_1] 39)).cell? ⟨w.heap.size, 3, none⟩ = some (.slice caD_6 xD.2.2.2.1.length caD_7) := HBK17_aD.out.cell 3
  have kaD_4 : (w16.alloc (.cells #[.bool r.1, .slice ch0_0 r.2.length ch0_1] 39)).cell? ⟨w.heap.size, 4, none⟩ = some (.int .i64 xD.2.2.2.2) := HBK17_aD.out.cell 4
  have kw0_0 : (w16.alloc (.cells #[.bool r.1, .slice ch0_0 r.2.length ch0_1] 39)).cell? ⟨w3.heap.size, 0, none⟩ = some (.bool r.1) := HBK17_w0.out.cell 0
  have kw0_1 : (w16.alloc (.cells #[.bool r.1, .slice ch0_0 r.2.length ch0_1] 39)).cell? ⟨w3.heap.size, 1, none⟩ = some (.slice cw0_0 r.2.length cw0_1) := HBK17_w0.out.cell 1
  have kx0_0 : (w16.alloc (.cells #[.bool r.1, .slice ch0_0 r.2.length ch0_1] 39)).cell? ⟨w5.heap.size, 0, none⟩ = some (.slice cx0_0 xD.1.length cx0_1) := HBK17_x0.out.cell 0
  have kx0_1 : (w16.alloc (.cells #[.bool r.1, .slice ch0_0 r.2.length ch0_1] 39)).cell? ⟨w5.heap.size, 1, none⟩ = some (.slice cx0_2 xD.2.1.length cx0_3) := HBK17_x0.out.cell 1
  have kx0_2 : (w16.alloc (.cells #[.bool r.1, .slice ch0_0 r.2.length ch0_1] 39)).cell? ⟨w5.heap.size, 2, none⟩ = some (.slice cx0_4 xD.2.2.1.length cx0_5) := HBK17_x0.out.cell 2
  have kx0_3 : (w16.alloc (.cells #[.bool r.1, .slice ch0_0 r.2.length ch0_1] 39)).cell? ⟨w5.heap.size, 3, none⟩ = some (.slice cx0_6 xD.2.2.2.1.length cx0_7) := HBK17_x0.out.cell 3
  have kx0_4 : (w16.alloc (.cells #[.bool r.1, .slice ch0_0 r.2.length ch0_1] 39)).cell? ⟨w5.heap.size, 4, none⟩ = some (.int .i64 xD.2.2.2.2) := HBK17_x0.out.cell 4
  have kg0_0 : (w16.alloc (.cells #[.bool r.1, .slice ch0_0 r.2.length ch0_1] 39)).cell? ⟨w7.heap.size, 0, none⟩ = some (.bool r.1) := HBK17_g0.out.cell 0
  have kg0_1 : (w16.alloc (.cells #[.bool r.1, .slice ch0_0 r.2.length ch0_1] 39)).cell? ⟨w7.heap.size, 1, none⟩ = some (.slice cg0_0 r.2.length cg0_1) := HBK17_g0.out.cell 1
  have kh0_0 : (w16.alloc (.cells #[.bool r.1, .slice ch0_0 r.2.length ch0_1] 39)).cell? ⟨w16.heap.size, 0, none⟩ = some (.bool r.1) := HBK_h0.out.cell 0
  have kh0_1 : (w16.alloc (.cells #[.bool r.1, .slice ch0_0 r.2.length ch0_1] 39)).cell? ⟨w16.heap.size, 1, none⟩ = some (.slice ch0_0 r.2.length ch0_1) := HBK_h0.out.cell 1
  clear TDH0_17
  go_wp2_with fail
  refine (eqContent_v H0_17.out.rd W0_17.out.rd).mono ?_
  rintro e w18 ⟨rfl, hm18⟩
  clear kaD_0 kaD_1 kaD_2 kaD_3 kaD_4
  clear kw0_0 kw0_1
  clear kx0_0 kx0_1 kx0_2 kx0_3 kx0_4
  clear kg0_0 kg0_1
  clear kh0_0 kh0_1
  have HBK18_aD := Sec.mk (HBK17_aD.out.mod hm18 id)
  clear HBK17_aD
  have HBK18_w0 := Sec.mk (HBK17_w0.out.mod hm18 id)
  clear HBK17_w0
  have HBK18_x0 := Sec.mk (HBK17_x0.out.mod hm18 id)
  clear HBK17_x0
  have HBK18_g0 := Sec.mk (HBK17_g0.out.mod hm18 id)
  clear HBK17_g0
  have HBK18_h0 := Sec.mk (HBK_h0.out.mod hm18 id)
  clear HBK_h0
  have W0_18 := Sec.mk (W0_17.out.step hm18)
  clear W0_17
  have X0_18 := Sec.mk (X0_17.out.step hm18)
  clear X0_17
  have G0_18 := Sec.mk (G0_17.out.step hm18)
  clear G0_17
  have H0_18 := Sec.mk (H0_17.out.step hm18)
  clear H0_17
  have HM18 := Sec.mk (HM17.out.transN hm18)
  clear HM17
  have hs18 := hm18.size
  clear hm18
  have kaD_0 : (w18).cell? ⟨w.heap.size, 0, none⟩ = some (.slice caD_0 xD.1.length caD_1) := HBK18_aD.out.cell 0
  have kaD_1 : (w18).cell? ⟨w.heap.size, 1, none⟩ = some (.slice caD_2 xD.2.1.length caD_3) := HBK18_aD.out.cell 1
  have kaD_2 : (w18).cell? ⟨w.heap.size, 2, none⟩ = some (.slice caD_4 xD.2.2.1.length caD_5) := HBK18_aD.out.cell 2
  have kaD_3 : (w18).cell? ⟨w.heap.size, 3, none⟩ = some (.slice caD_6 xD.2.2.2.1.length caD_7) := HBK18_aD.out.cell 3
  have kaD_4 : (w18).cell? ⟨w.heap.size, 4, none⟩ = some (.int .i64 xD.2.2.2.2) := HBK18_aD.out.cell 4
  have kw0_0 : (w18).cell? ⟨w3.heap.size, 0, none⟩ = some (.bool r.1) := HBK18_w0.out.cell 0
  have kw0_1 : (w18).cell? ⟨w3.heap.size, 1, none⟩ = some (.slice cw0_0 r.2.length cw0_1) := HBK18_w0.out.cell 1
  have kx0_0 : (w18).cell? ⟨w5.heap.size, 0, none⟩ = some (.slice cx0_0 xD.1.length cx0_1) := HBK18_x0.out.cell 0
  have kx0_1 : (w18).cell? ⟨w5.heap.size, 1, none⟩ = some (.slice cx0_2 xD.2.1.length cx0_3) := HBK18_x0.out.cell 1
  have kx0_2 : (w18).cell? ⟨w5.heap.size, 2, none⟩ = some (.slice cx0_4 xD.2.2.1.length cx0_5) := HBK18_x0.out.cell 2
  have kx0_3 : (w18).cell? ⟨w5.heap.size, 3, none⟩ = some (.slice cx0_6 xD.2.2.2.1.length cx0_7) := HBK18_x0.out.cell 3
  have kx0_4 : (w18).cell? ⟨w5.heap.size, 4, none⟩ = some (.int .i64 xD.2.2.2.2) := HBK18_x0.out.cell 4
  have kg0_0 : (w18).cell? ⟨w7.heap.size, 0, none⟩ = some (.bool r.1) := HBK18_g0.out.cell 0
  have kg0_1 : (w18).cell? ⟨w7.heap.size, 1, none⟩ = some (.slice cg0_0 r.2.length cg0_1) := HBK18_g0.out.cell 1
  have kh0_0 : (w18).cell? ⟨w16.heap.size, 0, none⟩ = some (.bool r.1) := HBK18_h0.out.cell 0
  have kh0_1 : (w18).cell? ⟨w16.heap.size, 1, none⟩ = some (.slice ch0_0 r.2.length ch0_1) := HBK18_h0.out.cell 1
  rw [show decide (r = r) = true by simp]
  go_wp2_with fail
  refine (heldContent_v G0_18.out.rd 1 HX.out (by rw [HK.out]; omega)).mono ?_
  rintro e w19 ⟨rfl, hm19⟩
  rw [HK.out]
  clear kaD_0 kaD_1 kaD_2 kaD_3 kaD_4
  clear kw0_0 kw0_1
  clear kx0_0 kx0_1 kx0_2 kx0_3 kx0_4
  clear kg0_0 kg0_1
  clear kh0_0 kh0_1
  have HBK19_aD := Sec.mk (HBK18_aD.out.mod hm19 id)
  clear HBK18_aD
  have HBK19_w0 := Sec.mk (HBK18_w0.out.mod hm19 id)
  clear HBK18_w0
  have HBK19_x0 := Sec.mk (HBK18_x0.out.mod hm19 id)
  clear HBK18_x0
  have HBK19_g0 := Sec.mk (HBK18_g0.out.mod hm19 id)
  clear HBK18_g0
  have HBK19_h0 := Sec.mk (HBK18_h0.out.mod hm19 id)
  clear HBK18_h0
  have W0_19 := Sec.mk (W0_18.out.step hm19)
  clear W0_18
  have X0_19 := Sec.mk (X0_18.out.step hm19)
  clear X0_18
  have G0_19 := Sec.mk (G0_18.out.step hm19)
  clear G0_18
  have H0_19 := Sec.mk (H0_18.out.step hm19)
  clear H0_18
  have HM19 := Sec.mk (HM18.out.transN hm19)
  clear HM18
  have hs19 := hm19.size
  clear hm19
  have kaD_0 : (w19).cell? ⟨w.heap.size, 0, none⟩ = some (.slice caD_0 xD.1.length caD_1) := HBK19_aD.out.cell 0
  have kaD_1 : (w19).cell? ⟨w.heap.size, 1, none⟩ = some (.slice caD_2 xD.2.1.length caD_3) := HBK19_aD.out.cell 1
  have kaD_2 : (w19).cell? ⟨w.heap.size, 2, none⟩ = some (.slice caD_4 xD.2.2.1.length caD_5) := HBK19_aD.out.cell 2
  have kaD_3 : (w19).cell? ⟨w.heap.size, 3, none⟩ = some (.slice caD_6 xD.2.2.2.1.length caD_7) := HBK19_aD.out.cell 3
  have kaD_4 : (w19).cell? ⟨w.heap.size, 4, none⟩ = some (.int .i64 xD.2.2.2.2) := HBK19_aD.out.cell 4
  have kw0_0 : (w19).cell? ⟨w3.heap.size, 0, none⟩ = some (.bool r.1) := HBK19_w0.out.cell 0
  have kw0_1 : (w19).cell? ⟨w3.heap.size, 1, none⟩ = some (.slice cw0_0 r.2.length cw0_1) := HBK19_w0.out.cell 1
  have kx0_0 : (w19).cell? ⟨w5.heap.size, 0, none⟩ = some (.slice cx0_0 xD.1.length cx0_1) := HBK19_x0.out.cell 0
  have kx0_1 : (w19).cell? ⟨w5.heap.size, 1, none⟩ = some (.slice cx0_2 xD.2.1.length cx0_3) := HBK19_x0.out.cell 1
  have kx0_2 : (w19).cell? ⟨w5.heap.size, 2, none⟩ = some (.slice cx0_4 xD.2.2.1.length cx0_5) := HBK19_x0.out.cell 2
  have kx0_3 : (w19).cell? ⟨w5.heap.size, 3, none⟩ = some (.slice cx0_6 xD.2.2.2.1.length cx0_7) := HBK19_x0.out.cell 3
  have kx0_4 : (w19).cell? ⟨w5.heap.size, 4, none⟩ = some (.int .i64 xD.2.2.2.2) := HBK19_x0.out.cell 4
  have kg0_0 : (w19).cell? ⟨w7.heap.size, 0, none⟩ = some (.bool r.1) := HBK19_g0.out.cell 0
  have kg0_1 : (w19).cell? ⟨w7.heap.size, 1, none⟩ = some (.slice cg0_0 r.2.length cg0_1) := HBK19_g0.out.cell 1
  have kh0_0 : (w19).cell? ⟨w16.heap.size, 0, none⟩ = some (.bool r.1) := HBK19_h0.out.cell 0
  have kh0_1 : (w19).cell? ⟨w16.heap.size, 1, none⟩ = some (.slice ch0_0 r.2.length ch0_1) := HBK19_h0.out.cell 1
  go_wp2
  go_ret
  exact ⟨by simp, HM19.out⟩
end Go.Proofs.Ytinfibggdbakoaa
