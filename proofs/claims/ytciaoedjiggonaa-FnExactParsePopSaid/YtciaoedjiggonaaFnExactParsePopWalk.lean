/- The walk of the law FnExactParsePop. -/
import Derived.Test.YtciaoedjiggonaaPopV
namespace Go.Proofs.Ytciaoedjiggonaa
open Go.RowKit Mem
set_option linter.unusedVariables false
set_option synthInstance.maxSize 2000

set_option maxHeartbeats 2000000 in
set_option maxRecDepth 100000 in
theorem lawFnExactParsePop_walk {w : World} {vLine : Value} {xLine : Bytes} (haLine : RdV false dBS w vLine xLine) :
    Calls Try.prog 7 #[vLine] w (Ret (.bool true) w) := by
  have HRaLine := Sec.mk haLine
  clear haLine
  obtain ⟨A0, c0, rfl, hcap0, hrow0⟩ := HRaLine.out.slice
  have hmax0 := hrow0.2.1
  clear hrow0
  by_cases hlen0 : 1048576 < xLine.length
  · go_enter Try.func7, Try.ntmps7
    go_wp2
    go_ret
    exact ⟨by simp, Mod.refl _ _⟩
  have hbl0 : szBS xLine ≤ 1048576 := by show xLine.length ≤ _; omega
  have hcl0 := cntBS_lt hbl0
  have hcr := ParsePop_cnt xLine hbl0
  generalize hFN : ParsePopL xLine = r at *
  have HFN := Sec.mk hFN
  clear hFN
  go_enter Try.func7, Try.ntmps7
  have HM0 := Sec.mk (Mod.refl (fun _ => False) w)
  go_wp2_with fail
  refine (toByteS_v (HRaLine.out.step HM0.out) hbl0).mono ?_
  rintro e w1 ⟨v1, rfl, ho1, hm1⟩
  have HM1 := Sec.mk (HM0.out.transN hm1)
  clear HM0
  have hs1 := hm1.size
  clear hm1
  have TLINEW0_1 := Sec.mk ho1
  clear ho1
  go_wp2_with fail
  refine (specParsePop_v TLINEW0_1.out.rd hbl0).mono ?_
  rw [HFN.out]
  rintro e w2 ⟨v2, rfl, ho2, hm2⟩
  have TLINEW0_2 := Sec.mk (TLINEW0_1.out.step hm2)
  clear TLINEW0_1
  have HM2 := Sec.mk (HM1.out.transN hm2)
  clear HM1
  have hs2 := hm2.size
  clear hm2
  have W0_2 := Sec.mk ho2
  clear ho2
  obtain ⟨cw0_0, cw0_1, cw0_2, cw0_3, rfl⟩ := cellsCmd W0_2.out.rd
  have hma2 := ((Mod.refl (fun _ => False) w2).alloc (.cells #[.int .i64 r.1, .string ⟨(r.2.1).toArray⟩, .int .u32 r.2.2.1, .bool r.2.2.2.1, .slice cw0_0 r.2.2.2.2.1.length cw0_1, .int .i64 r.2.2.2.2.2.1, .int .i64 r.2.2.2.2.2.2.1, .int .u32 r.2.2.2.2.2.2.2.1, .slice cw0_2 r.2.2.2.2.2.2.2.2.length cw0_3] 48))
  have TLINEW0_3 := Sec.mk (TLINEW0_2.out.step hma2)
  clear TLINEW0_2
  have W0_3 := Sec.mk (W0_2.out.step hma2)
  clear W0_2
  have HM3 := Sec.mk (HM2.out.transN hma2)
  clear HM2
  have hs3 := hma2.size
  clear hma2
  have HBK_w0 := Sec.mk (Blk.new w2 48 [.int .i64 r.1, .string ⟨(r.2.1).toArray⟩, .int .u32 r.2.2.1, .bool r.2.2.2.1, .slice cw0_0 r.2.2.2.2.1.length cw0_1, .int .i64 r.2.2.2.2.2.1, .int .i64 r.2.2.2.2.2.2.1, .int .u32 r.2.2.2.2.2.2.2.1, .slice cw0_2 r.2.2.2.2.2.2.2.2.length cw0_3])
  have hz2 : (w2.alloc (.cells #[.int .i64 r.1, .string ⟨(r.2.1).toArray⟩, .int .u32 r.2.2.1, .bool r.2.2.2.1, .slice cw0_0 r.2.2.2.2.1.length cw0_1, .int .i64 r.2.2.2.2.2.1, .int .i64 r.2.2.2.2.2.2.1, .int .u32 r.2.2.2.2.2.2.2.1, .slice cw0_2 r.2.2.2.2.2.2.2.2.length cw0_3] 48)).heap.size = w2.heap.size + 1 := by simp
  have kw0_0 : (w2.alloc (.cells #[.int .i64 r.1, .string ⟨(r.2.1).toArray⟩, .int .u32 r.2.2.1, .bool r.2.2.2.1, .slice cw0_0 r.2.2.2.2.1.length cw0_1, .int .i64 r.2.2.2.2.2.1, .int .i64 r.2.2.2.2.2.2.1, .int .u32 r.2.2.2.2.2.2.2.1, .slice cw0_2 r.2.2.2.2.2.2.2.2.length cw0_3] 48)).cell? ⟨w2.heap.size, 0, none⟩ = some (.int .i64 r.1) := HBK_w0.out.cell 0
  have kw0_1 : (w2.alloc (.cells #[.int .i64 r.1, .string ⟨(r.2.1).toArray⟩, .int .u32 r.2.2.1, .bool r.2.2.2.1, .slice cw0_0 r.2.2.2.2.1.length cw0_1, .int .i64 r.2.2.2.2.2.1, .int .i64 r.2.2.2.2.2.2.1, .int .u32 r.2.2.2.2.2.2.2.1, .slice cw0_2 r.2.2.2.2.2.2.2.2.length cw0_3] 48)).cell? ⟨w2.heap.size, 1, none⟩ = some (.string ⟨(r.2.1).toArray⟩) := HBK_w0.out.cell 1
  have kw0_2 : (w2.alloc (.cells #[.int .i64 r.1, .string ⟨(r.2.1).toArray⟩, .int .u32 r.2.2.1, .bool r.2.2.2.1, .slice cw0_0 r.2.2.2.2.1.length cw0_1, .int .i64 r.2.2.2.2.2.1, .int .i64 r.2.2.2.2.2.2.1, .int .u32 r.2.2.2.2.2.2.2.1, .slice cw0_2 r.2.2.2.2.2.2.2.2.length cw0_3] 48)).cell? ⟨w2.heap.size, 2, none⟩ = some (.int .u32 r.2.2.1) := HBK_w0.out.cell 2
  have kw0_3 : (w2.alloc (.cells #[.int .i64 r.1, .string ⟨(r.2.1).toArray⟩, .int .u32 r.2.2.1, .bool r.2.2.2.1, .slice cw0_0 r.2.2.2.2.1.length cw0_1, .int .i64 r.2.2.2.2.2.1, .int .i64 r.2.2.2.2.2.2.1, .int .u32 r.2.2.2.2.2.2.2.1, .slice cw0_2 r.2.2.2.2.2.2.2.2.length cw0_3] 48)).cell? ⟨w2.heap.size, 3, none⟩ = some (.bool r.2.2.2.1) := HBK_w0.out.cell 3
  have kw0_4 : (w2.alloc (.cells #[.int .i64 r.1, .string ⟨(r.2.1).toArray⟩, .int .u32 r.2.2.1, .bool r.2.2.2.1, .slice cw0_0 r.2.2.2.2.1.length cw0_1, .int .i64 r.2.2.2.2.2.1, .int .i64 r.2.2.2.2.2.2.1, .int .u32 r.2.2.2.2.2.2.2.1, .slice cw0_2 r.2.2.2.2.2.2.2.2.length cw0_3] 48)).cell? ⟨w2.heap.size, 4, none⟩ = some (.slice cw0_0 r.2.2.2.2.1.length cw0_1) := HBK_w0.out.cell 4
  have kw0_5 : (w2.alloc (.cells #[.int .i64 r.1, .string ⟨(r.2.1).toArray⟩, .int .u32 r.2.2.1, .bool r.2.2.2.1, .slice cw0_0 r.2.2.2.2.1.length cw0_1, .int .i64 r.2.2.2.2.2.1, .int .i64 r.2.2.2.2.2.2.1, .int .u32 r.2.2.2.2.2.2.2.1, .slice cw0_2 r.2.2.2.2.2.2.2.2.length cw0_3] 48)).cell? ⟨w2.heap.size, 5, none⟩ = some (.int .i64 r.2.2.2.2.2.1) := HBK_w0.out.cell 5
  have kw0_6 : (w2.alloc (.cells #[.int .i64 r.1, .string ⟨(r.2.1).toArray⟩, .int .u32 r.2.2.1, .bool r.2.2.2.1, .slice cw0_0 r.2.2.2.2.1.length cw0_1, .int .i64 r.2.2.2.2.2.1, .int .i64 r.2.2.2.2.2.2.1, .int .u32 r.2.2.2.2.2.2.2.1, .slice cw0_2 r.2.2.2.2.2.2.2.2.length cw0_3] 48)).cell? ⟨w2.heap.size, 6, none⟩ = some (.int .i64 r.2.2.2.2.2.2.1) := HBK_w0.out.cell 6
  have kw0_7 : (w2.alloc (.cells #[.int .i64 r.1, .string ⟨(r.2.1).toArray⟩, .int .u32 r.2.2.1, .bool r.2.2.2.1, .slice cw0_0 r.2.2.2.2.1.length cw0_1, .int .i64 r.2.2.2.2.2.1, .int .i64 r.2.2.2.2.2.2.1, .int .u32 r.2.2.2.2.2.2.2.1, .slice cw0_2 r.2.2.2.2.2.2.2.2.length cw0_3] 48)).cell? ⟨w2.heap.size, 7, none⟩ = some (.int .u32 r.2.2.2.2.2.2.2.1) := HBK_w0.out.cell 7
  have kw0_8 : (w2.alloc (.cells #[.int .i64 r.1, .string ⟨(r.2.1).toArray⟩, .int .u32 r.2.2.1, .bool r.2.2.2.1, .slice cw0_0 r.2.2.2.2.1.length cw0_1, .int .i64 r.2.2.2.2.2.1, .int .i64 r.2.2.2.2.2.2.1, .int .u32 r.2.2.2.2.2.2.2.1, .slice cw0_2 r.2.2.2.2.2.2.2.2.length cw0_3] 48)).cell? ⟨w2.heap.size, 8, none⟩ = some (.slice cw0_2 r.2.2.2.2.2.2.2.2.length cw0_3) := HBK_w0.out.cell 8
  clear TLINEW0_3
  go_wp2_with fail
  refine (toByteS_v (HRaLine.out.step HM3.out) hbl0).mono ?_
  rintro e w4 ⟨v4, rfl, ho4, hm4⟩
  clear kw0_0 kw0_1 kw0_2 kw0_3 kw0_4 kw0_5 kw0_6 kw0_7 kw0_8
  have HBK4_w0 := Sec.mk (HBK_w0.out.mod hm4 id)
  clear HBK_w0
  have W0_4 := Sec.mk (W0_3.out.step hm4)
  clear W0_3
  have HM4 := Sec.mk (HM3.out.transN hm4)
  clear HM3
  have hs4 := hm4.size
  clear hm4
  have kw0_0 : (w4).cell? ⟨w2.heap.size, 0, none⟩ = some (.int .i64 r.1) := HBK4_w0.out.cell 0
  have kw0_1 : (w4).cell? ⟨w2.heap.size, 1, none⟩ = some (.string ⟨(r.2.1).toArray⟩) := HBK4_w0.out.cell 1
  have kw0_2 : (w4).cell? ⟨w2.heap.size, 2, none⟩ = some (.int .u32 r.2.2.1) := HBK4_w0.out.cell 2
  have kw0_3 : (w4).cell? ⟨w2.heap.size, 3, none⟩ = some (.bool r.2.2.2.1) := HBK4_w0.out.cell 3
  have kw0_4 : (w4).cell? ⟨w2.heap.size, 4, none⟩ = some (.slice cw0_0 r.2.2.2.2.1.length cw0_1) := HBK4_w0.out.cell 4
  have kw0_5 : (w4).cell? ⟨w2.heap.size, 5, none⟩ = some (.int .i64 r.2.2.2.2.2.1) := HBK4_w0.out.cell 5
  have kw0_6 : (w4).cell? ⟨w2.heap.size, 6, none⟩ = some (.int .i64 r.2.2.2.2.2.2.1) := HBK4_w0.out.cell 6
  have kw0_7 : (w4).cell? ⟨w2.heap.size, 7, none⟩ = some (.int .u32 r.2.2.2.2.2.2.2.1) := HBK4_w0.out.cell 7
  have kw0_8 : (w4).cell? ⟨w2.heap.size, 8, none⟩ = some (.slice cw0_2 r.2.2.2.2.2.2.2.2.length cw0_3) := HBK4_w0.out.cell 8
  have X0_4 := Sec.mk ho4
  clear ho4
  go_wp2_with fail
  refine (implParsePop_v X0_4.out.rd hbl0).mono ?_
  rw [HFN.out]
  rintro e w5 ⟨v5, rfl, ho5, hm5⟩
  clear kw0_0 kw0_1 kw0_2 kw0_3 kw0_4 kw0_5 kw0_6 kw0_7 kw0_8
  have HBK5_w0 := Sec.mk (HBK4_w0.out.mod hm5 id)
  clear HBK4_w0
  have W0_5 := Sec.mk (W0_4.out.step hm5)
  clear W0_4
  have X0_5 := Sec.mk (X0_4.out.step hm5)
  clear X0_4
  have HM5 := Sec.mk (HM4.out.transN hm5)
  clear HM4
  have hs5 := hm5.size
  clear hm5
  have kw0_0 : (w5).cell? ⟨w2.heap.size, 0, none⟩ = some (.int .i64 r.1) := HBK5_w0.out.cell 0
  have kw0_1 : (w5).cell? ⟨w2.heap.size, 1, none⟩ = some (.string ⟨(r.2.1).toArray⟩) := HBK5_w0.out.cell 1
  have kw0_2 : (w5).cell? ⟨w2.heap.size, 2, none⟩ = some (.int .u32 r.2.2.1) := HBK5_w0.out.cell 2
  have kw0_3 : (w5).cell? ⟨w2.heap.size, 3, none⟩ = some (.bool r.2.2.2.1) := HBK5_w0.out.cell 3
  have kw0_4 : (w5).cell? ⟨w2.heap.size, 4, none⟩ = some (.slice cw0_0 r.2.2.2.2.1.length cw0_1) := HBK5_w0.out.cell 4
  have kw0_5 : (w5).cell? ⟨w2.heap.size, 5, none⟩ = some (.int .i64 r.2.2.2.2.2.1) := HBK5_w0.out.cell 5
  have kw0_6 : (w5).cell? ⟨w2.heap.size, 6, none⟩ = some (.int .i64 r.2.2.2.2.2.2.1) := HBK5_w0.out.cell 6
  have kw0_7 : (w5).cell? ⟨w2.heap.size, 7, none⟩ = some (.int .u32 r.2.2.2.2.2.2.2.1) := HBK5_w0.out.cell 7
  have kw0_8 : (w5).cell? ⟨w2.heap.size, 8, none⟩ = some (.slice cw0_2 r.2.2.2.2.2.2.2.2.length cw0_3) := HBK5_w0.out.cell 8
  have G0_5 := Sec.mk ho5
  clear ho5
  obtain ⟨cg0_0, cg0_1, cg0_2, cg0_3, rfl⟩ := cellsCmd G0_5.out.rd
  have hma5 := ((Mod.refl (fun _ => False) w5).alloc (.cells #[.int .i64 r.1, .string ⟨(r.2.1).toArray⟩, .int .u32 r.2.2.1, .bool r.2.2.2.1, .slice cg0_0 r.2.2.2.2.1.length cg0_1, .int .i64 r.2.2.2.2.2.1, .int .i64 r.2.2.2.2.2.2.1, .int .u32 r.2.2.2.2.2.2.2.1, .slice cg0_2 r.2.2.2.2.2.2.2.2.length cg0_3] 48))
  clear kw0_0 kw0_1 kw0_2 kw0_3 kw0_4 kw0_5 kw0_6 kw0_7 kw0_8
  have HBK6_w0 := Sec.mk (HBK5_w0.out.mod hma5 id)
  clear HBK5_w0
  have W0_6 := Sec.mk (W0_5.out.step hma5)
  clear W0_5
  have X0_6 := Sec.mk (X0_5.out.step hma5)
  clear X0_5
  have G0_6 := Sec.mk (G0_5.out.step hma5)
  clear G0_5
  have HM6 := Sec.mk (HM5.out.transN hma5)
  clear HM5
  have hs6 := hma5.size
  clear hma5
  have kw0_0 : (w5.alloc (.cells #[.int .i64 r.1, .string ⟨(r.2.1).toArray⟩, .int .u32 r.2.2.1, .bool r.2.2.2.1, .slice cg0_0 r.2.2.2.2.1.length cg0_1, .int .i64 r.2.2.2.2.2.1, .int .i64 r.2.2.2.2.2.2.1, .int .u32 r.2.2.2.2.2.2.2.1, .slice cg0_2 r.2.2.2.2.2.2.2.2.length cg0_3] 48)).cell? ⟨w2.heap.size, 0, none⟩ = some (.int .i64 r.1) := HBK6_w0.out.cell 0
  have kw0_1 : (w5.alloc (.cells #[.int .i64 r.1, .string ⟨(r.2.1).toArray⟩, .int .u32 r.2.2.1, .bool r.2.2.2.1, .slice cg0_0 r.2.2.2.2.1.length cg0_1, .int .i64 r.2.2.2.2.2.1, .int .i64 r.2.2.2.2.2.2.1, .int .u32 r.2.2.2.2.2.2.2.1, .slice cg0_2 r.2.2.2.2.2.2.2.2.length cg0_3] 48)).cell? ⟨w2.heap.size, 1, none⟩ = some (.string ⟨(r.2.1).toArray⟩) := HBK6_w0.out.cell 1
  have kw0_2 : (w5.alloc (.cells #[.int .i64 r.1, .string ⟨(r.2.1).toArray⟩, .int .u32 r.2.2.1, .bool r.2.2.2.1, .slice cg0_0 r.2.2.2.2.1.length cg0_1, .int .i64 r.2.2.2.2.2.1, .int .i64 r.2.2.2.2.2.2.1, .int .u32 r.2.2.2.2.2.2.2.1, .slice cg0_2 r.2.2.2.2.2.2.2.2.length cg0_3] 48)).cell? ⟨w2.heap.size, 2, none⟩ = some (.int .u32 r.2.2.1) := HBK6_w0.out.cell 2
  have kw0_3 : (w5.alloc (.cells #[.int .i64 r.1, .string ⟨(r.2.1).toArray⟩, .int .u32 r.2.2.1, .bool r.2.2.2.1, .slice cg0_0 r.2.2.2.2.1.length cg0_1, .int .i64 r.2.2.2.2.2.1, .int .i64 r.2.2.2.2.2.2.1, .int .u32 r.2.2.2.2.2.2.2.1, .slice cg0_2 r.2.2.2.2.2.2.2.2.length cg0_3] 48)).cell? ⟨w2.heap.size, 3, none⟩ = some (.bool r.2.2.2.1) := HBK6_w0.out.cell 3
  have kw0_4 : (w5.alloc (.cells #[.int .i64 r.1, .string ⟨(r.2.1).toArray⟩, .int .u32 r.2.2.1, .bool r.2.2.2.1, .slice cg0_0 r.2.2.2.2.1.length cg0_1, .int .i64 r.2.2.2.2.2.1, .int .i64 r.2.2.2.2.2.2.1, .int .u32 r.2.2.2.2.2.2.2.1, .slice cg0_2 r.2.2.2.2.2.2.2.2.length cg0_3] 48)).cell? ⟨w2.heap.size, 4, none⟩ = some (.slice cw0_0 r.2.2.2.2.1.length cw0_1) := HBK6_w0.out.cell 4
  have kw0_5 : (w5.alloc (.cells #[.int .i64 r.1, .string ⟨(r.2.1).toArray⟩, .int .u32 r.2.2.1, .bool r.2.2.2.1, .slice cg0_0 r.2.2.2.2.1.length cg0_1, .int .i64 r.2.2.2.2.2.1, .int .i64 r.2.2.2.2.2.2.1, .int .u32 r.2.2.2.2.2.2.2.1, .slice cg0_2 r.2.2.2.2.2.2.2.2.length cg0_3] 48)).cell? ⟨w2.heap.size, 5, none⟩ = some (.int .i64 r.2.2.2.2.2.1) := HBK6_w0.out.cell 5
  have kw0_6 : (w5.alloc (.cells #[.int .i64 r.1, .string ⟨(r.2.1).toArray⟩, .int .u32 r.2.2.1, .bool r.2.2.2.1, .slice cg0_0 r.2.2.2.2.1.length cg0_1, .int .i64 r.2.2.2.2.2.1, .int .i64 r.2.2.2.2.2.2.1, .int .u32 r.2.2.2.2.2.2.2.1, .slice cg0_2 r.2.2.2.2.2.2.2.2.length cg0_3] 48)).cell? ⟨w2.heap.size, 6, none⟩ = some (.int .i64 r.2.2.2.2.2.2.1) := HBK6_w0.out.cell 6
  have kw0_7 : (w5.alloc (.cells #[.int .i64 r.1, .string ⟨(r.2.1).toArray⟩, .int .u32 r.2.2.1, .bool r.2.2.2.1, .slice cg0_0 r.2.2.2.2.1.length cg0_1, .int .i64 r.2.2.2.2.2.1, .int .i64 r.2.2.2.2.2.2.1, .int .u32 r.2.2.2.2.2.2.2.1, .slice cg0_2 r.2.2.2.2.2.2.2.2.length cg0_3] 48)).cell? ⟨w2.heap.size, 7, none⟩ = some (.int .u32 r.2.2.2.2.2.2.2.1) := HBK6_w0.out.cell 7
  have kw0_8 : (w5.alloc (.cells #[.int .i64 r.1, .string ⟨(r.2.1).toArray⟩, .int .u32 r.2.2.1, .bool r.2.2.2.1, .slice cg0_0 r.2.2.2.2.1.length cg0_1, .int .i64 r.2.2.2.2.2.1, .int .i64 r.2.2.2.2.2.2.1, .int .u32 r.2.2.2.2.2.2.2.1, .slice cg0_2 r.2.2.2.2.2.2.2.2.length cg0_3] 48)).cell? ⟨w2.heap.size, 8, none⟩ = some (.slice cw0_2 r.2.2.2.2.2.2.2.2.length cw0_3) := HBK6_w0.out.cell 8
  have HBK_g0 := Sec.mk (Blk.new w5 48 [.int .i64 r.1, .string ⟨(r.2.1).toArray⟩, .int .u32 r.2.2.1, .bool r.2.2.2.1, .slice cg0_0 r.2.2.2.2.1.length cg0_1, .int .i64 r.2.2.2.2.2.1, .int .i64 r.2.2.2.2.2.2.1, .int .u32 r.2.2.2.2.2.2.2.1, .slice cg0_2 r.2.2.2.2.2.2.2.2.length cg0_3])
  have hz5 : (w5.alloc (.cells #[.int .i64 r.1, .string ⟨(r.2.1).toArray⟩, .int .u32 r.2.2.1, .bool r.2.2.2.1, .slice cg0_0 r.2.2.2.2.1.length cg0_1, .int .i64 r.2.2.2.2.2.1, .int .i64 r.2.2.2.2.2.2.1, .int .u32 r.2.2.2.2.2.2.2.1, .slice cg0_2 r.2.2.2.2.2.2.2.2.length cg0_3] 48)).heap.size = w5.heap.size + 1 := by simp
  clear kw0_0 kw0_1 kw0_2 kw0_3 kw0_4 kw0_5 kw0_6 kw0_7 kw0_8
  have kw0_0 : (w5.alloc (.cells #[.int .i64 r.1, .string ⟨(r.2.1).toArray⟩, .int .u32 r.2.2.1, .bool r.2.2.2.1, .slice cg0_0 r.2.2.2.2.1.length cg0_1, .int .i64 r.2.2.2.2.2.1, .int .i64 r.2.2.2.2.2.2.1, .int .u32 r.2.2.2.2.2.2.2.1, .slice cg0_2 r.2.2.2.2.2.2.2.2.length cg0_3] 48)).cell? ⟨w2.heap.size, 0, none⟩ = some (.int .i64 r.1) := HBK6_w0.out.cell 0
  have kw0_1 : (w5.alloc (.cells #[.int .i64 r.1, .string ⟨(r.2.1).toArray⟩, .int .u32 r.2.2.1, .bool r.2.2.2.1, .slice cg0_0 r.2.2.2.2.1.length cg0_1, .int .i64 r.2.2.2.2.2.1, .int .i64 r.2.2.2.2.2.2.1, .int .u32 r.2.2.2.2.2.2.2.1, .slice cg0_2 r.2.2.2.2.2.2.2.2.length cg0_3] 48)).cell? ⟨w2.heap.size, 1, none⟩ = some (.string ⟨(r.2.1).toArray⟩) := HBK6_w0.out.cell 1
  have kw0_2 : (w5.alloc (.cells #[.int .i64 r.1, .string ⟨(r.2.1).toArray⟩, .int .u32 r.2.2.1, .bool r.2.2.2.1, .slice cg0_0 r.2.2.2.2.1.length cg0_1, .int .i64 r.2.2.2.2.2.1, .int .i64 r.2.2.2.2.2.2.1, .int .u32 r.2.2.2.2.2.2.2.1, .slice cg0_2 r.2.2.2.2.2.2.2.2.length cg0_3] 48)).cell? ⟨w2.heap.size, 2, none⟩ = some (.int .u32 r.2.2.1) := HBK6_w0.out.cell 2
  have kw0_3 : (w5.alloc (.cells #[.int .i64 r.1, .string ⟨(r.2.1).toArray⟩, .int .u32 r.2.2.1, .bool r.2.2.2.1, .slice cg0_0 r.2.2.2.2.1.length cg0_1, .int .i64 r.2.2.2.2.2.1, .int .i64 r.2.2.2.2.2.2.1, .int .u32 r.2.2.2.2.2.2.2.1, .slice cg0_2 r.2.2.2.2.2.2.2.2.length cg0_3] 48)).cell? ⟨w2.heap.size, 3, none⟩ = some (.bool r.2.2.2.1) := HBK6_w0.out.cell 3
  have kw0_4 : (w5.alloc (.cells #[.int .i64 r.1, .string ⟨(r.2.1).toArray⟩, .int .u32 r.2.2.1, .bool r.2.2.2.1, .slice cg0_0 r.2.2.2.2.1.length cg0_1, .int .i64 r.2.2.2.2.2.1, .int .i64 r.2.2.2.2.2.2.1, .int .u32 r.2.2.2.2.2.2.2.1, .slice cg0_2 r.2.2.2.2.2.2.2.2.length cg0_3] 48)).cell? ⟨w2.heap.size, 4, none⟩ = some (.slice cw0_0 r.2.2.2.2.1.length cw0_1) := HBK6_w0.out.cell 4
  have kw0_5 : (w5.alloc (.cells #[.int .i64 r.1, .string ⟨(r.2.1).toArray⟩, .int .u32 r.2.2.1, .bool r.2.2.2.1, .slice cg0_0 r.2.2.2.2.1.length cg0_1, .int .i64 r.2.2.2.2.2.1, .int .i64 r.2.2.2.2.2.2.1, .int .u32 r.2.2.2.2.2.2.2.1, .slice cg0_2 r.2.2.2.2.2.2.2.2.length cg0_3] 48)).cell? ⟨w2.heap.size, 5, none⟩ = some (.int .i64 r.2.2.2.2.2.1) := HBK6_w0.out.cell 5
  have kw0_6 : (w5.alloc (.cells #[.int .i64 r.1, .string ⟨(r.2.1).toArray⟩, .int .u32 r.2.2.1, .bool r.2.2.2.1, .slice cg0_0 r.2.2.2.2.1.length cg0_1, .int .i64 r.2.2.2.2.2.1, .int .i64 r.2.2.2.2.2.2.1, .int .u32 r.2.2.2.2.2.2.2.1, .slice cg0_2 r.2.2.2.2.2.2.2.2.length cg0_3] 48)).cell? ⟨w2.heap.size, 6, none⟩ = some (.int .i64 r.2.2.2.2.2.2.1) := HBK6_w0.out.cell 6
  have kw0_7 : (w5.alloc (.cells #[.int .i64 r.1, .string ⟨(r.2.1).toArray⟩, .int .u32 r.2.2.1, .bool r.2.2.2.1, .slice cg0_0 r.2.2.2.2.1.length cg0_1, .int .i64 r.2.2.2.2.2.1, .int .i64 r.2.2.2.2.2.2.1, .int .u32 r.2.2.2.2.2.2.2.1, .slice cg0_2 r.2.2.2.2.2.2.2.2.length cg0_3] 48)).cell? ⟨w2.heap.size, 7, none⟩ = some (.int .u32 r.2.2.2.2.2.2.2.1) := HBK6_w0.out.cell 7
  have kw0_8 : (w5.alloc (.cells #[.int .i64 r.1, .string ⟨(r.2.1).toArray⟩, .int .u32 r.2.2.1, .bool r.2.2.2.1, .slice cg0_0 r.2.2.2.2.1.length cg0_1, .int .i64 r.2.2.2.2.2.1, .int .i64 r.2.2.2.2.2.2.1, .int .u32 r.2.2.2.2.2.2.2.1, .slice cg0_2 r.2.2.2.2.2.2.2.2.length cg0_3] 48)).cell? ⟨w2.heap.size, 8, none⟩ = some (.slice cw0_2 r.2.2.2.2.2.2.2.2.length cw0_3) := HBK6_w0.out.cell 8
  have kg0_0 : (w5.alloc (.cells #[.int .i64 r.1, .string ⟨(r.2.1).toArray⟩, .int .u32 r.2.2.1, .bool r.2.2.2.1, .slice cg0_0 r.2.2.2.2.1.length cg0_1, .int .i64 r.2.2.2.2.2.1, .int .i64 r.2.2.2.2.2.2.1, .int .u32 r.2.2.2.2.2.2.2.1, .slice cg0_2 r.2.2.2.2.2.2.2.2.length cg0_3] 48)).cell? ⟨w5.heap.size, 0, none⟩ = some (.int .i64 r.1) := HBK_g0.out.cell 0
  have kg0_1 : (w5.alloc (.cells #[.int .i64 r.1, .string ⟨(r.2.1).toArray⟩, .int .u32 r.2.2.1, .bool r.2.2.2.1, .slice cg0_0 r.2.2.2.2.1.length cg0_1, .int .i64 r.2.2.2.2.2.1, .int .i64 r.2.2.2.2.2.2.1, .int .u32 r.2.2.2.2.2.2.2.1, .slice cg0_2 r.2.2.2.2.2.2.2.2.length cg0_3] 48)).cell? ⟨w5.heap.size, 1, none⟩ = some (.string ⟨(r.2.1).toArray⟩) := HBK_g0.out.cell 1
  have kg0_2 : (w5.alloc (.cells #[.int .i64 r.1, .string ⟨(r.2.1).toArray⟩, .int .u32 r.2.2.1, .bool r.2.2.2.1, .slice cg0_0 r.2.2.2.2.1.length cg0_1, .int .i64 r.2.2.2.2.2.1, .int .i64 r.2.2.2.2.2.2.1, .int .u32 r.2.2.2.2.2.2.2.1, .slice cg0_2 r.2.2.2.2.2.2.2.2.length cg0_3] 48)).cell? ⟨w5.heap.size, 2, none⟩ = some (.int .u32 r.2.2.1) := HBK_g0.out.cell 2
  have kg0_3 : (w5.alloc (.cells #[.int .i64 r.1, .string ⟨(r.2.1).toArray⟩, .int .u32 r.2.2.1, .bool r.2.2.2.1, .slice cg0_0 r.2.2.2.2.1.length cg0_1, .int .i64 r.2.2.2.2.2.1, .int .i64 r.2.2.2.2.2.2.1, .int .u32 r.2.2.2.2.2.2.2.1, .slice cg0_2 r.2.2.2.2.2.2.2.2.length cg0_3] 48)).cell? ⟨w5.heap.size, 3, none⟩ = some (.bool r.2.2.2.1) := HBK_g0.out.cell 3
  have kg0_4 : (w5.alloc (.cells #[.int .i64 r.1, .string ⟨(r.2.1).toArray⟩, .int .u32 r.2.2.1, .bool r.2.2.2.1, .slice cg0_0 r.2.2.2.2.1.length cg0_1, .int .i64 r.2.2.2.2.2.1, .int .i64 r.2.2.2.2.2.2.1, .int .u32 r.2.2.2.2.2.2.2.1, .slice cg0_2 r.2.2.2.2.2.2.2.2.length cg0_3] 48)).cell? ⟨w5.heap.size, 4, none⟩ = some (.slice cg0_0 r.2.2.2.2.1.length cg0_1) := HBK_g0.out.cell 4
  have kg0_5 : (w5.alloc (.cells #[.int .i64 r.1, .string ⟨(r.2.1).toArray⟩, .int .u32 r.2.2.1, .bool r.2.2.2.1, .slice cg0_0 r.2.2.2.2.1.length cg0_1, .int .i64 r.2.2.2.2.2.1, .int .i64 r.2.2.2.2.2.2.1, .int .u32 r.2.2.2.2.2.2.2.1, .slice cg0_2 r.2.2.2.2.2.2.2.2.length cg0_3] 48)).cell? ⟨w5.heap.size, 5, none⟩ = some (.int .i64 r.2.2.2.2.2.1) := HBK_g0.out.cell 5
  have kg0_6 : (w5.alloc (.cells #[.int .i64 r.1, .string ⟨(r.2.1).toArray⟩, .int .u32 r.2.2.1, .bool r.2.2.2.1, .slice cg0_0 r.2.2.2.2.1.length cg0_1, .int .i64 r.2.2.2.2.2.1, .int .i64 r.2.2.2.2.2.2.1, .int .u32 r.2.2.2.2.2.2.2.1, .slice cg0_2 r.2.2.2.2.2.2.2.2.length cg0_3] 48)).cell? ⟨w5.heap.size, 6, none⟩ = some (.int .i64 r.2.2.2.2.2.2.1) := HBK_g0.out.cell 6
  have kg0_7 : (w5.alloc (.cells #[.int .i64 r.1, .string ⟨(r.2.1).toArray⟩, .int .u32 r.2.2.1, .bool r.2.2.2.1, .slice cg0_0 r.2.2.2.2.1.length cg0_1, .int .i64 r.2.2.2.2.2.1, .int .i64 r.2.2.2.2.2.2.1, .int .u32 r.2.2.2.2.2.2.2.1, .slice cg0_2 r.2.2.2.2.2.2.2.2.length cg0_3] 48)).cell? ⟨w5.heap.size, 7, none⟩ = some (.int .u32 r.2.2.2.2.2.2.2.1) := HBK_g0.out.cell 7
  have kg0_8 : (w5.alloc (.cells #[.int .i64 r.1, .string ⟨(r.2.1).toArray⟩, .int .u32 r.2.2.1, .bool r.2.2.2.1, .slice cg0_0 r.2.2.2.2.1.length cg0_1, .int .i64 r.2.2.2.2.2.1, .int .i64 r.2.2.2.2.2.2.1, .int .u32 r.2.2.2.2.2.2.2.1, .slice cg0_2 r.2.2.2.2.2.2.2.2.length cg0_3] 48)).cell? ⟨w5.heap.size, 8, none⟩ = some (.slice cg0_2 r.2.2.2.2.2.2.2.2.length cg0_3) := HBK_g0.out.cell 8
  go_wp2_with fail
  refine (eqCmd_v G0_6.out.rd W0_6.out.rd).mono ?_
  rintro e w7 ⟨rfl, hm7⟩
  clear kw0_0 kw0_1 kw0_2 kw0_3 kw0_4 kw0_5 kw0_6 kw0_7 kw0_8
  clear kg0_0 kg0_1 kg0_2 kg0_3 kg0_4 kg0_5 kg0_6 kg0_7 kg0_8
  have HBK7_w0 := Sec.mk (HBK6_w0.out.mod hm7 id)
  clear HBK6_w0
  have HBK7_g0 := Sec.mk (HBK_g0.out.mod hm7 id)
  clear HBK_g0
  have W0_7 := Sec.mk (W0_6.out.step hm7)
  clear W0_6
  have X0_7 := Sec.mk (X0_6.out.step hm7)
  clear X0_6
  have G0_7 := Sec.mk (G0_6.out.step hm7)
  clear G0_6
  have HM7 := Sec.mk (HM6.out.transN hm7)
  clear HM6
  have hs7 := hm7.size
  clear hm7
  have kw0_0 : (w7).cell? ⟨w2.heap.size, 0, none⟩ = some (.int .i64 r.1) := HBK7_w0.out.cell 0
  have kw0_1 : (w7).cell? ⟨w2.heap.size, 1, none⟩ = some (.string ⟨(r.2.1).toArray⟩) := HBK7_w0.out.cell 1
  have kw0_2 : (w7).cell? ⟨w2.heap.size, 2, none⟩ = some (.int .u32 r.2.2.1) := HBK7_w0.out.cell 2
  have kw0_3 : (w7).cell? ⟨w2.heap.size, 3, none⟩ = some (.bool r.2.2.2.1) := HBK7_w0.out.cell 3
  have kw0_4 : (w7).cell? ⟨w2.heap.size, 4, none⟩ = some (.slice cw0_0 r.2.2.2.2.1.length cw0_1) := HBK7_w0.out.cell 4
  have kw0_5 : (w7).cell? ⟨w2.heap.size, 5, none⟩ = some (.int .i64 r.2.2.2.2.2.1) := HBK7_w0.out.cell 5
  have kw0_6 : (w7).cell? ⟨w2.heap.size, 6, none⟩ = some (.int .i64 r.2.2.2.2.2.2.1) := HBK7_w0.out.cell 6
  have kw0_7 : (w7).cell? ⟨w2.heap.size, 7, none⟩ = some (.int .u32 r.2.2.2.2.2.2.2.1) := HBK7_w0.out.cell 7
  have kw0_8 : (w7).cell? ⟨w2.heap.size, 8, none⟩ = some (.slice cw0_2 r.2.2.2.2.2.2.2.2.length cw0_3) := HBK7_w0.out.cell 8
  have kg0_0 : (w7).cell? ⟨w5.heap.size, 0, none⟩ = some (.int .i64 r.1) := HBK7_g0.out.cell 0
  have kg0_1 : (w7).cell? ⟨w5.heap.size, 1, none⟩ = some (.string ⟨(r.2.1).toArray⟩) := HBK7_g0.out.cell 1
  have kg0_2 : (w7).cell? ⟨w5.heap.size, 2, none⟩ = some (.int .u32 r.2.2.1) := HBK7_g0.out.cell 2
  have kg0_3 : (w7).cell? ⟨w5.heap.size, 3, none⟩ = some (.bool r.2.2.2.1) := HBK7_g0.out.cell 3
  have kg0_4 : (w7).cell? ⟨w5.heap.size, 4, none⟩ = some (.slice cg0_0 r.2.2.2.2.1.length cg0_1) := HBK7_g0.out.cell 4
  have kg0_5 : (w7).cell? ⟨w5.heap.size, 5, none⟩ = some (.int .i64 r.2.2.2.2.2.1) := HBK7_g0.out.cell 5
  have kg0_6 : (w7).cell? ⟨w5.heap.size, 6, none⟩ = some (.int .i64 r.2.2.2.2.2.2.1) := HBK7_g0.out.cell 6
  have kg0_7 : (w7).cell? ⟨w5.heap.size, 7, none⟩ = some (.int .u32 r.2.2.2.2.2.2.2.1) := HBK7_g0.out.cell 7
  have kg0_8 : (w7).cell? ⟨w5.heap.size, 8, none⟩ = some (.slice cg0_2 r.2.2.2.2.2.2.2.2.length cg0_3) := HBK7_g0.out.cell 8
  rw [show decide (r = r) = true by simp]
  go_wp2_with fail
  refine (toByteS_v (HRaLine.out.step HM7.out) hbl0).mono ?_
  rintro e w8 ⟨v8, rfl, ho8, hm8⟩
  clear kw0_0 kw0_1 kw0_2 kw0_3 kw0_4 kw0_5 kw0_6 kw0_7 kw0_8
  clear kg0_0 kg0_1 kg0_2 kg0_3 kg0_4 kg0_5 kg0_6 kg0_7 kg0_8
  have HBK8_w0 := Sec.mk (HBK7_w0.out.mod hm8 id)
  clear HBK7_w0
  have HBK8_g0 := Sec.mk (HBK7_g0.out.mod hm8 id)
  clear HBK7_g0
  have W0_8 := Sec.mk (W0_7.out.step hm8)
  clear W0_7
  have X0_8 := Sec.mk (X0_7.out.step hm8)
  clear X0_7
  have G0_8 := Sec.mk (G0_7.out.step hm8)
  clear G0_7
  have HM8 := Sec.mk (HM7.out.transN hm8)
  clear HM7
  have hs8 := hm8.size
  clear hm8
  have kw0_0 : (w8).cell? ⟨w2.heap.size, 0, none⟩ = some (.int .i64 r.1) := HBK8_w0.out.cell 0
  have kw0_1 : (w8).cell? ⟨w2.heap.size, 1, none⟩ = some (.string ⟨(r.2.1).toArray⟩) := HBK8_w0.out.cell 1
  have kw0_2 : (w8).cell? ⟨w2.heap.size, 2, none⟩ = some (.int .u32 r.2.2.1) := HBK8_w0.out.cell 2
  have kw0_3 : (w8).cell? ⟨w2.heap.size, 3, none⟩ = some (.bool r.2.2.2.1) := HBK8_w0.out.cell 3
  have kw0_4 : (w8).cell? ⟨w2.heap.size, 4, none⟩ = some (.slice cw0_0 r.2.2.2.2.1.length cw0_1) := HBK8_w0.out.cell 4
  have kw0_5 : (w8).cell? ⟨w2.heap.size, 5, none⟩ = some (.int .i64 r.2.2.2.2.2.1) := HBK8_w0.out.cell 5
  have kw0_6 : (w8).cell? ⟨w2.heap.size, 6, none⟩ = some (.int .i64 r.2.2.2.2.2.2.1) := HBK8_w0.out.cell 6
  have kw0_7 : (w8).cell? ⟨w2.heap.size, 7, none⟩ = some (.int .u32 r.2.2.2.2.2.2.2.1) := HBK8_w0.out.cell 7
  have kw0_8 : (w8).cell? ⟨w2.heap.size, 8, none⟩ = some (.slice cw0_2 r.2.2.2.2.2.2.2.2.length cw0_3) := HBK8_w0.out.cell 8
  have kg0_0 : (w8).cell? ⟨w5.heap.size, 0, none⟩ = some (.int .i64 r.1) := HBK8_g0.out.cell 0
  have kg0_1 : (w8).cell? ⟨w5.heap.size, 1, none⟩ = some (.string ⟨(r.2.1).toArray⟩) := HBK8_g0.out.cell 1
  have kg0_2 : (w8).cell? ⟨w5.heap.size, 2, none⟩ = some (.int .u32 r.2.2.1) := HBK8_g0.out.cell 2
  have kg0_3 : (w8).cell? ⟨w5.heap.size, 3, none⟩ = some (.bool r.2.2.2.1) := HBK8_g0.out.cell 3
  have kg0_4 : (w8).cell? ⟨w5.heap.size, 4, none⟩ = some (.slice cg0_0 r.2.2.2.2.1.length cg0_1) := HBK8_g0.out.cell 4
  have kg0_5 : (w8).cell? ⟨w5.heap.size, 5, none⟩ = some (.int .i64 r.2.2.2.2.2.1) := HBK8_g0.out.cell 5
  have kg0_6 : (w8).cell? ⟨w5.heap.size, 6, none⟩ = some (.int .i64 r.2.2.2.2.2.2.1) := HBK8_g0.out.cell 6
  have kg0_7 : (w8).cell? ⟨w5.heap.size, 7, none⟩ = some (.int .u32 r.2.2.2.2.2.2.2.1) := HBK8_g0.out.cell 7
  have kg0_8 : (w8).cell? ⟨w5.heap.size, 8, none⟩ = some (.slice cg0_2 r.2.2.2.2.2.2.2.2.length cg0_3) := HBK8_g0.out.cell 8
  have TCMP_8 := Sec.mk ho8
  clear ho8
  go_wp2_with fail
  refine (eqByteS_v X0_8.out.rd TCMP_8.out.rd).mono ?_
  rintro e w9 ⟨rfl, hm9⟩
  clear kw0_0 kw0_1 kw0_2 kw0_3 kw0_4 kw0_5 kw0_6 kw0_7 kw0_8
  clear kg0_0 kg0_1 kg0_2 kg0_3 kg0_4 kg0_5 kg0_6 kg0_7 kg0_8
  have HBK9_w0 := Sec.mk (HBK8_w0.out.mod hm9 id)
  clear HBK8_w0
  have HBK9_g0 := Sec.mk (HBK8_g0.out.mod hm9 id)
  clear HBK8_g0
  have W0_9 := Sec.mk (W0_8.out.step hm9)
  clear W0_8
  have X0_9 := Sec.mk (X0_8.out.step hm9)
  clear X0_8
  have G0_9 := Sec.mk (G0_8.out.step hm9)
  clear G0_8
  have TCMP_9 := Sec.mk (TCMP_8.out.step hm9)
  clear TCMP_8
  have HM9 := Sec.mk (HM8.out.transN hm9)
  clear HM8
  have hs9 := hm9.size
  clear hm9
  have kw0_0 : (w9).cell? ⟨w2.heap.size, 0, none⟩ = some (.int .i64 r.1) := HBK9_w0.out.cell 0
  have kw0_1 : (w9).cell? ⟨w2.heap.size, 1, none⟩ = some (.string ⟨(r.2.1).toArray⟩) := HBK9_w0.out.cell 1
  have kw0_2 : (w9).cell? ⟨w2.heap.size, 2, none⟩ = some (.int .u32 r.2.2.1) := HBK9_w0.out.cell 2
  have kw0_3 : (w9).cell? ⟨w2.heap.size, 3, none⟩ = some (.bool r.2.2.2.1) := HBK9_w0.out.cell 3
  have kw0_4 : (w9).cell? ⟨w2.heap.size, 4, none⟩ = some (.slice cw0_0 r.2.2.2.2.1.length cw0_1) := HBK9_w0.out.cell 4
  have kw0_5 : (w9).cell? ⟨w2.heap.size, 5, none⟩ = some (.int .i64 r.2.2.2.2.2.1) := HBK9_w0.out.cell 5
  have kw0_6 : (w9).cell? ⟨w2.heap.size, 6, none⟩ = some (.int .i64 r.2.2.2.2.2.2.1) := HBK9_w0.out.cell 6
  have kw0_7 : (w9).cell? ⟨w2.heap.size, 7, none⟩ = some (.int .u32 r.2.2.2.2.2.2.2.1) := HBK9_w0.out.cell 7
  have kw0_8 : (w9).cell? ⟨w2.heap.size, 8, none⟩ = some (.slice cw0_2 r.2.2.2.2.2.2.2.2.length cw0_3) := HBK9_w0.out.cell 8
  have kg0_0 : (w9).cell? ⟨w5.heap.size, 0, none⟩ = some (.int .i64 r.1) := HBK9_g0.out.cell 0
  have kg0_1 : (w9).cell? ⟨w5.heap.size, 1, none⟩ = some (.string ⟨(r.2.1).toArray⟩) := HBK9_g0.out.cell 1
  have kg0_2 : (w9).cell? ⟨w5.heap.size, 2, none⟩ = some (.int .u32 r.2.2.1) := HBK9_g0.out.cell 2
  have kg0_3 : (w9).cell? ⟨w5.heap.size, 3, none⟩ = some (.bool r.2.2.2.1) := HBK9_g0.out.cell 3
  have kg0_4 : (w9).cell? ⟨w5.heap.size, 4, none⟩ = some (.slice cg0_0 r.2.2.2.2.1.length cg0_1) := HBK9_g0.out.cell 4
  have kg0_5 : (w9).cell? ⟨w5.heap.size, 5, none⟩ = some (.int .i64 r.2.2.2.2.2.1) := HBK9_g0.out.cell 5
  have kg0_6 : (w9).cell? ⟨w5.heap.size, 6, none⟩ = some (.int .i64 r.2.2.2.2.2.2.1) := HBK9_g0.out.cell 6
  have kg0_7 : (w9).cell? ⟨w5.heap.size, 7, none⟩ = some (.int .u32 r.2.2.2.2.2.2.2.1) := HBK9_g0.out.cell 7
  have kg0_8 : (w9).cell? ⟨w5.heap.size, 8, none⟩ = some (.slice cg0_2 r.2.2.2.2.2.2.2.2.length cg0_3) := HBK9_g0.out.cell 8
  rw [show decide (xLine = xLine) = true by simp]
  clear TCMP_9
  go_wp2_with fail
  refine (markByteS_v X0_9.out (1) (by omega)).mono ?_
  rintro e w10 ⟨rfl, ho10, hm10⟩
  clear X0_9
  clear kw0_0 kw0_1 kw0_2 kw0_3 kw0_4 kw0_5 kw0_6 kw0_7 kw0_8
  clear kg0_0 kg0_1 kg0_2 kg0_3 kg0_4 kg0_5 kg0_6 kg0_7 kg0_8
  have HBK10_w0 := Sec.mk (HBK9_w0.out.mod hm10 (by omega))
  clear HBK9_w0
  have HBK10_g0 := Sec.mk (HBK9_g0.out.mod hm10 (by omega))
  clear HBK9_g0
  have W0_10 := Sec.mk (W0_9.out.keep hm10 (fun k h1 h2 h3 => by omega))
  clear W0_9
  have G0_10 := Sec.mk (G0_9.out.keep hm10 (fun k h1 h2 h3 => by omega))
  clear G0_9
  have HM10 := Sec.mk (HM9.out.trans hm10 (fun i hi hlt => by omega))
  clear HM9
  have hs10 := hm10.size
  clear hm10
  have kw0_0 : (w10).cell? ⟨w2.heap.size, 0, none⟩ = some (.int .i64 r.1) := HBK10_w0.out.cell 0
  have kw0_1 : (w10).cell? ⟨w2.heap.size, 1, none⟩ = some (.string ⟨(r.2.1).toArray⟩) := HBK10_w0.out.cell 1
  have kw0_2 : (w10).cell? ⟨w2.heap.size, 2, none⟩ = some (.int .u32 r.2.2.1) := HBK10_w0.out.cell 2
  have kw0_3 : (w10).cell? ⟨w2.heap.size, 3, none⟩ = some (.bool r.2.2.2.1) := HBK10_w0.out.cell 3
  have kw0_4 : (w10).cell? ⟨w2.heap.size, 4, none⟩ = some (.slice cw0_0 r.2.2.2.2.1.length cw0_1) := HBK10_w0.out.cell 4
  have kw0_5 : (w10).cell? ⟨w2.heap.size, 5, none⟩ = some (.int .i64 r.2.2.2.2.2.1) := HBK10_w0.out.cell 5
  have kw0_6 : (w10).cell? ⟨w2.heap.size, 6, none⟩ = some (.int .i64 r.2.2.2.2.2.2.1) := HBK10_w0.out.cell 6
  have kw0_7 : (w10).cell? ⟨w2.heap.size, 7, none⟩ = some (.int .u32 r.2.2.2.2.2.2.2.1) := HBK10_w0.out.cell 7
  have kw0_8 : (w10).cell? ⟨w2.heap.size, 8, none⟩ = some (.slice cw0_2 r.2.2.2.2.2.2.2.2.length cw0_3) := HBK10_w0.out.cell 8
  have kg0_0 : (w10).cell? ⟨w5.heap.size, 0, none⟩ = some (.int .i64 r.1) := HBK10_g0.out.cell 0
  have kg0_1 : (w10).cell? ⟨w5.heap.size, 1, none⟩ = some (.string ⟨(r.2.1).toArray⟩) := HBK10_g0.out.cell 1
  have kg0_2 : (w10).cell? ⟨w5.heap.size, 2, none⟩ = some (.int .u32 r.2.2.1) := HBK10_g0.out.cell 2
  have kg0_3 : (w10).cell? ⟨w5.heap.size, 3, none⟩ = some (.bool r.2.2.2.1) := HBK10_g0.out.cell 3
  have kg0_4 : (w10).cell? ⟨w5.heap.size, 4, none⟩ = some (.slice cg0_0 r.2.2.2.2.1.length cg0_1) := HBK10_g0.out.cell 4
  have kg0_5 : (w10).cell? ⟨w5.heap.size, 5, none⟩ = some (.int .i64 r.2.2.2.2.2.1) := HBK10_g0.out.cell 5
  have kg0_6 : (w10).cell? ⟨w5.heap.size, 6, none⟩ = some (.int .i64 r.2.2.2.2.2.2.1) := HBK10_g0.out.cell 6
  have kg0_7 : (w10).cell? ⟨w5.heap.size, 7, none⟩ = some (.int .u32 r.2.2.2.2.2.2.2.1) := HBK10_g0.out.cell 7
  have kg0_8 : (w10).cell? ⟨w5.heap.size, 8, none⟩ = some (.slice cg0_2 r.2.2.2.2.2.2.2.2.length cg0_3) := HBK10_g0.out.cell 8
  have X0_10 := Sec.mk ho10
  clear ho10
  go_wp2_with fail
  refine (eqCmd_v G0_10.out.rd W0_10.out.rd).mono ?_
  rintro e w11 ⟨rfl, hm11⟩
  clear kw0_0 kw0_1 kw0_2 kw0_3 kw0_4 kw0_5 kw0_6 kw0_7 kw0_8
  clear kg0_0 kg0_1 kg0_2 kg0_3 kg0_4 kg0_5 kg0_6 kg0_7 kg0_8
  have HBK11_w0 := Sec.mk (HBK10_w0.out.mod hm11 id)
  clear HBK10_w0
  have HBK11_g0 := Sec.mk (HBK10_g0.out.mod hm11 id)
  clear HBK10_g0
  have W0_11 := Sec.mk (W0_10.out.step hm11)
  clear W0_10
  have X0_11 := Sec.mk (X0_10.out.step hm11)
  clear X0_10
  have G0_11 := Sec.mk (G0_10.out.step hm11)
  clear G0_10
  have HM11 := Sec.mk (HM10.out.transN hm11)
  clear HM10
  have hs11 := hm11.size
  clear hm11
  have kw0_0 : (w11).cell? ⟨w2.heap.size, 0, none⟩ = some (.int .i64 r.1) := HBK11_w0.out.cell 0
  have kw0_1 : (w11).cell? ⟨w2.heap.size, 1, none⟩ = some (.string ⟨(r.2.1).toArray⟩) := HBK11_w0.out.cell 1
  have kw0_2 : (w11).cell? ⟨w2.heap.size, 2, none⟩ = some (.int .u32 r.2.2.1) := HBK11_w0.out.cell 2
  have kw0_3 : (w11).cell? ⟨w2.heap.size, 3, none⟩ = some (.bool r.2.2.2.1) := HBK11_w0.out.cell 3
  have kw0_4 : (w11).cell? ⟨w2.heap.size, 4, none⟩ = some (.slice cw0_0 r.2.2.2.2.1.length cw0_1) := HBK11_w0.out.cell 4
  have kw0_5 : (w11).cell? ⟨w2.heap.size, 5, none⟩ = some (.int .i64 r.2.2.2.2.2.1) := HBK11_w0.out.cell 5
  have kw0_6 : (w11).cell? ⟨w2.heap.size, 6, none⟩ = some (.int .i64 r.2.2.2.2.2.2.1) := HBK11_w0.out.cell 6
  have kw0_7 : (w11).cell? ⟨w2.heap.size, 7, none⟩ = some (.int .u32 r.2.2.2.2.2.2.2.1) := HBK11_w0.out.cell 7
  have kw0_8 : (w11).cell? ⟨w2.heap.size, 8, none⟩ = some (.slice cw0_2 r.2.2.2.2.2.2.2.2.length cw0_3) := HBK11_w0.out.cell 8
  have kg0_0 : (w11).cell? ⟨w5.heap.size, 0, none⟩ = some (.int .i64 r.1) := HBK11_g0.out.cell 0
  have kg0_1 : (w11).cell? ⟨w5.heap.size, 1, none⟩ = some (.string ⟨(r.2.1).toArray⟩) := HBK11_g0.out.cell 1
  have kg0_2 : (w11).cell? ⟨w5.heap.size, 2, none⟩ = some (.int .u32 r.2.2.1) := HBK11_g0.out.cell 2
  have kg0_3 : (w11).cell? ⟨w5.heap.size, 3, none⟩ = some (.bool r.2.2.2.1) := HBK11_g0.out.cell 3
  have kg0_4 : (w11).cell? ⟨w5.heap.size, 4, none⟩ = some (.slice cg0_0 r.2.2.2.2.1.length cg0_1) := HBK11_g0.out.cell 4
  have kg0_5 : (w11).cell? ⟨w5.heap.size, 5, none⟩ = some (.int .i64 r.2.2.2.2.2.1) := HBK11_g0.out.cell 5
  have kg0_6 : (w11).cell? ⟨w5.heap.size, 6, none⟩ = some (.int .i64 r.2.2.2.2.2.2.1) := HBK11_g0.out.cell 6
  have kg0_7 : (w11).cell? ⟨w5.heap.size, 7, none⟩ = some (.int .u32 r.2.2.2.2.2.2.2.1) := HBK11_g0.out.cell 7
  have kg0_8 : (w11).cell? ⟨w5.heap.size, 8, none⟩ = some (.slice cg0_2 r.2.2.2.2.2.2.2.2.length cg0_3) := HBK11_g0.out.cell 8
  rw [show decide (r = r) = true by simp]
  go_wp2_with fail
  refine (markCmd_v G0_11.out (1) (by omega)).mono ?_
  rintro e w12 ⟨rfl, ho12, hm12⟩
  clear G0_11
  clear kw0_0 kw0_1 kw0_2 kw0_3 kw0_4 kw0_5 kw0_6 kw0_7 kw0_8
  clear kg0_0 kg0_1 kg0_2 kg0_3 kg0_4 kg0_5 kg0_6 kg0_7 kg0_8
  have HBK12_w0 := Sec.mk (HBK11_w0.out.mod hm12 (by omega))
  clear HBK11_w0
  have HBK12_g0 := Sec.mk (HBK11_g0.out.mod hm12 (by omega))
  clear HBK11_g0
  have W0_12 := Sec.mk (W0_11.out.keep hm12 (fun k h1 h2 h3 => by omega))
  clear W0_11
  have X0_12 := Sec.mk (X0_11.out.keep hm12 (fun k h1 h2 h3 => by omega))
  clear X0_11
  have HM12 := Sec.mk (HM11.out.trans hm12 (fun i hi hlt => by omega))
  clear HM11
  have hs12 := hm12.size
  clear hm12
  have kw0_0 : (w12).cell? ⟨w2.heap.size, 0, none⟩ = some (.int .i64 r.1) := HBK12_w0.out.cell 0
  have kw0_1 : (w12).cell? ⟨w2.heap.size, 1, none⟩ = some (.string ⟨(r.2.1).toArray⟩) := HBK12_w0.out.cell 1
  have kw0_2 : (w12).cell? ⟨w2.heap.size, 2, none⟩ = some (.int .u32 r.2.2.1) := HBK12_w0.out.cell 2
  have kw0_3 : (w12).cell? ⟨w2.heap.size, 3, none⟩ = some (.bool r.2.2.2.1) := HBK12_w0.out.cell 3
  have kw0_4 : (w12).cell? ⟨w2.heap.size, 4, none⟩ = some (.slice cw0_0 r.2.2.2.2.1.length cw0_1) := HBK12_w0.out.cell 4
  have kw0_5 : (w12).cell? ⟨w2.heap.size, 5, none⟩ = some (.int .i64 r.2.2.2.2.2.1) := HBK12_w0.out.cell 5
  have kw0_6 : (w12).cell? ⟨w2.heap.size, 6, none⟩ = some (.int .i64 r.2.2.2.2.2.2.1) := HBK12_w0.out.cell 6
  have kw0_7 : (w12).cell? ⟨w2.heap.size, 7, none⟩ = some (.int .u32 r.2.2.2.2.2.2.2.1) := HBK12_w0.out.cell 7
  have kw0_8 : (w12).cell? ⟨w2.heap.size, 8, none⟩ = some (.slice cw0_2 r.2.2.2.2.2.2.2.2.length cw0_3) := HBK12_w0.out.cell 8
  have kg0_0 : (w12).cell? ⟨w5.heap.size, 0, none⟩ = some (.int .i64 r.1) := HBK12_g0.out.cell 0
  have kg0_1 : (w12).cell? ⟨w5.heap.size, 1, none⟩ = some (.string ⟨(r.2.1).toArray⟩) := HBK12_g0.out.cell 1
  have kg0_2 : (w12).cell? ⟨w5.heap.size, 2, none⟩ = some (.int .u32 r.2.2.1) := HBK12_g0.out.cell 2
  have kg0_3 : (w12).cell? ⟨w5.heap.size, 3, none⟩ = some (.bool r.2.2.2.1) := HBK12_g0.out.cell 3
  have kg0_4 : (w12).cell? ⟨w5.heap.size, 4, none⟩ = some (.slice cg0_0 r.2.2.2.2.1.length cg0_1) := HBK12_g0.out.cell 4
  have kg0_5 : (w12).cell? ⟨w5.heap.size, 5, none⟩ = some (.int .i64 r.2.2.2.2.2.1) := HBK12_g0.out.cell 5
  have kg0_6 : (w12).cell? ⟨w5.heap.size, 6, none⟩ = some (.int .i64 r.2.2.2.2.2.2.1) := HBK12_g0.out.cell 6
  have kg0_7 : (w12).cell? ⟨w5.heap.size, 7, none⟩ = some (.int .u32 r.2.2.2.2.2.2.2.1) := HBK12_g0.out.cell 7
  have kg0_8 : (w12).cell? ⟨w5.heap.size, 8, none⟩ = some (.slice cg0_2 r.2.2.2.2.2.2.2.2.length cg0_3) := HBK12_g0.out.cell 8
  have G0_12 := Sec.mk ho12
  clear ho12
  have HX := Sec.mk (mkCmd1_idem 1 1 r).symm
  have HK := Sec.mk (cntCmd_mk 1 r)
  go_wp2_with fail
  refine (heldCmd_v G0_12.out.rd 1 HX.out (by rw [HK.out]; omega)).mono ?_
  rintro e w13 ⟨rfl, hm13⟩
  rw [HK.out]
  clear kw0_0 kw0_1 kw0_2 kw0_3 kw0_4 kw0_5 kw0_6 kw0_7 kw0_8
  clear kg0_0 kg0_1 kg0_2 kg0_3 kg0_4 kg0_5 kg0_6 kg0_7 kg0_8
  have HBK13_w0 := Sec.mk (HBK12_w0.out.mod hm13 id)
  clear HBK12_w0
  have HBK13_g0 := Sec.mk (HBK12_g0.out.mod hm13 id)
  clear HBK12_g0
  have W0_13 := Sec.mk (W0_12.out.step hm13)
  clear W0_12
  have X0_13 := Sec.mk (X0_12.out.step hm13)
  clear X0_12
  have G0_13 := Sec.mk (G0_12.out.step hm13)
  clear G0_12
  have HM13 := Sec.mk (HM12.out.transN hm13)
  clear HM12
  have hs13 := hm13.size
  clear hm13
  have kw0_0 : (w13).cell? ⟨w2.heap.size, 0, none⟩ = some (.int .i64 r.1) := HBK13_w0.out.cell 0
  have kw0_1 : (w13).cell? ⟨w2.heap.size, 1, none⟩ = some (.string ⟨(r.2.1).toArray⟩) := HBK13_w0.out.cell 1
  have kw0_2 : (w13).cell? ⟨w2.heap.size, 2, none⟩ = some (.int .u32 r.2.2.1) := HBK13_w0.out.cell 2
  have kw0_3 : (w13).cell? ⟨w2.heap.size, 3, none⟩ = some (.bool r.2.2.2.1) := HBK13_w0.out.cell 3
  have kw0_4 : (w13).cell? ⟨w2.heap.size, 4, none⟩ = some (.slice cw0_0 r.2.2.2.2.1.length cw0_1) := HBK13_w0.out.cell 4
  have kw0_5 : (w13).cell? ⟨w2.heap.size, 5, none⟩ = some (.int .i64 r.2.2.2.2.2.1) := HBK13_w0.out.cell 5
  have kw0_6 : (w13).cell? ⟨w2.heap.size, 6, none⟩ = some (.int .i64 r.2.2.2.2.2.2.1) := HBK13_w0.out.cell 6
  have kw0_7 : (w13).cell? ⟨w2.heap.size, 7, none⟩ = some (.int .u32 r.2.2.2.2.2.2.2.1) := HBK13_w0.out.cell 7
  have kw0_8 : (w13).cell? ⟨w2.heap.size, 8, none⟩ = some (.slice cw0_2 r.2.2.2.2.2.2.2.2.length cw0_3) := HBK13_w0.out.cell 8
  have kg0_0 : (w13).cell? ⟨w5.heap.size, 0, none⟩ = some (.int .i64 r.1) := HBK13_g0.out.cell 0
  have kg0_1 : (w13).cell? ⟨w5.heap.size, 1, none⟩ = some (.string ⟨(r.2.1).toArray⟩) := HBK13_g0.out.cell 1
  have kg0_2 : (w13).cell? ⟨w5.heap.size, 2, none⟩ = some (.int .u32 r.2.2.1) := HBK13_g0.out.cell 2
  have kg0_3 : (w13).cell? ⟨w5.heap.size, 3, none⟩ = some (.bool r.2.2.2.1) := HBK13_g0.out.cell 3
  have kg0_4 : (w13).cell? ⟨w5.heap.size, 4, none⟩ = some (.slice cg0_0 r.2.2.2.2.1.length cg0_1) := HBK13_g0.out.cell 4
  have kg0_5 : (w13).cell? ⟨w5.heap.size, 5, none⟩ = some (.int .i64 r.2.2.2.2.2.1) := HBK13_g0.out.cell 5
  have kg0_6 : (w13).cell? ⟨w5.heap.size, 6, none⟩ = some (.int .i64 r.2.2.2.2.2.2.1) := HBK13_g0.out.cell 6
  have kg0_7 : (w13).cell? ⟨w5.heap.size, 7, none⟩ = some (.int .u32 r.2.2.2.2.2.2.2.1) := HBK13_g0.out.cell 7
  have kg0_8 : (w13).cell? ⟨w5.heap.size, 8, none⟩ = some (.slice cg0_2 r.2.2.2.2.2.2.2.2.length cg0_3) := HBK13_g0.out.cell 8
  go_wp2_with fail
  refine (toByteS_v (HRaLine.out.step HM13.out) hbl0).mono ?_
  rintro e w14 ⟨v14, rfl, ho14, hm14⟩
  clear kw0_0 kw0_1 kw0_2 kw0_3 kw0_4 kw0_5 kw0_6 kw0_7 kw0_8
  clear kg0_0 kg0_1 kg0_2 kg0_3 kg0_4 kg0_5 kg0_6 kg0_7 kg0_8
  have HBK14_w0 := Sec.mk (HBK13_w0.out.mod hm14 id)
  clear HBK13_w0
  have HBK14_g0 := Sec.mk (HBK13_g0.out.mod hm14 id)
  clear HBK13_g0
  have W0_14 := Sec.mk (W0_13.out.step hm14)
  clear W0_13
  have X0_14 := Sec.mk (X0_13.out.step hm14)
  clear X0_13
  have G0_14 := Sec.mk (G0_13.out.step hm14)
  clear G0_13
  have HM14 := Sec.mk (HM13.out.transN hm14)
  clear HM13
  have hs14 := hm14.size
  clear hm14
  have kw0_0 : (w14).cell? ⟨w2.heap.size, 0, none⟩ = some (.int .i64 r.1) := HBK14_w0.out.cell 0
  have kw0_1 : (w14).cell? ⟨w2.heap.size, 1, none⟩ = some (.string ⟨(r.2.1).toArray⟩) := HBK14_w0.out.cell 1
  have kw0_2 : (w14).cell? ⟨w2.heap.size, 2, none⟩ = some (.int .u32 r.2.2.1) := HBK14_w0.out.cell 2
  have kw0_3 : (w14).cell? ⟨w2.heap.size, 3, none⟩ = some (.bool r.2.2.2.1) := HBK14_w0.out.cell 3
  have kw0_4 : (w14).cell? ⟨w2.heap.size, 4, none⟩ = some (.slice cw0_0 r.2.2.2.2.1.length cw0_1) := HBK14_w0.out.cell 4
  have kw0_5 : (w14).cell? ⟨w2.heap.size, 5, none⟩ = some (.int .i64 r.2.2.2.2.2.1) := HBK14_w0.out.cell 5
  have kw0_6 : (w14).cell? ⟨w2.heap.size, 6, none⟩ = some (.int .i64 r.2.2.2.2.2.2.1) := HBK14_w0.out.cell 6
  have kw0_7 : (w14).cell? ⟨w2.heap.size, 7, none⟩ = some (.int .u32 r.2.2.2.2.2.2.2.1) := HBK14_w0.out.cell 7
  have kw0_8 : (w14).cell? ⟨w2.heap.size, 8, none⟩ = some (.slice cw0_2 r.2.2.2.2.2.2.2.2.length cw0_3) := HBK14_w0.out.cell 8
  have kg0_0 : (w14).cell? ⟨w5.heap.size, 0, none⟩ = some (.int .i64 r.1) := HBK14_g0.out.cell 0
  have kg0_1 : (w14).cell? ⟨w5.heap.size, 1, none⟩ = some (.string ⟨(r.2.1).toArray⟩) := HBK14_g0.out.cell 1
  have kg0_2 : (w14).cell? ⟨w5.heap.size, 2, none⟩ = some (.int .u32 r.2.2.1) := HBK14_g0.out.cell 2
  have kg0_3 : (w14).cell? ⟨w5.heap.size, 3, none⟩ = some (.bool r.2.2.2.1) := HBK14_g0.out.cell 3
  have kg0_4 : (w14).cell? ⟨w5.heap.size, 4, none⟩ = some (.slice cg0_0 r.2.2.2.2.1.length cg0_1) := HBK14_g0.out.cell 4
  have kg0_5 : (w14).cell? ⟨w5.heap.size, 5, none⟩ = some (.int .i64 r.2.2.2.2.2.1) := HBK14_g0.out.cell 5
  have kg0_6 : (w14).cell? ⟨w5.heap.size, 6, none⟩ = some (.int .i64 r.2.2.2.2.2.2.1) := HBK14_g0.out.cell 6
  have kg0_7 : (w14).cell? ⟨w5.heap.size, 7, none⟩ = some (.int .u32 r.2.2.2.2.2.2.2.1) := HBK14_g0.out.cell 7
  have kg0_8 : (w14).cell? ⟨w5.heap.size, 8, none⟩ = some (.slice cg0_2 r.2.2.2.2.2.2.2.2.length cg0_3) := HBK14_g0.out.cell 8
  have TLINEH0_14 := Sec.mk ho14
  clear ho14
  go_wp2_with fail
  refine (implParsePop_v TLINEH0_14.out.rd hbl0).mono ?_
  rw [HFN.out]
  rintro e w15 ⟨v15, rfl, ho15, hm15⟩
  clear kw0_0 kw0_1 kw0_2 kw0_3 kw0_4 kw0_5 kw0_6 kw0_7 kw0_8
  clear kg0_0 kg0_1 kg0_2 kg0_3 kg0_4 kg0_5 kg0_6 kg0_7 kg0_8
  have HBK15_w0 := Sec.mk (HBK14_w0.out.mod hm15 id)
  clear HBK14_w0
  have HBK15_g0 := Sec.mk (HBK14_g0.out.mod hm15 id)
  clear HBK14_g0
  have W0_15 := Sec.mk (W0_14.out.step hm15)
  clear W0_14
  have X0_15 := Sec.mk (X0_14.out.step hm15)
  clear X0_14
  have G0_15 := Sec.mk (G0_14.out.step hm15)
  clear G0_14
  have TLINEH0_15 := Sec.mk (TLINEH0_14.out.step hm15)
  clear TLINEH0_14
  have HM15 := Sec.mk (HM14.out.transN hm15)
  clear HM14
  have hs15 := hm15.size
  clear hm15
  have kw0_0 : (w15).cell? ⟨w2.heap.size, 0, none⟩ = some (.int .i64 r.1) := HBK15_w0.out.cell 0
  have kw0_1 : (w15).cell? ⟨w2.heap.size, 1, none⟩ = some (.string ⟨(r.2.1).toArray⟩) := HBK15_w0.out.cell 1
  have kw0_2 : (w15).cell? ⟨w2.heap.size, 2, none⟩ = some (.int .u32 r.2.2.1) := HBK15_w0.out.cell 2
  have kw0_3 : (w15).cell? ⟨w2.heap.size, 3, none⟩ = some (.bool r.2.2.2.1) := HBK15_w0.out.cell 3
  have kw0_4 : (w15).cell? ⟨w2.heap.size, 4, none⟩ = some (.slice cw0_0 r.2.2.2.2.1.length cw0_1) := HBK15_w0.out.cell 4
  have kw0_5 : (w15).cell? ⟨w2.heap.size, 5, none⟩ = some (.int .i64 r.2.2.2.2.2.1) := HBK15_w0.out.cell 5
  have kw0_6 : (w15).cell? ⟨w2.heap.size, 6, none⟩ = some (.int .i64 r.2.2.2.2.2.2.1) := HBK15_w0.out.cell 6
  have kw0_7 : (w15).cell? ⟨w2.heap.size, 7, none⟩ = some (.int .u32 r.2.2.2.2.2.2.2.1) := HBK15_w0.out.cell 7
  have kw0_8 : (w15).cell? ⟨w2.heap.size, 8, none⟩ = some (.slice cw0_2 r.2.2.2.2.2.2.2.2.length cw0_3) := HBK15_w0.out.cell 8
  have kg0_0 : (w15).cell? ⟨w5.heap.size, 0, none⟩ = some (.int .i64 r.1) := HBK15_g0.out.cell 0
  have kg0_1 : (w15).cell? ⟨w5.heap.size, 1, none⟩ = some (.string ⟨(r.2.1).toArray⟩) := HBK15_g0.out.cell 1
  have kg0_2 : (w15).cell? ⟨w5.heap.size, 2, none⟩ = some (.int .u32 r.2.2.1) := HBK15_g0.out.cell 2
  have kg0_3 : (w15).cell? ⟨w5.heap.size, 3, none⟩ = some (.bool r.2.2.2.1) := HBK15_g0.out.cell 3
  have kg0_4 : (w15).cell? ⟨w5.heap.size, 4, none⟩ = some (.slice cg0_0 r.2.2.2.2.1.length cg0_1) := HBK15_g0.out.cell 4
  have kg0_5 : (w15).cell? ⟨w5.heap.size, 5, none⟩ = some (.int .i64 r.2.2.2.2.2.1) := HBK15_g0.out.cell 5
  have kg0_6 : (w15).cell? ⟨w5.heap.size, 6, none⟩ = some (.int .i64 r.2.2.2.2.2.2.1) := HBK15_g0.out.cell 6
  have kg0_7 : (w15).cell? ⟨w5.heap.size, 7, none⟩ = some (.int .u32 r.2.2.2.2.2.2.2.1) := HBK15_g0.out.cell 7
  have kg0_8 : (w15).cell? ⟨w5.heap.size, 8, none⟩ = some (.slice cg0_2 r.2.2.2.2.2.2.2.2.length cg0_3) := HBK15_g0.out.cell 8
  have H0_15 := Sec.mk ho15
  clear ho15
  obtain ⟨ch0_0, ch0_1, ch0_2, ch0_3, rfl⟩ := cellsCmd H0_15.out.rd
  have hma15 := ((Mod.refl (fun _ => False) w15).alloc (.cells #[.int .i64 r.1, .string ⟨(r.2.1).toArray⟩, .int .u32 r.2.2.1, .bool r.2.2.2.1, .slice ch0_0 r.2.2.2.2.1.length ch0_1, .int .i64 r.2.2.2.2.2.1, .int .i64 r.2.2.2.2.2.2.1, .int .u32 r.2.2.2.2.2.2.2.1, .slice ch0_2 r.2.2.2.2.2.2.2.2.length ch0_3] 48))
  clear kw0_0 kw0_1 kw0_2 kw0_3 kw0_4 kw0_5 kw0_6 kw0_7 kw0_8
  clear kg0_0 kg0_1 kg0_2 kg0_3 kg0_4 kg0_5 kg0_6 kg0_7 kg0_8
  have HBK16_w0 := Sec.mk (HBK15_w0.out.mod hma15 id)
  clear HBK15_w0
  have HBK16_g0 := Sec.mk (HBK15_g0.out.mod hma15 id)
  clear HBK15_g0
  have W0_16 := Sec.mk (W0_15.out.step hma15)
  clear W0_15
  have X0_16 := Sec.mk (X0_15.out.step hma15)
  clear X0_15
  have G0_16 := Sec.mk (G0_15.out.step hma15)
  clear G0_15
  have TLINEH0_16 := Sec.mk (TLINEH0_15.out.step hma15)
  clear TLINEH0_15
  have H0_16 := Sec.mk (H0_15.out.step hma15)
  clear H0_15
  have HM16 := Sec.mk (HM15.out.transN hma15)
  clear HM15
  have hs16 := hma15.size
  clear hma15
  have kw0_0 : (w15.alloc (.cells #[.int .i64 r.1, .string ⟨(r.2.1).toArray⟩, .int .u32 r.2.2.1, .bool r.2.2.2.1, .slice ch0_0 r.2.2.2.2.1.length ch0_1, .int .i64 r.2.2.2.2.2.1, .int .i64 r.2.2.2.2.2.2.1, .int .u32 r.2.2.2.2.2.2.2.1, .slice ch0_2 r.2.2.2.2.2.2.2.2.length ch0_3] 48)).cell? ⟨w2.heap.size, 0, none⟩ = some (.int .i64 r.1) := HBK16_w0.out.cell 0
  have kw0_1 : (w15.alloc (.cells #[.int .i64 r.1, .string ⟨(r.2.1).toArray⟩, .int .u32 r.2.2.1, .bool r.2.2.2.1, .slice ch0_0 r.2.2.2.2.1.length ch0_1, .int .i64 r.2.2.2.2.2.1, .int .i64 r.2.2.2.2.2.2.1, .int .u32 r.2.2.2.2.2.2.2.1, .slice ch0_2 r.2.2.2.2.2.2.2.2.length ch0_3] 48)).cell? ⟨w2.heap.size, 1, none⟩ = some (.string ⟨(r.2.1).toArray⟩) := HBK16_w0.out.cell 1
  have kw0_2 : (w15.alloc (.cells #[.int .i64 r.1, .string ⟨(r.2.1).toArray⟩, .int .u32 r.2.2.1, .bool r.2.2.2.1, .slice ch0_0 r.2.2.2.2.1.length ch0_1, .int .i64 r.2.2.2.2.2.1, .int .i64 r.2.2.2.2.2.2.1, .int .u32 r.2.2.2.2.2.2.2.1, .slice ch0_2 r.2.2.2.2.2.2.2.2.length ch0_3] 48)).cell? ⟨w2.heap.size, 2, none⟩ = some (.int .u32 r.2.2.1) := HBK16_w0.out.cell 2
  have kw0_3 : (w15.alloc (.cells #[.int .i64 r.1, .string ⟨(r.2.1).toArray⟩, .int .u32 r.2.2.1, .bool r.2.2.2.1, .slice ch0_0 r.2.2.2.2.1.length ch0_1, .int .i64 r.2.2.2.2.2.1, .int .i64 r.2.2.2.2.2.2.1, .int .u32 r.2.2.2.2.2.2.2.1, .slice ch0_2 r.2.2.2.2.2.2.2.2.length ch0_3] 48)).cell? ⟨w2.heap.size, 3, none⟩ = some (.bool r.2.2.2.1) := HBK16_w0.out.cell 3
  have kw0_4 : (w15.alloc (.cells #[.int .i64 r.1, .string ⟨(r.2.1).toArray⟩, .int .u32 r.2.2.1, .bool r.2.2.2.1, .slice ch0_0 r.2.2.2.2.1.length ch0_1, .int .i64 r.2.2.2.2.2.1, .int .i64 r.2.2.2.2.2.2.1, .int .u32 r.2.2.2.2.2.2.2.1, .slice ch0_2 r.2.2.2.2.2.2.2.2.length ch0_3] 48)).cell? ⟨w2.heap.size, 4, none⟩ = some (.slice cw0_0 r.2.2.2.2.1.length cw0_1) := HBK16_w0.out.cell 4
  have kw0_5 : (w15.alloc (.cells #[.int .i64 r.1, .string ⟨(r.2.1).toArray⟩, .int .u32 r.2.2.1, .bool r.2.2.2.1, .slice ch0_0 r.2.2.2.2.1.length ch0_1, .int .i64 r.2.2.2.2.2.1, .int .i64 r.2.2.2.2.2.2.1, .int .u32 r.2.2.2.2.2.2.2.1, .slice ch0_2 r.2.2.2.2.2.2.2.2.length ch0_3] 48)).cell? ⟨w2.heap.size, 5, none⟩ = some (.int .i64 r.2.2.2.2.2.1) := HBK16_w0.out.cell 5
  have kw0_6 : (w15.alloc (.cells #[.int .i64 r.1, .string ⟨(r.2.1).toArray⟩, .int .u32 r.2.2.1, .bool r.2.2.2.1, .slice ch0_0 r.2.2.2.2.1.length ch0_1, .int .i64 r.2.2.2.2.2.1, .int .i64 r.2.2.2.2.2.2.1, .int .u32 r.2.2.2.2.2.2.2.1, .slice ch0_2 r.2.2.2.2.2.2.2.2.length ch0_3] 48)).cell? ⟨w2.heap.size, 6, none⟩ = some (.int .i64 r.2.2.2.2.2.2.1) := HBK16_w0.out.cell 6
  have kw0_7 : (w15.alloc (.cells #[.int .i64 r.1, .string ⟨(r.2.1).toArray⟩, .int .u32 r.2.2.1, .bool r.2.2.2.1, .slice ch0_0 r.2.2.2.2.1.length ch0_1, .int .i64 r.2.2.2.2.2.1, .int .i64 r.2.2.2.2.2.2.1, .int .u32 r.2.2.2.2.2.2.2.1, .slice ch0_2 r.2.2.2.2.2.2.2.2.length ch0_3] 48)).cell? ⟨w2.heap.size, 7, none⟩ = some (.int .u32 r.2.2.2.2.2.2.2.1) := HBK16_w0.out.cell 7
  have kw0_8 : (w15.alloc (.cells #[.int .i64 r.1, .string ⟨(r.2.1).toArray⟩, .int .u32 r.2.2.1, .bool r.2.2.2.1, .slice ch0_0 r.2.2.2.2.1.length ch0_1, .int .i64 r.2.2.2.2.2.1, .int .i64 r.2.2.2.2.2.2.1, .int .u32 r.2.2.2.2.2.2.2.1, .slice ch0_2 r.2.2.2.2.2.2.2.2.length ch0_3] 48)).cell? ⟨w2.heap.size, 8, none⟩ = some (.slice cw0_2 r.2.2.2.2.2.2.2.2.length cw0_3) := HBK16_w0.out.cell 8
  have kg0_0 : (w15.alloc (.cells #[.int .i64 r.1, .string ⟨(r.2.1).toArray⟩, .int .u32 r.2.2.1, .bool r.2.2.2.1, .slice ch0_0 r.2.2.2.2.1.length ch0_1, .int .i64 r.2.2.2.2.2.1, .int .i64 r.2.2.2.2.2.2.1, .int .u32 r.2.2.2.2.2.2.2.1, .slice ch0_2 r.2.2.2.2.2.2.2.2.length ch0_3] 48)).cell? ⟨w5.heap.size, 0, none⟩ = some (.int .i64 r.1) := HBK16_g0.out.cell 0
  have kg0_1 : (w15.alloc (.cells #[.int .i64 r.1, .string ⟨(r.2.1).toArray⟩, .int .u32 r.2.2.1, .bool r.2.2.2.1, .slice ch0_0 r.2.2.2.2.1.length ch0_1, .int .i64 r.2.2.2.2.2.1, .int .i64 r.2.2.2.2.2.2.1, .int .u32 r.2.2.2.2.2.2.2.1, .slice ch0_2 r.2.2.2.2.2.2.2.2.length ch0_3] 48)).cell? ⟨w5.heap.size, 1, none⟩ = some (.string ⟨(r.2.1).toArray⟩) := HBK16_g0.out.cell 1
  have kg0_2 : (w15.alloc (.cells #[.int .i64 r.1, .string ⟨(r.2.1).toArray⟩, .int .u32 r.2.2.1, .bool r.2.2.2.1, .slice ch0_0 r.2.2.2.2.1.length ch0_1, .int .i64 r.2.2.2.2.2.1, .int .i64 r.2.2.2.2.2.2.1, .int .u32 r.2.2.2.2.2.2.2.1, .slice ch0_2 r.2.2.2.2.2.2.2.2.length ch0_3] 48)).cell? ⟨w5.heap.size, 2, none⟩ = some (.int .u32 r.2.2.1) := HBK16_g0.out.cell 2
  have kg0_3 : (w15.alloc (.cells #[.int .i64 r.1, .string ⟨(r.2.1).toArray⟩, .int .u32 r.2.2.1, .bool r.2.2.2.1, .slice ch0_0 r.2.2.2.2.1.length ch0_1, .int .i64 r.2.2.2.2.2.1, .int .i64 r.2.2.2.2.2.2.1, .int .u32 r.2.2.2.2.2.2.2.1, .slice ch0_2 r.2.2.2.2.2.2.2.2.length ch0_3] 48)).cell? ⟨w5.heap.size, 3, none⟩ = some (.bool r.2.2.2.1) := HBK16_g0.out.cell 3
  have kg0_4 : (w15.alloc (.cells #[.int .i64 r.1, .string ⟨(r.2.1).toArray⟩, .int .u32 r.2.2.1, .bool r.2.2.2.1, .slice ch0_0 r.2.2.2.2.1.length ch0_1, .int .i64 r.2.2.2.2.2.1, .int .i64 r.2.2.2.2.2.2.1, .int .u32 r.2.2.2.2.2.2.2.1, .slice ch0_2 r.2.2.2.2.2.2.2.2.length ch0_3] 48)).cell? ⟨w5.heap.size, 4, none⟩ = some (.slice cg0_0 r.2.2.2.2.1.length cg0_1) := HBK16_g0.out.cell 4
  have kg0_5 : (w15.alloc (.cells #[.int .i64 r.1, .string ⟨(r.2.1).toArray⟩, .int .u32 r.2.2.1, .bool r.2.2.2.1, .slice ch0_0 r.2.2.2.2.1.length ch0_1, .int .i64 r.2.2.2.2.2.1, .int .i64 r.2.2.2.2.2.2.1, .int .u32 r.2.2.2.2.2.2.2.1, .slice ch0_2 r.2.2.2.2.2.2.2.2.length ch0_3] 48)).cell? ⟨w5.heap.size, 5, none⟩ = some (.int .i64 r.2.2.2.2.2.1) := HBK16_g0.out.cell 5
  have kg0_6 : (w15.alloc (.cells #[.int .i64 r.1, .string ⟨(r.2.1).toArray⟩, .int .u32 r.2.2.1, .bool r.2.2.2.1, .slice ch0_0 r.2.2.2.2.1.length ch0_1, .int .i64 r.2.2.2.2.2.1, .int .i64 r.2.2.2.2.2.2.1, .int .u32 r.2.2.2.2.2.2.2.1, .slice ch0_2 r.2.2.2.2.2.2.2.2.length ch0_3] 48)).cell? ⟨w5.heap.size, 6, none⟩ = some (.int .i64 r.2.2.2.2.2.2.1) := HBK16_g0.out.cell 6
  have kg0_7 : (w15.alloc (.cells #[.int .i64 r.1, .string ⟨(r.2.1).toArray⟩, .int .u32 r.2.2.1, .bool r.2.2.2.1, .slice ch0_0 r.2.2.2.2.1.length ch0_1, .int .i64 r.2.2.2.2.2.1, .int .i64 r.2.2.2.2.2.2.1, .int .u32 r.2.2.2.2.2.2.2.1, .slice ch0_2 r.2.2.2.2.2.2.2.2.length ch0_3] 48)).cell? ⟨w5.heap.size, 7, none⟩ = some (.int .u32 r.2.2.2.2.2.2.2.1) := HBK16_g0.out.cell 7
  have kg0_8 : (w15.alloc (.cells #[.int .i64 r.1, .string ⟨(r.2.1).toArray⟩, .int .u32 r.2.2.1, .bool r.2.2.2.1, .slice ch0_0 r.2.2.2.2.1.length ch0_1, .int .i64 r.2.2.2.2.2.1, .int .i64 r.2.2.2.2.2.2.1, .int .u32 r.2.2.2.2.2.2.2.1, .slice ch0_2 r.2.2.2.2.2.2.2.2.length ch0_3] 48)).cell? ⟨w5.heap.size, 8, none⟩ = some (.slice cg0_2 r.2.2.2.2.2.2.2.2.length cg0_3) := HBK16_g0.out.cell 8
  have HBK_h0 := Sec.mk (Blk.new w15 48 [.int .i64 r.1, .string ⟨(r.2.1).toArray⟩, .int .u32 r.2.2.1, .bool r.2.2.2.1, .slice ch0_0 r.2.2.2.2.1.length ch0_1, .int .i64 r.2.2.2.2.2.1, .int .i64 r.2.2.2.2.2.2.1, .int .u32 r.2.2.2.2.2.2.2.1, .slice ch0_2 r.2.2.2.2.2.2.2.2.length ch0_3])
  have hz15 : (w15.alloc (.cells #[.int .i64 r.1, .string ⟨(r.2.1).toArray⟩, .int .u32 r.2.2.1, .bool r.2.2.2.1, .slice ch0_0 r.2.2.2.2.1.length ch0_1, .int .i64 r.2.2.2.2.2.1, .int .i64 r.2.2.2.2.2.2.1, .int .u32 r.2.2.2.2.2.2.2.1, .slice ch0_2 r.2.2.2.2.2.2.2.2.length ch0_3] 48)).heap.size = w15.heap.size + 1 := by simp
  clear kw0_0 kw0_1 kw0_2 kw0_3 kw0_4 kw0_5 kw0_6 kw0_7 kw0_8
  clear kg0_0 kg0_1 kg0_2 kg0_3 kg0_4 kg0_5 kg0_6 kg0_7 kg0_8
  have kw0_0 : (w15.alloc (.cells #[.int .i64 r.1, .string ⟨(r.2.1).toArray⟩, .int .u32 r.2.2.1, .bool r.2.2.2.1, .slice ch0_0 r.2.2.2.2.1.length ch0_1, .int .i64 r.2.2.2.2.2.1, .int .i64 r.2.2.2.2.2.2.1, .int .u32 r.2.2.2.2.2.2.2.1, .slice ch0_2 r.2.2.2.2.2.2.2.2.length ch0_3] 48)).cell? ⟨w2.heap.size, 0, none⟩ = some (.int .i64 r.1) := HBK16_w0.out.cell 0
  have kw0_1 : (w15.alloc (.cells #[.int .i64 r.1, .string ⟨(r.2.1).toArray⟩, .int .u32 r.2.2.1, .bool r.2.2.2.1, .slice ch0_0 r.2.2.2.2.1.length ch0_1, .int .i64 r.2.2.2.2.2.1, .int .i64 r.2.2.2.2.2.2.1, .int .u32 r.2.2.2.2.2.2.2.1, .slice ch0_2 r.2.2.2.2.2.2.2.2.length ch0_3] 48)).cell? ⟨w2.heap.size, 1, none⟩ = some (.string ⟨(r.2.1).toArray⟩) := HBK16_w0.out.cell 1
  have kw0_2 : (w15.alloc (.cells #[.int .i64 r.1, .string ⟨(r.2.1).toArray⟩, .int .u32 r.2.2.1, .bool r.2.2.2.1, .slice ch0_0 r.2.2.2.2.1.length ch0_1, .int .i64 r.2.2.2.2.2.1, .int .i64 r.2.2.2.2.2.2.1, .int .u32 r.2.2.2.2.2.2.2.1, .slice ch0_2 r.2.2.2.2.2.2.2.2.length ch0_3] 48)).cell? ⟨w2.heap.size, 2, none⟩ = some (.int .u32 r.2.2.1) := HBK16_w0.out.cell 2
  have kw0_3 : (w15.alloc (.cells #[.int .i64 r.1, .string ⟨(r.2.1).toArray⟩, .int .u32 r.2.2.1, .bool r.2.2.2.1, .slice ch0_0 r.2.2.2.2.1.length ch0_1, .int .i64 r.2.2.2.2.2.1, .int .i64 r.2.2.2.2.2.2.1, .int .u32 r.2.2.2.2.2.2.2.1, .slice ch0_2 r.2.2.2.2.2.2.2.2.length ch0_3] 48)).cell? ⟨w2.heap.size, 3, none⟩ = some (.bool r.2.2.2.1) := HBK16_w0.out.cell 3
  have kw0_4 : (w15.alloc (.cells #[.int .i64 r.1, .string ⟨(r.2.1).toArray⟩, .int .u32 r.2.2.1, .bool r.2.2.2.1, .slice ch0_0 r.2.2.2.2.1.length ch0_1, .int .i64 r.2.2.2.2.2.1, .int .i64 r.2.2.2.2.2.2.1, .int .u32 r.2.2.2.2.2.2.2.1, .slice ch0_2 r.2.2.2.2.2.2.2.2.length ch0_3] 48)).cell? ⟨w2.heap.size, 4, none⟩ = some (.slice cw0_0 r.2.2.2.2.1.length cw0_1) := HBK16_w0.out.cell 4
  have kw0_5 : (w15.alloc (.cells #[.int .i64 r.1, .string ⟨(r.2.1).toArray⟩, .int .u32 r.2.2.1, .bool r.2.2.2.1, .slice ch0_0 r.2.2.2.2.1.length ch0_1, .int .i64 r.2.2.2.2.2.1, .int .i64 r.2.2.2.2.2.2.1, .int .u32 r.2.2.2.2.2.2.2.1, .slice ch0_2 r.2.2.2.2.2.2.2.2.length ch0_3] 48)).cell? ⟨w2.heap.size, 5, none⟩ = some (.int .i64 r.2.2.2.2.2.1) := HBK16_w0.out.cell 5
  have kw0_6 : (w15.alloc (.cells #[.int .i64 r.1, .string ⟨(r.2.1).toArray⟩, .int .u32 r.2.2.1, .bool r.2.2.2.1, .slice ch0_0 r.2.2.2.2.1.length ch0_1, .int .i64 r.2.2.2.2.2.1, .int .i64 r.2.2.2.2.2.2.1, .int .u32 r.2.2.2.2.2.2.2.1, .slice ch0_2 r.2.2.2.2.2.2.2.2.length ch0_3] 48)).cell? ⟨w2.heap.size, 6, none⟩ = some (.int .i64 r.2.2.2.2.2.2.1) := HBK16_w0.out.cell 6
  have kw0_7 : (w15.alloc (.cells #[.int .i64 r.1, .string ⟨(r.2.1).toArray⟩, .int .u32 r.2.2.1, .bool r.2.2.2.1, .slice ch0_0 r.2.2.2.2.1.length ch0_1, .int .i64 r.2.2.2.2.2.1, .int .i64 r.2.2.2.2.2.2.1, .int .u32 r.2.2.2.2.2.2.2.1, .slice ch0_2 r.2.2.2.2.2.2.2.2.length ch0_3] 48)).cell? ⟨w2.heap.size, 7, none⟩ = some (.int .u32 r.2.2.2.2.2.2.2.1) := HBK16_w0.out.cell 7
  have kw0_8 : (w15.alloc (.cells #[.int .i64 r.1, .string ⟨(r.2.1).toArray⟩, .int .u32 r.2.2.1, .bool r.2.2.2.1, .slice ch0_0 r.2.2.2.2.1.length ch0_1, .int .i64 r.2.2.2.2.2.1, .int .i64 r.2.2.2.2.2.2.1, .int .u32 r.2.2.2.2.2.2.2.1, .slice ch0_2 r.2.2.2.2.2.2.2.2.length ch0_3] 48)).cell? ⟨w2.heap.size, 8, none⟩ = some (.slice cw0_2 r.2.2.2.2.2.2.2.2.length cw0_3) := HBK16_w0.out.cell 8
  have kg0_0 : (w15.alloc (.cells #[.int .i64 r.1, .string ⟨(r.2.1).toArray⟩, .int .u32 r.2.2.1, .bool r.2.2.2.1, .slice ch0_0 r.2.2.2.2.1.length ch0_1, .int .i64 r.2.2.2.2.2.1, .int .i64 r.2.2.2.2.2.2.1, .int .u32 r.2.2.2.2.2.2.2.1, .slice ch0_2 r.2.2.2.2.2.2.2.2.length ch0_3] 48)).cell? ⟨w5.heap.size, 0, none⟩ = some (.int .i64 r.1) := HBK16_g0.out.cell 0
  have kg0_1 : (w15.alloc (.cells #[.int .i64 r.1, .string ⟨(r.2.1).toArray⟩, .int .u32 r.2.2.1, .bool r.2.2.2.1, .slice ch0_0 r.2.2.2.2.1.length ch0_1, .int .i64 r.2.2.2.2.2.1, .int .i64 r.2.2.2.2.2.2.1, .int .u32 r.2.2.2.2.2.2.2.1, .slice ch0_2 r.2.2.2.2.2.2.2.2.length ch0_3] 48)).cell? ⟨w5.heap.size, 1, none⟩ = some (.string ⟨(r.2.1).toArray⟩) := HBK16_g0.out.cell 1
  have kg0_2 : (w15.alloc (.cells #[.int .i64 r.1, .string ⟨(r.2.1).toArray⟩, .int .u32 r.2.2.1, .bool r.2.2.2.1, .slice ch0_0 r.2.2.2.2.1.length ch0_1, .int .i64 r.2.2.2.2.2.1, .int .i64 r.2.2.2.2.2.2.1, .int .u32 r.2.2.2.2.2.2.2.1, .slice ch0_2 r.2.2.2.2.2.2.2.2.length ch0_3] 48)).cell? ⟨w5.heap.size, 2, none⟩ = some (.int .u32 r.2.2.1) := HBK16_g0.out.cell 2
  have kg0_3 : (w15.alloc (.cells #[.int .i64 r.1, .string ⟨(r.2.1).toArray⟩, .int .u32 r.2.2.1, .bool r.2.2.2.1, .slice ch0_0 r.2.2.2.2.1.length ch0_1, .int .i64 r.2.2.2.2.2.1, .int .i64 r.2.2.2.2.2.2.1, .int .u32 r.2.2.2.2.2.2.2.1, .slice ch0_2 r.2.2.2.2.2.2.2.2.length ch0_3] 48)).cell? ⟨w5.heap.size, 3, none⟩ = some (.bool r.2.2.2.1) := HBK16_g0.out.cell 3
  have kg0_4 : (w15.alloc (.cells #[.int .i64 r.1, .string ⟨(r.2.1).toArray⟩, .int .u32 r.2.2.1, .bool r.2.2.2.1, .slice ch0_0 r.2.2.2.2.1.length ch0_1, .int .i64 r.2.2.2.2.2.1, .int .i64 r.2.2.2.2.2.2.1, .int .u32 r.2.2.2.2.2.2.2.1, .slice ch0_2 r.2.2.2.2.2.2.2.2.length ch0_3] 48)).cell? ⟨w5.heap.size, 4, none⟩ = some (.slice cg0_0 r.2.2.2.2.1.length cg0_1) := HBK16_g0.out.cell 4
  have kg0_5 : (w15.alloc (.cells #[.int .i64 r.1, .string ⟨(r.2.1).toArray⟩, .int .u32 r.2.2.1, .bool r.2.2.2.1, .slice ch0_0 r.2.2.2.2.1.length ch0_1, .int .i64 r.2.2.2.2.2.1, .int .i64 r.2.2.2.2.2.2.1, .int .u32 r.2.2.2.2.2.2.2.1, .slice ch0_2 r.2.2.2.2.2.2.2.2.length ch0_3] 48)).cell? ⟨w5.heap.size, 5, none⟩ = some (.int .i64 r.2.2.2.2.2.1) := HBK16_g0.out.cell 5
  have kg0_6 : (w15.alloc (.cells #[.int .i64 r.1, .string ⟨(r.2.1).toArray⟩, .int .u32 r.2.2.1, .bool r.2.2.2.1, .slice ch0_0 r.2.2.2.2.1.length ch0_1, .int .i64 r.2.2.2.2.2.1, .int .i64 r.2.2.2.2.2.2.1, .int .u32 r.2.2.2.2.2.2.2.1, .slice ch0_2 r.2.2.2.2.2.2.2.2.length ch0_3] 48)).cell? ⟨w5.heap.size, 6, none⟩ = some (.int .i64 r.2.2.2.2.2.2.1) := HBK16_g0.out.cell 6
  have kg0_7 : (w15.alloc (.cells #[.int .i64 r.1, .string ⟨(r.2.1).toArray⟩, .int .u32 r.2.2.1, .bool r.2.2.2.1, .slice ch0_0 r.2.2.2.2.1.length ch0_1, .int .i64 r.2.2.2.2.2.1, .int .i64 r.2.2.2.2.2.2.1, .int .u32 r.2.2.2.2.2.2.2.1, .slice ch0_2 r.2.2.2.2.2.2.2.2.length ch0_3] 48)).cell? ⟨w5.heap.size, 7, none⟩ = some (.int .u32 r.2.2.2.2.2.2.2.1) := HBK16_g0.out.cell 7
  have kg0_8 : (w15.alloc (.cells #[.int .i64 r.1, .string ⟨(r.2.1).toArray⟩, .int .u32 r.2.2.1, .bool r.2.2.2.1, .slice ch0_0 r.2.2.2.2.1.length ch0_1, .int .i64 r.2.2.2.2.2.1, .int .i64 r.2.2.2.2.2.2.1, .int .u32 r.2.2.2.2.2.2.2.1, .slice ch0_2 r.2.2.2.2.2.2.2.2.length ch0_3] 48)).cell? ⟨w5.heap.size, 8, none⟩ = some (.slice cg0_2 r.2.2.2.2.2.2.2.2.length cg0_3) := HBK16_g0.out.cell 8
  have kh0_0 : (w15.alloc (.cells #[.int .i64 r.1, .string ⟨(r.2.1).toArray⟩, .int .u32 r.2.2.1, .bool r.2.2.2.1, .slice ch0_0 r.2.2.2.2.1.length ch0_1, .int .i64 r.2.2.2.2.2.1, .int .i64 r.2.2.2.2.2.2.1, .int .u32 r.2.2.2.2.2.2.2.1, .slice ch0_2 r.2.2.2.2.2.2.2.2.length ch0_3] 48)).cell? ⟨w15.heap.size, 0, none⟩ = some (.int .i64 r.1) := HBK_h0.out.cell 0
  have kh0_1 : (w15.alloc (.cells #[.int .i64 r.1, .string ⟨(r.2.1).toArray⟩, .int .u32 r.2.2.1, .bool r.2.2.2.1, .slice ch0_0 r.2.2.2.2.1.length ch0_1, .int .i64 r.2.2.2.2.2.1, .int .i64 r.2.2.2.2.2.2.1, .int .u32 r.2.2.2.2.2.2.2.1, .slice ch0_2 r.2.2.2.2.2.2.2.2.length ch0_3] 48)).cell? ⟨w15.heap.size, 1, none⟩ = some (.string ⟨(r.2.1).toArray⟩) := HBK_h0.out.cell 1
  have kh0_2 : (w15.alloc (.cells #[.int .i64 r.1, .string ⟨(r.2.1).toArray⟩, .int .u32 r.2.2.1, .bool r.2.2.2.1, .slice ch0_0 r.2.2.2.2.1.length ch0_1, .int .i64 r.2.2.2.2.2.1, .int .i64 r.2.2.2.2.2.2.1, .int .u32 r.2.2.2.2.2.2.2.1, .slice ch0_2 r.2.2.2.2.2.2.2.2.length ch0_3] 48)).cell? ⟨w15.heap.size, 2, none⟩ = some (.int .u32 r.2.2.1) := HBK_h0.out.cell 2
  have kh0_3 : (w15.alloc (.cells #[.int .i64 r.1, .string ⟨(r.2.1).toArray⟩, .int .u32 r.2.2.1, .bool r.2.2.2.1, .slice ch0_0 r.2.2.2.2.1.length ch0_1, .int .i64 r.2.2.2.2.2.1, .int .i64 r.2.2.2.2.2.2.1, .int .u32 r.2.2.2.2.2.2.2.1, .slice ch0_2 r.2.2.2.2.2.2.2.2.length ch0_3] 48)).cell? ⟨w15.heap.size, 3, none⟩ = some (.bool r.2.2.2.1) := HBK_h0.out.cell 3
  have kh0_4 : (w15.alloc (.cells #[.int .i64 r.1, .string ⟨(r.2.1).toArray⟩, .int .u32 r.2.2.1, .bool r.2.2.2.1, .slice ch0_0 r.2.2.2.2.1.length ch0_1, .int .i64 r.2.2.2.2.2.1, .int .i64 r.2.2.2.2.2.2.1, .int .u32 r.2.2.2.2.2.2.2.1, .slice ch0_2 r.2.2.2.2.2.2.2.2.length ch0_3] 48)).cell? ⟨w15.heap.size, 4, none⟩ = some (.slice ch0_0 r.2.2.2.2.1.length ch0_1) := HBK_h0.out.cell 4
  have kh0_5 : (w15.alloc (.cells #[.int .i64 r.1, .string ⟨(r.2.1).toArray⟩, .int .u32 r.2.2.1, .bool r.2.2.2.1, .slice ch0_0 r.2.2.2.2.1.length ch0_1, .int .i64 r.2.2.2.2.2.1, .int .i64 r.2.2.2.2.2.2.1, .int .u32 r.2.2.2.2.2.2.2.1, .slice ch0_2 r.2.2.2.2.2.2.2.2.length ch0_3] 48)).cell? ⟨w15.heap.size, 5, none⟩ = some (.int .i64 r.2.2.2.2.2.1) := HBK_h0.out.cell 5
  have kh0_6 : (w15.alloc (.cells #[.int .i64 r.1, .string ⟨(r.2.1).toArray⟩, .int .u32 r.2.2.1, .bool r.2.2.2.1, .slice ch0_0 r.2.2.2.2.1.length ch0_1, .int .i64 r.2.2.2.2.2.1, .int .i64 r.2.2.2.2.2.2.1, .int .u32 r.2.2.2.2.2.2.2.1, .slice ch0_2 r.2.2.2.2.2.2.2.2.length ch0_3] 48)).cell? ⟨w15.heap.size, 6, none⟩ = some (.int .i64 r.2.2.2.2.2.2.1) := HBK_h0.out.cell 6
  have kh0_7 : (w15.alloc (.cells #[.int .i64 r.1, .string ⟨(r.2.1).toArray⟩, .int .u32 r.2.2.1, .bool r.2.2.2.1, .slice ch0_0 r.2.2.2.2.1.length ch0_1, .int .i64 r.2.2.2.2.2.1, .int .i64 r.2.2.2.2.2.2.1, .int .u32 r.2.2.2.2.2.2.2.1, .slice ch0_2 r.2.2.2.2.2.2.2.2.length ch0_3] 48)).cell? ⟨w15.heap.size, 7, none⟩ = some (.int .u32 r.2.2.2.2.2.2.2.1) := HBK_h0.out.cell 7
  have kh0_8 : (w15.alloc (.cells #[.int .i64 r.1, .string ⟨(r.2.1).toArray⟩, .int .u32 r.2.2.1, .bool r.2.2.2.1, .slice ch0_0 r.2.2.2.2.1.length ch0_1, .int .i64 r.2.2.2.2.2.1, .int .i64 r.2.2.2.2.2.2.1, .int .u32 r.2.2.2.2.2.2.2.1, .slice ch0_2 r.2.2.2.2.2.2.2.2.length ch0_3] 48)).cell? ⟨w15.heap.size, 8, none⟩ = some (.slice ch0_2 r.2.2.2.2.2.2.2.2.length ch0_3) := HBK_h0.out.cell 8
  clear TLINEH0_16
  go_wp2_with fail
  refine (eqCmd_v H0_16.out.rd W0_16.out.rd).mono ?_
  rintro e w17 ⟨rfl, hm17⟩
  clear kw0_0 kw0_1 kw0_2 kw0_3 kw0_4 kw0_5 kw0_6 kw0_7 kw0_8
  clear kg0_0 kg0_1 kg0_2 kg0_3 kg0_4 kg0_5 kg0_6 kg0_7 kg0_8
  clear kh0_0 kh0_1 kh0_2 kh0_3 kh0_4 kh0_5 kh0_6 kh0_7 kh0_8
  have HBK17_w0 := Sec.mk (HBK16_w0.out.mod hm17 id)
  clear HBK16_w0
  have HBK17_g0 := Sec.mk (HBK16_g0.out.mod hm17 id)
  clear HBK16_g0
  have HBK17_h0 := Sec.mk (HBK_h0.out.mod hm17 id)
  clear HBK_h0
  have W0_17 := Sec.mk (W0_16.out.step hm17)
  clear W0_16
  have X0_17 := Sec.mk (X0_16.out.step hm17)
  clear X0_16
  have G0_17 := Sec.mk (G0_16.out.step hm17)
  clear G0_16
  have H0_17 := Sec.mk (H0_16.out.step hm17)
  clear H0_16
  have HM17 := Sec.mk (HM16.out.transN hm17)
  clear HM16
  have hs17 := hm17.size
  clear hm17
  have kw0_0 : (w17).cell? ⟨w2.heap.size, 0, none⟩ = some (.int .i64 r.1) := HBK17_w0.out.cell 0
  have kw0_1 : (w17).cell? ⟨w2.heap.size, 1, none⟩ = some (.string ⟨(r.2.1).toArray⟩) := HBK17_w0.out.cell 1
  have kw0_2 : (w17).cell? ⟨w2.heap.size, 2, none⟩ = some (.int .u32 r.2.2.1) := HBK17_w0.out.cell 2
  have kw0_3 : (w17).cell? ⟨w2.heap.size, 3, none⟩ = some (.bool r.2.2.2.1) := HBK17_w0.out.cell 3
  have kw0_4 : (w17).cell? ⟨w2.heap.size, 4, none⟩ = some (.slice cw0_0 r.2.2.2.2.1.length cw0_1) := HBK17_w0.out.cell 4
  have kw0_5 : (w17).cell? ⟨w2.heap.size, 5, none⟩ = some (.int .i64 r.2.2.2.2.2.1) := HBK17_w0.out.cell 5
  have kw0_6 : (w17).cell? ⟨w2.heap.size, 6, none⟩ = some (.int .i64 r.2.2.2.2.2.2.1) := HBK17_w0.out.cell 6
  have kw0_7 : (w17).cell? ⟨w2.heap.size, 7, none⟩ = some (.int .u32 r.2.2.2.2.2.2.2.1) := HBK17_w0.out.cell 7
  have kw0_8 : (w17).cell? ⟨w2.heap.size, 8, none⟩ = some (.slice cw0_2 r.2.2.2.2.2.2.2.2.length cw0_3) := HBK17_w0.out.cell 8
  have kg0_0 : (w17).cell? ⟨w5.heap.size, 0, none⟩ = some (.int .i64 r.1) := HBK17_g0.out.cell 0
  have kg0_1 : (w17).cell? ⟨w5.heap.size, 1, none⟩ = some (.string ⟨(r.2.1).toArray⟩) := HBK17_g0.out.cell 1
  have kg0_2 : (w17).cell? ⟨w5.heap.size, 2, none⟩ = some (.int .u32 r.2.2.1) := HBK17_g0.out.cell 2
  have kg0_3 : (w17).cell? ⟨w5.heap.size, 3, none⟩ = some (.bool r.2.2.2.1) := HBK17_g0.out.cell 3
  have kg0_4 : (w17).cell? ⟨w5.heap.size, 4, none⟩ = some (.slice cg0_0 r.2.2.2.2.1.length cg0_1) := HBK17_g0.out.cell 4
  have kg0_5 : (w17).cell? ⟨w5.heap.size, 5, none⟩ = some (.int .i64 r.2.2.2.2.2.1) := HBK17_g0.out.cell 5
  have kg0_6 : (w17).cell? ⟨w5.heap.size, 6, none⟩ = some (.int .i64 r.2.2.2.2.2.2.1) := HBK17_g0.out.cell 6
  have kg0_7 : (w17).cell? ⟨w5.heap.size, 7, none⟩ = some (.int .u32 r.2.2.2.2.2.2.2.1) := HBK17_g0.out.cell 7
  have kg0_8 : (w17).cell? ⟨w5.heap.size, 8, none⟩ = some (.slice cg0_2 r.2.2.2.2.2.2.2.2.length cg0_3) := HBK17_g0.out.cell 8
  have kh0_0 : (w17).cell? ⟨w15.heap.size, 0, none⟩ = some (.int .i64 r.1) := HBK17_h0.out.cell 0
  have kh0_1 : (w17).cell? ⟨w15.heap.size, 1, none⟩ = some (.string ⟨(r.2.1).toArray⟩) := HBK17_h0.out.cell 1
  have kh0_2 : (w17).cell? ⟨w15.heap.size, 2, none⟩ = some (.int .u32 r.2.2.1) := HBK17_h0.out.cell 2
  have kh0_3 : (w17).cell? ⟨w15.heap.size, 3, none⟩ = some (.bool r.2.2.2.1) := HBK17_h0.out.cell 3
  have kh0_4 : (w17).cell? ⟨w15.heap.size, 4, none⟩ = some (.slice ch0_0 r.2.2.2.2.1.length ch0_1) := HBK17_h0.out.cell 4
  have kh0_5 : (w17).cell? ⟨w15.heap.size, 5, none⟩ = some (.int .i64 r.2.2.2.2.2.1) := HBK17_h0.out.cell 5
  have kh0_6 : (w17).cell? ⟨w15.heap.size, 6, none⟩ = some (.int .i64 r.2.2.2.2.2.2.1) := HBK17_h0.out.cell 6
  have kh0_7 : (w17).cell? ⟨w15.heap.size, 7, none⟩ = some (.int .u32 r.2.2.2.2.2.2.2.1) := HBK17_h0.out.cell 7
  have kh0_8 : (w17).cell? ⟨w15.heap.size, 8, none⟩ = some (.slice ch0_2 r.2.2.2.2.2.2.2.2.length ch0_3) := HBK17_h0.out.cell 8
  rw [show decide (r = r) = true by simp]
  go_wp2_with fail
  refine (heldCmd_v G0_17.out.rd 1 HX.out (by rw [HK.out]; omega)).mono ?_
  rintro e w18 ⟨rfl, hm18⟩
  rw [HK.out]
  clear kw0_0 kw0_1 kw0_2 kw0_3 kw0_4 kw0_5 kw0_6 kw0_7 kw0_8
  clear kg0_0 kg0_1 kg0_2 kg0_3 kg0_4 kg0_5 kg0_6 kg0_7 kg0_8
  clear kh0_0 kh0_1 kh0_2 kh0_3 kh0_4 kh0_5 kh0_6 kh0_7 kh0_8
  have HBK18_w0 := Sec.mk (HBK17_w0.out.mod hm18 id)
  clear HBK17_w0
  have HBK18_g0 := Sec.mk (HBK17_g0.out.mod hm18 id)
  clear HBK17_g0
  have HBK18_h0 := Sec.mk (HBK17_h0.out.mod hm18 id)
  clear HBK17_h0
  have W0_18 := Sec.mk (W0_17.out.step hm18)
  clear W0_17
  have X0_18 := Sec.mk (X0_17.out.step hm18)
  clear X0_17
  have G0_18 := Sec.mk (G0_17.out.step hm18)
  clear G0_17
  have H0_18 := Sec.mk (H0_17.out.step hm18)
  clear H0_17
  have HM18 := Sec.mk (HM17.out.transN hm18)
  clear HM17
  have hs18 := hm18.size
  clear hm18
  have kw0_0 : (w18).cell? ⟨w2.heap.size, 0, none⟩ = some (.int .i64 r.1) := HBK18_w0.out.cell 0
  have kw0_1 : (w18).cell? ⟨w2.heap.size, 1, none⟩ = some (.string ⟨(r.2.1).toArray⟩) := HBK18_w0.out.cell 1
  have kw0_2 : (w18).cell? ⟨w2.heap.size, 2, none⟩ = some (.int .u32 r.2.2.1) := HBK18_w0.out.cell 2
  have kw0_3 : (w18).cell? ⟨w2.heap.size, 3, none⟩ = some (.bool r.2.2.2.1) := HBK18_w0.out.cell 3
  have kw0_4 : (w18).cell? ⟨w2.heap.size, 4, none⟩ = some (.slice cw0_0 r.2.2.2.2.1.length cw0_1) := HBK18_w0.out.cell 4
  have kw0_5 : (w18).cell? ⟨w2.heap.size, 5, none⟩ = some (.int .i64 r.2.2.2.2.2.1) := HBK18_w0.out.cell 5
  have kw0_6 : (w18).cell? ⟨w2.heap.size, 6, none⟩ = some (.int .i64 r.2.2.2.2.2.2.1) := HBK18_w0.out.cell 6
  have kw0_7 : (w18).cell? ⟨w2.heap.size, 7, none⟩ = some (.int .u32 r.2.2.2.2.2.2.2.1) := HBK18_w0.out.cell 7
  have kw0_8 : (w18).cell? ⟨w2.heap.size, 8, none⟩ = some (.slice cw0_2 r.2.2.2.2.2.2.2.2.length cw0_3) := HBK18_w0.out.cell 8
  have kg0_0 : (w18).cell? ⟨w5.heap.size, 0, none⟩ = some (.int .i64 r.1) := HBK18_g0.out.cell 0
  have kg0_1 : (w18).cell? ⟨w5.heap.size, 1, none⟩ = some (.string ⟨(r.2.1).toArray⟩) := HBK18_g0.out.cell 1
  have kg0_2 : (w18).cell? ⟨w5.heap.size, 2, none⟩ = some (.int .u32 r.2.2.1) := HBK18_g0.out.cell 2
  have kg0_3 : (w18).cell? ⟨w5.heap.size, 3, none⟩ = some (.bool r.2.2.2.1) := HBK18_g0.out.cell 3
  have kg0_4 : (w18).cell? ⟨w5.heap.size, 4, none⟩ = some (.slice cg0_0 r.2.2.2.2.1.length cg0_1) := HBK18_g0.out.cell 4
  have kg0_5 : (w18).cell? ⟨w5.heap.size, 5, none⟩ = some (.int .i64 r.2.2.2.2.2.1) := HBK18_g0.out.cell 5
  have kg0_6 : (w18).cell? ⟨w5.heap.size, 6, none⟩ = some (.int .i64 r.2.2.2.2.2.2.1) := HBK18_g0.out.cell 6
  have kg0_7 : (w18).cell? ⟨w5.heap.size, 7, none⟩ = some (.int .u32 r.2.2.2.2.2.2.2.1) := HBK18_g0.out.cell 7
  have kg0_8 : (w18).cell? ⟨w5.heap.size, 8, none⟩ = some (.slice cg0_2 r.2.2.2.2.2.2.2.2.length cg0_3) := HBK18_g0.out.cell 8
  have kh0_0 : (w18).cell? ⟨w15.heap.size, 0, none⟩ = some (.int .i64 r.1) := HBK18_h0.out.cell 0
  have kh0_1 : (w18).cell? ⟨w15.heap.size, 1, none⟩ = some (.string ⟨(r.2.1).toArray⟩) := HBK18_h0.out.cell 1
  have kh0_2 : (w18).cell? ⟨w15.heap.size, 2, none⟩ = some (.int .u32 r.2.2.1) := HBK18_h0.out.cell 2
  have kh0_3 : (w18).cell? ⟨w15.heap.size, 3, none⟩ = some (.bool r.2.2.2.1) := HBK18_h0.out.cell 3
  have kh0_4 : (w18).cell? ⟨w15.heap.size, 4, none⟩ = some (.slice ch0_0 r.2.2.2.2.1.length ch0_1) := HBK18_h0.out.cell 4
  have kh0_5 : (w18).cell? ⟨w15.heap.size, 5, none⟩ = some (.int .i64 r.2.2.2.2.2.1) := HBK18_h0.out.cell 5
  have kh0_6 : (w18).cell? ⟨w15.heap.size, 6, none⟩ = some (.int .i64 r.2.2.2.2.2.2.1) := HBK18_h0.out.cell 6
  have kh0_7 : (w18).cell? ⟨w15.heap.size, 7, none⟩ = some (.int .u32 r.2.2.2.2.2.2.2.1) := HBK18_h0.out.cell 7
  have kh0_8 : (w18).cell? ⟨w15.heap.size, 8, none⟩ = some (.slice ch0_2 r.2.2.2.2.2.2.2.2.length ch0_3) := HBK18_h0.out.cell 8
  go_wp2
  go_ret
  exact ⟨by simp, HM18.out⟩
end Go.Proofs.Ytciaoedjiggonaa
