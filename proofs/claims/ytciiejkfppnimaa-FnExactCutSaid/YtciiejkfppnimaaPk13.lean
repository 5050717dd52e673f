/- Both ways to cut a stream, by value. The walk of the law FnExactCut. -/
import Derived.Test.YtciiejkfppnimaaPk12
import Derived.Test.YtciiejkfppnimaaPk7
import Derived.Test.YtciiejkfppnimaaPk9
namespace Go.Proofs.Ytciiejkfppnimaa
open Go.RowKit Mem
set_option linter.unusedVariables false
def CutL (lit : Bool) (b : Bytes) : UnitsT := cutsL lit b
theorem specCut_v {w : World} (lit : Bool) {v : Value} {b : Bytes} (h : RdV false dBS w v b) (hl : szBS b ≤ 1048576) : Calls Try.prog 12 #[.bool lit, v] w (RetV true dUnits w (CutL lit b)) := cutS_v lit h hl
theorem implCut_v {w : World} (lit : Bool) {v : Value} {b : Bytes} (h : RdV false dBS w v b) (hl : szBS b ≤ 1048576) (hE : IntAt0 w) : Calls Try.prog 14 #[.bool lit, v] w (RetV true dUnits w (CutL lit b)) := cutI_v lit h hl hE
theorem cntUnit_le (lit : Bool) (b : Bytes) (h : (oneC lit b).2 ≠ 0) : cntUnit (oneC lit b).1 ≤ 2 * (oneC lit b).2 := by
  unfold oneC at h ⊢
  rcases endI_spec b with ⟨he, _⟩ | ⟨i, he, hi, _, _⟩
  · rw [he] at h; exact absurd rfl h
  · rw [he, if_neg (by omega)] at h ⊢
    simp only [Int.toNat_natCast] at h ⊢
    by_cases h30 : 300 < i
    · rw [if_pos h30]; simp [cntUnit, badU, cntBS]; omega
    · rw [if_neg h30] at h ⊢
      cases hm : (if lit = true then litL (List.take i b) else none) with
      | none => simp [cntUnit, cntBS]; omega
      | some pn =>
        obtain ⟨p, n⟩ := pn
        rw [hm] at h
        simp only at h ⊢
        by_cases h8 : 8000 < n
        · rw [if_pos h8]; simp [cntUnit, badU, cntBS]; omega
        · rw [if_neg h8] at h ⊢
          by_cases hl : b.length < i + 2 + n + 2
          · rw [if_pos hl] at h; exact absurd rfl h
          · rw [if_neg hl]
            split
            · simp [cntUnit, cntBS]; omega
            · simp [cntUnit, badU, cntBS]; omega
theorem cutsF_cnt (lit : Bool) : ∀ f b, cntUnitS (cutsF lit f b).1 + cntBS (cutsF lit f b).2 ≤ 2 * b.length
  | 0, b => by simp [cutsF, cntUnitS, preS, cntBS]; omega
  | f + 1, b => by
    unfold cutsF
    split
    · simp [cntUnitS, preS, cntBS]; omega
    · rename_i h
      have h1 := cntUnit_le lit b h
      have h2 := cutsF_cnt lit f (b.drop (oneC lit b).2)
      have h3 := (oneC_le lit b).1
      rw [List.length_drop] at h2
      have e : cntUnitS ((oneC lit b).1 :: (cutsF lit f (b.drop (oneC lit b).2)).1) = cntUnit (oneC lit b).1 + cntUnitS (cutsF lit f (b.drop (oneC lit b).2)).1 := by
        simp [cntUnitS, preS]
      simp only
      rw [e]
      omega
theorem Cut_cnt (lit : Bool) (b : Bytes) (hl : szBS b ≤ 1048576) : cntUnits (CutL lit b) ≤ 2097152 := by
  have h := cutsF_cnt lit (b.length + 1) b
  have hb : b.length ≤ 1048576 := hl
  show cntUnitS (cutsL lit b).1 + cntBS (cutsL lit b).2 ≤ 2097152
  unfold cutsL
  omega
end Go.Proofs.Ytciiejkfppnimaa

namespace Go.Proofs.Ytciiejkfppnimaa
open Go.RowKit Mem
set_option linter.unusedVariables false
set_option synthInstance.maxSize 2000

set_option maxHeartbeats 2000000 in
set_option maxRecDepth 100000 in
theorem lawFnExactCut_walk {w : World} (hE : IntAt0 w) (aLiterals : Bool) {vStream : Value} {xStream : Bytes} (haStream : RdV false dBS w vStream xStream) :
    Calls Try.prog 4 #[.bool aLiterals, vStream] w (Ret (.bool true) w) := by
  have HENV := Sec.mk hE
  clear hE
  have HRaStream := Sec.mk haStream
  clear haStream
  obtain ⟨A0, c0, rfl, hcap0, hrow0⟩ := HRaStream.out.slice
  have hmax0 := hrow0.2.1
  clear hrow0
  by_cases hlen0 : 1048576 < xStream.length
  · go_enter Try.func4, Try.ntmps4
    go_wp2
    go_ret
    exact ⟨by simp, Mod.refl _ _⟩
  have hbl0 : szBS xStream ≤ 1048576 := by show xStream.length ≤ _; omega
  have hcl0 := cntBS_lt hbl0
  have hcr := Cut_cnt aLiterals xStream hbl0
  generalize hFN : CutL aLiterals xStream = r at *
  have HFN := Sec.mk hFN
  clear hFN
  go_enter Try.func4, Try.ntmps4
  have HM0 := Sec.mk (Mod.refl (fun _ => False) w)
  go_wp2_with fail
  refine (toByteS_v (HRaStream.out.step HM0.out) hbl0).mono ?_
  rintro e w1 ⟨v1, rfl, ho1, hm1⟩
  have HM1 := Sec.mk (HM0.out.transN hm1)
  clear HM0
  have hs1 := hm1.size
  clear hm1
  have TSTREAMW0_1 := Sec.mk ho1
  clear ho1
  go_wp2_with fail
  refine (specCut_v aLiterals TSTREAMW0_1.out.rd hbl0).mono ?_
  rw [HFN.out]
  rintro e w2 ⟨v2, rfl, ho2, hm2⟩
  have TSTREAMW0_2 := Sec.mk (TSTREAMW0_1.out.step hm2)
  clear TSTREAMW0_1
  have HM2 := Sec.mk (HM1.out.transN hm2)
  clear HM1
  have hs2 := hm2.size
  clear hm2
  have W0_2 := Sec.mk ho2
  clear ho2
  obtain ⟨cw0_0, cw0_1, cw0_2, cw0_3, rfl⟩ := cellsUnits W0_2.out.rd
  have hma2 := ((Mod.refl (fun _ => False) w2).alloc (.cells #[.slice cw0_0 r.1.length cw0_1, .slice cw0_2 r.2.length cw0_3] 35))
  have TSTREAMW0_3 := Sec.mk (TSTREAMW0_2.out.step hma2)
  clear TSTREAMW0_2
  have W0_3 := Sec.mk (W0_2.out.step hma2)
  clear W0_2
  have HM3 := Sec.mk (HM2.out.transN hma2)
  clear HM2
  have hs3 := hma2.size
  clear hma2
  have HBK_w0 := Sec.mk (Blk.new w2 35 [.slice cw0_0 r.1.length cw0_1, .slice cw0_2 r.2.length cw0_3])
  have hz2 : (w2.alloc (.cells #[.slice cw0_0 r.1.length cw0_1, .slice cw0_2 r.2.length cw0_3] 35)).heap.size = w2.heap.size + 1 := by simp
  have kw0_0 : (w2.alloc (.cells #[.slice cw0_0 r.1.length cw0_1, .slice cw0_2 r.2.length cw0_3] 35)).cell? ⟨w2.heap.size, 0, none⟩ = some (.slice cw0_0 r.1.length cw0_1) := HBK_w0.out.cell 0
  have kw0_1 : (w2.alloc (.cells #[.slice cw0_0 r.1.length cw0_1, .slice cw0_2 r.2.length cw0_3] 35)).cell? ⟨w2.heap.size, 1, none⟩ = some (.slice cw0_2 r.2.length cw0_3) := HBK_w0.out.cell 1
  clear TSTREAMW0_3
  go_wp2_with fail
  refine (toByteS_v (HRaStream.out.step HM3.out) hbl0).mono ?_
  rintro e w4 ⟨v4, rfl, ho4, hm4⟩
  clear kw0_0 kw0_1
  have HBK4_w0 := Sec.mk (HBK_w0.out.mod hm4 id)
  clear HBK_w0
  have W0_4 := Sec.mk (W0_3.out.step hm4)
  clear W0_3
  have HM4 := Sec.mk (HM3.out.transN hm4)
  clear HM3
  have hs4 := hm4.size
  clear hm4
  have kw0_0 : (w4).cell? ⟨w2.heap.size, 0, none⟩ = some (.slice cw0_0 r.1.length cw0_1) := HBK4_w0.out.cell 0
  have kw0_1 : (w4).cell? ⟨w2.heap.size, 1, none⟩ = some (.slice cw0_2 r.2.length cw0_3) := HBK4_w0.out.cell 1
  have X1_4 := Sec.mk ho4
  clear ho4
  go_wp2_with fail
  refine (implCut_v aLiterals X1_4.out.rd hbl0 (HENV.out.new HM4.out)).mono ?_
  rw [HFN.out]
  rintro e w5 ⟨v5, rfl, ho5, hm5⟩
  clear kw0_0 kw0_1
  have HBK5_w0 := Sec.mk (HBK4_w0.out.mod hm5 id)
  clear HBK4_w0
  have W0_5 := Sec.mk (W0_4.out.step hm5)
  clear W0_4
  have X1_5 := Sec.mk (X1_4.out.step hm5)
  clear X1_4
  have HM5 := Sec.mk (HM4.out.transN hm5)
  clear HM4
  have hs5 := hm5.size
  clear hm5
  have kw0_0 : (w5).cell? ⟨w2.heap.size, 0, none⟩ = some (.slice cw0_0 r.1.length cw0_1) := HBK5_w0.out.cell 0
  have kw0_1 : (w5).cell? ⟨w2.heap.size, 1, none⟩ = some (.slice cw0_2 r.2.length cw0_3) := HBK5_w0.out.cell 1
  have G0_5 := Sec.mk ho5
  clear ho5
  obtain ⟨cg0_0, cg0_1, cg0_2, cg0_3, rfl⟩ := cellsUnits G0_5.out.rd
  have hma5 := ((Mod.refl (fun _ => False) w5).alloc (.cells #[.slice cg0_0 r.1.length cg0_1, .slice cg0_2 r.2.length cg0_3] 35))
  clear kw0_0 kw0_1
  have HBK6_w0 := Sec.mk (HBK5_w0.out.mod hma5 id)
  clear HBK5_w0
  have W0_6 := Sec.mk (W0_5.out.step hma5)
  clear W0_5
  have X1_6 := Sec.mk (X1_5.out.step hma5)
  clear X1_5
  have G0_6 := Sec.mk (G0_5.out.step hma5)
  clear G0_5
  have HM6 := Sec.mk (HM5.out.transN hma5)
  clear HM5
  have hs6 := hma5.size
  clear hma5
  have kw0_0 : (w5.alloc (.cells #[.slice cg0_0 r.1.length cg0_1, .slice cg0_2 r.2.length cg0_3] 35)).cell? ⟨w2.heap.size, 0, none⟩ = some (.slice cw0_0 r.1.length cw0_1) := HBK6_w0.out.cell 0
  have kw0_1 : (w5.alloc (.cells #[.slice cg0_0 r.1.length cg0_1, .slice cg0_2 r.2.length cg0_3] 35)).cell? ⟨w2.heap.size, 1, none⟩ = some (.slice cw0_2 r.2.length cw0_3) := HBK6_w0.out.cell 1
  have HBK_g0 := Sec.mk (Blk.new w5 35 [.slice cg0_0 r.1.length cg0_1, .slice cg0_2 r.2.length cg0_3])
  have hz5 : (w5.alloc (.cells #[.slice cg0_0 r.1.length cg0_1, .slice cg0_2 r.2.length cg0_3] 35)).heap.size = w5.heap.size + 1 := by simp
  clear kw0_0 kw0_1
  have kw0_0 : (w5.alloc (.cells #[.slice cg0_0 r.1.length cg0_1, .slice cg0_2 r.2.length cg0_3] 35)).cell? ⟨w2.heap.size, 0, none⟩ = some (.slice cw0_0 r.1.length cw0_1) := HBK6_w0.out.cell 0
  have kw0_1 : (w5.alloc (.cells #[.slice cg0_0 r.1.length cg0_1, .slice cg0_2 r.2.length cg0_3] 35)).cell? ⟨w2.heap.size, 1, none⟩ = some (.slice cw0_2 r.2.length cw0_3) := HBK6_w0.out.cell 1
  have kg0_0 : (w5.alloc (.cells #[.slice cg0_0 r.1.length cg0_1, .slice cg0_2 r.2.length cg0_3] 35)).cell? ⟨w5.heap.size, 0, none⟩ = some (.slice cg0_0 r.1.length cg0_1) := HBK_g0.out.cell 0
  have kg0_1 : (w5.alloc (.cells #[.slice cg0_0 r.1.length cg0_1, .slice cg0_2 r.2.length cg0_3] 35)).cell? ⟨w5.heap.size, 1, none⟩ = some (.slice cg0_2 r.2.length cg0_3) := HBK_g0.out.cell 1
  go_wp2_with fail
  refine (eqUnits_v G0_6.out.rd W0_6.out.rd).mono ?_
  rintro e w7 ⟨rfl, hm7⟩
  clear kw0_0 kw0_1
  clear kg0_0 kg0_1
  have HBK7_w0 := Sec.mk (HBK6_w0.out.mod hm7 id)
  clear HBK6_w0
  have HBK7_g0 := Sec.mk (HBK_g0.out.mod hm7 id)
  clear HBK_g0
  have W0_7 := Sec.mk (W0_6.out.step hm7)
  clear W0_6
  have X1_7 := Sec.mk (X1_6.out.step hm7)
  clear X1_6
  have G0_7 := Sec.mk (G0_6.out.step hm7)
  clear G0_6
  have HM7 := Sec.mk (HM6.out.transN hm7)
  clear HM6
  have hs7 := hm7.size
  clear hm7
  have kw0_0 : (w7).cell? ⟨w2.heap.size, 0, none⟩ = some (.slice cw0_0 r.1.length cw0_1) := HBK7_w0.out.cell 0
  have kw0_1 : (w7).cell? ⟨w2.heap.size, 1, none⟩ = some (.slice cw0_2 r.2.length cw0_3) := HBK7_w0.out.cell 1
  have kg0_0 : (w7).cell? ⟨w5.heap.size, 0, none⟩ = some (.slice cg0_0 r.1.length cg0_1) := HBK7_g0.out.cell 0
  have kg0_1 : (w7).cell? ⟨w5.heap.size, 1, none⟩ = some (.slice cg0_2 r.2.length cg0_3) := HBK7_g0.out.cell 1
  rw [show decide (r = r) = true by simp]
  go_wp2_with fail
  refine (toByteS_v (HRaStream.out.step HM7.out) hbl0).mono ?_
  rintro e w8 ⟨v8, rfl, ho8, hm8⟩
  clear kw0_0 kw0_1
  clear kg0_0 kg0_1
  have HBK8_w0 := Sec.mk (HBK7_w0.out.mod hm8 id)
  clear HBK7_w0
  have HBK8_g0 := Sec.mk (HBK7_g0.out.mod hm8 id)
  clear HBK7_g0
  have W0_8 := Sec.mk (W0_7.out.step hm8)
  clear W0_7
  have X1_8 := Sec.mk (X1_7.out.step hm8)
  clear X1_7
  have G0_8 := Sec.mk (G0_7.out.step hm8)
  clear G0_7
  have HM8 := Sec.mk (HM7.out.transN hm8)
  clear HM7
  have hs8 := hm8.size
  clear hm8
  have kw0_0 : (w8).cell? ⟨w2.heap.size, 0, none⟩ = some (.slice cw0_0 r.1.length cw0_1) := HBK8_w0.out.cell 0
  have kw0_1 : (w8).cell? ⟨w2.heap.size, 1, none⟩ = some (.slice cw0_2 r.2.length cw0_3) := HBK8_w0.out.cell 1
  have kg0_0 : (w8).cell? ⟨w5.heap.size, 0, none⟩ = some (.slice cg0_0 r.1.length cg0_1) := HBK8_g0.out.cell 0
  have kg0_1 : (w8).cell? ⟨w5.heap.size, 1, none⟩ = some (.slice cg0_2 r.2.length cg0_3) := HBK8_g0.out.cell 1
  have TCMP_8 := Sec.mk ho8
  clear ho8
  go_wp2_with fail
  refine (eqByteS_v X1_8.out.rd TCMP_8.out.rd).mono ?_
  rintro e w9 ⟨rfl, hm9⟩
  clear kw0_0 kw0_1
  clear kg0_0 kg0_1
  have HBK9_w0 := Sec.mk (HBK8_w0.out.mod hm9 id)
  clear HBK8_w0
  have HBK9_g0 := Sec.mk (HBK8_g0.out.mod hm9 id)
  clear HBK8_g0
  have W0_9 := Sec.mk (W0_8.out.step hm9)
  clear W0_8
  have X1_9 := Sec.mk (X1_8.out.step hm9)
  clear X1_8
  have G0_9 := Sec.mk (G0_8.out.step hm9)
  clear G0_8
  have TCMP_9 := Sec.mk (TCMP_8.out.step hm9)
  clear TCMP_8
  have HM9 := Sec.mk (HM8.out.transN hm9)
  clear HM8
  have hs9 := hm9.size
  clear hm9
  have kw0_0 : (w9).cell? ⟨w2.heap.size, 0, none⟩ = some (.slice cw0_0 r.1.length cw0_1) := HBK9_w0.out.cell 0
  have kw0_1 : (w9).cell? ⟨w2.heap.size, 1, none⟩ = some (.slice cw0_2 r.2.length cw0_3) := HBK9_w0.out.cell 1
  have kg0_0 : (w9).cell? ⟨w5.heap.size, 0, none⟩ = some (.slice cg0_0 r.1.length cg0_1) := HBK9_g0.out.cell 0
  have kg0_1 : (w9).cell? ⟨w5.heap.size, 1, none⟩ = some (.slice cg0_2 r.2.length cg0_3) := HBK9_g0.out.cell 1
  rw [show decide (xStream = xStream) = true by simp]
  clear TCMP_9
  go_wp2_with fail
  refine (markByteS_v X1_9.out (1) (by omega)).mono ?_
  rintro e w10 ⟨rfl, ho10, hm10⟩
  clear X1_9
  clear kw0_0 kw0_1
  clear kg0_0 kg0_1
  have HBK10_w0 := Sec.mk (HBK9_w0.out.mod hm10 (by omega))
  clear HBK9_w0
  have HBK10_g0 := Sec.mk (HBK9_g0.out.mod hm10 (by omega))
  clear HBK9_g0
  have W0_10 := Sec.mk (W0_9.out.keep hm10 (fun k h1 h2 h3 => by omega))
  clear W0_9
  have G0_10 := Sec.mk (G0_9.out.keep hm10 (fun k h1 h2 h3 => by omega))
  clear G0_9
  have HM10 := Sec.mk (HM9.out.trans hm10 (fun i hi hlt => by omega))
  clear HM9
  have hs10 := hm10.size
  clear hm10
  have kw0_0 : (w10).cell? ⟨w2.heap.size, 0, none⟩ = some (.slice cw0_0 r.1.length cw0_1) := HBK10_w0.out.cell 0
  have kw0_1 : (w10).cell? ⟨w2.heap.size, 1, none⟩ = some (.slice cw0_2 r.2.length cw0_3) := HBK10_w0.out.cell 1
  have kg0_0 : (w10).cell? ⟨w5.heap.size, 0, none⟩ = some (.slice cg0_0 r.1.length cg0_1) := HBK10_g0.out.cell 0
  have kg0_1 : (w10).cell? ⟨w5.heap.size, 1, none⟩ = some (.slice cg0_2 r.2.length cg0_3) := HBK10_g0.out.cell 1
  have X1_10 := Sec.mk ho10
  clear ho10
  go_wp2_with fail
  refine (eqUnits_v G0_10.out.rd W0_10.out.rd).mono ?_
  rintro e w11 ⟨rfl, hm11⟩
  clear kw0_0 kw0_1
  clear kg0_0 kg0_1
  have HBK11_w0 := Sec.mk (HBK10_w0.out.mod hm11 id)
  clear HBK10_w0
  have HBK11_g0 := Sec.mk (HBK10_g0.out.mod hm11 id)
  clear HBK10_g0
  have W0_11 := Sec.mk (W0_10.out.step hm11)
  clear W0_10
  have X1_11 := Sec.mk (X1_10.out.step hm11)
  clear X1_10
  have G0_11 := Sec.mk (G0_10.out.step hm11)
  clear G0_10
  have HM11 := Sec.mk (HM10.out.transN hm11)
  clear HM10
  have hs11 := hm11.size
  clear hm11
  have kw0_0 : (w11).cell? ⟨w2.heap.size, 0, none⟩ = some (.slice cw0_0 r.1.length cw0_1) := HBK11_w0.out.cell 0
  have kw0_1 : (w11).cell? ⟨w2.heap.size, 1, none⟩ = some (.slice cw0_2 r.2.length cw0_3) := HBK11_w0.out.cell 1
  have kg0_0 : (w11).cell? ⟨w5.heap.size, 0, none⟩ = some (.slice cg0_0 r.1.length cg0_1) := HBK11_g0.out.cell 0
  have kg0_1 : (w11).cell? ⟨w5.heap.size, 1, none⟩ = some (.slice cg0_2 r.2.length cg0_3) := HBK11_g0.out.cell 1
  rw [show decide (r = r) = true by simp]
  go_wp2_with fail
  refine (markUnits_v G0_11.out (1) (by omega)).mono ?_
  rintro e w12 ⟨rfl, ho12, hm12⟩
  clear G0_11
  clear kw0_0 kw0_1
  clear kg0_0 kg0_1
  have HBK12_w0 := Sec.mk (HBK11_w0.out.mod hm12 (by omega))
  clear HBK11_w0
  have HBK12_g0 := Sec.mk (HBK11_g0.out.mod hm12 (by omega))
  clear HBK11_g0
  have W0_12 := Sec.mk (W0_11.out.keep hm12 (fun k h1 h2 h3 => by omega))
  clear W0_11
  have X1_12 := Sec.mk (X1_11.out.keep hm12 (fun k h1 h2 h3 => by omega))
  clear X1_11
  have HM12 := Sec.mk (HM11.out.trans hm12 (fun i hi hlt => by omega))
  clear HM11
  have hs12 := hm12.size
  clear hm12
  have kw0_0 : (w12).cell? ⟨w2.heap.size, 0, none⟩ = some (.slice cw0_0 r.1.length cw0_1) := HBK12_w0.out.cell 0
  have kw0_1 : (w12).cell? ⟨w2.heap.size, 1, none⟩ = some (.slice cw0_2 r.2.length cw0_3) := HBK12_w0.out.cell 1
  have kg0_0 : (w12).cell? ⟨w5.heap.size, 0, none⟩ = some (.slice cg0_0 r.1.length cg0_1) := HBK12_g0.out.cell 0
  have kg0_1 : (w12).cell? ⟨w5.heap.size, 1, none⟩ = some (.slice cg0_2 r.2.length cg0_3) := HBK12_g0.out.cell 1
  have G0_12 := Sec.mk ho12
  clear ho12
  have HX := Sec.mk (mkUnits1_idem 1 1 r).symm
  have HK := Sec.mk (cntUnits_mk 1 r)
  go_wp2_with fail
  refine (heldUnits_v G0_12.out.rd 1 HX.out (by rw [HK.out]; omega)).mono ?_
  rintro e w13 ⟨rfl, hm13⟩
  rw [HK.out]
  clear kw0_0 kw0_1
  clear kg0_0 kg0_1
  have HBK13_w0 := Sec.mk (HBK12_w0.out.mod hm13 id)
  clear HBK12_w0
  have HBK13_g0 := Sec.mk (HBK12_g0.out.mod hm13 id)
  clear HBK12_g0
  have W0_13 := Sec.mk (W0_12.out.step hm13)
  clear W0_12
  have X1_13 := Sec.mk (X1_12.out.step hm13)
  clear X1_12
  have G0_13 := Sec.mk (G0_12.out.step hm13)
  clear G0_12
  have HM13 := Sec.mk (HM12.out.transN hm13)
  clear HM12
  have hs13 := hm13.size
  clear hm13
  have kw0_0 : (w13).cell? ⟨w2.heap.size, 0, none⟩ = some (.slice cw0_0 r.1.length cw0_1) := HBK13_w0.out.cell 0
  have kw0_1 : (w13).cell? ⟨w2.heap.size, 1, none⟩ = some (.slice cw0_2 r.2.length cw0_3) := HBK13_w0.out.cell 1
  have kg0_0 : (w13).cell? ⟨w5.heap.size, 0, none⟩ = some (.slice cg0_0 r.1.length cg0_1) := HBK13_g0.out.cell 0
  have kg0_1 : (w13).cell? ⟨w5.heap.size, 1, none⟩ = some (.slice cg0_2 r.2.length cg0_3) := HBK13_g0.out.cell 1
  go_wp2_with fail
  refine (toByteS_v (HRaStream.out.step HM13.out) hbl0).mono ?_
  rintro e w14 ⟨v14, rfl, ho14, hm14⟩
  clear kw0_0 kw0_1
  clear kg0_0 kg0_1
  have HBK14_w0 := Sec.mk (HBK13_w0.out.mod hm14 id)
  clear HBK13_w0
  have HBK14_g0 := Sec.mk (HBK13_g0.out.mod hm14 id)
  clear HBK13_g0
  have W0_14 := Sec.mk (W0_13.out.step hm14)
  clear W0_13
  have X1_14 := Sec.mk (X1_13.out.step hm14)
  clear X1_13
  have G0_14 := Sec.mk (G0_13.out.step hm14)
  clear G0_13
  have HM14 := Sec.mk (HM13.out.transN hm14)
  clear HM13
  have hs14 := hm14.size
  clear hm14
  have kw0_0 : (w14).cell? ⟨w2.heap.size, 0, none⟩ = some (.slice cw0_0 r.1.length cw0_1) := HBK14_w0.out.cell 0
  have kw0_1 : (w14).cell? ⟨w2.heap.size, 1, none⟩ = some (.slice cw0_2 r.2.length cw0_3) := HBK14_w0.out.cell 1
  have kg0_0 : (w14).cell? ⟨w5.heap.size, 0, none⟩ = some (.slice cg0_0 r.1.length cg0_1) := HBK14_g0.out.cell 0
  have kg0_1 : (w14).cell? ⟨w5.heap.size, 1, none⟩ = some (.slice cg0_2 r.2.length cg0_3) := HBK14_g0.out.cell 1
  have TSTREAMH0_14 := Sec.mk ho14
  clear ho14
  go_wp2_with fail
  refine (implCut_v aLiterals TSTREAMH0_14.out.rd hbl0 (HENV.out.new HM14.out)).mono ?_
  rw [HFN.out]
  rintro e w15 ⟨v15, rfl, ho15, hm15⟩
  clear kw0_0 kw0_1
  clear kg0_0 kg0_1
  have HBK15_w0 := Sec.mk (HBK14_w0.out.mod hm15 id)
  clear HBK14_w0
  have HBK15_g0 := Sec.mk (HBK14_g0.out.mod hm15 id)
  clear HBK14_g0
  have W0_15 := Sec.mk (W0_14.out.step hm15)
  clear W0_14
  have X1_15 := Sec.mk (X1_14.out.step hm15)
  clear X1_14
  have G0_15 := Sec.mk (G0_14.out.step hm15)
  clear G0_14
  have TSTREAMH0_15 := Sec.mk (TSTREAMH0_14.out.step hm15)
  clear TSTREAMH0_14
  have HM15 := Sec.mk (HM14.out.transN hm15)
  clear HM14
  have hs15 := hm15.size
  clear hm15
  have kw0_0 : (w15).cell? ⟨w2.heap.size, 0, none⟩ = some (.slice cw0_0 r.1.length cw0_1) := HBK15_w0.out.cell 0
  have kw0_1 : (w15).cell? ⟨w2.heap.size, 1, none⟩ = some (.slice cw0_2 r.2.length cw0_3) := HBK15_w0.out.cell 1
  have kg0_0 : (w15).cell? ⟨w5.heap.size, 0, none⟩ = some (.slice cg0_0 r.1.length cg0_1) := HBK15_g0.out.cell 0
  have kg0_1 : (w15).cell? ⟨w5.heap.size, 1, none⟩ = some (.slice cg0_2 r.2.length cg0_3) := HBK15_g0.out.cell 1
  have H0_15 := Sec.mk ho15
  clear ho15
  obtain ⟨ch0_0, ch0_1, ch0_2, ch0_3, rfl⟩ := cellsUnits H0_15.out.rd
  have hma15 := ((Mod.refl (fun _ => False) w15).alloc (.cells #[.slice ch0_0 r.1.length ch0_1, .slice ch0_2 r.2.length ch0_3] 35))
  clear kw0_0 kw0_1
  clear kg0_0 kg0_1
  have HBK16_w0 := Sec.mk (HBK15_w0.out.mod hma15 id)
  clear HBK15_w0
  have HBK16_g0 := Sec.mk (HBK15_g0.out.mod hma15 id)
  clear HBK15_g0
  have W0_16 := Sec.mk (W0_15.out.step hma15)
  clear W0_15
  have X1_16 := Sec.mk (X1_15.out.step hma15)
  clear X1_15
  have G0_16 := Sec.mk (G0_15.out.step hma15)
  clear G0_15
  have TSTREAMH0_16 := Sec.mk (TSTREAMH0_15.out.step hma15)
  clear TSTREAMH0_15
  have H0_16 := Sec.mk (H0_15.out.step hma15)
  clear H0_15
  have HM16 := Sec.mk (HM15.out.transN hma15)
  clear HM15
  have hs16 := hma15.size
  clear hma15
  have kw0_0 : (w15.alloc (.cells #[.slice ch0_0 r.1.length ch0_1, .slice ch0_2 r.2.length ch0_3] 35)).cell? ⟨w2.heap.size, 0, none⟩ = some (.slice cw0_0 r.1.length cw0_1) := HBK16_w0.out.cell 0
  have kw0_1 : (w15.alloc (.cells #[.slice ch0_0 r.1.length ch0_1, .slice ch0_2 r.2.length ch0_3] 35)).cell? ⟨w2.heap.size, 1, none⟩ = some (.slice cw0_2 r.2.length cw0_3) := HBK16_w0.out.cell 1
  have kg0_0 : (w15.alloc (.cells #[.slice ch0_0 r.1.length ch0_1, .slice ch0_2 r.2.length ch0_3] 35)).cell? ⟨w5.heap.size, 0, none⟩ = some (.slice cg0_0 r.1.length cg0_1) := HBK16_g0.out.cell 0
  have kg0_1 : (w15.alloc (.cells #[.slice ch0_0 r.1.length ch0_1, .slice ch0_2 r.2.length ch0_3] 35)).cell? ⟨w5.heap.size, 1, none⟩ = some (.slice cg0_2 r.2.length cg0_3) := HBK16_g0.out.cell 1
  have HBK_h0 := Sec.mk (Blk.new w15 35 [.slice ch0_0 r.1.length ch0_1, .slice ch0_2 r.2.length ch0_3])
  have hz15 : (w15.alloc (.cells #[.slice ch0_0 r.1.length ch0_1, .slice ch0_2 r.2.length ch0_3] 35)).heap.size = w15.heap.size + 1 := by simp
  clear kw0_0 kw0_1
  clear kg0_0 kg0_1
  have kw0_0 : (w15.alloc (.cells #[.slice ch0_0 r.1.length ch0_1, .slice ch0_2 r.2.length ch0_3] 35)).cell? ⟨w2.heap.size, 0, none⟩ = some (.slice cw0_0 r.1.length cw0_1) := HBK16_w0.out.cell 0
  have kw0_1 : (w15.alloc (.cells #[.slice ch0_0 r.1.length ch0_1, .slice ch0_2 r.2.length ch0_3] 35)).cell? ⟨w2.heap.size, 1, none⟩ = some (.slice cw0_2 r.2.length cw0_3) := HBK16_w0.out.cell 1
  have kg0_0 : (w15.alloc (.cells #[.slice ch0_0 r.1.length ch0_1, .slice ch0_2 r.2.length ch0_3] 35)).cell? ⟨w5.heap.size, 0, none⟩ = some (.slice cg0_0 r.1.length cg0_1) := HBK16_g0.out.cell 0
  have kg0_1 : (w15.alloc (.cells #[.slice ch0_0 r.1.length ch0_1, .slice ch0_2 r.2.length ch0_3] 35)).cell? ⟨w5.heap.size, 1, none⟩ = some (.slice cg0_2 r.2.length cg0_3) := HBK16_g0.out.cell 1
  have kh0_0 : (w15.alloc (.cells #[.slice ch0_0 r.1.length ch0_1, .slice ch0_2 r.2.length ch0_3] 35)).cell? ⟨w15.heap.size, 0, none⟩ = some (.slice ch0_0 r.1.length ch0_1) := HBK_h0.out.cell 0
  have kh0_1 : (w15.alloc (.cells #[.slice ch0_0 r.1.length ch0_1, .slice ch0_2 r.2.length ch0_3] 35)).cell? ⟨w15.heap.size, 1, none⟩ = some (.slice ch0_2 r.2.length ch0_3) := HBK_h0.out.cell 1
  clear TSTREAMH0_16
  go_wp2_with fail
  refine (eqUnits_v H0_16.out.rd W0_16.out.rd).mono ?_
  rintro e w17 ⟨rfl, hm17⟩
  clear kw0_0 kw0_1
  clear kg0_0 kg0_1
  clear kh0_0 kh0_1
  have HBK17_w0 := Sec.mk (HBK16_w0.out.mod hm17 id)
  clear HBK16_w0
  have HBK17_g0 := Sec.mk (HBK16_g0.out.mod hm17 id)
  clear HBK16_g0
  have HBK17_h0 := Sec.mk (HBK_h0.out.mod hm17 id)
  clear HBK_h0
  have W0_17 := Sec.mk (W0_16.out.step hm17)
  clear W0_16
  have X1_17 := Sec.mk (X1_16.out.step hm17)
  clear X1_16
  have G0_17 := Sec.mk (G0_16.out.step hm17)
  clear G0_16
  have H0_17 := Sec.mk (H0_16.out.step hm17)
  clear H0_16
  have HM17 := Sec.mk (HM16.out.transN hm17)
  clear HM16
  have hs17 := hm17.size
  clear hm17
  have kw0_0 : (w17).cell? ⟨w2.heap.size, 0, none⟩ = some (.slice cw0_0 r.1.length cw0_1) := HBK17_w0.out.cell 0
  have kw0_1 : (w17).cell? ⟨w2.heap.size, 1, none⟩ = some (.slice cw0_2 r.2.length cw0_3) := HBK17_w0.out.cell 1
  have kg0_0 : (w17).cell? ⟨w5.heap.size, 0, none⟩ = some (.slice cg0_0 r.1.length cg0_1) := HBK17_g0.out.cell 0
  have kg0_1 : (w17).cell? ⟨w5.heap.size, 1, none⟩ = some (.slice cg0_2 r.2.length cg0_3) := HBK17_g0.out.cell 1
  have kh0_0 : (w17).cell? ⟨w15.heap.size, 0, none⟩ = some (.slice ch0_0 r.1.length ch0_1) := HBK17_h0.out.cell 0
  have kh0_1 : (w17).cell? ⟨w15.heap.size, 1, none⟩ = some (.slice ch0_2 r.2.length ch0_3) := HBK17_h0.out.cell 1
  rw [show decide (r = r) = true by simp]
  go_wp2_with fail
  refine (heldUnits_v G0_17.out.rd 1 HX.out (by rw [HK.out]; omega)).mono ?_
  rintro e w18 ⟨rfl, hm18⟩
  rw [HK.out]
  clear kw0_0 kw0_1
  clear kg0_0 kg0_1
  clear kh0_0 kh0_1
  have HBK18_w0 := Sec.mk (HBK17_w0.out.mod hm18 id)
  clear HBK17_w0
  have HBK18_g0 := Sec.mk (HBK17_g0.out.mod hm18 id)
  clear HBK17_g0
  have HBK18_h0 := Sec.mk (HBK17_h0.out.mod hm18 id)
  clear HBK17_h0
  have W0_18 := Sec.mk (W0_17.out.step hm18)
  clear W0_17
  have X1_18 := Sec.mk (X1_17.out.step hm18)
  clear X1_17
  have G0_18 := Sec.mk (G0_17.out.step hm18)
  clear G0_17
  have H0_18 := Sec.mk (H0_17.out.step hm18)
  clear H0_17
  have HM18 := Sec.mk (HM17.out.transN hm18)
  clear HM17
  have hs18 := hm18.size
  clear hm18
  have kw0_0 : (w18).cell? ⟨w2.heap.size, 0, none⟩ = some (.slice cw0_0 r.1.length cw0_1) := HBK18_w0.out.cell 0
  have kw0_1 : (w18).cell? ⟨w2.heap.size, 1, none⟩ = some (.slice cw0_2 r.2.length cw0_3) := HBK18_w0.out.cell 1
  have kg0_0 : (w18).cell? ⟨w5.heap.size, 0, none⟩ = some (.slice cg0_0 r.1.length cg0_1) := HBK18_g0.out.cell 0
  have kg0_1 : (w18).cell? ⟨w5.heap.size, 1, none⟩ = some (.slice cg0_2 r.2.length cg0_3) := HBK18_g0.out.cell 1
  have kh0_0 : (w18).cell? ⟨w15.heap.size, 0, none⟩ = some (.slice ch0_0 r.1.length ch0_1) := HBK18_h0.out.cell 0
  have kh0_1 : (w18).cell? ⟨w15.heap.size, 1, none⟩ = some (.slice ch0_2 r.2.length ch0_3) := HBK18_h0.out.cell 1
  go_wp2
  go_ret
  exact ⟨by simp, HM18.out⟩
end Go.Proofs.Ytciiejkfppnimaa
