/- The walk of the law FnExactFrame. -/
import Derived.Test.YtkcenblmbodbbaaFrameV
namespace Go.Proofs.Ytkcenblmbodbbaa
open Go.RowKit Mem
set_option linter.unusedVariables false

set_option maxHeartbeats 2000000 in
set_option maxRecDepth 100000 in
theorem lawFnExactFrame_walk {w : World} {vRecords : Value} {xRecords : List Bytes} (haRecords : RdV false dBSS w vRecords xRecords) :
    Calls Try.prog 10 #[vRecords] w (Ret (.bool true) w) := by
  have HRaRecords := Sec.mk haRecords
  clear haRecords
  by_cases hsz0 : (szBSS xRecords : Int) ≤ 1048576
  rotate_left
  · have hif : (if (1048576 : Int) < szBSS xRecords then (-1 : Int) else 1048576 - szBSS xRecords) = -1 := if_pos (by omega)
    replace hif := Sec.mk hif
    go_enter Try.func10, Try.ntmps10
    go_wp2_with fail
    refine (szByteSS_v HRaRecords.out (1048576) (by omega) (by omega)).mono ?_
    rintro e w' ⟨rfl, rfl⟩
    rw [hif.out]
    go_wp2
    go_ret
    exact ⟨by simp, Mod.refl _ _⟩
  have hif0 := Sec.mk (show (if (1048576 : Int) < szBSS xRecords then (-1 : Int) else 1048576 - szBSS xRecords) = 1048576 - (szBSS xRecords : Int) from if_neg (by omega))
  have hb0 : szBSS xRecords ≤ 1048576 := by omega
  have hc0 := cntBSS_lt hb0
  have hcr := Frame_cnt xRecords hb0
  generalize hFN : FrameL xRecords = r at *
  have HFN := Sec.mk hFN
  clear hFN
  go_enter Try.func10, Try.ntmps10
  go_wp2_with fail
  refine (szByteSS_v HRaRecords.out (1048576) (by omega) (by omega)).mono ?_
  rintro e w' ⟨rfl, rfl⟩
  rw [hif0.out]
  have HM0 := Sec.mk (Mod.refl (fun _ => False) w')
  go_wp2_with fail
  refine (toByteSS_v (HRaRecords.out.step HM0.out) hb0).mono ?_
  rintro e w1 ⟨v1, rfl, ho1, hm1⟩
  have HM1 := Sec.mk (HM0.out.transN hm1)
  clear HM0
  have hs1 := hm1.size
  clear hm1
  have TRECORDSW0_1 := Sec.mk ho1
  clear ho1
  go_wp2_with fail
  refine (specFrame_v TRECORDSW0_1.out.rd hb0).mono ?_
  rw [HFN.out]
  rintro e w2 ⟨v2, rfl, ho2, hm2⟩
  have TRECORDSW0_2 := Sec.mk (TRECORDSW0_1.out.step hm2)
  clear TRECORDSW0_1
  have HM2 := Sec.mk (HM1.out.transN hm2)
  clear HM1
  have hs2 := hm2.size
  clear hm2
  have W0_2 := Sec.mk ho2
  clear ho2
  clear TRECORDSW0_2
  go_wp2_with fail
  refine (toByteSS_v (HRaRecords.out.step HM2.out) hb0).mono ?_
  rintro e w3 ⟨v3, rfl, ho3, hm3⟩
  have W0_3 := Sec.mk (W0_2.out.step hm3)
  clear W0_2
  have HM3 := Sec.mk (HM2.out.transN hm3)
  clear HM2
  have hs3 := hm3.size
  clear hm3
  have X0_3 := Sec.mk ho3
  clear ho3
  go_wp2_with fail
  refine (implFrame_v X0_3.out.rd hb0).mono ?_
  rw [HFN.out]
  rintro e w4 ⟨v4, rfl, ho4, hm4⟩
  have W0_4 := Sec.mk (W0_3.out.step hm4)
  clear W0_3
  have X0_4 := Sec.mk (X0_3.out.step hm4)
  clear X0_3
  have HM4 := Sec.mk (HM3.out.transN hm4)
  clear HM3
  have hs4 := hm4.size
  clear hm4
  have G0_4 := Sec.mk ho4
  clear ho4
  go_wp2_with fail
  refine (eqByteS_v G0_4.out.rd W0_4.out.rd).mono ?_
  rintro e w5 ⟨rfl, hm5⟩
  have W0_5 := Sec.mk (W0_4.out.step hm5)
  clear W0_4
  have X0_5 := Sec.mk (X0_4.out.step hm5)
  clear X0_4
  have G0_5 := Sec.mk (G0_4.out.step hm5)
  clear G0_4
  have HM5 := Sec.mk (HM4.out.transN hm5)
  clear HM4
  have hs5 := hm5.size
  clear hm5
  rw [show decide (r = r) = true by simp]
  go_wp2_with fail
  refine (toByteSS_v (HRaRecords.out.step HM5.out) hb0).mono ?_
  rintro e w6 ⟨v6, rfl, ho6, hm6⟩
  have W0_6 := Sec.mk (W0_5.out.step hm6)
  clear W0_5
  have X0_6 := Sec.mk (X0_5.out.step hm6)
  clear X0_5
  have G0_6 := Sec.mk (G0_5.out.step hm6)
  clear G0_5
  have HM6 := Sec.mk (HM5.out.transN hm6)
  clear HM5
  have hs6 := hm6.size
  clear hm6
  have TCMP_6 := Sec.mk ho6
  clear ho6
  go_wp2_with fail
  refine (eqByteSS_v X0_6.out.rd TCMP_6.out.rd).mono ?_
  rintro e w7 ⟨rfl, hm7⟩
  have W0_7 := Sec.mk (W0_6.out.step hm7)
  clear W0_6
  have X0_7 := Sec.mk (X0_6.out.step hm7)
  clear X0_6
  have G0_7 := Sec.mk (G0_6.out.step hm7)
  clear G0_6
  have TCMP_7 := Sec.mk (TCMP_6.out.step hm7)
  clear TCMP_6
  have HM7 := Sec.mk (HM6.out.transN hm7)
  clear HM6
  have hs7 := hm7.size
  clear hm7
  rw [show decide (xRecords = xRecords) = true by simp]
  clear TCMP_7
  go_wp2_with fail
  refine (markByteSS_v X0_7.out (1) (by omega)).mono ?_
  rintro e w8 ⟨rfl, ho8, hm8⟩
  clear X0_7
  have W0_8 := Sec.mk (W0_7.out.keep hm8 (fun k h1 h2 h3 => by omega))
  clear W0_7
  have G0_8 := Sec.mk (G0_7.out.keep hm8 (fun k h1 h2 h3 => by omega))
  clear G0_7
  have HM8 := Sec.mk (HM7.out.trans hm8 (fun i hi hlt => by omega))
  clear HM7
  have hs8 := hm8.size
  clear hm8
  have X0_8 := Sec.mk ho8
  clear ho8
  go_wp2_with fail
  refine (eqByteS_v G0_8.out.rd W0_8.out.rd).mono ?_
  rintro e w9 ⟨rfl, hm9⟩
  have W0_9 := Sec.mk (W0_8.out.step hm9)
  clear W0_8
  have X0_9 := Sec.mk (X0_8.out.step hm9)
  clear X0_8
  have G0_9 := Sec.mk (G0_8.out.step hm9)
  clear G0_8
  have HM9 := Sec.mk (HM8.out.transN hm9)
  clear HM8
  have hs9 := hm9.size
  clear hm9
  rw [show decide (r = r) = true by simp]
  go_wp2_with fail
  refine (markByteS_v G0_9.out (1) (by omega)).mono ?_
  rintro e w10 ⟨rfl, ho10, hm10⟩
  clear G0_9
  have W0_10 := Sec.mk (W0_9.out.keep hm10 (fun k h1 h2 h3 => by omega))
  clear W0_9
  have X0_10 := Sec.mk (X0_9.out.keep hm10 (fun k h1 h2 h3 => by omega))
  clear X0_9
  have HM10 := Sec.mk (HM9.out.trans hm10 (fun i hi hlt => by omega))
  clear HM9
  have hs10 := hm10.size
  clear hm10
  have G0_10 := Sec.mk ho10
  clear ho10
  have HX := Sec.mk (mkBS1_idem 1 1 r).symm
  have HK := Sec.mk (cntBS_mk 1 r)
  go_wp2_with fail
  refine (heldByteS_v G0_10.out.rd 1 HX.out (by rw [HK.out]; omega)).mono ?_
  rintro e w11 ⟨rfl, hm11⟩
  rw [HK.out]
  have W0_11 := Sec.mk (W0_10.out.step hm11)
  clear W0_10
  have X0_11 := Sec.mk (X0_10.out.step hm11)
  clear X0_10
  have G0_11 := Sec.mk (G0_10.out.step hm11)
  clear G0_10
  have HM11 := Sec.mk (HM10.out.transN hm11)
  clear HM10
  have hs11 := hm11.size
  clear hm11
  go_wp2_with fail
  refine (toByteSS_v (HRaRecords.out.step HM11.out) hb0).mono ?_
  rintro e w12 ⟨v12, rfl, ho12, hm12⟩
  have W0_12 := Sec.mk (W0_11.out.step hm12)
  clear W0_11
  have X0_12 := Sec.mk (X0_11.out.step hm12)
  clear X0_11
  have G0_12 := Sec.mk (G0_11.out.step hm12)
  clear G0_11
  have HM12 := Sec.mk (HM11.out.transN hm12)
  clear HM11
  have hs12 := hm12.size
  clear hm12
  have TRECORDSH0_12 := Sec.mk ho12
  clear ho12
  go_wp2_with fail
  refine (implFrame_v TRECORDSH0_12.out.rd hb0).mono ?_
  rw [HFN.out]
  rintro e w13 ⟨v13, rfl, ho13, hm13⟩
  have W0_13 := Sec.mk (W0_12.out.step hm13)
  clear W0_12
  have X0_13 := Sec.mk (X0_12.out.step hm13)
  clear X0_12
  have G0_13 := Sec.mk (G0_12.out.step hm13)
  clear G0_12
  have TRECORDSH0_13 := Sec.mk (TRECORDSH0_12.out.step hm13)
  clear TRECORDSH0_12
  have HM13 := Sec.mk (HM12.out.transN hm13)
  clear HM12
  have hs13 := hm13.size
  clear hm13
  have H0_13 := Sec.mk ho13
  clear ho13
  clear TRECORDSH0_13
  go_wp2_with fail
  refine (eqByteS_v H0_13.out.rd W0_13.out.rd).mono ?_
  rintro e w14 ⟨rfl, hm14⟩
  have W0_14 := Sec.mk (W0_13.out.step hm14)
  clear W0_13
  have X0_14 := Sec.mk (X0_13.out.step hm14)
  clear X0_13
  have G0_14 := Sec.mk (G0_13.out.step hm14)
  clear G0_13
  have H0_14 := Sec.mk (H0_13.out.step hm14)
  clear H0_13
  have HM14 := Sec.mk (HM13.out.transN hm14)
  clear HM13
  have hs14 := hm14.size
  clear hm14
  rw [show decide (r = r) = true by simp]
  go_wp2_with fail
  refine (heldByteS_v G0_14.out.rd 1 HX.out (by rw [HK.out]; omega)).mono ?_
  rintro e w15 ⟨rfl, hm15⟩
  rw [HK.out]
  have W0_15 := Sec.mk (W0_14.out.step hm15)
  clear W0_14
  have X0_15 := Sec.mk (X0_14.out.step hm15)
  clear X0_14
  have G0_15 := Sec.mk (G0_14.out.step hm15)
  clear G0_14
  have H0_15 := Sec.mk (H0_14.out.step hm15)
  clear H0_14
  have HM15 := Sec.mk (HM14.out.transN hm15)
  clear HM14
  have hs15 := hm15.size
  clear hm15
  go_wp2
  go_ret
  exact ⟨by simp, HM15.out⟩
end Go.Proofs.Ytkcenblmbodbbaa
