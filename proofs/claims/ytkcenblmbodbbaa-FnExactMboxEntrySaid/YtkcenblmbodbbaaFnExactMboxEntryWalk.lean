/- The walk of the law FnExactMboxEntry. -/
import Derived.Test.YtkcenblmbodbbaaEntry
import Derived.Test.YtkcenblmbodbbaaMarks
namespace Go.Proofs.Ytkcenblmbodbbaa
open Go.RowKit Mem
set_option linter.unusedVariables false

set_option maxHeartbeats 800000 in
set_option maxRecDepth 100000 in
theorem lawFnExactMboxEntry_walk {A : Option Addr} {c : Nat} {xs : Bytes} {w : World} (h : Row Ty.byte w (· < w.heap.size) A xs.length xs) (hc : xs.length ≤ c) :
    Calls Try.prog 8 #[.slice A xs.length c] w (Ret (.bool true) w) := by
  have hl := h.2.1
  have HR := Sec.mk h
  clear h
  by_cases hbig : xs.length ≤ 1048576
  · have HLEN := Sec.mk (entry_len xs)
    have hr20 : (entry xs).length ≤ 4194304 := by have := HLEN.out; omega
    generalize hFN : entry xs = r at *
    have HFN := Sec.mk hFN
    clear hFN
    go_enter Try.func8, Try.ntmps8
    go_wp2_with fail
    refine (toByteS_calls HR.out (fun _ h => h) (by omega)).mono ?_
    rintro e w1 ⟨A1, c1, F1, rfl, ho1, hf1, hm1⟩
    have HO1 := Sec.mk ho1; have HM1 := Sec.mk hm1; have hs1 := hm1.size; clear ho1 hf1 hm1
    go_wp2_with fail
    refine (entrySpec_calls (HO1.out.row rfl) HO1.out.lt (by obtain ⟨_, _, he, h, _⟩ := HO1.out.form; injection he; omega) (by omega)).mono ?_
    rw [HFN.out]
    rintro e w2 ⟨A2, c2, F2, rfl, ho2, hf2, hm2⟩
    have HO2 := Sec.mk ho2; have HM2 := Sec.mk (HM1.out.transN hm2); have hs2 := hm2.size; have HL2 := Sec.mk ho2.lt; clear ho2 hf2 hm2 HO1 HM1
    go_wp2_with fail
    refine (toByteS_calls (HR.out.mod (fun _ h => h) (same_of_new HM2.out)) (fun _ h => Nat.lt_of_lt_of_le h HM2.out.size) (by omega)).mono ?_
    rintro e w3 ⟨A3, c3, F3, rfl, ho3, hf3, hm3⟩
    have HO3 := Sec.mk ho3; have HF3 := Sec.mk hf3; have HL3 := Sec.mk ho3.lt; have HM3 := Sec.mk (HM2.out.transN hm3); have hs3 := hm3.size; have HO2a := Sec.mk (HO2.out.new hm3); clear ho3 hf3 hm3 HM2 HO2
    go_wp2_with fail
    refine (entryImpl_calls (HO3.out.row rfl) HO3.out.lt (by obtain ⟨_, _, he, h, _⟩ := HO3.out.form; injection he; omega) (by omega)).mono ?_
    rw [HFN.out]
    rintro e w4 ⟨A4, c4, F4, rfl, ho4, hf4, hm4⟩
    have HO4 := Sec.mk ho4; have HF4 := Sec.mk hf4; have HM4 := Sec.mk (HM3.out.transN hm4); have hs4 := hm4.size; have HO2b := Sec.mk (HO2a.out.new hm4); have HO3b := Sec.mk (HO3.out.new hm4); clear ho4 hf4 hm4 HM3 HO3 HO2a
    go_wp2_with fail
    refine (eqByteS_calls (B := (· < w4.heap.size)) ((HO4.out.row rfl).mod HO4.out.lt (fun _ _ => rfl)) ((HO2b.out.row rfl).mod HO2b.out.lt (fun _ _ => rfl)) (fun _ h => h)).mono ?_
    rintro e w5 ⟨rfl, hm5⟩
    have HM5 := Sec.mk (HM4.out.transN hm5); have hs5 := hm5.size; have HO2c := Sec.mk (HO2b.out.new hm5); have HO3c := Sec.mk (HO3b.out.new hm5); have HO4c := Sec.mk (HO4.out.new hm5); clear hm5 HM4 HO2b HO3b HO4
    rw [show decide (r = r) = true by simp]
    go_wp2_with fail
    refine (toByteS_calls (HR.out.mod (fun _ h => h) (same_of_new HM5.out)) (fun _ h => Nat.lt_of_lt_of_le h HM5.out.size) (by omega)).mono ?_
    rintro e w6 ⟨A6, c6, F6, rfl, ho6, hf6, hm6⟩
    have HO6 := Sec.mk ho6; have HM6 := Sec.mk (HM5.out.transN hm6); have hs6 := hm6.size; have HO2d := Sec.mk (HO2c.out.new hm6); have HO3d := Sec.mk (HO3c.out.new hm6); have HO4d := Sec.mk (HO4c.out.new hm6); clear ho6 hf6 hm6 HM5 HO2c HO3c HO4c
    go_wp2_with fail
    refine (eqByteS_calls (B := (· < w6.heap.size)) ((HO3d.out.row rfl).mod HO3d.out.lt (fun _ _ => rfl)) ((HO6.out.row rfl).mod HO6.out.lt (fun _ _ => rfl)) (fun _ h => h)).mono ?_
    rintro e w7 ⟨rfl, hm7⟩
    have HM7 := Sec.mk (HM6.out.transN hm7); have hs7 := hm7.size; have HO2e := Sec.mk (HO2d.out.new hm7); have HO3e := Sec.mk (HO3d.out.new hm7); have HO4e := Sec.mk (HO4d.out.new hm7); clear hm7 HM6 HO6 HO2d HO3d HO4d
    rw [show decide (xs = xs) = true by simp]
    go_wp2_with fail
    refine (markByteS_calls HO3e.out 1 (by omega)).mono ?_
    rintro e w8 ⟨rfl, F8, ho8, hf8, hm8⟩
    have hs8 := hm8.size
    have HM8 := Sec.mk (HM7.out.trans hm8 (fun i hi hlt => by have := HF3.out i hi; omega))
    have HO2f := Sec.mk (HO2e.out.keep hm8 (fun k hk h => by have := HL2.out k hk; have := HF3.out k h; omega))
    have HO4f := Sec.mk (HO4e.out.keep hm8 (fun k hk h => by have := HF4.out k hk; have := HL3.out k h; omega))
    clear ho8 hf8 hm8 HM7 HO2e HO3e HO4e
    go_wp2_with fail
    refine (eqByteS_calls (B := (· < w8.heap.size)) ((HO4f.out.row rfl).mod HO4f.out.lt (fun _ _ => rfl)) ((HO2f.out.row rfl).mod HO2f.out.lt (fun _ _ => rfl)) (fun _ h => h)).mono ?_
    rintro e w9 ⟨rfl, hm9⟩
    have HM9 := Sec.mk (HM8.out.transN hm9); have hs9 := hm9.size; have HO2g := Sec.mk (HO2f.out.new hm9); have HO4g := Sec.mk (HO4f.out.new hm9); clear hm9 HM8 HO2f HO4f
    rw [show decide (r = r) = true by simp]
    go_wp2_with fail
    refine (markByteS_calls HO4g.out 1 (by omega)).mono ?_
    rintro e w10 ⟨rfl, F10, ho10, hf10, hm10⟩
    have hs10 := hm10.size
    have HM10 := Sec.mk (HM9.out.trans hm10 (fun i hi hlt => by have := HF4.out i hi; omega))
    have HO2h := Sec.mk (HO2g.out.keep hm10 (fun k hk h => by have := HL2.out k hk; have := HF4.out k h; omega))
    have HO10 := Sec.mk ho10
    have HX := Sec.mk (show mkB 1 r.length = mkB 1 (mkB 1 r.length).length by rw [mkB_len])
    clear ho10 hf10 hm10 HM9 HO2g HO4g
    have HK := Sec.mk (mkB_len 1 r.length)
    go_wp2_with fail
    rw [← HK.out]
    refine (heldByteS_calls (HO10.out.row rfl) 1 HX.out (by rw [HK.out]; omega)).mono ?_
    rintro e w11 ⟨rfl, hm11⟩
    rw [HK.out]
    have HM11 := Sec.mk (HM10.out.transN hm11); have hs11 := hm11.size; have HO2i := Sec.mk (HO2h.out.new hm11); have HO11 := Sec.mk (HO10.out.new hm11); clear hm11 HM10 HO2h HO10
    go_wp2_with fail
    refine (toByteS_calls (HR.out.mod (fun _ h => h) (same_of_new HM11.out)) (fun _ h => Nat.lt_of_lt_of_le h HM11.out.size) (by omega)).mono ?_
    rintro e w12 ⟨A12, c12, F12, rfl, ho12, hf12, hm12⟩
    have HO12 := Sec.mk ho12; have HM12 := Sec.mk (HM11.out.transN hm12); have hs12 := hm12.size; have HO2j := Sec.mk (HO2i.out.new hm12); have HO11b := Sec.mk (HO11.out.new hm12); clear ho12 hf12 hm12 HM11 HO2i HO11
    go_wp2_with fail
    refine (entryImpl_calls (HO12.out.row rfl) HO12.out.lt (by obtain ⟨_, _, he, h, _⟩ := HO12.out.form; injection he; omega) (by omega)).mono ?_
    rw [HFN.out]
    rintro e w13 ⟨A13, c13, F13, rfl, ho13, hf13, hm13⟩
    have HO13 := Sec.mk ho13; have HM13 := Sec.mk (HM12.out.transN hm13); have hs13 := hm13.size; have HO2k := Sec.mk (HO2j.out.new hm13); have HO11c := Sec.mk (HO11b.out.new hm13); clear ho13 hf13 hm13 HM12 HO12 HO2j HO11b
    go_wp2_with fail
    refine (eqByteS_calls (B := (· < w13.heap.size)) ((HO13.out.row rfl).mod HO13.out.lt (fun _ _ => rfl)) ((HO2k.out.row rfl).mod HO2k.out.lt (fun _ _ => rfl)) (fun _ h => h)).mono ?_
    rintro e w14 ⟨rfl, hm14⟩
    have HM14 := Sec.mk (HM13.out.transN hm14); have hs14 := hm14.size; have HO11d := Sec.mk (HO11c.out.new hm14); clear hm14 HM13 HO13 HO2k HO11c
    rw [show decide (r = r) = true by simp]
    go_wp2_with fail
    rw [← HK.out]
    refine (heldByteS_calls (HO11d.out.row rfl) 1 HX.out (by rw [HK.out]; omega)).mono ?_
    rintro e w15 ⟨rfl, hm15⟩
    rw [HK.out]
    have HM15 := Sec.mk (HM14.out.transN hm15); clear hm15 HM14
    go_wp2
    go_ret
    exact ⟨by simp, HM15.out⟩
  · go_enter Try.func8, Try.ntmps8
    go_wp2
    go_ret
    exact ⟨by simp, Mod.refl _ _⟩
end Go.Proofs.Ytkcenblmbodbbaa
