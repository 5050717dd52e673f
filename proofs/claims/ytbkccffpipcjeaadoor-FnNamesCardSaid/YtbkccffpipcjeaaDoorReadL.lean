/- The program's reading of a list of flags. -/
import Derived.Test.YtbkccffpipcjeaaDoorReadI
import Derived.Test.YtbkccffpipcjeaaDoorReadS
import Derived.Test.YtbkccffpipcjeaaDoorSplitI
namespace Go.Proofs.YtbkccffpipcjeaaDoor
open Go.RowKit Mem
set_option linter.unusedVariables false
def Names1 (w : World) : Prop := NamesAt w ∧ IntAt w
theorem Names1.new {w w' : World} (h : Names1 w) (hm : New w w') : Names1 w' := ⟨h.1.new hm, h.2.new hm⟩
set_option maxHeartbeats 2000000 in
set_option maxRecDepth 100000 in
theorem readListImpl_calls (xs : Bytes) (hx : xs.length ≤ 16777216) {w : World} (hE : Names1 w) : Calls Tryd.prog 13 #[.string ⟨xs.toArray⟩] w (Ret (FlagsV (ReadListL xs)) w) := by
  have HEN := Sec.mk hE
  clear hE
  have HB2 := Sec.mk (Blk.new w 28 [.bool false, .int .u32 0])
  have HB := Sec.mk (bracketed_calls xs (by omega))
  have HD : Sec (ReadListL xs = match brL xs with | none => (false, 0) | some [] => (true, 0) | some ys => foldL 0 (splitL 32 ys)) := ⟨rfl⟩
  have hlen := fun ys => brL_len (xs := xs) (ys := ys)
  cases hq : brL xs with
  | none =>
    rw [hq] at HB HD
    simp only [BrV] at HB HD
    clear hlen hq
    go_enter Tryd.func13, Tryd.ntmps13
    go_wp2_with fail
    refine (HB.out _).mono ?_
    rintro e w1 ⟨rfl, hm1⟩
    have HR1 := Sec.mk (HB2.out.mod hm1 id)
    have HM1 := Sec.mk (((Mod.refl (fun _ => False) w).alloc _).transN hm1)
    have hc0 : w1.cell? ⟨w.heap.size, 0, none⟩ = some (.bool false) := HR1.out.cell 0
    have hc1 : w1.cell? ⟨w.heap.size, 1, none⟩ = some (.int .u32 0) := HR1.out.cell 1
    have hf0 : w1.frozen? ⟨w.heap.size, 0, none⟩ = false := HR1.out.frozen 0
    have hf1 : w1.frozen? ⟨w.heap.size, 1, none⟩ = false := HR1.out.frozen 1
    clear hm1
    go_wp2
    refine bodyPost_ret (results_blk rfl rfl ((HR1.out.set_ 0 (.bool false)).set_ 1 (.int .u32 0)) Tryd.underlying28 (by kernel_rfl)) rfl ?_
    rw [HD.out]
    exact ⟨rfl, (HM1.out.setCell (fun h => absurd h (by simp)) _).setCell (fun h => absurd h (by simp)) _⟩
  | some ys =>
    have hyl := hlen ys hq
    rw [hq] at HB HD
    simp only [BrV] at HB HD
    clear hlen hq
    go_enter Tryd.func13, Tryd.ntmps13
    go_wp2_with fail
    refine (HB.out _).mono ?_
    rintro e w1 ⟨rfl, hm1⟩
    have HR0 := Sec.mk (HB2.out.mod hm1 id)
    have HR1 := Sec.mk (HR0.out.alloc (.cells #[.bool true, .int .u32 0] 28))
    have HM0 := Sec.mk (((Mod.refl (fun _ => False) w).alloc _).transN hm1)
    have HM1 := Sec.mk (HM0.out.alloc (.cells #[.bool true, .int .u32 0] 28))
    have HO1 := Sec.mk (Blk.new w1 28 [.bool true, .int .u32 0])
    have hsz1 : w.heap.size < w1.heap.size := by have := hm1.size; simp at this; omega
    clear hm1
    cases ys with
    | nil =>
      have hc0 : w1.cell? ⟨w.heap.size, 0, none⟩ = some (.bool false) := HR0.out.cell 0
      have hc1 : w1.cell? ⟨w.heap.size, 1, none⟩ = some (.int .u32 0) := HR0.out.cell 1
      have hf0 : w1.frozen? ⟨w.heap.size, 0, none⟩ = false := HR0.out.frozen 0
      have hf1 : w1.frozen? ⟨w.heap.size, 1, none⟩ = false := HR0.out.frozen 1
      go_wp2
      refine bodyPost_ret (results_blk rfl rfl (((HR0.out.set_ 0 (.bool true)).set_ 1 (.int .u32 0)).alloc _) Tryd.underlying28 (by kernel_rfl)) rfl ?_
      rw [HD.out]
      exact ⟨rfl, ((HM0.out.setCell (fun h => absurd h (by simp)) _).setCell (fun h => absurd h (by simp)) _).alloc _⟩
    | cons y0 yr =>
      simp only at HD
      have hyb : (y0 :: yr).isEmpty = false := rfl
      have HSP := Sec.mk (fun w hm => split_calls (y0 :: yr) (by omega) 32 (w := w) hm)
      have hwm := splitL_mem 32 (y0 :: yr)
      have hwl := splitL_len 32 (y0 :: yr)
      generalize splitL 32 (y0 :: yr) = ws at *
      generalize y0 :: yr = ys at *
      have HEN1 := Sec.mk (HEN.out.new HM1.out)
      go_wp2_with fail
      refine (HSP.out _ HEN1.out.2).mono ?_
      rintro e w2 ⟨rfl, hm2, hs2, hrow⟩
      have HR2 := Sec.mk (HR1.out.mod hm2 id)
      have HO2 := Sec.mk (HO1.out.mod hm2 id)
      have HM2 := Sec.mk (HM1.out.transN hm2)
      have h1 : (w1.alloc (.cells #[.bool true, .int .u32 0] 28)).heap.size = w1.heap.size + 1 := by simp
      rw [h1] at hrow hs2
      have HW2 := Sec.mk (hrow.mod (B' := fun k => k ≠ w1.heap.size ∧ k < w2.heap.size) (w' := w2) (fun k hk => by obtain rfl := hk; omega) (fun _ _ => rfl))
      have HEN2 := Sec.mk (HEN.out.new HM2.out)
      clear hm2 hrow HR0 HR1 HO1 HM1 HEN1 hs2 h1
      have hwl2 : ws.length ≤ 33554432 := by omega
      rw [show (w1.alloc (.cells #[.bool true, .int .u32 0] 28)).heap.size = w1.heap.size + 1 by simp]
      generalize w1.heap.size = O at *
      generalize (some ⟨O + 1, 0, none⟩ : Option Addr) = A at *
      go_wp2
      go_loopw [25] (fun i wr => ∃ (k acc : Nat), k ≤ ws.length ∧ i = .int .i64 (k : Int) ∧ acc < 2147483648 ∧ Sec (foldL 0 ws = foldL acc (ws.drop k)) ∧ Sec (Blk wr O 28 [.bool true, .int .u32 (acc : Int)]) ∧ Sec (Mod (· = O) w2 wr)) (fun i _ => ws.length - (intOf i).toNat)
      case atStart => exact ⟨0, 0, Nat.zero_le _, rfl, by omega, ⟨rfl⟩, HO2, ⟨Mod.refl _ _⟩⟩
      case round =>
        obtain ⟨k, acc, hk, rfl, hacc, HF, HO, HM⟩ := hrel
        by_cases hlt : k < ws.length
        · obtain ⟨ad', cs, hA, hK, hx0, _⟩ := HW2.out.cells_at (w' := wr) (fun i hi => HM.out.block i hi.2 hi.1) (k := k) (by simpa using hlt)
          subst hA
          have hK' : cs = [.string (toS ws[k])] := by rw [hK]; simp
          subst hK'
          have h0 := hx0 _ rfl
          rw [show k * Ty.string.sz = k from Nat.mul_one k] at h0
          unfold toS at h0
          have hwk := hwm ws[k] (List.getElem_mem hlt)
          have HDR := Sec.mk (List.drop_eq_getElem_cons hlt)
          have hki : (k : Int) < (ws.length : Int) := by omega
          generalize ws[k] = wd at *
          clear hK hx0
          have HENr := Sec.mk (HEN.out.1.new (HM2.out.trans HM.out (fun i hi hl => by omega)))
          have HRF := Sec.mk (readFlag_calls wd (by omega) HENr.out)
          cases hb : bitL wd with
          | none =>
            have HE : Sec (foldL 0 ws = (false, 0)) := ⟨by rw [HF.out, HDR.out, foldL_none hb]⟩
            rw [hb] at HRF
            simp only [BitV] at HRF
            clear hb
            go_wp2_with fail
            refine HRF.out.mono ?_
            rintro e w4 ⟨rfl, hm4⟩
            have HM4 := Sec.mk (HM.out.transN hm4)
            have HR9 := Sec.mk (HR2.out.mod HM4.out (fun h => by omega))
            have hc0 : w4.cell? ⟨w.heap.size, 0, none⟩ = some (.bool false) := HR9.out.cell 0
            have hc1 : w4.cell? ⟨w.heap.size, 1, none⟩ = some (.int .u32 0) := HR9.out.cell 1
            have hf0 : w4.frozen? ⟨w.heap.size, 0, none⟩ = false := HR9.out.frozen 0
            have hf1 : w4.frozen? ⟨w.heap.size, 1, none⟩ = false := HR9.out.frozen 1
            clear hm4
            go_wp2
            refine bodyPost_ret (results_blk rfl rfl ((HR9.out.set_ 0 (.bool false)).set_ 1 (.int .u32 0)) Tryd.underlying28 (by kernel_rfl)) rfl ?_
            rw [HD.out, HE.out]
            refine ⟨rfl, ((HM2.out.trans HM4.out (fun i hi hl => ?_)).setCell (fun h => absurd h (by simp)) _).setCell (fun h => absurd h (by simp)) _⟩
            omega
          | some b =>
            have hb31 := bitL_lt hb
            have HE : Sec (foldL 0 ws = foldL (acc ||| 2 ^ b) (ws.drop (k + 1))) := ⟨by rw [HF.out, HDR.out, foldL_some hb]⟩
            rw [hb] at HRF
            simp only [BitV] at HRF
            have HO7 := or_pow acc b hacc hb31
            rw [pow_mod b hb31] at HO7
            have HO7 := Sec.mk HO7
            have hlt2 : acc ||| 2 ^ b < 2147483648 := Nat.or_lt_two_pow (n := 31) hacc (Nat.pow_lt_pow_right (by decide) hb31)
            generalize 2 ^ b = p at *
            clear hb
            go_wp2_with fail
            refine HRF.out.mono ?_
            rintro e w4 ⟨rfl, hm4⟩
            have HM4 := Sec.mk (HM.out.transN hm4)
            have HO4 := Sec.mk (HO.out.mod hm4 id)
            have k1 : w4.cell? ⟨O, 1, none⟩ = some (.int .u32 (acc : Int)) := HO4.out.cell 1
            have g1 : w4.frozen? ⟨O, 1, none⟩ = false := HO4.out.frozen 1
            clear hm4
            go_wp2
            refine ⟨⟨k + 1, acc ||| p, by omega, by go_num, hlt2, HE, ⟨HO4.out.set_ 1 _⟩, ⟨HM4.out.setCell (fun _ => rfl) _⟩⟩, ?_⟩
            simp [intOf]; omega
        · obtain rfl : k = ws.length := by omega
          rw [List.drop_length] at HF
          have HE : Sec (foldL 0 ws = (true, (acc : Int))) := HF
          have k0 : wr.cell? ⟨O, 0, none⟩ = some (.bool true) := HO.out.cell 0
          have k1 : wr.cell? ⟨O, 1, none⟩ = some (.int .u32 (acc : Int)) := HO.out.cell 1
          have HR9 := Sec.mk (HR2.out.mod HM.out (fun h => by omega))
          have hc0 : wr.cell? ⟨w.heap.size, 0, none⟩ = some (.bool false) := HR9.out.cell 0
          have hc1 : wr.cell? ⟨w.heap.size, 1, none⟩ = some (.int .u32 0) := HR9.out.cell 1
          have hf0 : wr.frozen? ⟨w.heap.size, 0, none⟩ = false := HR9.out.frozen 0
          have hf1 : wr.frozen? ⟨w.heap.size, 1, none⟩ = false := HR9.out.frozen 1
          go_wp2
          refine bodyPost_ret (results_blk rfl rfl ((HR9.out.set_ 0 (.bool true)).set_ 1 (.int .u32 (acc : Int))) Tryd.underlying28 (by kernel_rfl)) rfl ?_
          rw [HD.out, HE.out]
          refine ⟨rfl, ((HM2.out.trans HM.out (fun i hi hl => ?_)).setCell (fun h => absurd h (by simp)) _).setCell (fun h => absurd h (by simp)) _⟩
          omega
end Go.Proofs.YtbkccffpipcjeaaDoor
