/- The specification's reading of a list of flags. -/
import Derived.Test.YtbkccffpipcjeaaDoorBr
import Derived.Test.YtbkccffpipcjeaaDoorListS
import Derived.Test.YtbkccffpipcjeaaDoorLetS
namespace Go.Proofs.YtbkccffpipcjeaaDoor
open Go.RowKit Mem
set_option linter.unusedVariables false
theorem foldL_none {w : Bytes} {ws : List Bytes} {acc : Nat} (h : bitL w = none) : foldL acc (w :: ws) = (false, 0) := by unfold foldL; rw [h]
theorem foldL_some {w : Bytes} {ws : List Bytes} {acc k : Nat} (h : bitL w = some k) : foldL acc (w :: ws) = foldL (acc ||| 2 ^ k) ws := by
  conv => lhs; unfold foldL
  rw [h]
theorem lastHit_range (w : Bytes) : ∀ k, -1 ≤ lastHit w k ∧ lastHit w k < k
  | 0 => by simp [lastHit]
  | k + 1 => by
    have := lastHit_range w k
    unfold lastHit
    split
    · omega
    · omega
set_option maxHeartbeats 2000000 in
set_option maxRecDepth 100000 in
theorem readListSpec_calls (xs : Bytes) (hx : xs.length ≤ 16777216) (w : World) : Calls Tryd.prog 12 #[.string ⟨xs.toArray⟩] w (Ret (FlagsV (ReadListL xs)) w) := by
  have HB2 := Sec.mk (Blk.new w 28 [.bool false, .int .u32 0])
  have HB := Sec.mk (l6Brackets_calls xs (by omega))
  have HD : Sec (ReadListL xs = match brL xs with | none => (false, 0) | some [] => (true, 0) | some ys => foldL 0 (splitL 32 ys)) := ⟨rfl⟩
  have hlen := fun ys => brL_len (xs := xs) (ys := ys)
  cases hq : brL xs with
  | none =>
    rw [hq] at HB HD
    simp only [BrV] at HB HD
    clear hlen hq
    go_enter Tryd.func12, Tryd.ntmps12
    go_wp2_with fail
    refine (HB.out _).mono ?_
    rintro e w1 ⟨rfl, hm1⟩
    have HR1 := Sec.mk (HB2.out.mod hm1 id)
    have HM1 := Sec.mk (((Mod.refl (fun _ => False) w).alloc _).transN hm1)
    have hc0 : w1.cell? ⟨w.heap.size, 0, none⟩ = some (.bool false) := HR1.out.cell 0
    have hc1 : w1.cell? ⟨w.heap.size, 1, none⟩ = some (.int .u32 0) := HR1.out.cell 1
    have hf0 : w1.frozen? ⟨w.heap.size, 0, none⟩ = false := HR1.out.frozen 0
    have hf1 : w1.frozen? ⟨w.heap.size, 1, none⟩ = false := HR1.out.frozen 1
    clear hm1
    go_wp2
    refine bodyPost_ret (results_blk rfl rfl ((HR1.out.set_ 0 (.bool false)).set_ 1 (.int .u32 0)) Tryd.underlying28 (by kernel_rfl)) rfl ?_
    rw [HD.out]
    exact ⟨rfl, (HM1.out.setCell (fun h => absurd h (by simp)) _).setCell (fun h => absurd h (by simp)) _⟩
  | some ys =>
    have hyl := hlen ys hq
    rw [hq] at HB HD
    simp only [BrV] at HB HD
    clear hlen hq
    go_enter Tryd.func12, Tryd.ntmps12
    go_wp2_with fail
    refine (HB.out _).mono ?_
    rintro e w1 ⟨rfl, hm1⟩
    have HR0 := Sec.mk (HB2.out.mod hm1 id)
    have HR1 := Sec.mk (HR0.out.alloc (.cells #[.bool true, .int .u32 0] 28))
    have HM0 := Sec.mk (((Mod.refl (fun _ => False) w).alloc _).transN hm1)
    have HM1 := Sec.mk (HM0.out.alloc (.cells #[.bool true, .int .u32 0] 28))
    have HO1 := Sec.mk (Blk.new w1 28 [.bool true, .int .u32 0])
    have hsz1 : w.heap.size < w1.heap.size := by have := hm1.size; simp at this; omega
    clear hm1
    cases ys with
    | nil =>
      have hc0 : w1.cell? ⟨w.heap.size, 0, none⟩ = some (.bool false) := HR0.out.cell 0
      have hc1 : w1.cell? ⟨w.heap.size, 1, none⟩ = some (.int .u32 0) := HR0.out.cell 1
      have hf0 : w1.frozen? ⟨w.heap.size, 0, none⟩ = false := HR0.out.frozen 0
      have hf1 : w1.frozen? ⟨w.heap.size, 1, none⟩ = false := HR0.out.frozen 1
      go_wp2
      refine bodyPost_ret (results_blk rfl rfl (((HR0.out.set_ 0 (.bool true)).set_ 1 (.int .u32 0)).alloc _) Tryd.underlying28 (by kernel_rfl)) rfl ?_
      rw [HD.out]
      exact ⟨rfl, ((HM0.out.setCell (fun h => absurd h (by simp)) _).setCell (fun h => absurd h (by simp)) _).alloc _⟩
    | cons y0 yr =>
      simp only at HD
      have hyb : (y0 :: yr).isEmpty = false := rfl
      have HSP := Sec.mk (l6Split_calls (y0 :: yr) (by omega) 32)
      have hwm := splitL_mem 32 (y0 :: yr)
      have hwl := splitL_len 32 (y0 :: yr)
      generalize splitL 32 (y0 :: yr) = ws at *
      generalize y0 :: yr = ys at *
      go_wp2_with fail
      refine (HSP.out _).mono ?_
      intro e w2 hret
      obtain ⟨A, c, rfl, hmine⟩ := hret.mine
      have HR2 := Sec.mk (HR1.out.mod hmine.new id)
      have HO2 := Sec.mk (HO1.out.mod hmine.new id)
      have HM2 := Sec.mk (HM1.out.transN hmine.new)
      have HW := Sec.mk hmine.row
      clear hret hmine HR0 HR1 HO1 HM1
      rw [List.length_map] at *
      have hwl2 : ws.length ≤ 33554432 := by omega
      have hwlt : ∀ k, (w1.alloc (.cells #[.bool true, .int .u32 0] 28)).heap.size ≤ k ∧ k < w2.heap.size → k ≠ w1.heap.size ∧ k < w2.heap.size := fun k hk => by
        have h1 : (w1.alloc (.cells #[.bool true, .int .u32 0] 28)).heap.size = w1.heap.size + 1 := by simp
        omega
      have HW2 := Sec.mk (HW.out.mod (w' := w2) hwlt (fun _ _ => rfl))
      clear HW hwlt
      generalize w1.heap.size = O at *
      go_wp2
      go_loopw [26] (fun i wr => ∃ (k acc : Nat), k ≤ ws.length ∧ i = .int .i64 (k : Int) ∧ acc < 2147483648 ∧ Sec (foldL 0 ws = foldL acc (ws.drop k)) ∧ Sec (Blk wr O 28 [.bool true, .int .u32 (acc : Int)]) ∧ Sec (Mod (· = O) w2 wr)) (fun i _ => ws.length - (intOf i).toNat)
      case atStart => exact ⟨0, 0, Nat.zero_le _, rfl, by omega, ⟨rfl⟩, HO2, ⟨Mod.refl _ _⟩⟩
      case round =>
        obtain ⟨k, acc, hk, rfl, hacc, HF, HO, HM⟩ := hrel
        by_cases hlt : k < ws.length
        · obtain ⟨ad', cs, hA, hK, hx0, _⟩ := HW2.out.cells_at (w' := wr) (fun i hi => HM.out.block i hi.2 hi.1) (k := k) (by simpa using hlt)
          subst hA
          have hK' : cs = [.string (toS ws[k])] := by rw [hK]; simp
          subst hK'
          have h0 := hx0 _ rfl
          rw [show k * Ty.string.sz = k from Nat.mul_one k] at h0
          unfold toS at h0
          have hwk := hwm ws[k] (List.getElem_mem hlt)
          have HDR := Sec.mk (List.drop_eq_getElem_cons hlt)
          have hki : (k : Int) < (ws.length : Int) := by omega
          generalize ws[k] = wd at *
          clear hK hx0
          have HLS := Sec.mk (lower_calls wd (by omega))
          go_wp2
          go_loopw [8, 9] (fun q i wr => ∃ (j : Nat), j ≤ 31 ∧ i = .int .i64 (j : Int) ∧ q = .int .i64 (lastHit wd j) ∧ Sec (Blk wr O 28 [.bool true, .int .u32 (acc : Int)]) ∧ Sec (Mod (· = O) w2 wr)) (fun _ i _ => 31 - (intOf i).toNat)
          case atStart => exact ⟨0, by omega, rfl, rfl, HO, HM⟩
          case round =>
            obtain ⟨j, hj, rfl, rfl, HO, HM⟩ := hrel
            clear h0
            by_cases hj31 : j < 31
            · have HN := Sec.mk (fun w => l6FlagName_calls j hj31 w)
              have HLH : Sec (lastHit wd (j + 1) = if hit wd j then (j : Int) else lastHit wd j) := ⟨rfl⟩
              have HB5 := Sec.mk (fun h => hit_small (w := wd) (k := j) h)
              have HB6 := Sec.mk (fun h => hit_big (w := wd) (k := j) h)
              have HIL : Sec (wd = nameL j → hit wd j) := ⟨.inl⟩
              have hnl := nameL_len j
              have HLN := Sec.mk (lower_calls (nameL j) (by omega))
              generalize lastHit wd j = q at *
              generalize nameL j = nm at *
              go_wp2_with fail
              refine (HN.out _).mono ?_
              rintro e w3 ⟨rfl, hm3⟩
              have HO3 := Sec.mk (HO.out.mod hm3 id)
              have HM3 := Sec.mk (HM.out.transN hm3)
              clear hm3
              by_cases he : wd = nm
              · have hz : (wd == nm) = true := by simp [he]
                have HE : Sec (lastHit wd (j + 1) = (j : Int)) := ⟨by rw [HLH.out, if_pos (HIL.out he)]⟩
                clear he
                go_wp2
                refine ⟨⟨j + 1, by omega, by go_num, by rw [HE.out], HO3, HM3⟩, ?_⟩
                simp [intOf]; omega
              · have hz : (wd == nm) = false := by simpa using he
                by_cases h5 : j < 5
                · have h5i : (j : Int) < 5 := by omega
                  have HH := HB5.out h5
                  clear HB6 HIL he
                  go_wp2_with fail
                  refine (HLS.out _).mono ?_
                  rintro e w4 ⟨rfl, hm4⟩
                  go_wp2_with fail
                  refine (HLN.out _).mono ?_
                  rintro e w5 ⟨rfl, hm5⟩
                  have HO5 := Sec.mk ((HO3.out.mod hm4 id).mod hm5 id)
                  have HM5 := Sec.mk ((HM3.out.transN hm4).transN hm5)
                  clear hm4 hm5
                  by_cases hl : loL wd = loL nm
                  · have HE : Sec (lastHit wd (j + 1) = (j : Int)) := ⟨by rw [HLH.out, if_pos (HH.2 hl)]⟩
                    clear HH
                    generalize loL wd = la at *
                    generalize loL nm = lb at *
                    have hz2 : (la == lb) = true := by simp [hl]
                    clear hl
                    go_wp2
                    refine ⟨⟨j + 1, by omega, by go_num, by rw [HE.out], HO5, HM5⟩, ?_⟩
                    simp [intOf]; omega
                  · have HE : Sec (lastHit wd (j + 1) = q) := ⟨by rw [HLH.out, if_neg (fun h => hl (HH.1 h))]⟩
                    clear HH
                    generalize loL wd = la at *
                    generalize loL nm = lb at *
                    have hz2 : (la == lb) = false := by simpa using hl
                    clear hl
                    go_wp2
                    go_roundw
                    case rel => exact ⟨j + 1, by omega, by go_num, by rw [HE.out], HO5, HM5⟩
                    case measure => simp [intOf]; omega
                · have h5i : ¬ (j : Int) < 5 := by omega
                  have HE : Sec (lastHit wd (j + 1) = q) := ⟨by rw [HLH.out, if_neg (fun h => he ((HB6.out (by omega)).1 h))]⟩
                  clear he HB5 HB6 HIL
                  go_wp2
                  go_roundw
                  case rel => exact ⟨j + 1, by omega, by go_num, by rw [HE.out], HO3, HM3⟩
                  case measure => simp [intOf]; omega
            · obtain rfl : j = 31 := by omega
              have HLI := lastHit_is wd
              have k0 : wr.cell? ⟨O, 0, none⟩ = some (.bool true) := HO.out.cell 0
              have k1 : wr.cell? ⟨O, 1, none⟩ = some (.int .u32 (acc : Int)) := HO.out.cell 1
              have g1 : wr.frozen? ⟨O, 1, none⟩ = false := HO.out.frozen 1
              cases hb : bitL wd with
              | none =>
                have HE : Sec (foldL 0 ws = (false, 0)) := ⟨by rw [HF.out, HDR.out, foldL_none hb]⟩
                rw [hb] at HLI
                simp only at HLI
                rw [HLI]
                have HR9 := Sec.mk (HR2.out.mod HM.out (fun h => by omega))
                have hc0 : wr.cell? ⟨w.heap.size, 0, none⟩ = some (.bool false) := HR9.out.cell 0
                have hc1 : wr.cell? ⟨w.heap.size, 1, none⟩ = some (.int .u32 0) := HR9.out.cell 1
                have hf0 : wr.frozen? ⟨w.heap.size, 0, none⟩ = false := HR9.out.frozen 0
                have hf1 : wr.frozen? ⟨w.heap.size, 1, none⟩ = false := HR9.out.frozen 1
                clear hb HLI
                go_wp2
                refine bodyPost_ret (results_blk rfl rfl ((HR9.out.set_ 0 (.bool false)).set_ 1 (.int .u32 0)) Tryd.underlying28 (by kernel_rfl)) rfl ?_
                rw [HD.out, HE.out]
                refine ⟨rfl, ((HM2.out.trans HM.out (fun i hi hl => ?_)).setCell (fun h => absurd h (by simp)) _).setCell (fun h => absurd h (by simp)) _⟩
                omega
              | some b =>
                have hb31 := bitL_lt hb
                have HE : Sec (foldL 0 ws = foldL (acc ||| 2 ^ b) (ws.drop (k + 1))) := ⟨by rw [HF.out, HDR.out, foldL_some hb]⟩
                rw [hb] at HLI
                simp only at HLI
                rw [HLI]
                have HO7 := Sec.mk (or_pow acc b hacc hb31)
                have hlt2 : acc ||| 2 ^ b < 2147483648 := Nat.or_lt_two_pow (n := 31) hacc (Nat.pow_lt_pow_right (by decide) hb31)
                have hbn : ¬ ((b : Int) < 0) := by omega
                clear hb HLI
                go_wp2
                rw [HO7.out]
                refine ⟨⟨k + 1, acc ||| 2 ^ b, by omega, by go_num, hlt2, HE, ⟨HO.out.set_ 1 _⟩, ⟨HM.out.setCell (fun _ => rfl) _⟩⟩, ?_⟩
                simp [intOf]; omega
        · obtain rfl : k = ws.length := by omega
          rw [List.drop_length] at HF
          have HE : Sec (foldL 0 ws = (true, (acc : Int))) := HF
          have k0 : wr.cell? ⟨O, 0, none⟩ = some (.bool true) := HO.out.cell 0
          have k1 : wr.cell? ⟨O, 1, none⟩ = some (.int .u32 (acc : Int)) := HO.out.cell 1
          have HR9 := Sec.mk (HR2.out.mod HM.out (fun h => by omega))
          have hc0 : wr.cell? ⟨w.heap.size, 0, none⟩ = some (.bool false) := HR9.out.cell 0
          have hc1 : wr.cell? ⟨w.heap.size, 1, none⟩ = some (.int .u32 0) := HR9.out.cell 1
          have hf0 : wr.frozen? ⟨w.heap.size, 0, none⟩ = false := HR9.out.frozen 0
          have hf1 : wr.frozen? ⟨w.heap.size, 1, none⟩ = false := HR9.out.frozen 1
          go_wp2
          refine bodyPost_ret (results_blk rfl rfl ((HR9.out.set_ 0 (.bool true)).set_ 1 (.int .u32 (acc : Int))) Tryd.underlying28 (by kernel_rfl)) rfl ?_
          rw [HD.out, HE.out]
          refine ⟨rfl, ((HM2.out.trans HM.out (fun i hi hl => ?_)).setCell (fun h => absurd h (by simp)) _).setCell (fun h => absurd h (by simp)) _⟩
          omega
end Go.Proofs.YtbkccffpipcjeaaDoor
