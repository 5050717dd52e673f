/- The program's reading of flags' names. Letters read back into flags, in plain lists. The specification's reading of letters. The specification's reading of a list of flags. The program's reading of a list of flags. The laws' marks over bytes: markByteS writes them, heldByteS finds them. -/
import Derived.Test.YtiaknomadhgckaaDoorPk3
import Derived.Test.YtiaknomadhgckaaDoorShelf
import Derived.Test.YtiaknomadhgckaaDoorPk2
import Derived.Test.YtiaknomadhgckaaDoorPk1
namespace Go.Proofs.YtiaknomadhgckaaDoor
open Go.RowKit Mem
set_option linter.unusedVariables false
def BitV (x : Option Nat) : Value := match x with | none => .tuple #[.int .u32 0, .bool false] | some k => .tuple #[.int .u32 ((2 ^ k : Nat) : Int), .bool true]
theorem pow_mod (j : Nat) (h : j < 31) : (2 : Int) ^ j % 4294967296 = ((2 ^ j : Nat) : Int) := by
  have h2 : 2 ^ j < 2 ^ 31 := Nat.pow_lt_pow_right (by decide) h
  rw [show (2 : Int) ^ j = ((2 ^ j : Nat) : Int) by simp]
  generalize 2 ^ j = p at *
  omega
set_option maxHeartbeats 1000000 in
set_option maxRecDepth 100000 in
theorem readFlag_calls (xs : Bytes) (hx : xs.length ≤ 34359738368) {w : World} (h : NamesAt w) : Calls Tryd.prog 96 #[.string ⟨xs.toArray⟩] w (Ret (BitV (bitL xs)) w) := by
  obtain ⟨ad, cc, hcell, hrow⟩ := h
  have HR := Sec.mk hrow
  have hsz : (⟨xs.toArray⟩ : ByteArray).size = xs.length := by simp [ByteArray.size]
  have HU := Sec.mk (upper_calls xs hx)
  clear hrow
  go_enter Tryd.func96, Tryd.ntmps96
  go_wp2
  go_loopw [8] (fun i wr => ∃ (k : Nat), k ≤ 5 ∧ i = .int .i64 (k : Int) ∧ Sec (∀ j, j < k → upL xs ≠ upL (nameL j)) ∧ Sec (New w wr)) (fun i _ => 5 - (intOf i).toNat)
  case atStart => exact ⟨0, by omega, rfl, ⟨fun j hj => absurd hj (Nat.not_lt_zero _)⟩, ⟨Mod.refl _ _⟩⟩
  case round =>
    obtain ⟨k, hk, rfl, HN, HM⟩ := hrel
    clear hcell
    by_cases hlt : k < 5
    · obtain ⟨ad', cs, hA, hK, hx0, _⟩ := HR.out.cells_at (w' := wr) (fun i hi => HM.out.block i hi id) (k := k) (by simpa using hlt)
      injection hA with hA
      subst hA
      have hK' : cs = [.string (toS (nameL k))] := by rw [hK]; simp
      subst hK'
      have h0 := hx0 _ rfl
      rw [show k * Ty.string.sz = k from Nat.mul_one k] at h0
      have hnl := nameL_len k
      have HU2 := Sec.mk (upper_calls (nameL k) (by omega))
      have HB := Sec.mk (fun h => bitL_small (w := xs) hlt h)
      have HN2 : Sec (upL xs ≠ upL (nameL k) → ∀ j, j < k + 1 → upL xs ≠ upL (nameL j)) := ⟨fun h j hj => by rcases Nat.lt_succ_iff_lt_or_eq.1 hj with h' | rfl; exact HN.out j h'; exact h⟩
      have HP := Sec.mk (pow_mod k (by omega))
      have hki : (k : Int) < 5 := by omega
      unfold toS at h0
      generalize nameL k = nm at *
      generalize upL nm = un at *
      generalize upL xs = ux at *
      clear hK hx0
      go_wp2_with fail
      refine (HU.out _).mono ?_
      rintro e w1 ⟨rfl, hm1⟩
      go_wp2_with fail
      refine (HU2.out _).mono ?_
      rintro e w2 ⟨rfl, hm2⟩
      have HM2 := Sec.mk ((HM.out.transN hm1).transN hm2)
      clear hm1 hm2
      by_cases he : ux = un
      · have hz : (ux == un) = true := by simp [he]
        have HE := Sec.mk (HB.out he)
        clear he HN2
        go_wp2
        go_ret2
        rw [HE.out, HP.out]
        exact ⟨rfl, HM2.out⟩
      · have hz : (ux == un) = false := by simpa using he
        have HN3 := Sec.mk (HN2.out he)
        clear he HB
        go_wp2
        go_roundw
        case rel => exact ⟨k + 1, by omega, by go_num, HN3, HM2⟩
        case measure => simp [intOf]; omega
    · obtain rfl : k = 5 := by omega
      have HO := Sec.mk (bitL_other HN.out)
      by_cases h1 : xs.length = 1
      · obtain ⟨b, rfl⟩ : ∃ b, xs = [b] := by
          match xs, h1 with
          | [b], _ => exact ⟨b, rfl⟩
        have hg0 := strIdx_run [b] 0 (by simp)
        simp only [Int.ofNat_zero, List.getElem_cons_zero] at hg0
        have HB := Sec.mk (bitL_letter b)
        have hb := UInt8.toNat_lt b
        have hs1 : (⟨[b].toArray⟩ : ByteArray).size = 1 := rfl
        clear hsz HN HU
        generalize hbs : (⟨[b].toArray⟩ : ByteArray) = sb at *
        by_cases ha : 97 ≤ b.toNat
        · have hai : (97 : Int) ≤ (b.toNat : Int) := by omega
          by_cases hc : b.toNat ≤ 122
          · have hci : (b.toNat : Int) ≤ 122 := by omega
            have HE := Sec.mk (HB.out ha hc)
            have HP := Sec.mk (pow_mod (5 + b.toNat - 97) (by omega))
            have ht : ((5 : Int) + (b.toNat : Int) - 97).toNat = 5 + b.toNat - 97 := by omega
            go_wp2
            go_ret2
            rw [HE.out, HP.out]
            exact ⟨rfl, HM.out⟩
          · have hci : ¬ (b.toNat : Int) ≤ 122 := by omega
            have HE := Sec.mk (HO.out (fun b' h h' => by obtain rfl := (List.cons.inj h).1; omega))
            go_wp2
            go_ret2
            rw [HE.out]
            exact ⟨rfl, HM.out⟩
        · have hai : ¬ (97 : Int) ≤ (b.toNat : Int) := by omega
          have HE := Sec.mk (HO.out (fun b' h h' => by obtain rfl := (List.cons.inj h).1; omega))
          go_wp2
          go_ret2
          rw [HE.out]
          exact ⟨rfl, HM.out⟩
      · have h1i : ¬ (xs.length : Int) = 1 := by omega
        have HE := Sec.mk (HO.out (fun b h => absurd (by rw [h]; rfl) h1))
        go_wp2
        go_ret2
        rw [HE.out]
        exact ⟨rfl, HM.out⟩
end Go.Proofs.YtiaknomadhgckaaDoor

namespace Go.Proofs.YtiaknomadhgckaaDoor
set_option linter.unusedVariables false
open Mem
end Go.Proofs.YtiaknomadhgckaaDoor

namespace Go.Proofs.YtiaknomadhgckaaDoor
open Go.RowKit Mem
set_option linter.unusedVariables false
theorem or_pow (g j : Nat) (hg : g < 2147483648) (hj : j < 31) : bits .or .u32 (g : Int) ((2 : Int) ^ j % 4294967296) = ((g ||| 2 ^ j : Nat) : Int) := by
  have h2 : 2 ^ j < 2 ^ 31 := Nat.pow_lt_pow_right (by decide) hj
  have ft : ∀ p : Nat, p < 4294967296 → (BitVec.ofInt 32 (p : Int)).toNat = p := fun p hp => by rw [BitVec.toNat_ofInt]; omega
  have ht : ∀ p : Nat, p < 2147483648 → ((p : Int) % 4294967296) = (p : Int) := fun p hp => by omega
  have e : ((2 : Int) ^ j % 4294967296) = ((2 ^ j : Nat) : Int) := by
    rw [show (2 : Int) ^ j = ((2 ^ j : Nat) : Int) by simp]; exact ht _ h2
  rw [e]
  have hlt : g ||| 2 ^ j < 2147483648 := Nat.or_lt_two_pow (n := 31) hg h2
  show IntKind.u32.wrap ((BitVec.ofInt 32 (g : Int) ||| BitVec.ofInt 32 ((2 ^ j : Nat) : Int)).toNat : Int) = _
  rw [BitVec.toNat_or, ft g (by omega), ft _ (Nat.lt_trans h2 (by decide)), IntKind.wrap_u32]
  exact ht _ hlt
def FlagsV (x : Bool × Int) : Value := .agg #[.bool x.1, .int .u32 x.2]
end Go.Proofs.YtiaknomadhgckaaDoor

namespace Go.Proofs.YtiaknomadhgckaaDoor
open Go.RowKit Mem
set_option linter.unusedVariables false
theorem foldL_none {w : Bytes} {ws : List Bytes} {acc : Nat} (h : bitL w = none) : foldL acc (w :: ws) = (false, 0) := by unfold foldL; rw [h]
theorem foldL_some {w : Bytes} {ws : List Bytes} {acc k : Nat} (h : bitL w = some k) : foldL acc (w :: ws) = foldL (acc ||| 2 ^ k) ws := by
  conv => lhs; unfold foldL
  rw [h]
set_option maxHeartbeats 2000000 in
set_option maxRecDepth 100000 in
theorem readListSpec_calls (xs : Bytes) (hx : xs.length ≤ 16777216) (w : World) : Calls Tryd.prog 39 #[.string ⟨xs.toArray⟩] w (Ret (FlagsV (ReadListL xs)) w) := by
  have HB2 := Sec.mk (Blk.new w 75 [.bool false, .int .u32 0])
  have HB := Sec.mk (l6Brackets_calls xs (by omega))
  have HD : Sec (ReadListL xs = match brL xs with | none => (false, 0) | some [] => (true, 0) | some ys => foldL 0 (splitL 32 ys)) := ⟨rfl⟩
  have hlen := fun ys => brL_len (xs := xs) (ys := ys)
  cases hq : brL xs with
  | none =>
    rw [hq] at HB HD
    simp only [BrV] at HB HD
    clear hlen hq
    go_enter Tryd.func39, Tryd.ntmps39
    go_wp2_with fail
    refine (HB.out _).mono ?_
    rintro e w1 ⟨rfl, hm1⟩
    have HR1 := Sec.mk (HB2.out.mod hm1 id)
    have HM1 := Sec.mk (((Mod.refl (fun _ => False) w).alloc _).transN hm1)
    have hc0 : w1.cell? ⟨w.heap.size, 0, none⟩ = some (.bool false) := HR1.out.cell 0
    have hc1 : w1.cell? ⟨w.heap.size, 1, none⟩ = some (.int .u32 0) := HR1.out.cell 1
    have hf0 : w1.frozen? ⟨w.heap.size, 0, none⟩ = false := HR1.out.frozen 0
    have hf1 : w1.frozen? ⟨w.heap.size, 1, none⟩ = false := HR1.out.frozen 1
    clear hm1
    go_wp2
    refine bodyPost_ret (results_blk rfl rfl ((HR1.out.set_ 0 (.bool false)).set_ 1 (.int .u32 0)) Tryd.underlying75 (by kernel_rfl)) rfl ?_
    rw [HD.out]
    exact ⟨rfl, (HM1.out.setCell (fun h => absurd h (by simp)) _).setCell (fun h => absurd h (by simp)) _⟩
  | some ys =>
    have hyl := hlen ys hq
    rw [hq] at HB HD
    simp only [BrV] at HB HD
    clear hlen hq
    go_enter Tryd.func39, Tryd.ntmps39
    go_wp2_with fail
    refine (HB.out _).mono ?_
    rintro e w1 ⟨rfl, hm1⟩
    have HR0 := Sec.mk (HB2.out.mod hm1 id)
    have HR1 := Sec.mk (HR0.out.alloc (.cells #[.bool true, .int .u32 0] 75))
    have HM0 := Sec.mk (((Mod.refl (fun _ => False) w).alloc _).transN hm1)
    have HM1 := Sec.mk (HM0.out.alloc (.cells #[.bool true, .int .u32 0] 75))
    have HO1 := Sec.mk (Blk.new w1 75 [.bool true, .int .u32 0])
    have hsz1 : w.heap.size < w1.heap.size := by have := hm1.size; simp at this; omega
    clear hm1
    cases ys with
    | nil =>
      have hc0 : w1.cell? ⟨w.heap.size, 0, none⟩ = some (.bool false) := HR0.out.cell 0
      have hc1 : w1.cell? ⟨w.heap.size, 1, none⟩ = some (.int .u32 0) := HR0.out.cell 1
      have hf0 : w1.frozen? ⟨w.heap.size, 0, none⟩ = false := HR0.out.frozen 0
      have hf1 : w1.frozen? ⟨w.heap.size, 1, none⟩ = false := HR0.out.frozen 1
      go_wp2
      refine bodyPost_ret (results_blk rfl rfl (((HR0.out.set_ 0 (.bool true)).set_ 1 (.int .u32 0)).alloc _) Tryd.underlying75 (by kernel_rfl)) rfl ?_
      rw [HD.out]
      exact ⟨rfl, ((HM0.out.setCell (fun h => absurd h (by simp)) _).setCell (fun h => absurd h (by simp)) _).alloc _⟩
    | cons y0 yr =>
      simp only at HD
      have hyb : (y0 :: yr).isEmpty = false := rfl
      have HSP := Sec.mk (l6Split_calls (y0 :: yr) (by omega) 32)
      have hwm := splitL_mem 32 (y0 :: yr)
      have hwl := splitL_len 32 (y0 :: yr)
      generalize splitL 32 (y0 :: yr) = ws at *
      generalize y0 :: yr = ys at *
      go_wp2_with fail
      refine (HSP.out _).mono ?_
      intro e w2 hret
      obtain ⟨A, c, rfl, hmine⟩ := hret.mine
      have HR2 := Sec.mk (HR1.out.mod hmine.new id)
      have HO2 := Sec.mk (HO1.out.mod hmine.new id)
      have HM2 := Sec.mk (HM1.out.transN hmine.new)
      have HW := Sec.mk hmine.row
      clear hret hmine HR0 HR1 HO1 HM1
      rw [List.length_map] at *
      have hwl2 : ws.length ≤ 33554432 := by omega
      have hwlt : ∀ k, (w1.alloc (.cells #[.bool true, .int .u32 0] 75)).heap.size ≤ k ∧ k < w2.heap.size → k ≠ w1.heap.size ∧ k < w2.heap.size := fun k hk => by
        have h1 : (w1.alloc (.cells #[.bool true, .int .u32 0] 75)).heap.size = w1.heap.size + 1 := by simp
        omega
      have HW2 := Sec.mk (HW.out.mod (w' := w2) hwlt (fun _ _ => rfl))
      clear HW hwlt
      generalize w1.heap.size = O at *
      go_wp2
      go_loopw [26] (fun i wr => ∃ (k acc : Nat), k ≤ ws.length ∧ i = .int .i64 (k : Int) ∧ acc < 2147483648 ∧ Sec (foldL 0 ws = foldL acc (ws.drop k)) ∧ Sec (Blk wr O 75 [.bool true, .int .u32 (acc : Int)]) ∧ Sec (Mod (· = O) w2 wr)) (fun i _ => ws.length - (intOf i).toNat)
      case atStart => exact ⟨0, 0, Nat.zero_le _, rfl, by omega, ⟨rfl⟩, HO2, ⟨Mod.refl _ _⟩⟩
      case round =>
        obtain ⟨k, acc, hk, rfl, hacc, HF, HO, HM⟩ := hrel
        by_cases hlt : k < ws.length
        · obtain ⟨ad', cs, hA, hK, hx0, _⟩ := HW2.out.cells_at (w' := wr) (fun i hi => HM.out.block i hi.2 hi.1) (k := k) (by simpa using hlt)
          subst hA
          have hK' : cs = [.string (toS ws[k])] := by rw [hK]; simp
          subst hK'
          have h0 := hx0 _ rfl
          rw [show k * Ty.string.sz = k from Nat.mul_one k] at h0
          unfold toS at h0
          have hwk := hwm ws[k] (List.getElem_mem hlt)
          have HDR := Sec.mk (List.drop_eq_getElem_cons hlt)
          have hki : (k : Int) < (ws.length : Int) := by omega
          generalize ws[k] = wd at *
          clear hK hx0
          have HLS := Sec.mk (lower_calls wd (by omega))
          go_wp2
          go_loopw [8, 9] (fun q i wr => ∃ (j : Nat), j ≤ 31 ∧ i = .int .i64 (j : Int) ∧ q = .int .i64 (lastHit wd j) ∧ Sec (Blk wr O 75 [.bool true, .int .u32 (acc : Int)]) ∧ Sec (Mod (· = O) w2 wr)) (fun _ i _ => 31 - (intOf i).toNat)
          case atStart => exact ⟨0, by omega, rfl, rfl, HO, HM⟩
          case round =>
            obtain ⟨j, hj, rfl, rfl, HO, HM⟩ := hrel
            clear h0
            by_cases hj31 : j < 31
            · have HN := Sec.mk (fun w => l6FlagName_calls j hj31 w)
              have HLH : Sec (lastHit wd (j + 1) = if hit wd j then (j : Int) else lastHit wd j) := ⟨rfl⟩
              have HB5 := Sec.mk (fun h => hit_small (w := wd) (k := j) h)
              have HB6 := Sec.mk (fun h => hit_big (w := wd) (k := j) h)
              have HIL : Sec (wd = nameL j → hit wd j) := ⟨.inl⟩
              have hnl := nameL_len j
              have HLN := Sec.mk (lower_calls (nameL j) (by omega))
              generalize lastHit wd j = q at *
              generalize nameL j = nm at *
              go_wp2_with fail
              refine (HN.out _).mono ?_
              rintro e w3 ⟨rfl, hm3⟩
              have HO3 := Sec.mk (HO.out.mod hm3 id)
              have HM3 := Sec.mk (HM.out.transN hm3)
              clear hm3
              by_cases he : wd = nm
              · have hz : (wd == nm) = true := by simp [he]
                have HE : Sec (lastHit wd (j + 1) = (j : Int)) := ⟨by rw [HLH.out, if_pos (HIL.out he)]⟩
                clear he
                go_wp2
                refine ⟨⟨j + 1, by omega, by go_num, by rw [HE.out], HO3, HM3⟩, ?_⟩
                simp [intOf]; omega
              · have hz : (wd == nm) = false := by simpa using he
                by_cases h5 : j < 5
                · have h5i : (j : Int) < 5 := by omega
                  have HH := HB5.out h5
                  clear HB6 HIL he
                  go_wp2_with fail
                  refine (HLS.out _).mono ?_
                  rintro e w4 ⟨rfl, hm4⟩
                  go_wp2_with fail
                  refine (HLN.out _).mono ?_
                  rintro e w5 ⟨rfl, hm5⟩
                  have HO5 := Sec.mk ((HO3.out.mod hm4 id).mod hm5 id)
                  have HM5 := Sec.mk ((HM3.out.transN hm4).transN hm5)
                  clear hm4 hm5
                  by_cases hl : loL wd = loL nm
                  · have HE : Sec (lastHit wd (j + 1) = (j : Int)) := ⟨by rw [HLH.out, if_pos (HH.2 hl)]⟩
                    clear HH
                    generalize loL wd = la at *
                    generalize loL nm = lb at *
                    have hz2 : (la == lb) = true := by simp [hl]
                    clear hl
                    go_wp2
                    refine ⟨⟨j + 1, by omega, by go_num, by rw [HE.out], HO5, HM5⟩, ?_⟩
                    simp [intOf]; omega
                  · have HE : Sec (lastHit wd (j + 1) = q) := ⟨by rw [HLH.out, if_neg (fun h => hl (HH.1 h))]⟩
                    clear HH
                    generalize loL wd = la at *
                    generalize loL nm = lb at *
                    have hz2 : (la == lb) = false := by simpa using hl
                    clear hl
                    go_wp2
                    go_roundw
                    case rel => exact ⟨j + 1, by omega, by go_num, by rw [HE.out], HO5, HM5⟩
                    case measure => simp [intOf]; omega
                · have h5i : ¬ (j : Int) < 5 := by omega
                  have HE : Sec (lastHit wd (j + 1) = q) := ⟨by rw [HLH.out, if_neg (fun h => he ((HB6.out (by omega)).1 h))]⟩
                  clear he HB5 HB6 HIL
                  go_wp2
                  go_roundw
                  case rel => exact ⟨j + 1, by omega, by go_num, by rw [HE.out], HO3, HM3⟩
                  case measure => simp [intOf]; omega
            · obtain rfl : j = 31 := by omega
              have HLI := lastHit_is wd
              have k0 : wr.cell? ⟨O, 0, none⟩ = some (.bool true) := HO.out.cell 0
              have k1 : wr.cell? ⟨O, 1, none⟩ = some (.int .u32 (acc : Int)) := HO.out.cell 1
              have g1 : wr.frozen? ⟨O, 1, none⟩ = false := HO.out.frozen 1
              cases hb : bitL wd with
              | none =>
                have HE : Sec (foldL 0 ws = (false, 0)) := ⟨by rw [HF.out, HDR.out, foldL_none hb]⟩
                rw [hb] at HLI
                simp only at HLI
                rw [HLI]
                have HR9 := Sec.mk (HR2.out.mod HM.out (fun h => by omega))
                have hc0 : wr.cell? ⟨w.heap.size, 0, none⟩ = some (.bool false) := HR9.out.cell 0
                have hc1 : wr.cell? ⟨w.heap.size, 1, none⟩ = some (.int .u32 0) := HR9.out.cell 1
                have hf0 : wr.frozen? ⟨w.heap.size, 0, none⟩ = false := HR9.out.frozen 0
                have hf1 : wr.frozen? ⟨w.heap.size, 1, none⟩ = false := HR9.out.frozen 1
                clear hb HLI
                go_wp2
                refine bodyPost_ret (results_blk rfl rfl ((HR9.out.set_ 0 (.bool false)).set_ 1 (.int .u32 0)) Tryd.underlying75 (by kernel_rfl)) rfl ?_
                rw [HD.out, HE.out]
                refine ⟨rfl, ((HM2.out.trans HM.out (fun i hi hl => ?_)).setCell (fun h => absurd h (by simp)) _).setCell (fun h => absurd h (by simp)) _⟩
                omega
              | some b =>
                have hb31 := bitL_lt hb
                have HE : Sec (foldL 0 ws = foldL (acc ||| 2 ^ b) (ws.drop (k + 1))) := ⟨by rw [HF.out, HDR.out, foldL_some hb]⟩
                rw [hb] at HLI
                simp only at HLI
                rw [HLI]
                have HO7 := Sec.mk (or_pow acc b hacc hb31)
                have hlt2 : acc ||| 2 ^ b < 2147483648 := Nat.or_lt_two_pow (n := 31) hacc (Nat.pow_lt_pow_right (by decide) hb31)
                have hbn : ¬ ((b : Int) < 0) := by omega
                clear hb HLI
                go_wp2
                rw [HO7.out]
                refine ⟨⟨k + 1, acc ||| 2 ^ b, by omega, by go_num, hlt2, HE, ⟨HO.out.set_ 1 _⟩, ⟨HM.out.setCell (fun _ => rfl) _⟩⟩, ?_⟩
                simp [intOf]; omega
        · obtain rfl : k = ws.length := by omega
          rw [List.drop_length] at HF
          have HE : Sec (foldL 0 ws = (true, (acc : Int))) := HF
          have k0 : wr.cell? ⟨O, 0, none⟩ = some (.bool true) := HO.out.cell 0
          have k1 : wr.cell? ⟨O, 1, none⟩ = some (.int .u32 (acc : Int)) := HO.out.cell 1
          have HR9 := Sec.mk (HR2.out.mod HM.out (fun h => by omega))
          have hc0 : wr.cell? ⟨w.heap.size, 0, none⟩ = some (.bool false) := HR9.out.cell 0
          have hc1 : wr.cell? ⟨w.heap.size, 1, none⟩ = some (.int .u32 0) := HR9.out.cell 1
          have hf0 : wr.frozen? ⟨w.heap.size, 0, none⟩ = false := HR9.out.frozen 0
          have hf1 : wr.frozen? ⟨w.heap.size, 1, none⟩ = false := HR9.out.frozen 1
          go_wp2
          refine bodyPost_ret (results_blk rfl rfl ((HR9.out.set_ 0 (.bool true)).set_ 1 (.int .u32 (acc : Int))) Tryd.underlying75 (by kernel_rfl)) rfl ?_
          rw [HD.out, HE.out]
          refine ⟨rfl, ((HM2.out.trans HM.out (fun i hi hl => ?_)).setCell (fun h => absurd h (by simp)) _).setCell (fun h => absurd h (by simp)) _⟩
          omega
end Go.Proofs.YtiaknomadhgckaaDoor

namespace Go.Proofs.YtiaknomadhgckaaDoor
open Go.RowKit Mem
set_option linter.unusedVariables false
def Names1 (w : World) : Prop := NamesAt w ∧ IntAt w
theorem Names1.new {w w' : World} (h : Names1 w) (hm : New w w') : Names1 w' := ⟨h.1.new hm, h.2.new hm⟩
set_option maxHeartbeats 2000000 in
set_option maxRecDepth 100000 in
theorem readListImpl_calls (xs : Bytes) (hx : xs.length ≤ 16777216) {w : World} (hE : Names1 w) : Calls Tryd.prog 69 #[.string ⟨xs.toArray⟩] w (Ret (FlagsV (ReadListL xs)) w) := by
  have HEN := Sec.mk hE
  clear hE
  have HB2 := Sec.mk (Blk.new w 75 [.bool false, .int .u32 0])
  have HB := Sec.mk (bracketed_calls xs (by omega))
  have HD : Sec (ReadListL xs = match brL xs with | none => (false, 0) | some [] => (true, 0) | some ys => foldL 0 (splitL 32 ys)) := ⟨rfl⟩
  have hlen := fun ys => brL_len (xs := xs) (ys := ys)
  cases hq : brL xs with
  | none =>
    rw [hq] at HB HD
    simp only [BrV] at HB HD
    clear hlen hq
    go_enter Tryd.func69, Tryd.ntmps69
    go_wp2_with fail
    refine (HB.out _).mono ?_
    rintro e w1 ⟨rfl, hm1⟩
    have HR1 := Sec.mk (HB2.out.mod hm1 id)
    have HM1 := Sec.mk (((Mod.refl (fun _ => False) w).alloc _).transN hm1)
    have hc0 : w1.cell? ⟨w.heap.size, 0, none⟩ = some (.bool false) := HR1.out.cell 0
    have hc1 : w1.cell? ⟨w.heap.size, 1, none⟩ = some (.int .u32 0) := HR1.out.cell 1
    have hf0 : w1.frozen? ⟨w.heap.size, 0, none⟩ = false := HR1.out.frozen 0
    have hf1 : w1.frozen? ⟨w.heap.size, 1, none⟩ = false := HR1.out.frozen 1
    clear hm1
    go_wp2
    refine bodyPost_ret (results_blk rfl rfl ((HR1.out.set_ 0 (.bool false)).set_ 1 (.int .u32 0)) Tryd.underlying75 (by kernel_rfl)) rfl ?_
    rw [HD.out]
    exact ⟨rfl, (HM1.out.setCell (fun h => absurd h (by simp)) _).setCell (fun h => absurd h (by simp)) _⟩
  | some ys =>
    have hyl := hlen ys hq
    rw [hq] at HB HD
    simp only [BrV] at HB HD
    clear hlen hq
    go_enter Tryd.func69, Tryd.ntmps69
    go_wp2_with fail
    refine (HB.out _).mono ?_
    rintro e w1 ⟨rfl, hm1⟩
    have HR0 := Sec.mk (HB2.out.mod hm1 id)
    have HR1 := Sec.mk (HR0.out.alloc (.cells #[.bool true, .int .u32 0] 75))
    have HM0 := Sec.mk (((Mod.refl (fun _ => False) w).alloc _).transN hm1)
    have HM1 := Sec.mk (HM0.out.alloc (.cells #[.bool true, .int .u32 0] 75))
    have HO1 := Sec.mk (Blk.new w1 75 [.bool true, .int .u32 0])
    have hsz1 : w.heap.size < w1.heap.size := by have := hm1.size; simp at this; omega
    clear hm1
    cases ys with
    | nil =>
      have hc0 : w1.cell? ⟨w.heap.size, 0, none⟩ = some (.bool false) := HR0.out.cell 0
      have hc1 : w1.cell? ⟨w.heap.size, 1, none⟩ = some (.int .u32 0) := HR0.out.cell 1
      have hf0 : w1.frozen? ⟨w.heap.size, 0, none⟩ = false := HR0.out.frozen 0
      have hf1 : w1.frozen? ⟨w.heap.size, 1, none⟩ = false := HR0.out.frozen 1
      go_wp2
      refine bodyPost_ret (results_blk rfl rfl (((HR0.out.set_ 0 (.bool true)).set_ 1 (.int .u32 0)).alloc _) Tryd.underlying75 (by kernel_rfl)) rfl ?_
      rw [HD.out]
      exact ⟨rfl, ((HM0.out.setCell (fun h => absurd h (by simp)) _).setCell (fun h => absurd h (by simp)) _).alloc _⟩
    | cons y0 yr =>
      simp only at HD
      have hyb : (y0 :: yr).isEmpty = false := rfl
      have HSP := Sec.mk (fun w hm => split_calls (y0 :: yr) (by omega) 32 (w := w) hm)
      have hwm := splitL_mem 32 (y0 :: yr)
      have hwl := splitL_len 32 (y0 :: yr)
      generalize splitL 32 (y0 :: yr) = ws at *
      generalize y0 :: yr = ys at *
      have HEN1 := Sec.mk (HEN.out.new HM1.out)
      go_wp2_with fail
      refine (HSP.out _ HEN1.out.2).mono ?_
      rintro e w2 ⟨rfl, hm2, hs2, hrow⟩
      have HR2 := Sec.mk (HR1.out.mod hm2 id)
      have HO2 := Sec.mk (HO1.out.mod hm2 id)
      have HM2 := Sec.mk (HM1.out.transN hm2)
      have h1 : (w1.alloc (.cells #[.bool true, .int .u32 0] 75)).heap.size = w1.heap.size + 1 := by simp
      rw [h1] at hrow hs2
      have HW2 := Sec.mk (hrow.mod (B' := fun k => k ≠ w1.heap.size ∧ k < w2.heap.size) (w' := w2) (fun k hk => by obtain rfl := hk; omega) (fun _ _ => rfl))
      have HEN2 := Sec.mk (HEN.out.new HM2.out)
      clear hm2 hrow HR0 HR1 HO1 HM1 HEN1 hs2 h1
      have hwl2 : ws.length ≤ 33554432 := by omega
      rw [show (w1.alloc (.cells #[.bool true, .int .u32 0] 75)).heap.size = w1.heap.size + 1 by simp]
      generalize w1.heap.size = O at *
      generalize (some ⟨O + 1, 0, none⟩ : Option Addr) = A at *
      go_wp2
      go_loopw [25] (fun i wr => ∃ (k acc : Nat), k ≤ ws.length ∧ i = .int .i64 (k : Int) ∧ acc < 2147483648 ∧ Sec (foldL 0 ws = foldL acc (ws.drop k)) ∧ Sec (Blk wr O 75 [.bool true, .int .u32 (acc : Int)]) ∧ Sec (Mod (· = O) w2 wr)) (fun i _ => ws.length - (intOf i).toNat)
      case atStart => exact ⟨0, 0, Nat.zero_le _, rfl, by omega, ⟨rfl⟩, HO2, ⟨Mod.refl _ _⟩⟩
      case round =>
        obtain ⟨k, acc, hk, rfl, hacc, HF, HO, HM⟩ := hrel
        by_cases hlt : k < ws.length
        · obtain ⟨ad', cs, hA, hK, hx0, _⟩ := HW2.out.cells_at (w' := wr) (fun i hi => HM.out.block i hi.2 hi.1) (k := k) (by simpa using hlt)
          subst hA
          have hK' : cs = [.string (toS ws[k])] := by rw [hK]; simp
          subst hK'
          have h0 := hx0 _ rfl
          rw [show k * Ty.string.sz = k from Nat.mul_one k] at h0
          unfold toS at h0
          have hwk := hwm ws[k] (List.getElem_mem hlt)
          have HDR := Sec.mk (List.drop_eq_getElem_cons hlt)
          have hki : (k : Int) < (ws.length : Int) := by omega
          generalize ws[k] = wd at *
          clear hK hx0
          have HENr := Sec.mk (HEN.out.1.new (HM2.out.trans HM.out (fun i hi hl => by omega)))
          have HRF := Sec.mk (readFlag_calls wd (by omega) HENr.out)
          cases hb : bitL wd with
          | none =>
            have HE : Sec (foldL 0 ws = (false, 0)) := ⟨by rw [HF.out, HDR.out, foldL_none hb]⟩
            rw [hb] at HRF
            simp only [BitV] at HRF
            clear hb
            go_wp2_with fail
            refine HRF.out.mono ?_
            rintro e w4 ⟨rfl, hm4⟩
            have HM4 := Sec.mk (HM.out.transN hm4)
            have HR9 := Sec.mk (HR2.out.mod HM4.out (fun h => by omega))
            have hc0 : w4.cell? ⟨w.heap.size, 0, none⟩ = some (.bool false) := HR9.out.cell 0
            have hc1 : w4.cell? ⟨w.heap.size, 1, none⟩ = some (.int .u32 0) := HR9.out.cell 1
            have hf0 : w4.frozen? ⟨w.heap.size, 0, none⟩ = false := HR9.out.frozen 0
            have hf1 : w4.frozen? ⟨w.heap.size, 1, none⟩ = false := HR9.out.frozen 1
            clear hm4
            go_wp2
            refine bodyPost_ret (results_blk rfl rfl ((HR9.out.set_ 0 (.bool false)).set_ 1 (.int .u32 0)) Tryd.underlying75 (by kernel_rfl)) rfl ?_
            rw [HD.out, HE.out]
            refine ⟨rfl, ((HM2.out.trans HM4.out (fun i hi hl => ?_)).setCell (fun h => absurd h (by simp)) _).setCell (fun h => absurd h (by simp)) _⟩
            omega
          | some b =>
            have hb31 := bitL_lt hb
            have HE : Sec (foldL 0 ws = foldL (acc ||| 2 ^ b) (ws.drop (k + 1))) := ⟨by rw [HF.out, HDR.out, foldL_some hb]⟩
            rw [hb] at HRF
            simp only [BitV] at HRF
            have HO7 := or_pow acc b hacc hb31
            rw [pow_mod b hb31] at HO7
            have HO7 := Sec.mk HO7
            have hlt2 : acc ||| 2 ^ b < 2147483648 := Nat.or_lt_two_pow (n := 31) hacc (Nat.pow_lt_pow_right (by decide) hb31)
            generalize 2 ^ b = p at *
            clear hb
            go_wp2_with fail
            refine HRF.out.mono ?_
            rintro e w4 ⟨rfl, hm4⟩
            have HM4 := Sec.mk (HM.out.transN hm4)
            have HO4 := Sec.mk (HO.out.mod hm4 id)
            have k1 : w4.cell? ⟨O, 1, none⟩ = some (.int .u32 (acc : Int)) := HO4.out.cell 1
            have g1 : w4.frozen? ⟨O, 1, none⟩ = false := HO4.out.frozen 1
            clear hm4
            go_wp2
            refine ⟨⟨k + 1, acc ||| p, by omega, by go_num, hlt2, HE, ⟨HO4.out.set_ 1 _⟩, ⟨HM4.out.setCell (fun _ => rfl) _⟩⟩, ?_⟩
            simp [intOf]; omega
        · obtain rfl : k = ws.length := by omega
          rw [List.drop_length] at HF
          have HE : Sec (foldL 0 ws = (true, (acc : Int))) := HF
          have k0 : wr.cell? ⟨O, 0, none⟩ = some (.bool true) := HO.out.cell 0
          have k1 : wr.cell? ⟨O, 1, none⟩ = some (.int .u32 (acc : Int)) := HO.out.cell 1
          have HR9 := Sec.mk (HR2.out.mod HM.out (fun h => by omega))
          have hc0 : wr.cell? ⟨w.heap.size, 0, none⟩ = some (.bool false) := HR9.out.cell 0
          have hc1 : wr.cell? ⟨w.heap.size, 1, none⟩ = some (.int .u32 0) := HR9.out.cell 1
          have hf0 : wr.frozen? ⟨w.heap.size, 0, none⟩ = false := HR9.out.frozen 0
          have hf1 : wr.frozen? ⟨w.heap.size, 1, none⟩ = false := HR9.out.frozen 1
          go_wp2
          refine bodyPost_ret (results_blk rfl rfl ((HR9.out.set_ 0 (.bool true)).set_ 1 (.int .u32 (acc : Int))) Tryd.underlying75 (by kernel_rfl)) rfl ?_
          rw [HD.out, HE.out]
          refine ⟨rfl, ((HM2.out.trans HM.out (fun i hi hl => ?_)).setCell (fun h => absurd h (by simp)) _).setCell (fun h => absurd h (by simp)) _⟩
          omega
end Go.Proofs.YtiaknomadhgckaaDoor

namespace Go.Proofs.YtiaknomadhgckaaDoor
open Go.RowKit Mem
set_option linter.unusedVariables false
def mkB (k n : Nat) : Bytes := (List.range n).map fun i => UInt8.ofNat (k + i)
theorem mkB_len (k n : Nat) : (mkB k n).length = n := by simp [mkB]
theorem mkB_at (k n i : Nat) (h : i < (mkB k n).length) : (mkB k n)[i] = UInt8.ofNat (k + i) := by simp [mkB]
theorem set_len {α : Type} (l : List α) (i : Nat) (x : α) : (l.set i x).length = l.length := List.length_set
theorem u8_of (m : Nat) : ((UInt8.ofNat m).toNat : Int) = IntKind.u8.wrap (m : Int) := by
  rw [IntKind.wrap_u8, UInt8.toNat_ofNat']; omega
set_option maxHeartbeats 400000 in
theorem markByteS_calls {A : Option Addr} {c : Nat} {xs : Bytes} {F : List Nat} {w : World} (h : Own Ty.byte 5 w F (.slice A xs.length c) xs) (k : Nat) (hk : k + xs.length ≤ 1152921504606846976) :
    Calls Tryd.prog 48 #[.slice A xs.length c, .int .i64 k] w fun e w' => e = .returned (.int .i64 ((k + xs.length : Nat) : Int)) ∧ ∃ F', Own Ty.byte 5 w' F' (.slice A (mkB k xs.length).length c) (mkB k xs.length) ∧ (∀ i, i ∈ F' → i ∈ F) ∧ Mod (· ∈ F) w w' := by
  have HO := Sec.mk h
  clear h
  go_enter Tryd.func48, Tryd.ntmps48
  go_wp2
  go_loopw [1, 5] (fun q i wr => ∃ (j : Nat) (ys : Bytes) (G : List Nat), j ≤ xs.length ∧ i = .int .i64 j ∧ q = .int .i64 ((k + j : Nat) : Int) ∧ Sec (ys.length = xs.length) ∧ Sec (ys.take j = (mkB k xs.length).take j) ∧ Sec (Own Ty.byte 5 wr G (.slice A xs.length c) ys) ∧ Sec (∀ k, k ∈ G → k ∈ F) ∧ Sec (Mod (· ∈ F) w wr)) (fun _ i _ => xs.length - (intOf i).toNat)
  case atStart => exact ⟨0, xs, F, Nat.zero_le _, rfl, rfl, ⟨rfl⟩, ⟨by simp⟩, HO, ⟨fun _ h => h⟩, ⟨Mod.refl _ _⟩⟩
  case round =>
    obtain ⟨j, ys, G, hj, rfl, rfl, HL, HT, HO, HF, HM⟩ := hrel
    by_cases hlt : j < xs.length
    · obtain ⟨g, rfl, hgF, hc0, hfz0, hst⟩ := HO.out.byte_elem (j := j) (by rw [HL.out]; exact hlt)
      obtain ⟨G', ho', hG'⟩ := hst (UInt8.ofNat (k + j))
      have HU := Sec.mk (u8_of (k + j))
      have HO' := Sec.mk ho'
      have HG' := Sec.mk hG'
      have HgF := Sec.mk hgF
      clear hst ho' hG' hgF
      go_wp2
      go_roundw
      case rel =>
        refine ⟨j + 1, _, G', by omega, by go_num, by go_num, ⟨(set_len ys j (UInt8.ofNat (k + j))).trans HL.out⟩, ⟨?_⟩, ⟨?_⟩, ⟨fun i hi => HF.out i (HG'.out i hi)⟩, ⟨?_⟩⟩
        · have := set_prefix (mkB k xs.length) ys j (by rw [mkB_len]; exact hlt) (by rw [mkB_len]; exact HL.out) HT.out
          rwa [mkB_at] at this
        · have := HO'.out
          rw [HU.out, IntKind.wrap_u8, Int.natCast_add] at this
          exact this
        · exact HM.out.setCell (fun _ => HF.out _ HgF.out) _
      case measure => simp [intOf]; omega
    · obtain rfl : j = xs.length := by omega
      go_wp2
      go_ret
      have he : ys = mkB k xs.length := by
        have h1 := HT.out
        rw [List.take_of_length_le (by rw [HL.out]; omega), List.take_of_length_le (by rw [mkB_len]; omega)] at h1
        exact h1
      refine ⟨by simp, G, ?_, HF.out, HM.out⟩
      rw [mkB_len, ← he]
      exact HO.out
set_option maxHeartbeats 400000 in
theorem heldByteS_calls {A : Option Addr} {c : Nat} {xs : Bytes} {B : Nat → Prop} {w : World} (h : Row Ty.byte w B A xs.length xs) (k : Nat) (hx : xs = mkB k xs.length) (hk : k + xs.length ≤ 1152921504606846976) :
    Calls Tryd.prog 51 #[.slice A xs.length c, .int .i64 k] w (Ret (.int .i64 ((k + xs.length : Nat) : Int)) w) := by
  have HR := Sec.mk h
  have HX := Sec.mk hx
  clear h hx
  go_enter Tryd.func51, Tryd.ntmps51
  go_wp2
  go_loopw [1, 5] (fun q i wr => ∃ (j : Nat), j ≤ xs.length ∧ i = .int .i64 j ∧ q = .int .i64 ((k + j : Nat) : Int) ∧ wr = w) (fun _ i _ => xs.length - (intOf i).toNat)
  case atStart => exact ⟨0, Nat.zero_le _, rfl, rfl, rfl⟩
  case round =>
    obtain ⟨j, hj, rfl, rfl, rfl⟩ := hrel
    by_cases hlt : j < xs.length
    · obtain ⟨ad, rfl, hx⟩ := HR.out.byte_at (fun i hi => rfl) hlt
      have hv : xs[j] = UInt8.ofNat (k + j) := by
        have := mkB_at k xs.length j (by rw [mkB_len]; exact hlt)
        rw [← this]; congr 1; exact HX.out
      rw [hv, u8_of] at hx
      clear hv
      go_wp2
      go_roundw
      case rel => exact ⟨j + 1, by omega, by go_num, by go_num, trivial⟩
      case measure => simp [intOf]; omega
    · obtain rfl : j = xs.length := by omega
      go_wp2
      go_ret
      exact ⟨by simp, Mod.refl _ _⟩
end Go.Proofs.YtiaknomadhgckaaDoor
