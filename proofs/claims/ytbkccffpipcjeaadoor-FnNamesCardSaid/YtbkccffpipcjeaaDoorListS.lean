/- The specification's list of flags. -/
import Derived.Test.YtbkccffpipcjeaaDoorFlagS
import Derived.Test.YtbkccffpipcjeaaDoorPureList
import Derived.Test.YtbkccffpipcjeaaDoorStr
namespace Go.Proofs.YtbkccffpipcjeaaDoor
open Go.RowKit Mem
set_option linter.unusedVariables false

set_option maxRecDepth 100000 in
theorem l6FlagName_calls (k : Nat) (hk : k < 31) (w : World) : Calls Tryd.prog 22 #[.int .i64 (k : Int)] w (Ret (.string ⟨(nameL k).toArray⟩) w) := by
  rcases (show k = 0 ∨ k = 1 ∨ k = 2 ∨ k = 3 ∨ k = 4 ∨ 5 ≤ k by omega) with rfl | rfl | rfl | rfl | rfl | h
  · go_enter Tryd.func22, Tryd.ntmps22
    go_wp2
    go_ret
    exact ⟨rfl, Mod.refl _ _⟩
  · go_enter Tryd.func22, Tryd.ntmps22
    go_wp2
    go_ret
    exact ⟨rfl, Mod.refl _ _⟩
  · go_enter Tryd.func22, Tryd.ntmps22
    go_wp2
    go_ret
    exact ⟨rfl, Mod.refl _ _⟩
  · go_enter Tryd.func22, Tryd.ntmps22
    go_wp2
    go_ret
    exact ⟨rfl, Mod.refl _ _⟩
  · go_enter Tryd.func22, Tryd.ntmps22
    go_wp2
    go_ret
    exact ⟨rfl, Mod.refl _ _⟩
  · have h0 : (k : Int) ≠ 0 := by omega
    have h1 : (k : Int) ≠ 1 := by omega
    have h2 : (k : Int) ≠ 2 := by omega
    have h3 : (k : Int) ≠ 3 := by omega
    have h4 : (k : Int) ≠ 4 := by omega
    have HL : Sec (nameL k = [UInt8.ofNat (97 + k - 5)]) := ⟨by unfold nameL; rw [if_neg (by omega), if_neg (by omega), if_neg (by omega), if_neg (by omega), if_neg (by omega)]⟩
    have HRO := Row.one w 5 (UInt8.ofNat (97 + k - 5)) (97 + (k : Int) - 5) (by rw [UInt8.toNat_ofNat']; omega)
    have hcv := HRO.conv (P := Tryd.prog) Tryd.underlying36 Tryd.underlying5 Tryd.underlying9 1
    clear HRO
    go_enter Tryd.func22, Tryd.ntmps22
    go_wp2
    go_ret
    rw [HL.out]
    exact ⟨rfl, (Mod.refl _ _).alloc _⟩

set_option maxHeartbeats 1000000 in
set_option maxRecDepth 100000 in
theorem flagListSpec_calls (f : Nat) (hf : f < 4294967296) (w : World) : Calls Tryd.prog 8 #[.int .u32 (f : Int)] w (Ret (.string ⟨(FlagListL f).toArray⟩) w) := by
  have HD : Sec (FlagListL f = [40] ++ joinSp (namesTo f 31) ++ [41]) := ⟨rfl⟩
  go_enter Tryd.func8, Tryd.ntmps8
  go_wp2
  go_loopw [3, 4] (fun s i wr => ∃ (k : Nat), k ≤ 31 ∧ i = .int .i64 (k : Int) ∧ s = .string ⟨(joinSp (namesTo f k)).toArray⟩ ∧ Sec (New w wr)) (fun _ i _ => 31 - (intOf i).toNat)
  case atStart => exact ⟨0, by omega, rfl, rfl, ⟨Mod.refl _ _⟩⟩
  case round =>
    obtain ⟨k, hk, rfl, rfl, HM⟩ := hrel
    by_cases hlt : k < 31
    · have HS := Sec.mk (namesTo_succ f k)
      have HJ := Sec.mk (joinSp_snoc (namesTo f k) (nameL k))
      have HNE := Sec.mk (fun h => joinSp_ne (namesTo f k) h (namesTo_ne f k))
      have hjl := joinSp_len f k
      have hnl := nameL_len k
      have HH := Sec.mk (fun w => l4Has_calls f hf k hlt w)
      have HN := Sec.mk (fun w => l6FlagName_calls k hlt w)
      generalize ht : f.testBit k = t at *
      clear ht
      go_wp2_with fail
      refine (HH.out _).mono ?_
      rintro e w1 ⟨rfl, rfl⟩
      cases t
      · go_wp2
        go_roundw
        case rel => exact ⟨k + 1, by omega, by go_num, by rw [HS.out]; simp, HM⟩
        case measure => simp [intOf]; omega
      · by_cases hnil : namesTo f k = []
        · have HE : Sec (joinSp (namesTo f (k + 1)) = nameL k) := ⟨by rw [HS.out, if_pos rfl, HJ.out, if_pos hnil]⟩
          rw [hnil, joinSp_nil]
          clear hnil
          go_wp2_with fail
          refine (HN.out _).mono ?_
          rintro e w2 ⟨rfl, hm2⟩
          have HM2 := Sec.mk (HM.out.transN hm2)
          clear hm2
          go_wp2
          go_roundw
          case rel => exact ⟨k + 1, by omega, by go_num, by rw [HE.out]; exact congrArg Value.string (ba_app [] _), HM2⟩
          case measure => simp [intOf]; omega
        · have HE : Sec (joinSp (namesTo f (k + 1)) = joinSp (namesTo f k) ++ [32] ++ nameL k) := ⟨by rw [HS.out, if_pos rfl, HJ.out, if_neg hnil]⟩
          have hjn := HNE.out hnil
          clear hnil
          generalize joinSp (namesTo f k) = js at *
          have hjb : js.isEmpty = false := by simpa using hjn
          go_wp2_with fail
          refine (HN.out _).mono ?_
          rintro e w2 ⟨rfl, hm2⟩
          have HM2 := Sec.mk (HM.out.transN hm2)
          clear hm2
          go_wp2
          go_roundw
          case rel => exact ⟨k + 1, by omega, by go_num, by rw [HE.out, ba_app js [32], ba_app], HM2⟩
          case measure => simp [intOf]; omega
    · obtain rfl : k = 31 := by omega
      have hjl := joinSp_len f 31
      generalize joinSp (namesTo f 31) = js at *
      go_wp2
      go_ret
      refine ⟨?_, HM.out⟩
      rw [HD.out, ← ba_app, ← ba_app]
      rfl
end Go.Proofs.YtbkccffpipcjeaaDoor
