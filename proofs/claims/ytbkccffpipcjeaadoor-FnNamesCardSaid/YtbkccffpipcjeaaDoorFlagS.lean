/- The specification's letters of flags. -/
import Derived.Test.YtbkccffpipcjeaaDoorMem3
import Derived.Test.YtbkccffpipcjeaaDoorBytes
import Derived.Test.YtbkccffpipcjeaaDoorProg
import Derived.WalkKit
import Derived.Test.YtbkccffpipcjeaaDoorPureFlag
namespace Go.Proofs.YtbkccffpipcjeaaDoor
open Go.RowKit Mem
set_option linter.unusedVariables false

theorem flag_and {c : Nat} (h : c < 4294967296) : bits .and .u32 (c : Int) 1 = ((c % 2 : Nat) : Int) := by
  have hc : (BitVec.ofInt 32 (c : Int)).toNat = c := by rw [BitVec.toNat_ofInt]; omega
  show IntKind.u32.wrap ((BitVec.ofInt 32 (c : Int) &&& BitVec.ofInt 32 1).toNat : Int) = _
  rw [BitVec.toNat_and, hc, show (BitVec.ofInt 32 1).toNat = 1 from rfl, Nat.and_one_is_mod, IntKind.wrap_u32]
  omega
theorem l4Letter_calls (k : Nat) (hk : k < 31) (w : World) : Calls Tryd.prog 49 #[.int .i64 (k : Int)] w (fun e w' => e = .returned (.int .u8 (letOf k : Nat)) ∧ w' = w) := by
  rcases (show k = 0 ∨ k = 1 ∨ k = 2 ∨ k = 3 ∨ k = 4 ∨ 5 ≤ k by omega) with rfl | rfl | rfl | rfl | rfl | h
  · go_enter Tryd.func49, Tryd.ntmps49
    go_wp2
    go_ret
    exact ⟨rfl, rfl⟩
  · go_enter Tryd.func49, Tryd.ntmps49
    go_wp2
    go_ret
    exact ⟨rfl, rfl⟩
  · go_enter Tryd.func49, Tryd.ntmps49
    go_wp2
    go_ret
    exact ⟨rfl, rfl⟩
  · go_enter Tryd.func49, Tryd.ntmps49
    go_wp2
    go_ret
    exact ⟨rfl, rfl⟩
  · go_enter Tryd.func49, Tryd.ntmps49
    go_wp2
    go_ret
    exact ⟨rfl, rfl⟩
  · have h0 : (k : Int) ≠ 0 := by omega
    have h1 : (k : Int) ≠ 1 := by omega
    have h2 : (k : Int) ≠ 2 := by omega
    have h3 : (k : Int) ≠ 3 := by omega
    have h4 : (k : Int) ≠ 4 := by omega
    have HL : Sec (letOf k = 97 + k - 5) := ⟨by unfold letOf; rw [if_neg (by omega), if_neg (by omega), if_neg (by omega), if_neg (by omega), if_neg (by omega), if_pos hk]⟩
    go_enter Tryd.func49, Tryd.ntmps49
    go_wp2
    go_ret
    refine ⟨?_, rfl⟩
    rw [HL.out]
    show Ending.returned (.int .u8 (97 + (k : Int) - 5)) = .returned (.int .u8 ((97 + k - 5 : Nat) : Int))
    congr 2
    omega

theorem l4Has_calls (f : Nat) (hf : f < 4294967296) (k : Nat) (hk : k < 31) (w : World) : Calls Tryd.prog 21 #[.int .u32 (f : Int), .int .i64 (k : Int)] w (fun e w' => e = .returned (.bool (f.testBit k)) ∧ w' = w) := by
  have h5 : (bits .and .u32 ((f : Int) / 2 ^ k) 1 == 1) = f.testBit k := by
    rw [Nat.testBit_eq_decide_div_mod_eq]
    have e : ((f : Int) / 2 ^ k) = ((f / 2 ^ k : Nat) : Int) := by simp
    have hlt : f / 2 ^ k < 4294967296 := Nat.lt_of_le_of_lt (Nat.div_le_self _ _) hf
    rw [e, flag_and hlt]
    generalize f / 2 ^ k = g
    rcases (show g % 2 = 0 ∨ g % 2 = 1 by omega) with h | h <;> rw [h] <;> rfl
  generalize f.testBit k = b at *
  go_enter Tryd.func21, Tryd.ntmps21
  go_wp2
  go_ret
  exact ⟨rfl, rfl⟩

theorem letOf_lt (k : Nat) (hk : k < 31) : letOf k < 256 := by unfold letOf; repeat' split <;> try omega
set_option maxHeartbeats 1000000 in
set_option maxRecDepth 100000 in
theorem flagLettersSpec_calls (f : Nat) (hf : f < 4294967296) (w : World) : Calls Tryd.prog 25 #[.int .u32 (f : Int)] w (Ret (.string ⟨(flagsL f).toArray⟩) w) := by
  go_enter Tryd.func25, Tryd.ntmps25
  go_wp2
  go_loopw [3, 4] (fun o i wr => ∃ (b : Nat) (A : Option Addr) (n c : Nat), 65 ≤ b ∧ b ≤ 123 ∧ i = .int .i32 (b : Int) ∧ o = .slice A n c ∧ Mine Ty.byte 5 w wr (.slice A n c) (rowsTo f b)) (fun _ i _ => 123 - (intOf i).toNat)
  case atStart => exact ⟨65, none, 0, 0, by omega, by omega, rfl, rfl, by rw [rowsTo_start]; exact Mine.nil _ _ (Mod.refl _ _)⟩
  case round =>
    obtain ⟨b, A, n, c, h1, h2, rfl, rfl, HO⟩ := hrel
    have HOs := Sec.mk HO
    clear HO
    by_cases hlt : b ≤ 122
    · have hbi : (b : Int) ≤ 122 := by omega
      go_wp2
      go_loopw [3, 5] (fun o i wr => ∃ (k : Nat) (A : Option Addr) (n c : Nat), k ≤ 31 ∧ i = .int .i64 (k : Int) ∧ o = .slice A n c ∧ Sec (Mine Ty.byte 5 w wr (.slice A n c) (rowsTo f b ++ rowTo f b k))) (fun _ i _ => 31 - (intOf i).toNat)
      case atStart => exact ⟨0, A, n, c, by omega, rfl, rfl, ⟨by rw [rowTo_zero, List.append_nil]; exact HOs.out⟩⟩
      case round =>
        obtain ⟨k, A, n, c, hk, rfl, rfl, HO⟩ := hrel
        clear HOs
        by_cases hk31 : k < 31
        · have HS := Sec.mk (rowTo_succ f b k)
          have hll := letOf_lt k hk31
          have hlen1 := rowsTo_len f b
          have hlen2 := rowTo_len f b k
          have hL := l4Letter_calls k hk31
          have HH := Sec.mk (fun w => l4Has_calls f hf k hk31 w)
          generalize hl : letOf k = l at *
          have HLs := Sec.mk hL
          clear hL
          by_cases hbl : l = b
          · have HBL := Sec.mk hbl
            have hbq : ((l : Int) == (b : Int)) = true := by simp [hbl]
            clear hbl hl
            go_wp2_with fail
            refine (HLs.out _).mono ?_
            rintro e w1 ⟨rfl, rfl⟩
            go_wp2_with fail
            refine (HH.out _).mono ?_
            rintro e w1 ⟨rfl, rfl⟩
            generalize ht : f.testBit k = t at *
            have HT := Sec.mk ht
            clear ht
            cases t
            · go_wp2
              go_roundw
              case rel => exact ⟨k + 1, A, n, c, by omega, by go_num, rfl, ⟨by rw [HS.out]; simpa using HO.out⟩⟩
              case measure => simp [intOf]; omega
            · go_wp2_with (at_builtin; refine wpList_app _ rfl (.tmp 24) (.tmp 27) _ rfl Tryd.underlying36 elt_byte flat_byte rfl rfl (HO.out.alloc _) (Row.one _ 5 (UInt8.ofNat b) b (by rw [UInt8.toNat_ofNat']; omega)) (by simp; omega) ?_; intro A6 n6 c6 w6 HO6)
              go_roundw
              case rel => exact ⟨k + 1, A6, n6, c6, by omega, by go_num, rfl, ⟨by rw [HS.out, if_pos ⟨HBL.out, trivial⟩, ← List.append_assoc]; exact HO6⟩⟩
              case measure => simp [intOf]; omega
          · have HBL := Sec.mk hbl
            have hbq : ((l : Int) == (b : Int)) = false := by simp only [beq_eq_false_iff_ne, ne_eq]; omega
            clear hbl hl
            go_wp2_with fail
            refine (HLs.out _).mono ?_
            rintro e w1 ⟨rfl, rfl⟩
            go_wp2
            go_roundw
            case rel => exact ⟨k + 1, A, n, c, by omega, by go_num, rfl, ⟨by rw [HS.out, if_neg (fun h => HBL.out h.1), List.append_nil]; exact HO.out⟩⟩
            case measure => simp [intOf]; omega
        · obtain rfl : k = 31 := by omega
          have HR := Sec.mk (rowsTo_succ f b h1)
          go_wp2
          go_roundw
          case rel => exact ⟨b + 1, A, n, c, by omega, by omega, by go_num, rfl, by rw [HR.out]; exact HO.out⟩
          case measure => simp [intOf]; omega
    · obtain rfl : b = 123 := by omega
      have hE := rowsTo_end f
      rw [hE] at HOs
      have hcv := HOs.out.row.conv (P := Tryd.prog) Tryd.underlying36 Tryd.underlying5 Tryd.underlying9 c
      clear hE
      go_wp2
      go_ret
      exact ⟨rfl, HOs.out.new⟩
end Go.Proofs.YtbkccffpipcjeaaDoor
