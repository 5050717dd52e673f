/- Both functions of the sum answer crc. -/
import Derived.Test.YtciaoedjiggonaaBytes
import Derived.Test.YtciaoedjiggonaaPureCrc
namespace Go.Proofs.Ytciaoedjiggonaa
open Go.RowKit Mem
set_option linter.unusedVariables false

theorem crc_and {c : Nat} (h : c < 4294967296) : bits .and .u32 (c : Int) 1 = ((c % 2 : Nat) : Int) := by
  have := u32_and_nat c 1 h (by decide)
  rw [nat_mask1] at this
  exact this
theorem crc_xor {c : Nat} (h : c < 4294967296) : bits .xor .u32 ((c : Int) / 2) 3988292384 = (((c / 2) ^^^ 3988292384 : Nat) : Int) := by
  have := u32_xor_nat (c / 2) 3988292384 (by omega) (by decide)
  rw [← this]; simp

set_option maxHeartbeats 400000 in
theorem crcImpl_calls {A : Option Addr} {c : Nat} {xs : Bytes} {B : Nat → Prop} {w : World} (h : Row Ty.byte w B A xs.length xs) :
    Calls Try.prog 86 #[.slice A xs.length c] w fun e w' => e = .returned (.int .u32 (crc xs : Int)) ∧ w' = w := by
  have hl := h.2.1
  have HR := Sec.mk h
  clear h
  go_enter Try.func86, Try.ntmps86
  go_wp2
  go_loop [3, 8] (fun v i => ∃ k : Nat, k ≤ xs.length ∧ i = .int .i64 k ∧ v = .int .u32 (crcRaw (xs.take k))) (fun _ i => xs.length - (intOf i).toNat)
  case atStart => exact ⟨0, by omega, rfl, by simp [crcRaw]⟩
  case round =>
    obtain ⟨k, hk, rfl, rfl⟩ := hrel
    by_cases hlt : k < xs.length
    · obtain ⟨ad, rfl, hx⟩ := HR.out.byte_at (fun i hi => rfl) hlt
      have hr := crcRaw_lt (xs.take k)
      have HN := Sec.mk (crcRaw_snoc (xs.take k) xs[k])
      have hb := xs[k].toNat_lt
      have HX := Sec.mk (u32_xor_nat (crcRaw (xs.take k)) xs[k].toNat hr (by omega))
      have h8 : crcRaw (xs.take k) ^^^ xs[k].toNat < 4294967296 := xor_lt32 hr (by omega)
      generalize crcRaw (xs.take k) = c0 at *
      generalize c0 ^^^ xs[k].toNat = c1 at *
      go_wp2
      go_loop [3, 16] (fun v i => ∃ (j : Nat), j ≤ 8 ∧ i = .int .i64 j ∧ v = .int .u32 (crcIter j c1)) (fun _ i => 8 - (intOf i).toNat)
      case atStart => exact ⟨0, by omega, rfl, by rw [HX.out]; rfl⟩
      case round =>
        obtain ⟨j, hj, rfl, rfl⟩ := hrel
        have hc := crcIter_lt j h8
        have HS : Sec (crcIter (j + 1) c1 = crcBit (crcIter j c1)) := ⟨rfl⟩
        have HE : Sec (crcIter 8 c1 = crcRaw (xs.take k ++ [xs[k]])) := ⟨HN.out.symm⟩
        by_cases hj8 : j < 8
        · generalize crcIter j c1 = g at *
          have h1 := crc_and hc
          have h2 := crc_xor hc
          by_cases ho : g % 2 = 1
          · have h3 : (bits .and .u32 (g : Int) 1 == 1) = true := by rw [h1, ho]; rfl
            clear h1
            go_wp2
            go_round
            case rel => exact ⟨j + 1, by omega, by go_num, by rw [HS.out]; unfold crcBit; rw [if_pos ho]⟩
            case measure => simp [intOf]; omega
          · have h3 : (bits .and .u32 (g : Int) 1 == 1) = false := by rw [h1, show g % 2 = 0 by omega]; rfl
            clear h1 h2
            go_wp2
            go_round
            case rel => exact ⟨j + 1, by omega, by go_num, by rw [HS.out]; unfold crcBit; rw [if_neg ho]; simp⟩
            case measure => simp [intOf]; omega
        · obtain rfl : j = 8 := by omega
          go_wp2
          go_round
          case rel => exact ⟨k + 1, by omega, by go_num, by rw [List.take_succ_eq_append_getElem hlt, HE.out]⟩
          case measure => simp [intOf]; omega
    · have hr := crcRaw_lt xs
      have HX := Sec.mk (u32_xor_nat 4294967295 (crcRaw xs) (by decide) hr)
      go_wp2
      go_ret
      refine ⟨?_, rfl⟩
      rw [List.take_of_length_le (by omega)]
      first | (show Ending.returned _ = _; unfold crc; rw [← HX.out]; rfl) | (show Ending.returned _ = _; unfold crc; rw [← HX.out]; simp)

set_option maxHeartbeats 400000 in
theorem crcSpec_calls {A : Option Addr} {c : Nat} {xs : Bytes} {B : Nat → Prop} {w : World} (h : Row Ty.byte w B A xs.length xs) :
    Calls Try.prog 87 #[.slice A xs.length c] w fun e w' => e = .returned (.int .u32 (crc xs : Int)) ∧ w' = w := by
  have hl := h.2.1
  have HR := Sec.mk h
  clear h
  go_enter Try.func87, Try.ntmps87
  go_wp2
  go_loop [3, 10] (fun v i => ∃ k : Nat, k ≤ xs.length ∧ i = .int .i64 k ∧ v = .int .u32 (crcRaw (xs.take k))) (fun _ i => xs.length - (intOf i).toNat)
  case atStart => exact ⟨0, by omega, rfl, by simp [crcRaw]⟩
  case round =>
    obtain ⟨k, hk, rfl, rfl⟩ := hrel
    by_cases hlt : k < xs.length
    · obtain ⟨ad, rfl, hx⟩ := HR.out.byte_at (fun i hi => rfl) hlt
      have hr := crcRaw_lt (xs.take k)
      have HN := Sec.mk (crcRaw_snoc (xs.take k) xs[k])
      have hb := xs[k].toNat_lt
      generalize crcRaw (xs.take k) = c0 at *
      go_wp2
      go_loop [3, 6] (fun v i => ∃ (j g : Nat), j ≤ 8 ∧ i = .int .i64 j ∧ v = .int .u32 g ∧ g < 4294967296 ∧ Sec (g ^^^ (xs[k].toNat >>> j) = crcIter j (c0 ^^^ xs[k].toNat))) (fun _ i => 8 - (intOf i).toNat)
      case atStart => exact ⟨0, c0, by omega, rfl, rfl, hr, ⟨rfl⟩⟩
      case round =>
        obtain ⟨j, g, hj, rfl, rfl, hg, HG⟩ := hrel
        by_cases hj8 : j < 8
        · have h1 : bits .xor .u32 (g : Int) ((xs[k].toNat : Int) / 2 ^ j) = ((g ^^^ (xs[k].toNat >>> j) : Nat) : Int) := by
            have h2 : xs[k].toNat >>> j < 4294967296 := by
              have : xs[k].toNat >>> j ≤ xs[k].toNat := by rw [Nat.shiftRight_eq_div_pow]; exact Nat.div_le_self _ _
              omega
            rw [← u32_xor_nat g _ hg h2, Nat.shiftRight_eq_div_pow]; simp
          have hgb : g ^^^ (xs[k].toNat >>> j) < 4294967296 := by rw [HG.out]; exact crcIter_lt j (xor_lt32 hr (by omega))
          have h3 := crc_and hgb
          have h4 := crc_xor hg
          have HO := Sec.mk (crc_other g xs[k].toNat j)
          have HS : Sec (crcIter (j + 1) (c0 ^^^ xs[k].toNat) = crcBit (crcIter j (c0 ^^^ xs[k].toNat))) := ⟨rfl⟩
          by_cases ho : (g ^^^ (xs[k].toNat >>> j)) % 2 = 1
          · have h5 : (bits .and .u32 (bits .xor .u32 (g : Int) ((xs[k].toNat : Int) / 2 ^ j)) 1 == 1) = true := by rw [h1, h3, ho]; rfl
            clear h1 h3
            have HO2 := Sec.mk ho
            have hlt4 : (g / 2) ^^^ 3988292384 < 4294967296 := xor_lt32 (by omega) (by decide)
            clear ho
            go_wp2
            go_round
            case rel => exact ⟨j + 1, _, by omega, by go_num, rfl, hlt4, ⟨by rw [HS.out, ← HG.out, HO.out, if_pos HO2.out]⟩⟩
            case measure => simp [intOf]; omega
          · have h5 : (bits .and .u32 (bits .xor .u32 (g : Int) ((xs[k].toNat : Int) / 2 ^ j)) 1 == 1) = false := by rw [h1, h3, show (g ^^^ (xs[k].toNat >>> j)) % 2 = 0 by omega]; rfl
            clear h1 h3 h4
            have HO2 := Sec.mk ho
            clear ho
            go_wp2
            go_round
            case rel => exact ⟨j + 1, g / 2, by omega, by go_num, by simp, by omega, ⟨by rw [HS.out, ← HG.out, HO.out, if_neg HO2.out]⟩⟩
            case measure => simp [intOf]; omega
        · obtain rfl : j = 8 := by omega
          go_wp2
          go_round
          case rel => exact ⟨k + 1, by omega, by go_num, by
            have h9 : xs[k].toNat >>> 8 = 0 := by rw [Nat.shiftRight_eq_div_pow]; omega
            have := HG.out
            rw [h9, Nat.xor_zero] at this
            rw [List.take_succ_eq_append_getElem hlt, HN.out, ← this]⟩
          case measure => simp [intOf]; omega
    · have hr := crcRaw_lt xs
      have HX := Sec.mk (u32_xor_nat 4294967295 (crcRaw xs) (by decide) hr)
      go_wp2
      go_ret
      refine ⟨?_, rfl⟩
      rw [List.take_of_length_le (by omega)]
      first | (show Ending.returned _ = _; unfold crc; rw [← HX.out]; rfl) | (show Ending.returned _ = _; unfold crc; rw [← HX.out]; simp)
end Go.Proofs.Ytciaoedjiggonaa
