/- Drawn parts of a mail's name. -/
import Derived.Test.YtbkccffpipcjeaaDoorDraw
import Derived.Test.YtbkccffpipcjeaaDoorLetS
namespace Go.Proofs.YtbkccffpipcjeaaDoor
open Go.RowKit Mem
set_option linter.unusedVariables false
theorem wrap64_wrap (x : Int) : IntKind.i64.wrap (wrap64 x) = wrap64 x := by rw [IntKind.wrap_i64]; unfold wrap64; omega
set_option maxHeartbeats 1000000 in
set_option maxRecDepth 100000 in
theorem l4Uid_calls {w : World} {g : Nat} {ys : Bytes} (h : Rdr w g ys) : Calls Tryd.prog 42 #[.pointer (some ⟨g, 0, none⟩)] w
    (fun e w' => ∃ (n : Int) (zs : Bytes), e = .returned (.int .u32 n) ∧ 0 ≤ n ∧ n < 4294967296 ∧ Rdr w' g zs ∧ Mod (· = g) w w') := by
  have HN := Sec.mk (next_calls h)
  have hc := nextD_lt ys
  generalize (nextD ys).1 = c at *
  generalize (nextD ys).2 = ys2 at *
  clear h
  by_cases h0 : c % 8 = 0
  · have h0i : (c : Int) % 8 = 0 := by omega
    clear h0
    go_enter Tryd.func42, Tryd.ntmps42
    go_wp2_with fail
    refine HN.out.mono ?_
    rintro e w1 ⟨rfl, hr, hm⟩
    go_wp2
    go_ret
    exact ⟨_, _, rfl, by omega, by omega, hr, hm⟩
  · by_cases h1 : c % 8 = 1
    · have h1i : (c : Int) % 8 = 1 := by omega
      clear h0 h1
      go_enter Tryd.func42, Tryd.ntmps42
      go_wp2_with fail
      refine HN.out.mono ?_
      rintro e w1 ⟨rfl, hr, hm⟩
      go_wp2
      go_ret
      exact ⟨_, _, rfl, by omega, by omega, hr, hm⟩
    · have h0i : ¬ (c : Int) % 8 = 0 := by omega
      have h1i : ¬ (c : Int) % 8 = 1 := by omega
      clear h0 h1
      go_enter Tryd.func42, Tryd.ntmps42
      go_wp2_with fail
      refine HN.out.mono ?_
      rintro e w1 ⟨rfl, hr, hm⟩
      have HN2 := Sec.mk (next_calls hr)
      have HM := Sec.mk hm
      have hc2 := nextD_lt ys2
      generalize (nextD ys2).1 = c2 at *
      generalize (nextD ys2).2 = ys3 at *
      clear hr hm
      go_wp2_with fail
      refine HN2.out.mono ?_
      rintro e w2 ⟨rfl, hr2, hm2⟩
      go_wp2
      go_ret
      exact ⟨_, _, rfl, by omega, by omega, hr2, HM.out.trans hm2 (fun i hi _ => hi)⟩
set_option maxHeartbeats 1000000 in
set_option maxRecDepth 100000 in
theorem l4Stamp_calls {w : World} {g : Nat} {ys : Bytes} (h : Rdr w g ys) : Calls Tryd.prog 43 #[.pointer (some ⟨g, 0, none⟩)] w
    (fun e w' => ∃ (n : Int) (zs : Bytes), e = .returned (.int .i64 n) ∧ IntKind.i64.wrap n = n ∧ Rdr w' g zs ∧ Mod (· = g) w w') := by
  have HN := Sec.mk (next_calls h)
  have hc := nextD_lt ys
  generalize (nextD ys).1 = c at *
  generalize (nextD ys).2 = ys2 at *
  clear h
  by_cases h0 : c % 8 = 0
  · have h0i : (c : Int) % 8 = 0 := by omega
    clear h0
    go_enter Tryd.func43, Tryd.ntmps43
    go_wp2_with fail
    refine HN.out.mono ?_
    rintro e w1 ⟨rfl, hr, hm⟩
    go_wp2
    go_ret
    exact ⟨_, _, rfl, by rw [IntKind.wrap_i64]; omega, hr, hm⟩
  · by_cases h1 : c % 8 = 1
    · have h1i : (c : Int) % 8 = 1 := by omega
      clear h0 h1
      go_enter Tryd.func43, Tryd.ntmps43
      go_wp2_with fail
      refine HN.out.mono ?_
      rintro e w1 ⟨rfl, hr, hm⟩
      go_wp2
      go_ret
      exact ⟨_, _, rfl, by rw [IntKind.wrap_i64]; omega, hr, hm⟩
    · have h0i : ¬ (c : Int) % 8 = 0 := by omega
      have h1i : ¬ (c : Int) % 8 = 1 := by omega
      clear h0 h1
      go_enter Tryd.func43, Tryd.ntmps43
      go_wp2_with fail
      refine HN.out.mono ?_
      rintro e w1 ⟨rfl, hr, hm⟩
      have HN2 := Sec.mk (next_calls hr)
      have HM := Sec.mk hm
      have hc2 := nextD_lt ys2
      generalize (nextD ys2).1 = c2 at *
      generalize (nextD ys2).2 = ys3 at *
      clear hr hm
      go_wp2_with fail
      refine HN2.out.mono ?_
      rintro e w2 ⟨rfl, hr2, hm2⟩
      have HN3 := Sec.mk (next_calls hr2)
      have HM2 := Sec.mk (HM.out.trans hm2 (fun i hi _ => hi))
      have hc3 := nextD_lt ys3
      generalize (nextD ys3).1 = c3 at *
      generalize (nextD ys3).2 = ys4 at *
      have hp0 : (0 : Int) ≤ (c : Int) * (c2 : Int) := Int.mul_nonneg (by omega) (by omega)
      have hp1 : (c : Int) * (c2 : Int) ≤ 65536 := Int.le_trans (Int.mul_le_mul (show (c : Int) ≤ 256 by omega) (show (c2 : Int) ≤ 256 by omega) (by omega) (by omega)) (by decide)
      clear hr2 hm2
      generalize hp : (c : Int) * (c2 : Int) = p at *
      have hq0 : (0 : Int) ≤ p * (c3 : Int) := Int.mul_nonneg (by omega) (by omega)
      have hq1 : p * (c3 : Int) ≤ 16777216 := Int.le_trans (Int.mul_le_mul (show p ≤ 65536 by omega) (show (c3 : Int) ≤ 256 by omega) (by omega) (by omega)) (by decide)
      generalize hq : p * (c3 : Int) = q at *
      go_wp2_with fail
      refine HN3.out.mono ?_
      rintro e w3 ⟨rfl, hr3, hm3⟩
      go_wp2
      go_ret
      exact ⟨_, _, rfl, by rw [IntKind.wrap_i64]; omega, hr3, HM2.out.trans hm3 (fun i hi _ => hi)⟩
set_option maxHeartbeats 1000000 in
set_option maxRecDepth 100000 in
theorem l4Flags_calls {w : World} {g : Nat} {ys : Bytes} (h : Rdr w g ys) : Calls Tryd.prog 44 #[.pointer (some ⟨g, 0, none⟩)] w
    (fun e w' => ∃ (n : Nat) (zs : Bytes), e = .returned (.int .u32 (n : Int)) ∧ n < 2147483648 ∧ Rdr w' g zs ∧ Mod (· = g) w w') := by
  have HN := Sec.mk (next_calls h)
  have hc := nextD_lt ys
  generalize (nextD ys).1 = c at *
  generalize (nextD ys).2 = ys2 at *
  clear h
  by_cases h128 : 128 ≤ c
  · have hi : (128 : Int) ≤ (c : Int) := by omega
    by_cases h255 : c = 255
    · subst h255
      go_enter Tryd.func44, Tryd.ntmps44
      go_wp2_with fail
      refine HN.out.mono ?_
      rintro e w1 ⟨rfl, hr, hm⟩
      go_wp2
      go_ret
      exact ⟨2147483647, _, rfl, by decide, hr, hm⟩
    · have hn : ¬ (c : Int) = 255 := by omega
      have HO := Sec.mk (or_pow (c % 32) (5 + c % 26) (by omega) (by omega))
      have hlt : c % 32 ||| 2 ^ (5 + c % 26) < 2147483648 := Nat.or_lt_two_pow (n := 31) (by omega) (Nat.pow_lt_pow_right (by decide) (by omega))
      have ht : ((5 : Int) + (c : Int) % 26).toNat = 5 + c % 26 := by omega
      have ht0 : (0 : Int) ≤ (5 : Int) + (c : Int) % 26 := by omega
      have hcc : ((c % 32 : Nat) : Int) = (c : Int) % 32 := by omega
      rw [hcc] at HO
      clear hcc
      go_enter Tryd.func44, Tryd.ntmps44
      go_wp2_with fail
      refine HN.out.mono ?_
      rintro e w1 ⟨rfl, hr, hm⟩
      go_wp2
      go_ret
      exact ⟨_, _, by rw [← HO.out]; rfl, hlt, hr, hm⟩
  · have hi : ¬ (128 : Int) ≤ (c : Int) := by omega
    have hn : ¬ (c : Int) = 255 := by omega
    go_enter Tryd.func44, Tryd.ntmps44
    go_wp2_with fail
    refine HN.out.mono ?_
    rintro e w1 ⟨rfl, hr, hm⟩
    go_wp2
    go_ret
    exact ⟨c % 32, _, by first | rfl | (congr 2; omega), by omega, hr, hm⟩
end Go.Proofs.YtbkccffpipcjeaaDoor
