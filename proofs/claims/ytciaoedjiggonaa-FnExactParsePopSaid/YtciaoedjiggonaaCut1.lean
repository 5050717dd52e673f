/- strings.Cut at one byte, whatever the library's variables hold. -/
import Derived.Test.YtciaoedjiggonaaStr
import Derived.Test.YtciaoedjiggonaaPureSplit
import Derived.Test.YtciaoedjiggonaaShelf
import Derived.BigQuiet
namespace Go.Proofs.Ytciaoedjiggonaa
open Go.RowKit Mem
set_option linter.unusedVariables false
theorem indexByte_cut (b : UInt8) : ∀ xs : Bytes, Lib.indexByte xs b = if (cutL b xs).2.2 then ((cutL b xs).1.length : Int) else -1
  | [] => rfl
  | c :: r => by
    have ih := indexByte_cut b r
    unfold cutL
    by_cases hc : c = b
    · subst hc; simp [Lib.indexByte]
    · have hcb : (c == b) = false := by simpa using hc
      simp only [Lib.indexByte, hcb, if_neg hc, ih, Bool.false_eq_true, if_false]
      cases h : (cutL b r).2.2
      · simp
      · simp only [if_pos, List.length_cons]
        rw [if_neg (by simp)]; omega
set_option maxHeartbeats 1000000 in
set_option maxRecDepth 100000 in
theorem cutIn_calls (xs : Bytes) (hx : xs.length ≤ 34359738368) (b : UInt8) (w : World) : Calls Try.prog 93 #[.string ⟨xs.toArray⟩, .string ⟨#[b]⟩] w (Ret (.tuple #[.string ⟨(cutL b xs).1.toArray⟩, .string ⟨(cutL b xs).2.1.toArray⟩, .bool (cutL b xs).2.2]) w) := by
  have HI := Sec.mk (fun w => Try.stringslite_Index_one ⟨xs.toArray⟩ b w)
  have hsz : (⟨xs.toArray⟩ : ByteArray).size = xs.length := by simp [ByteArray.size]
  have hb1 : (⟨#[b]⟩ : ByteArray).size = 1 := rfl
  have HX := Sec.mk (indexByte_cut b xs)
  cases hq : (cutL b xs).2.2
  · have HN := Sec.mk (cutL_no b xs hq)
    have HX2 : Sec (Lib.indexByte xs b = -1) := ⟨by rw [HX.out, hq]; rfl⟩
    clear HX
    rw [HN.out]
    clear hq HN
    go_enter Try.func93, Try.ntmps93
    go_wp2_with fail
    refine (HI.out _).mono ?_
    rintro e w1 ⟨rfl, rfl⟩
    rw [HX2.out]
    go_wp2
    go_ret3
    exact ⟨rfl, Mod.refl _ _⟩
  · have HX2 : Sec (Lib.indexByte xs b = ((cutL b xs).1.length : Int)) := ⟨by rw [HX.out, hq]; rfl⟩
    have hl := cutL_len b xs hq
    have HP := Sec.mk (cutL_parts b xs hq)
    clear HX hq
    generalize (cutL b xs).1 = x at *
    generalize (cutL b xs).2.1 = y at *
    have e1 := ba_ext xs 0 x.length
    have e2 := ba_ext xs (x.length + 1) xs.length
    rw [List.drop_zero, HP.out.1] at e1
    rw [List.take_length, HP.out.2] at e2
    have hub : ((x.length : Int) + 1) ≤ (xs.length : Int) := by omega
    have hub2 : (x.length : Int) ≤ (xs.length : Int) := by omega
    clear HP hl
    go_enter Try.func93, Try.ntmps93
    go_wp2_with fail
    refine (HI.out _).mono ?_
    rintro e w1 ⟨rfl, rfl⟩
    rw [HX2.out]
    go_wp2
    go_quiet (fail)
    go_wp2
    go_ret3
    exact ⟨rfl, (Mod.refl _ _).drewN _⟩
set_option maxHeartbeats 1000000 in
set_option maxRecDepth 100000 in
theorem cut1_calls (xs : Bytes) (hx : xs.length ≤ 34359738368) (b : UInt8) (w : World) : Calls Try.prog 67 #[.string ⟨xs.toArray⟩, .string ⟨#[b]⟩] w (Ret (.tuple #[.string ⟨(cutL b xs).1.toArray⟩, .string ⟨(cutL b xs).2.1.toArray⟩, .bool (cutL b xs).2.2]) w) := by
  have HC := Sec.mk (cutIn_calls xs hx b w)
  generalize cutL b xs = c at *
  go_enter Try.func67, Try.ntmps67
  go_wp2_with fail
  refine HC.out.mono ?_
  rintro e w1 ⟨rfl, hm⟩
  go_wp2
  go_ret3
  exact ⟨rfl, hm⟩
end Go.Proofs.Ytciaoedjiggonaa
