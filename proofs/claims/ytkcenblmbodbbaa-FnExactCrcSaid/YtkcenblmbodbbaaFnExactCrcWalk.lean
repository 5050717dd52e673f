/- The walk of the law FnExactCrc. -/
import Derived.Test.YtkcenblmbodbbaaCrc
namespace Go.Proofs.Ytkcenblmbodbbaa
open Go.RowKit Mem
set_option linter.unusedVariables false

set_option maxHeartbeats 400000 in
theorem lawCrc_walk {A : Option Addr} {c : Nat} {xs : Bytes} {w : World} (h : Row Ty.byte w (· < w.heap.size) A xs.length xs) (hc : xs.length ≤ c) :
    Calls Try.prog 4 #[.slice A xs.length c] w (Ret (.bool true) w) := by
  have hl := h.2.1
  have HR := Sec.mk h
  clear h
  by_cases hbig : xs.length ≤ 1048576
  · go_enter Try.func4, Try.ntmps4
    go_wp2_with fail
    refine (toByteS_calls HR.out (fun _ h => h) (by omega)).mono ?_
    rintro e w1 ⟨A1, c1, F1, rfl, ho1, hf1, hm1⟩
    have HO1 := Sec.mk ho1; have HM1 := Sec.mk hm1; clear ho1 hf1 hm1
    go_wp2_with fail
    refine (crcSpec_calls (HO1.out.row rfl)).mono ?_
    rintro e w2 ⟨rfl, rfl⟩
    go_wp2_with fail
    refine (toByteS_calls (HR.out.mod (fun _ h => h) (same_of_new HM1.out)) (fun _ h => Nat.lt_of_lt_of_le h HM1.out.size) (by omega)).mono ?_
    rintro e w3 ⟨A3, c3, F3, rfl, ho3, hf3, hm3⟩
    have HO3 := Sec.mk ho3; have HM3 := Sec.mk (HM1.out.transN hm3); clear ho3 hf3 hm3 HM1 HO1
    go_wp2_with fail
    refine (crcImpl_calls (HO3.out.row rfl)).mono ?_
    rintro e w4 ⟨rfl, rfl⟩
    go_wp2_with fail
    refine (toByteS_calls (HR.out.mod (fun _ h => h) (same_of_new HM3.out)) (fun _ h => Nat.lt_of_lt_of_le h HM3.out.size) (by omega)).mono ?_
    rintro e w5 ⟨A5, c5, F5, rfl, ho5, hf5, hm5⟩
    have HO5 := Sec.mk ho5; have HM5 := Sec.mk (HM3.out.transN hm5); have HO3' := Sec.mk (HO3.out.new hm5); clear ho5 hf5 hm5 HM3 HO3
    go_wp2_with fail
    refine (eqByteS_calls (B := (· < w5.heap.size)) ((HO3'.out.row rfl).mod HO3'.out.lt (fun _ _ => rfl)) ((HO5.out.row rfl).mod HO5.out.lt (fun _ _ => rfl)) (fun _ h => h)).mono ?_
    rintro e w6 ⟨rfl, hm6⟩
    have HM6 := Sec.mk (HM5.out.transN hm6); clear hm6
    go_wp2
    go_ret
    exact ⟨by simp, HM6.out⟩
  · go_enter Try.func4, Try.ntmps4
    go_wp2
    go_ret
    exact ⟨by simp, Mod.refl _ _⟩
end Go.Proofs.Ytkcenblmbodbbaa
