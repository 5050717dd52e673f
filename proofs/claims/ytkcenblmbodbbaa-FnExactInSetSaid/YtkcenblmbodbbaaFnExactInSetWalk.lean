/- The walk of the law FnExactInSet. -/
import Derived.Test.YtkcenblmbodbbaaPairI
import Derived.Test.YtkcenblmbodbbaaPairE
import Derived.Test.YtkcenblmbodbbaaOpen
namespace Go.Proofs.Ytkcenblmbodbbaa
open Go.RowKit Mem
set_option linter.unusedVariables false

theorem opens_u32 : Opens Try.prog (Ty.int .u32) 24 := Opens.int Try.underlying24 (by kernel_rfl)
theorem opens_pair : Opens Try.prog tPair 105 :=
  Opens.struct (fs := [_, _]) Try.underlying105 (by kernel_rfl) (OpensF.cons rfl opens_u32 (OpensF.last rfl opens_u32))
theorem opens_pairs : Opens Try.prog (Ty.slice 105 tPair) 29 := Opens.slice Try.underlying29 (by kernel_rfl) opens_pair

set_option maxHeartbeats 800000 in
set_option maxRecDepth 100000 in
theorem lawFnExactInSet_walk {A : Option Addr} {c : Nat} {xs : List (Int × Int)} {w : World} (h : Row tPair w (· < w.heap.size) A xs.length xs) (hc : xs.length ≤ c) (n : Int) (hn : IntKind.u32.wrap n = n) (mx : Int) (hm : IntKind.u32.wrap mx = mx) :
    Calls Try.prog 5 #[.slice A xs.length c, .int .u32 n, .int .u32 mx] w (Ret (.bool true) w) := by
  have hl := h.2.1
  have HR := Sec.mk h
  rw [IntKind.wrap_u32] at hn hm
  have hn0 : 0 ≤ n := by omega
  have hn1 : n < 4294967296 := by omega
  have hm0 : 0 ≤ mx := by omega
  have hm1 : mx < 4294967296 := by omega
  clear h hn hm
  by_cases hbig : xs.length ≤ 1048576
  · have HI := Sec.mk (if_neg (by omega) : (if (1048576 : Int) < (xs.length : Int) then (-1 : Int) else 1048576 - xs.length) = 1048576 - xs.length)
    generalize hr : xs.any (inOne n mx) = r at *
    have HFN := Sec.mk hr
    clear hr
    go_enter Try.func5, Try.ntmps5
    go_wp2_with fail
    refine (szPairS_calls 1048576 (by omega) (by omega) hl).mono ?_
    rintro e w0 ⟨rfl, rfl⟩
    rw [HI.out]
    go_wp2_with fail
    refine (toPairS_calls HR.out (fun _ h => h) (by omega)).mono ?_
    rintro e w1 ⟨A1, c1, F1, rfl, ho1, hf1, hm1'⟩
    have HO1 := Sec.mk ho1; have HM1 := Sec.mk hm1'; clear ho1 hf1 hm1'
    go_wp2_with fail
    refine (inSetSpec_calls (HO1.out.row rfl) HO1.out.lt n mx hn0 hn1 hm0 hm1).mono ?_
    rw [HFN.out]
    rintro e w2 ⟨rfl, hm2⟩
    have HM2 := Sec.mk (HM1.out.transN hm2); clear hm2 HO1 HM1
    go_wp2_with fail
    refine (toPairS_calls (HR.out.mod (fun _ h => h) (same_of_new HM2.out)) (fun _ h => Nat.lt_of_lt_of_le h HM2.out.size) (by omega)).mono ?_
    rintro e w3 ⟨A3, c3, F3, rfl, ho3, hf3, hm3⟩
    have HO3 := Sec.mk ho3; have HM3 := Sec.mk (HM2.out.transN hm3); clear ho3 hf3 hm3 HM2
    go_wp2_with fail
    refine (inSetImpl_calls (HO3.out.row rfl) HO3.out.lt n mx hn0 hn1 hm0 hm1).mono ?_
    rw [HFN.out]
    rintro e w4 ⟨rfl, hm4⟩
    have HM4 := Sec.mk (HM3.out.transN hm4); have HO4 := Sec.mk (HO3.out.new hm4); clear hm4 HM3 HO3
    have hrr : (r != r) = false := by cases r <;> rfl
    go_wp2_with fail
    refine (toPairS_calls (HR.out.mod (fun _ h => h) (same_of_new HM4.out)) (fun _ h => Nat.lt_of_lt_of_le h HM4.out.size) (by omega)).mono ?_
    rintro e w5 ⟨A5, c5, F5, rfl, ho5, hf5, hm5⟩
    have HO5 := Sec.mk ho5; have HM5 := Sec.mk (HM4.out.transN hm5); have HO4b := Sec.mk (HO4.out.new hm5); clear ho5 hf5 hm5 HM4 HO4
    go_wp2_with fail
    refine (eqPairS_calls (B := (· < w5.heap.size)) ((HO4b.out.row rfl).mod HO4b.out.lt (fun _ _ => rfl)) ((HO5.out.row rfl).mod HO5.out.lt (fun _ _ => rfl)) (fun _ h => h)).mono ?_
    rintro e w6 ⟨rfl, hm6⟩
    have HM6 := Sec.mk (HM5.out.transN hm6); clear hm6
    rw [show decide (xs = xs) = true by simp]
    go_wp2
    go_ret
    exact ⟨by simp, HM6.out⟩
  · have HI := Sec.mk (if_pos (by omega) : (if (1048576 : Int) < (xs.length : Int) then (-1 : Int) else 1048576 - xs.length) = -1)
    go_enter Try.func5, Try.ntmps5
    go_wp2_with fail
    refine (szPairS_calls 1048576 (by omega) (by omega) hl).mono ?_
    rintro e w0 ⟨rfl, rfl⟩
    rw [HI.out]
    go_wp2
    go_ret
    exact ⟨by simp, Mod.refl _ _⟩
end Go.Proofs.Ytkcenblmbodbbaa
