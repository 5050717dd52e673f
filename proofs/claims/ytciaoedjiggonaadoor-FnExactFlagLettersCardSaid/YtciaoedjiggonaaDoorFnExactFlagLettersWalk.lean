/- The walk of the law FnExactFlagLetters. -/
import Derived.Test.YtciaoedjiggonaaDoorFlagLaid
namespace Go.Proofs.YtciaoedjiggonaaDoor
open Go.RowKit Mem
set_option maxHeartbeats 1000000 in
set_option maxRecDepth 100000 in
theorem lawFnExactFlagLetters_walk {w : World} (hL : LettersAt w ∧ 0 < w.heap.size) (n : Int) (hn : IntKind.u32.wrap n = n) :
    Calls Tryd.prog 3 #[.int .u32 n] w (Ret (.bool true) w) := by
  rw [IntKind.wrap_u32] at hn
  obtain ⟨f, rfl⟩ : ∃ f : Nat, n = f := ⟨n.toNat, by omega⟩
  have hf : f < 4294967296 := by omega
  have HL := Sec.mk hL
  clear hL hn
  go_enter Tryd.func3, Tryd.ntmps3
  go_wp2_with fail
  refine (flagLettersSpec_calls f hf w).mono ?_
  rintro e w1 ⟨rfl, hm1⟩
  have HL1 := Sec.mk (HL.out.1.new HL.out.2 hm1)
  have hs := hm1.size
  have HM1 := Sec.mk hm1
  clear hm1
  go_wp2_with fail
  refine (flagLettersImpl_calls f hf HL1.out (Nat.lt_of_lt_of_le HL.out.2 hs)).mono ?_
  rintro e w2 ⟨rfl, hm2⟩
  have HM2 := Sec.mk (HM1.out.transN hm2)
  clear hm2
  generalize flagsL f = r at *
  go_wp2
  go_ret
  exact ⟨by simp, HM2.out⟩
end Go.Proofs.YtciaoedjiggonaaDoor
