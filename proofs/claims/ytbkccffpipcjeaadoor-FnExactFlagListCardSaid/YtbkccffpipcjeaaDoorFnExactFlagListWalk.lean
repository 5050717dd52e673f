/- The walk of the law FnExactFlagList. -/
import Derived.Test.YtbkccffpipcjeaaDoorListLaid
namespace Go.Proofs.YtbkccffpipcjeaaDoor
open Go.RowKit Mem
set_option maxHeartbeats 1000000 in
set_option maxRecDepth 100000 in
theorem lawFnExactFlagList_walk {w : World} (hL : NamesAt w) (n : Int) (hn : IntKind.u32.wrap n = n) :
    Calls Tryd.prog 3 #[.int .u32 n] w (Ret (.bool true) w) := by
  rw [IntKind.wrap_u32] at hn
  obtain ⟨f, rfl⟩ : ∃ f : Nat, n = f := ⟨n.toNat, by omega⟩
  have hf : f < 4294967296 := by omega
  have HL := Sec.mk hL
  clear hL hn
  go_enter Tryd.func3, Tryd.ntmps3
  go_wp2_with fail
  refine (flagListSpec_calls f hf w).mono ?_
  rintro e w1 ⟨rfl, hm1⟩
  have HL1 := Sec.mk (HL.out.new hm1)
  have HM1 := Sec.mk hm1
  clear hm1
  go_wp2_with fail
  refine (flagListImpl_calls f hf HL1.out).mono ?_
  rintro e w2 ⟨rfl, hm2⟩
  have HM2 := Sec.mk (HM1.out.transN hm2)
  clear hm2
  generalize FlagListL f = r at *
  go_wp2
  go_ret
  exact ⟨by simp, HM2.out⟩
end Go.Proofs.YtbkccffpipcjeaaDoor
