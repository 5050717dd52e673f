/- The walk of the law FnExactMailName. -/
import Derived.Test.YtbkccffpipcjeaaDoorNameLaid
namespace Go.Proofs.YtbkccffpipcjeaaDoor
open Go.RowKit Mem
set_option maxHeartbeats 1000000 in
set_option maxRecDepth 100000 in
theorem lawFnExactMailName_walk {w : World} (hL : NameMem w) (u : Int) (hu : IntKind.u32.wrap u = u) (stamp : Int) (hs : IntKind.i64.wrap stamp = stamp) (n : Int) (hn : IntKind.u32.wrap n = n) :
    Calls Tryd.prog 4 #[.int .u32 u, .int .i64 stamp, .int .u32 n] w (Ret (.bool true) w) := by
  rw [IntKind.wrap_u32] at hn hu
  obtain ⟨f, rfl⟩ : ∃ f : Nat, n = f := ⟨n.toNat, by omega⟩
  obtain ⟨uid, rfl⟩ : ∃ f : Nat, u = f := ⟨u.toNat, by omega⟩
  have hf : f < 4294967296 := by omega
  have huu : uid < 4294967296 := by omega
  have HL := Sec.mk hL
  have HS := Sec.mk hs
  clear hL hn hu hs
  go_enter Tryd.func4, Tryd.ntmps4
  go_wp2_with fail
  refine (mailNameSpec_calls uid f huu hf stamp w).mono ?_
  rintro e w1 ⟨rfl, hm1⟩
  have HL1 := Sec.mk (HL.out.new hm1)
  have HM1 := Sec.mk hm1
  clear hm1
  go_wp2_with fail
  refine (mailNameImpl_calls uid f huu hf stamp HS.out HL1.out).mono ?_
  rintro e w2 ⟨rfl, hm2⟩
  have HM2 := Sec.mk (HM1.out.transN hm2)
  clear hm2
  generalize MailNameL uid stamp f = r at *
  go_wp2
  go_ret
  exact ⟨by simp, HM2.out⟩
end Go.Proofs.YtbkccffpipcjeaaDoor
