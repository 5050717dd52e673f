/- The walk of the law FnExactReadFlagList. -/
import Derived.Test.YtbkccffpipcjeaaDoorReadL
import Derived.Test.YtbkccffpipcjeaaDoorEqFlags
import Derived.Test.YtbkccffpipcjeaaDoorListLaid
namespace Go.Proofs.YtbkccffpipcjeaaDoor
open Go.RowKit Mem
set_option linter.unusedVariables false
set_option maxHeartbeats 1000000 in
set_option maxRecDepth 100000 in
theorem lawFnExactReadFlagList_walk {w : World} (hL : Names1 w) (s : ByteArray) (hs : s.size ≤ 140737488351232) :
    Calls Tryd.prog 5 #[.string s] w (Ret (.bool true) w) := by
  obtain ⟨xs, rfl⟩ : ∃ xs : Bytes, s = ⟨xs.toArray⟩ := ⟨s.data.toList, by cases s; simp⟩
  have hsz : (⟨xs.toArray⟩ : ByteArray).size = xs.length := by simp [ByteArray.size]
  have hx : xs.length ≤ 140737488351232 := by omega
  have HL := Sec.mk hL
  clear hL hs hsz
  by_cases hlong : 1048576 < xs.length
  · go_enter Tryd.func5, Tryd.ntmps5
    go_wp2
    go_ret
    exact ⟨by simp, Mod.refl _ _⟩
  have HS := Sec.mk (readListSpec_calls xs (by omega) w)
  have HI := Sec.mk (fun w' (hm : New w w') => readListImpl_calls xs (by omega) (HL.out.new hm))
  generalize ReadListL xs = r at *
  have HE := Sec.mk (eqFlags_calls r r)
  rw [show decide (r = r) = true by simp] at HE
  obtain ⟨b, n⟩ := r
  unfold FlagsV at HS HI HE
  simp only at HS HI HE
  go_enter Tryd.func5, Tryd.ntmps5
  go_wp2_with fail
  refine HS.out.mono ?_
  rintro e w1 ⟨rfl, hm1⟩
  have HM1 := Sec.mk (hm1.alloc (.cells #[.bool b, .int .u32 n] 28))
  have HBK := Sec.mk (Blk.new w1 28 [.bool b, .int .u32 n])
  clear hm1
  go_wp2_with fail
  refine (HI.out _ HM1.out).mono ?_
  rintro e w2 ⟨rfl, hm2⟩
  have HM2 := Sec.mk ((HM1.out.transN hm2).alloc (.cells #[.bool b, .int .u32 n] 28))
  have HBK2 := Sec.mk ((HBK.out.mod hm2 id).alloc (.cells #[.bool b, .int .u32 n] 28))
  have k0 : (w2.alloc (.cells #[.bool b, .int .u32 n] 28)).cell? ⟨w1.heap.size, 0, none⟩ = some (.bool b) := HBK2.out.cell 0
  have k1 : (w2.alloc (.cells #[.bool b, .int .u32 n] 28)).cell? ⟨w1.heap.size, 1, none⟩ = some (.int .u32 n) := HBK2.out.cell 1
  have hs2 := hm2.size
  clear hm2
  go_wp2_with fail
  refine (HE.out _).mono ?_
  rintro e w3 ⟨rfl, hm3⟩
  have HM3 := Sec.mk (HM2.out.transN hm3)
  clear hm3
  go_wp2
  go_ret
  exact ⟨by simp, HM3.out⟩
end Go.Proofs.YtbkccffpipcjeaaDoor
