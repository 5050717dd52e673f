/- The walk of the law FnExactReadMailName. -/
import Derived.Test.YtbkccffpipcjeaaDoorMailI
namespace Go.Proofs.YtbkccffpipcjeaaDoor
open Go.RowKit Mem
set_option linter.unusedVariables false
set_option maxHeartbeats 1000000 in
set_option maxRecDepth 100000 in
theorem eqMailed_same (b : Bool) (u s f : Int) (w : World) : Calls Tryd.prog 17 #[.agg #[.bool b, .int .u32 u, .int .i64 s, .int .u32 f], .agg #[.bool b, .int .u32 u, .int .i64 s, .int .u32 f]] w (Ret (.bool true) w) := by
  cases b
  all_goals
    go_enter Tryd.func17, Tryd.ntmps17
    go_wp2
    go_ret
    exact ⟨rfl, ((Mod.refl _ _).alloc _).alloc _⟩
set_option maxHeartbeats 1000000 in
set_option maxRecDepth 100000 in
theorem lawFnExactReadMailName_walk {w : World} (hL : MailMem w) (s : ByteArray) (hs : s.size ≤ 140737488351232) :
    Calls Tryd.prog 6 #[.string s] w (Ret (.bool true) w) := by
  obtain ⟨xs, rfl⟩ : ∃ xs : Bytes, s = ⟨xs.toArray⟩ := ⟨s.data.toList, by cases s; simp⟩
  have hsz : (⟨xs.toArray⟩ : ByteArray).size = xs.length := by simp [ByteArray.size]
  have hx : xs.length ≤ 140737488351232 := by omega
  have HL := Sec.mk hL
  clear hL hs hsz
  by_cases hlong : 1048576 < xs.length
  · go_enter Tryd.func6, Tryd.ntmps6
    go_wp2
    go_ret
    exact ⟨by simp, Mod.refl _ _⟩
  have HS := Sec.mk (readMailSpec_calls xs (by omega) w)
  have HI := Sec.mk (fun w' (hm : New w w') => readMailImpl_calls xs (by omega) (HL.out.new hm))
  generalize RMN xs = r at *
  obtain ⟨b, u, st, n⟩ := r
  have HE := Sec.mk (eqMailed_same b u st n)
  unfold MailedV at HS HI
  simp only at HS HI
  go_enter Tryd.func6, Tryd.ntmps6
  go_wp2_with fail
  refine HS.out.mono ?_
  rintro e w1 ⟨rfl, hm1⟩
  have HM1 := Sec.mk (hm1.alloc (.cells #[.bool b, .int .u32 u, .int .i64 st, .int .u32 n] 33))
  have HBK := Sec.mk (Blk.new w1 33 [.bool b, .int .u32 u, .int .i64 st, .int .u32 n])
  clear hm1
  go_wp2_with fail
  refine (HI.out _ HM1.out).mono ?_
  rintro e w2 ⟨rfl, hm2⟩
  have HM2 := Sec.mk ((HM1.out.transN hm2).alloc (.cells #[.bool b, .int .u32 u, .int .i64 st, .int .u32 n] 33))
  have HBK2 := Sec.mk ((HBK.out.mod hm2 id).alloc (.cells #[.bool b, .int .u32 u, .int .i64 st, .int .u32 n] 33))
  have k0 : (w2.alloc (.cells #[.bool b, .int .u32 u, .int .i64 st, .int .u32 n] 33)).cell? ⟨w1.heap.size, 0, none⟩ = some (.bool b) := HBK2.out.cell 0
  have k1 : (w2.alloc (.cells #[.bool b, .int .u32 u, .int .i64 st, .int .u32 n] 33)).cell? ⟨w1.heap.size, 1, none⟩ = some (.int .u32 u) := HBK2.out.cell 1
  have k2 : (w2.alloc (.cells #[.bool b, .int .u32 u, .int .i64 st, .int .u32 n] 33)).cell? ⟨w1.heap.size, 2, none⟩ = some (.int .i64 st) := HBK2.out.cell 2
  have k3 : (w2.alloc (.cells #[.bool b, .int .u32 u, .int .i64 st, .int .u32 n] 33)).cell? ⟨w1.heap.size, 3, none⟩ = some (.int .u32 n) := HBK2.out.cell 3
  have hs2 := hm2.size
  have hs3 : (w1.alloc (.cells #[.bool b, .int .u32 u, .int .i64 st, .int .u32 n] 33)).heap.size = w1.heap.size + 1 := by simp
  rw [hs3] at hs2
  have hs4 : w1.heap.size < w2.heap.size := by omega
  clear hm2 hs3
  go_wp2_with fail
  refine (HE.out _).mono ?_
  rintro e w3 ⟨rfl, hm3⟩
  have HM3 := Sec.mk (HM2.out.transN hm3)
  clear hm3
  go_wp2
  go_ret
  exact ⟨by simp, HM3.out⟩
end Go.Proofs.YtbkccffpipcjeaaDoor
