/- The walk of the law FnExactLetterFlags. -/
import Derived.Test.YtciaoedjiggonaaDoorLetI
import Derived.Test.YtciaoedjiggonaaDoorFlagLaid
namespace Go.Proofs.YtciaoedjiggonaaDoor
open Go.RowKit Mem
set_option linter.unusedVariables false
set_option maxHeartbeats 1000000 in
set_option maxRecDepth 100000 in
theorem eqFlags_calls (x y : Bool × Int) (w : World) : Calls Tryd.prog 9 #[FlagsV x, FlagsV y] w (Ret (.bool (decide (x = y))) w) := by
  obtain ⟨b, n⟩ := x
  obtain ⟨b', n'⟩ := y
  unfold FlagsV
  by_cases hn : n = n'
  · have hq : (n != n') = false := by simp [hn]
    have HD : Sec (decide ((b, n) = (b', n')) = (b == b')) := ⟨by cases b <;> cases b' <;> simp [hn]⟩
    rw [HD.out]
    clear hn
    cases b <;> cases b'
    all_goals
      go_enter Tryd.func9, Tryd.ntmps9
      go_wp2
      go_ret
      exact ⟨rfl, ((Mod.refl _ _).alloc _).alloc _⟩
  · have hq : (n != n') = true := by simpa using hn
    have HD : Sec (decide ((b, n) = (b', n')) = false) := ⟨by simp [hn]⟩
    rw [HD.out]
    clear hn
    cases b <;> cases b'
    all_goals
      go_enter Tryd.func9, Tryd.ntmps9
      go_wp2
      go_ret
      exact ⟨rfl, ((Mod.refl _ _).alloc _).alloc _⟩
set_option maxHeartbeats 1000000 in
set_option maxRecDepth 100000 in
theorem lawFnExactLetterFlags_walk {w : World} (hL : LettersAt w ∧ 0 < w.heap.size) (s : ByteArray) (hs : s.size ≤ 140737488351232) :
    Calls Tryd.prog 4 #[.string s] w (Ret (.bool true) w) := by
  obtain ⟨xs, rfl⟩ : ∃ xs : Bytes, s = ⟨xs.toArray⟩ := ⟨s.data.toList, by cases s; simp⟩
  have hsz : (⟨xs.toArray⟩ : ByteArray).size = xs.length := by simp [ByteArray.size]
  have hx : xs.length ≤ 140737488351232 := by omega
  have HL := Sec.mk hL
  clear hL hs hsz
  by_cases hlong : 1048576 < xs.length
  · go_enter Tryd.func4, Tryd.ntmps4
    go_wp2
    go_ret
    exact ⟨by simp, Mod.refl _ _⟩
  have HS := Sec.mk (letterFlagsSpec_calls xs hx w)
  have HI := Sec.mk (fun w' (hm : New w w') => letterFlagsImpl_calls xs hx (HL.out.1.new HL.out.2 hm) (Nat.lt_of_lt_of_le HL.out.2 hm.size))
  generalize LetL xs = r at *
  have HE := Sec.mk (eqFlags_calls r r)
  rw [show decide (r = r) = true by simp] at HE
  obtain ⟨b, n⟩ := r
  unfold FlagsV at HS HI HE
  simp only at HS HI HE
  go_enter Tryd.func4, Tryd.ntmps4
  go_wp2_with fail
  refine HS.out.mono ?_
  rintro e w1 ⟨rfl, hm1⟩
  have HM1 := Sec.mk (hm1.alloc (.cells #[.bool b, .int .u32 n] 26))
  have HBK := Sec.mk (Blk.new w1 26 [.bool b, .int .u32 n])
  clear hm1
  go_wp2_with fail
  refine (HI.out _ HM1.out).mono ?_
  rintro e w2 ⟨rfl, hm2⟩
  have HM2 := Sec.mk ((HM1.out.transN hm2).alloc (.cells #[.bool b, .int .u32 n] 26))
  have HBK2 := Sec.mk ((HBK.out.mod hm2 id).alloc (.cells #[.bool b, .int .u32 n] 26))
  have k0 : (w2.alloc (.cells #[.bool b, .int .u32 n] 26)).cell? ⟨w1.heap.size, 0, none⟩ = some (.bool b) := HBK2.out.cell 0
  have k1 : (w2.alloc (.cells #[.bool b, .int .u32 n] 26)).cell? ⟨w1.heap.size, 1, none⟩ = some (.int .u32 n) := HBK2.out.cell 1
  have hs2 := hm2.size
  clear hm2
  go_wp2_with fail
  refine (HE.out _).mono ?_
  rintro e w3 ⟨rfl, hm3⟩
  have HM3 := Sec.mk (HM2.out.transN hm3)
  clear hm3
  go_wp2
  go_ret
  exact ⟨by simp, HM3.out⟩
end Go.Proofs.YtciaoedjiggonaaDoor
