/- The laws' helpers over Log. -/
import Derived.Test.YtciaoedjiggonaaValB
namespace Go.Proofs.Ytciaoedjiggonaa
open Go.RowKit Mem
set_option linter.unusedVariables false

abbrev LogT := List Bytes × Int
abbrev dLog : Ty LogT := Ty.pair dBSS (Ty.int .i64)
def mkLog1 (k : Nat) (x : LogT) : LogT := (mkBSS1 k x.1, x.2)
def cntLog (x : LogT) : Nat := cntBSS x.1
theorem cntLog_mk (k : Nat) (x : LogT) : cntLog (mkLog1 k x) = cntLog x := cntBSS_mk k x.1
theorem mkLog1_idem (k k' : Nat) (x : LogT) : mkLog1 k' (mkLog1 k x) = mkLog1 k' x := by unfold mkLog1; rw [mkBSS1_idem]
theorem rdLog {w : World} {v : Value} {x : LogT} (h : RdV true dLog w v x) : ∃ v0, v = .agg #[v0, .int .i64 x.2] ∧ RdV false dBSS w v0 x.1 := by
  obtain ⟨cs, rfl, c0, c1, rfl, h0, h1⟩ := h
  obtain ⟨A, c, rfl, h2⟩ := h0
  obtain ⟨rfl, hw⟩ := h1
  exact ⟨_, rfl, ⟨_, rfl, A, c, rfl, h2⟩⟩
theorem cellsLog {w : World} {v : Value} {x : LogT} (h : RdV true dLog w v x) : ∃ A c, v = .agg #[.slice A x.1.length c, .int .i64 x.2] := by
  obtain ⟨v0, rfl, h0⟩ := rdLog h
  obtain ⟨A, c, rfl, _⟩ := h0.slice
  exact ⟨A, c, rfl⟩
theorem owLog {w : World} {F : List Nat} {v : Value} {x : LogT} (h : OwF true dLog w F v x) : ∃ v0 F0, v = .agg #[v0, .int .i64 x.2] ∧ OwF false dBSS w F0 v0 x.1 ∧ (∀ i, i ∈ F0 → i ∈ F) ∧
    ∀ w' F0' y, OwF false dBSS w' F0' v0 y → OwF true dLog w' F0' v (y, x.2) := by
  obtain ⟨cs, rfl, c0, c1, F0, F1, rfl, rfl, hn, h0, h1⟩ := h
  obtain ⟨v0, rfl, ho⟩ := h0
  obtain ⟨rfl, rfl, hw⟩ := h1
  refine ⟨v0, F0, rfl, OwF.of_slice ho, by simp, fun w' F0' y hy => ?_⟩
  obtain ⟨A, c, rfl, ho'⟩ := hy.slice
  exact ⟨_, rfl, [_], [_], F0', [], rfl, by simp, ho'.nd, ⟨_, rfl, ho'⟩, rfl, rfl, hw⟩

set_option maxHeartbeats 1000000 in
set_option maxRecDepth 100000 in
theorem eqLog_v {w : World} {v v' : Value} {x x' : LogT} (h : RdV true dLog w v x) (h' : RdV true dLog w v' x') : Calls Try.prog 22 #[v, v'] w (Ret (.bool (decide (x = x'))) w) := by
  obtain ⟨v0, rfl, h0⟩ := rdLog h
  obtain ⟨v0', rfl, h0'⟩ := rdLog h'
  obtain ⟨x0, x1⟩ := x
  obtain ⟨x0', x1'⟩ := x'
  have HB0 := Sec.mk ((Blk.new w 36 [v0, .int .i64 x1]).alloc (.cells #[v0', .int .i64 x1'] 36))
  have HB1 := Sec.mk (Blk.new (w.alloc (.cells #[v0, .int .i64 x1] 36)) 36 [v0', .int .i64 x1'])
  have H0 := Sec.mk (h0.step (((Mod.refl _ _).alloc (.cells #[v0, .int .i64 x1] 36)).alloc (.cells #[v0', .int .i64 x1'] 36)))
  have H0' := Sec.mk (h0'.step (((Mod.refl _ _).alloc (.cells #[v0, .int .i64 x1] 36)).alloc (.cells #[v0', .int .i64 x1'] 36)))
  clear h h' h0 h0'
  by_cases e0 : x0 = x0'
  rotate_left
  · have HE : Sec (decide ((x0, x1) = (x0', x1')) = false) := ⟨by simp [e0]⟩
    have HE0 : Sec (decide (x0 = x0') = false) := ⟨by simp [e0]⟩
    clear e0
    go_enter Try.func22, Try.ntmps22
    go_wp2_with fail
    refine (eqByteSS_v H0.out H0'.out).mono ?_
    rw [HE0.out]
    rintro e w1 ⟨rfl, hm1⟩
    go_wp2
    go_ret
    exact ⟨by rw [HE.out]; rfl, (((Mod.refl _ _).alloc _).alloc _).transN hm1⟩
  have HE0 : Sec (decide (x0 = x0') = true) := ⟨by simp [e0]⟩
  by_cases e1 : x1 = x1'
  rotate_left
  · have HE : Sec (decide ((x0, x1) = (x0', x1')) = false) := ⟨by simp [e1]⟩
    have hb : (x1 != x1') = true := by simpa using e1
    clear e0 e1
    go_enter Try.func22, Try.ntmps22
    go_wp2_with fail
    refine (eqByteSS_v H0.out H0'.out).mono ?_
    rw [HE0.out]
    rintro e w1 ⟨rfl, hm1⟩
    have c01 : w1.cell? ⟨w.heap.size, 1, none⟩ = some (.int .i64 x1) := (HB0.out.mod hm1 id).cell 1
    have c11 : w1.cell? ⟨w.heap.size + 1, 1, none⟩ = some (.int .i64 x1') := by have := (HB1.out.mod hm1 id).cell 1; rw [show (w.alloc (.cells #[v0, .int .i64 x1] 36)).heap.size = w.heap.size + 1 by simp] at this; exact this
    go_wp2
    go_ret
    exact ⟨by rw [HE.out]; rfl, (((Mod.refl _ _).alloc _).alloc _).transN hm1⟩
  have HE : Sec (decide ((x0, x1) = (x0', x1')) = true) := ⟨by simp [e0, e1]⟩
  have hb : (x1 != x1') = false := by simpa using e1
  clear e0 e1
  go_enter Try.func22, Try.ntmps22
  go_wp2_with fail
  refine (eqByteSS_v H0.out H0'.out).mono ?_
  rw [HE0.out]
  rintro e w1 ⟨rfl, hm1⟩
  have c01 : w1.cell? ⟨w.heap.size, 1, none⟩ = some (.int .i64 x1) := (HB0.out.mod hm1 id).cell 1
  have c11 : w1.cell? ⟨w.heap.size + 1, 1, none⟩ = some (.int .i64 x1') := by have := (HB1.out.mod hm1 id).cell 1; rw [show (w.alloc (.cells #[v0, .int .i64 x1] 36)).heap.size = w.heap.size + 1 by simp] at this; exact this
  go_wp2
  go_ret
  exact ⟨by rw [HE.out]; rfl, (((Mod.refl _ _).alloc _).alloc _).transN hm1⟩

set_option maxHeartbeats 1000000 in
set_option maxRecDepth 100000 in
theorem markLog_f {w : World} {F : List Nat} {v : Value} {x : LogT} (h : OwF true dLog w F v x) (k : Nat) (hk : k + cntLog x ≤ 1152921504606846976) :
    Calls Try.prog 25 #[v, .int .i64 k] w (Marks true dLog w F v (k + cntLog x) (mkLog1 k x)) := by
  obtain ⟨v0, F0, rfl, h0, hF0, hst⟩ := owLog h
  have hlt : ∀ i, i ∈ F0 → i < w.heap.size := by obtain ⟨cs, rfl, hM⟩ := h0; exact dBSS.M_lt hM
  have H0 := Sec.mk (show OwF false dBSS (w.alloc (.cells #[v0, .int .i64 x.2] 36)) F0 v0 x.1 from by obtain ⟨cs, hv, hM⟩ := h0; exact ⟨cs, hv, dBSS.M_mod hM fun i hi => Below.heap_alloc _ _ _ (hlt i hi)⟩)
  have HS := Sec.mk hst
  have HF := Sec.mk hF0
  have HL := Sec.mk hlt
  have HK : Sec (k + cntBSS x.1 ≤ 1152921504606846976) := ⟨hk⟩
  have HC : Sec (cntLog x = cntBSS x.1) := ⟨rfl⟩
  clear h h0 hst hF0 hlt
  go_enter Try.func25, Try.ntmps25
  go_wp2_with fail
  refine (markByteSS_f H0.out k HK.out).mono ?_
  rintro e w1 ⟨rfl, ⟨F1, ho1, hF1⟩, hm1⟩
  go_wp2
  go_ret
  refine ⟨by rw [HC.out]; simp, ⟨F1, HS.out _ _ _ ho1, fun i hi => HF.out i (hF1 i hi)⟩, ?_⟩
  refine ((Mod.refl _ _).alloc _).trans hm1 fun i hi _ => HF.out i hi
set_option maxHeartbeats 1000000 in
set_option maxRecDepth 100000 in
theorem heldLog_v {w : World} {v : Value} {x : LogT} (h : RdV true dLog w v x) (k : Nat) (hx : x = mkLog1 k x) (hk : k + cntLog x ≤ 1152921504606846976) :
    Calls Try.prog 26 #[v, .int .i64 k] w (Ret (.int .i64 ((k + cntLog x : Nat) : Int)) w) := by
  obtain ⟨v0, rfl, h0⟩ := rdLog h
  have H0 := Sec.mk (h0.step ((Mod.refl _ _).alloc (.cells #[v0, .int .i64 x.2] 36)))
  have HK : Sec (k + cntBSS x.1 ≤ 1152921504606846976) := ⟨hk⟩
  have HX : Sec (x.1 = mkBSS1 k x.1) := ⟨congrArg Prod.fst hx⟩
  have HC : Sec (cntLog x = cntBSS x.1) := ⟨rfl⟩
  clear h h0 hx
  go_enter Try.func26, Try.ntmps26
  go_wp2_with fail
  refine (heldByteSS_v H0.out k HX.out HK.out).mono ?_
  rintro e w1 ⟨rfl, hm1⟩
  go_wp2
  go_ret
  exact ⟨by rw [HC.out]; simp, ((Mod.refl _ _).alloc _).transN hm1⟩
theorem markLog_v {w : World} {lo hi : Nat} {v : Value} {x : LogT} (h : OwV true dLog w lo hi v x) (k : Nat) (hk : k + cntLog x ≤ 1152921504606846976) :
    Calls Try.prog 25 #[v, .int .i64 k] w fun e w' => e = .returned (.int .i64 ((k + cntLog x : Nat) : Int)) ∧ OwV true dLog w' lo hi v (mkLog1 k x) ∧ Mod (fun i => lo ≤ i ∧ i < hi) w w' :=
  h.mark fun F hF => markLog_f hF k hk
end Go.Proofs.Ytciaoedjiggonaa
