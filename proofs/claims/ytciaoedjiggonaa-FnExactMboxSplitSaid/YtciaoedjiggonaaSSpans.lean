/- The laws' helpers over Spans. -/
import Derived.Test.YtciaoedjiggonaaSSpan
import Derived.Test.YtciaoedjiggonaaFld
import Derived.Test.YtciaoedjiggonaaVal
import Derived.Test.YtciaoedjiggonaaMarkL
import Derived.Test.YtciaoedjiggonaaReg
import Derived.Test.YtciaoedjiggonaaProg
import Derived.WalkKit
namespace Go.Proofs.Ytciaoedjiggonaa
open Go.RowKit Mem
set_option linter.unusedVariables false
set_option linter.unusedSimpArgs false
abbrev SpansT := Bool × SpanST
abbrev dSpans : Ty SpansT := Ty.pair Ty.bool dSpanS
theorem rdSpans {w : World} {v : Value} {x : SpansT} (h : RdV true dSpans w v x) : ∃ v1, v = .agg #[.bool x.1, v1] ∧ RdV false dSpanS w v1 x.2 := by
  obtain ⟨cs, rfl, c0, c1, rfl, h0, h1⟩ := h
  obtain rfl := h0
  obtain ⟨A1, cp1, rfl, g1⟩ := h1
  exact ⟨_, rfl, ⟨_, rfl, A1, cp1, rfl, g1⟩⟩
theorem cellsSpans {w : World} {v : Value} {x : SpansT} (h : RdV true dSpans w v x) : ∃ A1 q1, v = .agg #[.bool x.1, .slice A1 x.2.length q1] := by
  obtain ⟨v1, rfl, k1⟩ := rdSpans h
  obtain ⟨A1, q1, rfl, _⟩ := k1.slice
  exact ⟨A1, q1, rfl⟩
theorem fldSpans0 : Fld dSpans 0 Ty.bool (fun x => x.1) (fun x y => (y, x.2)) := (Fld.fst (Fld.one rfl))
theorem fldSpans1 : Fld dSpans 1 dSpanS (fun x => x.2) (fun x y => (x.1, y)) := (Fld.snd (Fld.one rfl) rfl)
theorem mSpans {w : World} {x : SpansT} {F1 : List Nat} {v1 : Value} (o1 : Own dSpan 32 w F1 v1 x.2) : dSpans.M w (F1) x [.bool x.1, v1] :=
  ⟨_, _, [], _, rfl, rfl, (by simpa using o1.nd), ⟨rfl, rfl⟩, ⟨_, rfl, o1⟩⟩
theorem ofSpans {w : World} {lo hi : Nat} {x : SpansT} {v1 : Value} (h : OwI dSpan 32 w lo hi v1 x.2) : OwV true dSpans w lo hi (.agg #[.bool x.1, v1]) x := by
  obtain ⟨F, ho, hF⟩ := h
  exact ⟨_, _, rfl, mSpans ho, hF⟩
set_option maxHeartbeats 1000000 in
set_option maxRecDepth 100000 in
theorem eqSpans_v {w : World} {v v' : Value} {x x' : SpansT} (h : RdV true dSpans w v x) (h' : RdV true dSpans w v' x') : Calls Try.prog 28 #[v, v'] w (Ret (.bool (decide (x = x'))) w) := by
  obtain ⟨v1, rfl, k1⟩ := rdSpans h
  obtain ⟨u1, rfl, k1'⟩ := rdSpans h'
  obtain ⟨a0, a1⟩ := x
  obtain ⟨b0, b1⟩ := x'
  simp only at k1 k1' ⊢
  have HB0 := Sec.mk ((Blk.new w 29 [.bool a0, v1]).alloc (.cells #[.bool b0, u1] 29))
  have HB1 := Sec.mk (Blk.new (w.alloc (.cells #[.bool a0, v1] 29)) 29 [.bool b0, u1])
  rw [show (w.alloc (.cells #[.bool a0, v1] 29)).heap.size = w.heap.size + 1 by simp] at HB1
  have HM0 := Sec.mk (((Mod.refl (fun _ => False) w).alloc (.cells #[.bool a0, v1] 29)).alloc (.cells #[.bool b0, u1] 29))
  have H1 := Sec.mk (k1.step HM0.out)
  have H1' := Sec.mk (k1'.step HM0.out)
  clear h h' k1 k1'
  by_cases e0 : a0 = b0
  rotate_left
  · have HE : Sec (decide ((a0, a1) = (b0, b1)) = false) := ⟨by simp [e0]⟩
    have hb0 : (a0 == b0) = false := by simpa using e0
    clear e0
    go_enter Try.func28, Try.ntmps28
    go_wp2
    go_ret
    exact ⟨by rw [HE.out]; rfl, HM0.out⟩
  have hb0 : (a0 == b0) = true := by simp [e0]
  have S0 := Sec.mk e0
  clear e0
  by_cases e1 : a1 = b1
  rotate_left
  · have HE : Sec (decide ((a0, a1) = (b0, b1)) = false) := ⟨by simp [e1]⟩
    have E1 : Sec (decide (a1 = b1) = false) := ⟨by simp [e1]⟩
    clear e1
    go_enter Try.func28, Try.ntmps28
    go_wp2_with fail
    refine (eqSpanS_v (H1.out) (H1'.out)).mono ?_
    rw [E1.out]
    rintro e w1 ⟨rfl, hm1⟩
    have m1 := Sec.mk hm1
    clear hm1
    go_wp2
    go_ret
    exact ⟨by rw [HE.out]; rfl, HM0.out.transN m1.out⟩
  have E1 : Sec (decide (a1 = b1) = true) := ⟨by simp [e1]⟩
  have S1 := Sec.mk e1
  clear e1
  have HE : Sec (decide ((a0, a1) = (b0, b1)) = true) := ⟨by simp [S0.out, S1.out]⟩
  go_enter Try.func28, Try.ntmps28
  go_wp2_with fail
  refine (eqSpanS_v (H1.out) (H1'.out)).mono ?_
  rw [E1.out]
  rintro e w1 ⟨rfl, hm1⟩
  have m1 := Sec.mk hm1
  clear hm1
  go_wp2
  go_ret
  exact ⟨by rw [HE.out]; rfl, HM0.out.transN m1.out⟩
def mkSpans1 (k : Nat) (x : SpansT) : SpansT := (x.1, mkSpanS1 k x.2)
def cntSpans (x : SpansT) : Nat := cntSpanS x.2
theorem cntSpans_mk (k : Nat) (x : SpansT) : cntSpans (mkSpans1 k x) = cntSpans x := by simp only [cntSpans, mkSpans1, cntSpanS_mk]
theorem mkSpans1_idem (k k' : Nat) (x : SpansT) : mkSpans1 k' (mkSpans1 k x) = mkSpans1 k' x := by simp only [mkSpans1, cntSpanS_mk, mkSpanS1_idem]
set_option maxHeartbeats 1000000 in
set_option maxRecDepth 100000 in
theorem markSpans_f {w : World} {F : List Nat} {v : Value} {x : SpansT} (h : OwF true dSpans w F v x) (k : Nat) (hk : k + cntSpans x ≤ 1152921504606846976) :
    Calls Try.prog 29 #[v, .int .i64 k] w (Marks true dSpans w F v (k + cntSpans x) (mkSpans1 k x)) := by
  obtain ⟨v1, rfl, -⟩ := rdSpans h.rd
  have HLT := Sec.mk h.lt
  have HB := Sec.mk (Blk.new w 29 [.bool x.1, v1])
  have HX := Sec.mk (h.mv (w' := w.alloc (.cells #[.bool x.1, v1] 29)) fun i hi => Below.heap_alloc _ _ _ (h.lt i hi))
  have HM : Sec (Mod (· ∈ F) w (w.alloc (.cells #[.bool x.1, v1] 29))) := ⟨(Mod.refl _ _).alloc _⟩
  have HF : Sec (∀ i, i ∈ F → i ∈ F) := ⟨fun _ h => h⟩
  have HCN : Sec (cntSpans x = cntSpanS x.2) := ⟨rfl⟩
  have hcn := HCN.out
  clear h
  go_enter Try.func29, Try.ntmps29
  obtain ⟨G1, ho1, hG1, hst1⟩ := fldSpans1.lead1 (vi := v1) rfl HX.out
  have HV1 := Sec.mk ho1
  have HG1 := Sec.mk hG1
  have HT1 := Sec.mk hst1
  clear ho1 hG1 hst1
  go_wp2_with fail
  refine Calls.mono (markSpanS_i HV1.out _ k ?_ ?_) ?_
  · first | rfl | omega
  · (try dsimp only at hcn ⊢); omega
  rintro e w1 ⟨rfl, ⟨F1, ho1, hF1⟩, hm1⟩
  obtain ⟨G1', ho, hG1'⟩ := HT1.out w1 _ F1 hm1 ho1 hF1
  have HX1 := Sec.mk ho
  have HF1 := Sec.mk (fun i hi => HF.out i (hG1' i hi))
  have HM1 : Sec (Mod (· ∈ F) w w1) := ⟨HM.out.trans hm1 fun i hi _ => HF.out i (HG1.out i hi)⟩
  have HB1 := Sec.mk (HB.out.mod hm1 (fun h => absurd (HLT.out _ (HF.out _ (HG1.out _ h))) (Nat.lt_irrefl _)))
  clear ho1 hF1 hm1 ho hG1' HT1 HV1 HG1
  obtain ⟨s1, hs1⟩ : ∃ t, t = k + cntSpanS x.2 := ⟨_, rfl⟩
  try dsimp only at HX1
  rw [← hs1]
  have HS1 := Sec.mk hs1
  clear hs1
  have HFIN : Sec (s1 = k + cntSpans x) := ⟨by rw [HCN.out]; have := HS1.out; omega⟩
  have HEQ : Sec ((x.1, mkSpanS1 k x.2) = mkSpans1 k x) := ⟨by have h1 := HS1.out; subst h1; rfl⟩
  try rw [← HFIN.out]
  go_wp2
  go_ret
  exact ⟨by first | rfl | (rw [← HFIN.out]; rfl), ⟨G1', by first | exact HX1.out | (rw [← HEQ.out]; exact HX1.out), HF1.out⟩, HM1.out⟩
theorem markSpans_v {w : World} {lo hi : Nat} {v : Value} {x : SpansT} (h : OwV true dSpans w lo hi v x) (k : Nat) (hk : k + cntSpans x ≤ 1152921504606846976) :
    Calls Try.prog 29 #[v, .int .i64 k] w fun e w' => e = .returned (.int .i64 ((k + cntSpans x : Nat) : Int)) ∧ OwV true dSpans w' lo hi v (mkSpans1 k x) ∧ Mod (fun i => lo ≤ i ∧ i < hi) w w' :=
  h.mark fun F hF => markSpans_f hF k hk
set_option maxHeartbeats 1000000 in
set_option maxRecDepth 100000 in
theorem heldSpans_v {w : World} {v : Value} {x : SpansT} (h : RdV true dSpans w v x) (k : Nat) (hx : x = mkSpans1 k x) (hk : k + cntSpans x ≤ 1152921504606846976) :
    Calls Try.prog 30 #[v, .int .i64 k] w (Ret (.int .i64 ((k + cntSpans x : Nat) : Int)) w) := by
  obtain ⟨v1, rfl, k1⟩ := rdSpans h
  have HZ := Sec.mk hx
  have HB := Sec.mk (Blk.new w 29 [.bool x.1, v1])
  have HM : Sec (New w (w.alloc (.cells #[.bool x.1, v1] 29))) := ⟨(Mod.refl _ _).alloc _⟩
  have HK1 := Sec.mk k1
  have HCN : Sec (cntSpans x = cntSpanS x.2) := ⟨rfl⟩
  have hcn := HCN.out
  clear h hx k1
  go_enter Try.func30, Try.ntmps30
  have HRD1 := Sec.mk (HK1.out.step HM.out)
  have z1 : x.2 = mkSpanS1 k x.2 := by have h := congrArg (fun x : SpansT => x.2) HZ.out; (try simp only [mkSpans1] at h); exact h
  have HZ1 := Sec.mk z1
  clear z1
  go_wp2_with fail
  refine Calls.mono (heldSpanS_i HRD1.out _ k ?_ HZ1.out ?_) ?_
  · first | rfl | omega
  · (try dsimp only at hcn ⊢); omega
  rintro e w1 ⟨rfl, hm1⟩
  have HM1 := Sec.mk (HM.out.transN hm1)
  have HB1 := Sec.mk (HB.out.mod hm1 id)
  clear hm1
  obtain ⟨s1, hs1⟩ : ∃ t, t = k + cntSpanS x.2 := ⟨_, rfl⟩
  rw [← hs1]
  have HS1 := Sec.mk hs1
  clear hs1
  have HFIN : Sec (s1 = k + cntSpans x) := ⟨by rw [HCN.out]; have := HS1.out; omega⟩
  try rw [← HFIN.out]
  go_wp2
  go_ret
  exact ⟨by first | rfl | (rw [← HFIN.out]; rfl), HM1.out⟩
end Go.Proofs.Ytciaoedjiggonaa
