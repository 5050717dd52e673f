/- The laws' helpers over Content. -/
import Derived.Test.YtinfibggdbakoaaFld
import Derived.Test.YtinfibggdbakoaaVal
import Derived.Test.YtinfibggdbakoaaMarkL
import Derived.Test.YtinfibggdbakoaaReg
import Derived.Test.YtinfibggdbakoaaMarkI
import Derived.Test.YtinfibggdbakoaaProg
import Derived.WalkKit
namespace Go.Proofs.Ytinfibggdbakoaa
open Go.RowKit Mem
set_option linter.unusedVariables false
set_option linter.unusedSimpArgs false
abbrev ContentT := Bool × Bytes
abbrev dContent : Ty ContentT := Ty.pair Ty.bool dBS
set_option synthInstance.maxSize 2000
theorem rdContent {w : World} {v : Value} {x : ContentT} (h : RdV true dContent w v x) : ∃ v1, v = .agg #[.bool x.1, v1] ∧ RdV false dBS w v1 x.2 := by
  obtain ⟨cs, rfl, c0, c1, rfl, h0, h1⟩ := h
  obtain rfl := h0
  obtain ⟨A1, cp1, rfl, g1⟩ := h1
  exact ⟨_, rfl, ⟨_, rfl, A1, cp1, rfl, g1⟩⟩
theorem cellsContent {w : World} {v : Value} {x : ContentT} (h : RdV true dContent w v x) : ∃ A1 q1, v = .agg #[.bool x.1, .slice A1 x.2.length q1] := by
  obtain ⟨v1, rfl, k1⟩ := rdContent h
  obtain ⟨A1, q1, rfl, _⟩ := k1.slice
  exact ⟨A1, q1, rfl⟩
theorem fldContent0 : Fld dContent 0 Ty.bool (fun x => x.1) (fun x y => (y, x.2)) := (Fld.fst (Fld.one rfl))
theorem fldContent1 : Fld dContent 1 dBS (fun x => x.2) (fun x y => (x.1, y)) := (Fld.snd (Fld.one rfl) rfl)
theorem mContent {w : World} {x : ContentT} {F1 : List Nat} {v1 : Value} (o1 : Own Ty.byte 5 w F1 v1 x.2) : dContent.M w (F1) x [.bool x.1, v1] :=
  ⟨_, _, [], _, rfl, rfl, (by simpa using o1.nd), ⟨rfl, rfl⟩, ⟨_, rfl, o1⟩⟩
theorem ofContent {w : World} {lo hi : Nat} {x : ContentT} {v1 : Value} (h : OwI Ty.byte 5 w lo hi v1 x.2) : OwV true dContent w lo hi (.agg #[.bool x.1, v1]) x := by
  obtain ⟨F, ho, hF⟩ := h
  exact ⟨_, _, rfl, mContent ho, hF⟩
set_option maxHeartbeats 1000000 in
set_option maxRecDepth 100000 in
theorem eqContent_v {w : World} {v v' : Value} {x x' : ContentT} (h : RdV true dContent w v x) (h' : RdV true dContent w v' x') : Calls Try.prog 13 #[v, v'] w (Ret (.bool (decide (x = x'))) w) := by
  obtain ⟨v1, rfl, k1⟩ := rdContent h
  obtain ⟨u1, rfl, k1'⟩ := rdContent h'
  obtain ⟨a0, a1⟩ := x
  obtain ⟨b0, b1⟩ := x'
  simp only at k1 k1' ⊢
  have HB0 := Sec.mk ((Blk.new w 39 [.bool a0, v1]).alloc (.cells #[.bool b0, u1] 39))
  have HB1 := Sec.mk (Blk.new (w.alloc (.cells #[.bool a0, v1] 39)) 39 [.bool b0, u1])
  rw [show (w.alloc (.cells #[.bool a0, v1] 39)).heap.size = w.heap.size + 1 by simp] at HB1
  have HM0 := Sec.mk (((Mod.refl (fun _ => False) w).alloc (.cells #[.bool a0, v1] 39)).alloc (.cells #[.bool b0, u1] 39))
  have H1 := Sec.mk (k1.step HM0.out)
  have H1' := Sec.mk (k1'.step HM0.out)
  clear h h' k1 k1'
  by_cases e0 : a0 = b0
  rotate_left
  · have HE : Sec (decide ((a0, a1) = (b0, b1)) = false) := ⟨by simp [e0]⟩
    have hb0 : (a0 == b0) = false := by simpa using e0
    clear e0
    go_enter Try.func13, Try.ntmps13
    go_wp2
    go_ret
    exact ⟨by rw [HE.out]; rfl, HM0.out⟩
  have hb0 : (a0 == b0) = true := by simp [e0]
  have S0 := Sec.mk e0
  clear e0
  by_cases e1 : a1 = b1
  rotate_left
  · have HE : Sec (decide ((a0, a1) = (b0, b1)) = false) := ⟨by simp [e1]⟩
    have E1 : Sec (decide (a1 = b1) = false) := ⟨by simp [e1]⟩
    clear e1
    go_enter Try.func13, Try.ntmps13
    go_wp2_with fail
    refine (eqByteS_v (H1.out) (H1'.out)).mono ?_
    rw [E1.out]
    rintro e w1 ⟨rfl, hm1⟩
    have m1 := Sec.mk hm1
    clear hm1
    go_wp2
    go_ret
    exact ⟨by rw [HE.out]; rfl, HM0.out.transN m1.out⟩
  have E1 : Sec (decide (a1 = b1) = true) := ⟨by simp [e1]⟩
  have S1 := Sec.mk e1
  clear e1
  have HE : Sec (decide ((a0, a1) = (b0, b1)) = true) := ⟨by simp [S0.out, S1.out]⟩
  go_enter Try.func13, Try.ntmps13
  go_wp2_with fail
  refine (eqByteS_v (H1.out) (H1'.out)).mono ?_
  rw [E1.out]
  rintro e w1 ⟨rfl, hm1⟩
  have m1 := Sec.mk hm1
  clear hm1
  go_wp2
  go_ret
  exact ⟨by rw [HE.out]; rfl, HM0.out.transN m1.out⟩
def mkContent1 (k : Nat) (x : ContentT) : ContentT := (x.1, mkBS1 k x.2)
def cntContent (x : ContentT) : Nat := cntBS x.2
theorem cntContent_mk (k : Nat) (x : ContentT) : cntContent (mkContent1 k x) = cntContent x := by simp only [cntContent, mkContent1, cntBS_mk]
theorem mkContent1_idem (k k' : Nat) (x : ContentT) : mkContent1 k' (mkContent1 k x) = mkContent1 k' x := by simp only [mkContent1, cntBS_mk, mkBS1_idem]
set_option maxHeartbeats 1000000 in
set_option maxRecDepth 100000 in
theorem markContent_f {w : World} {F : List Nat} {v : Value} {x : ContentT} (h : OwF true dContent w F v x) (k : Nat) (hk : k + cntContent x ≤ 1152921504606846976) :
    Calls Try.prog 15 #[v, .int .i64 k] w (Marks true dContent w F v (k + cntContent x) (mkContent1 k x)) := by
  obtain ⟨v1, rfl, -⟩ := rdContent h.rd
  have HLT := Sec.mk h.lt
  have HB := Sec.mk (Blk.new w 39 [.bool x.1, v1])
  have HX := Sec.mk (h.mv (w' := w.alloc (.cells #[.bool x.1, v1] 39)) fun i hi => Below.heap_alloc _ _ _ (h.lt i hi))
  have HM : Sec (Mod (· ∈ F) w (w.alloc (.cells #[.bool x.1, v1] 39))) := ⟨(Mod.refl _ _).alloc _⟩
  have HF : Sec (∀ i, i ∈ F → i ∈ F) := ⟨fun _ h => h⟩
  have HCN : Sec (cntContent x = cntBS x.2) := ⟨rfl⟩
  have hcn := HCN.out
  clear h
  go_enter Try.func15, Try.ntmps15
  obtain ⟨G1, ho1, hG1, hst1⟩ := fldContent1.lead1 (vi := v1) rfl HX.out
  have HV1 := Sec.mk ho1
  have HG1 := Sec.mk hG1
  have HT1 := Sec.mk hst1
  clear ho1 hG1 hst1
  go_wp2_with fail
  refine Calls.mono (markByteS_i HV1.out _ k ?_ ?_) ?_
  · first | rfl | omega
  · (try dsimp only at hcn ⊢); omega
  rintro e w1 ⟨rfl, ⟨F1, ho1, hF1⟩, hm1⟩
  obtain ⟨G1', ho, hG1'⟩ := HT1.out w1 _ F1 hm1 ho1 hF1
  have HX1 := Sec.mk ho
  have HF1 := Sec.mk (fun i hi => HF.out i (hG1' i hi))
  have HM1 : Sec (Mod (· ∈ F) w w1) := ⟨HM.out.trans hm1 fun i hi _ => HF.out i (HG1.out i hi)⟩
  have HB1 := Sec.mk (HB.out.mod hm1 (fun h => absurd (HLT.out _ (HF.out _ (HG1.out _ h))) (Nat.lt_irrefl _)))
  clear ho1 hF1 hm1 ho hG1' HT1 HV1 HG1
  obtain ⟨s1, hs1⟩ : ∃ t, t = k + cntBS x.2 := ⟨_, rfl⟩
  try dsimp only at HX1
  rw [← hs1]
  have HS1 := Sec.mk hs1
  clear hs1
  have HFIN : Sec (s1 = k + cntContent x) := ⟨by rw [HCN.out]; have := HS1.out; omega⟩
  have HEQ : Sec ((x.1, mkBS1 k x.2) = mkContent1 k x) := ⟨by have h1 := HS1.out; subst h1; rfl⟩
  try rw [← HFIN.out]
  go_wp2
  go_ret
  exact ⟨by first | rfl | (rw [← HFIN.out]; rfl), ⟨G1', by first | exact HX1.out | (rw [← HEQ.out]; exact HX1.out), HF1.out⟩, HM1.out⟩
theorem markContent_v {w : World} {lo hi : Nat} {v : Value} {x : ContentT} (h : OwV true dContent w lo hi v x) (k : Nat) (hk : k + cntContent x ≤ 1152921504606846976) :
    Calls Try.prog 15 #[v, .int .i64 k] w fun e w' => e = .returned (.int .i64 ((k + cntContent x : Nat) : Int)) ∧ OwV true dContent w' lo hi v (mkContent1 k x) ∧ Mod (fun i => lo ≤ i ∧ i < hi) w w' :=
  h.mark fun F hF => markContent_f hF k hk
set_option maxHeartbeats 1000000 in
set_option maxRecDepth 100000 in
theorem heldContent_v {w : World} {v : Value} {x : ContentT} (h : RdV true dContent w v x) (k : Nat) (hx : x = mkContent1 k x) (hk : k + cntContent x ≤ 1152921504606846976) :
    Calls Try.prog 16 #[v, .int .i64 k] w (Ret (.int .i64 ((k + cntContent x : Nat) : Int)) w) := by
  obtain ⟨v1, rfl, k1⟩ := rdContent h
  have HZ := Sec.mk hx
  have HB := Sec.mk (Blk.new w 39 [.bool x.1, v1])
  have HM : Sec (New w (w.alloc (.cells #[.bool x.1, v1] 39))) := ⟨(Mod.refl _ _).alloc _⟩
  have HK1 := Sec.mk k1
  have HCN : Sec (cntContent x = cntBS x.2) := ⟨rfl⟩
  have hcn := HCN.out
  clear h hx k1
  go_enter Try.func16, Try.ntmps16
  have HRD1 := Sec.mk (HK1.out.step HM.out)
  have z1 : x.2 = mkBS1 k x.2 := by have h := congrArg (fun x : ContentT => x.2) HZ.out; (try simp only [mkContent1] at h); exact h
  have HZ1 := Sec.mk z1
  clear z1
  go_wp2_with fail
  refine Calls.mono (heldByteS_i HRD1.out _ k ?_ HZ1.out ?_) ?_
  · first | rfl | omega
  · (try dsimp only at hcn ⊢); omega
  rintro e w1 ⟨rfl, hm1⟩
  have HM1 := Sec.mk (HM.out.transN hm1)
  have HB1 := Sec.mk (HB.out.mod hm1 id)
  clear hm1
  obtain ⟨s1, hs1⟩ : ∃ t, t = k + cntBS x.2 := ⟨_, rfl⟩
  rw [← hs1]
  have HS1 := Sec.mk hs1
  clear hs1
  have HFIN : Sec (s1 = k + cntContent x) := ⟨by rw [HCN.out]; have := HS1.out; omega⟩
  try rw [← HFIN.out]
  go_wp2
  go_ret
  exact ⟨by first | rfl | (rw [← HFIN.out]; rfl), HM1.out⟩
end Go.Proofs.Ytinfibggdbakoaa
