/- The laws' helpers over Units. -/
import Derived.Test.YtciiejkfppnimaaPk8
import Derived.Test.YtciiejkfppnimaaPk6
import Derived.Test.YtciiejkfppnimaaPk4
import Derived.Test.YtciiejkfppnimaaPk5
import Derived.Test.YtciiejkfppnimaaPk3
import Derived.Test.YtciiejkfppnimaaPk7
import Derived.Test.YtciiejkfppnimaaProg
import Derived.WalkKit
namespace Go.Proofs.Ytciiejkfppnimaa
open Go.RowKit Mem
set_option linter.unusedVariables false
set_option linter.unusedSimpArgs false
abbrev UnitsT := UnitST × Bytes
abbrev dUnits : Ty UnitsT := Ty.pair dUnitS dBS
theorem rdUnits {w : World} {v : Value} {x : UnitsT} (h : RdV true dUnits w v x) : ∃ v0 v1, v = .agg #[v0, v1] ∧ RdV false dUnitS w v0 x.1 ∧ RdV false dBS w v1 x.2 := by
  obtain ⟨cs, rfl, c0, c1, rfl, h0, h1⟩ := h
  obtain ⟨A0, cp0, rfl, g0⟩ := h0
  obtain ⟨A1, cp1, rfl, g1⟩ := h1
  exact ⟨_, _, rfl, ⟨_, rfl, A0, cp0, rfl, g0⟩, ⟨_, rfl, A1, cp1, rfl, g1⟩⟩
theorem cellsUnits {w : World} {v : Value} {x : UnitsT} (h : RdV true dUnits w v x) : ∃ A0 q0 A1 q1, v = .agg #[.slice A0 x.1.length q0, .slice A1 x.2.length q1] := by
  obtain ⟨v0, v1, rfl, k0, k1⟩ := rdUnits h
  obtain ⟨A0, q0, rfl, _⟩ := k0.slice
  obtain ⟨A1, q1, rfl, _⟩ := k1.slice
  exact ⟨A0, q0, A1, q1, rfl⟩
theorem fldUnits0 : Fld dUnits 0 dUnitS (fun x => x.1) (fun x y => (y, x.2)) := (Fld.fst (Fld.one rfl))
theorem fldUnits1 : Fld dUnits 1 dBS (fun x => x.2) (fun x y => (x.1, y)) := (Fld.snd (Fld.one rfl) rfl)
theorem mUnits {w : World} {x : UnitsT} {F0 F1 : List Nat} {v0 v1 : Value} (o0 : Own dUnit 44 w F0 v0 x.1) (o1 : Own Ty.byte 5 w F1 v1 x.2) (hd : ∀ k, k ∈ F0 → k ∉ F1) : dUnits.M w (F0 ++ (F1)) x [v0, v1] := by
  have n1 : (F1).Nodup := by simpa using o1.nd
  have n0' : (F0 ++ (F1)).Nodup := List.nodup_append.2 ⟨o0.nd, n1, fun p hp q hq e => by subst e; exact hd p hp (by simpa using hq)⟩
  exact ⟨_, _, F0, _, rfl, rfl, (List.nodup_append.2 ⟨o0.nd, n1, fun p hp q hq e => by subst e; exact hd p hp (by simpa using hq)⟩), ⟨_, rfl, o0⟩, ⟨_, rfl, o1⟩⟩

set_option maxHeartbeats 1000000 in
set_option maxRecDepth 100000 in
theorem eqUnits_v {w : World} {v v' : Value} {x x' : UnitsT} (h : RdV true dUnits w v x) (h' : RdV true dUnits w v' x') : Calls Try.prog 15 #[v, v'] w (Ret (.bool (decide (x = x'))) w) := by
  obtain ⟨v0, v1, rfl, k0, k1⟩ := rdUnits h
  obtain ⟨u0, u1, rfl, k0', k1'⟩ := rdUnits h'
  obtain ⟨a0, a1⟩ := x
  obtain ⟨b0, b1⟩ := x'
  simp only at k0 k0' k1 k1' ⊢
  have HB0 := Sec.mk ((Blk.new w 35 [v0, v1]).alloc (.cells #[u0, u1] 35))
  have HB1 := Sec.mk (Blk.new (w.alloc (.cells #[v0, v1] 35)) 35 [u0, u1])
  rw [show (w.alloc (.cells #[v0, v1] 35)).heap.size = w.heap.size + 1 by simp] at HB1
  have HM0 := Sec.mk (((Mod.refl (fun _ => False) w).alloc (.cells #[v0, v1] 35)).alloc (.cells #[u0, u1] 35))
  have H0 := Sec.mk (k0.step HM0.out)
  have H0' := Sec.mk (k0'.step HM0.out)
  have H1 := Sec.mk (k1.step HM0.out)
  have H1' := Sec.mk (k1'.step HM0.out)
  clear h h' k0 k0' k1 k1'
  by_cases e0 : a0 = b0
  rotate_left
  · have HE : Sec (decide ((a0, a1) = (b0, b1)) = false) := ⟨by simp [e0]⟩
    have E0 : Sec (decide (a0 = b0) = false) := ⟨by simp [e0]⟩
    clear e0
    go_enter Try.func15, Try.ntmps15
    go_wp2_with fail
    refine (eqUnitS_v (H0.out) (H0'.out)).mono ?_
    rw [E0.out]
    rintro e w0 ⟨rfl, hm0⟩
    have m0 := Sec.mk hm0
    clear hm0
    go_wp2
    go_ret
    exact ⟨by rw [HE.out]; rfl, HM0.out.transN m0.out⟩
  have E0 : Sec (decide (a0 = b0) = true) := ⟨by simp [e0]⟩
  have S0 := Sec.mk e0
  clear e0
  by_cases e1 : a1 = b1
  rotate_left
  · have HE : Sec (decide ((a0, a1) = (b0, b1)) = false) := ⟨by simp [e1]⟩
    have E1 : Sec (decide (a1 = b1) = false) := ⟨by simp [e1]⟩
    clear e1
    go_enter Try.func15, Try.ntmps15
    go_wp2_with fail
    refine (eqUnitS_v (H0.out) (H0'.out)).mono ?_
    rw [E0.out]
    rintro e w0 ⟨rfl, hm0⟩
    have m0 := Sec.mk hm0
    have p0_1 : w0.cell? ⟨w.heap.size, 1, none⟩ = some (v1) := (HB0.out.mod m0.out id).cell 1
    have q0_1 : w0.cell? ⟨w.heap.size + 1, 1, none⟩ = some (u1) := (HB1.out.mod m0.out id).cell 1
    clear hm0
    go_wp2_with fail
    refine (eqByteS_v (H1.out.step m0.out) (H1'.out.step m0.out)).mono ?_
    rw [E1.out]
    rintro e w1 ⟨rfl, hm1⟩
    have m1 := Sec.mk (m0.out.transN hm1)
    clear hm1
    go_wp2
    go_ret
    exact ⟨by rw [HE.out]; rfl, HM0.out.transN m1.out⟩
  have E1 : Sec (decide (a1 = b1) = true) := ⟨by simp [e1]⟩
  have S1 := Sec.mk e1
  clear e1
  have HE : Sec (decide ((a0, a1) = (b0, b1)) = true) := ⟨by simp [S0.out, S1.out]⟩
  go_enter Try.func15, Try.ntmps15
  go_wp2_with fail
  refine (eqUnitS_v (H0.out) (H0'.out)).mono ?_
  rw [E0.out]
  rintro e w0 ⟨rfl, hm0⟩
  have m0 := Sec.mk hm0
  have p0_1 : w0.cell? ⟨w.heap.size, 1, none⟩ = some (v1) := (HB0.out.mod m0.out id).cell 1
  have q0_1 : w0.cell? ⟨w.heap.size + 1, 1, none⟩ = some (u1) := (HB1.out.mod m0.out id).cell 1
  clear hm0
  go_wp2_with fail
  refine (eqByteS_v (H1.out.step m0.out) (H1'.out.step m0.out)).mono ?_
  rw [E1.out]
  rintro e w1 ⟨rfl, hm1⟩
  have m1 := Sec.mk (m0.out.transN hm1)
  clear hm1
  go_wp2
  go_ret
  exact ⟨by rw [HE.out]; rfl, HM0.out.transN m1.out⟩

def mkUnits1 (k : Nat) (x : UnitsT) : UnitsT := (mkUnitS1 k x.1, mkBS1 (k + cntUnitS x.1) x.2)
def cntUnits (x : UnitsT) : Nat := cntUnitS x.1 + cntBS x.2
theorem cntUnits_mk (k : Nat) (x : UnitsT) : cntUnits (mkUnits1 k x) = cntUnits x := by simp only [cntUnits, mkUnits1, cntBS_mk, cntUnitS_mk]
theorem mkUnits1_idem (k k' : Nat) (x : UnitsT) : mkUnits1 k' (mkUnits1 k x) = mkUnits1 k' x := by simp only [mkUnits1, cntBS_mk, cntUnitS_mk, mkBS1_idem, mkUnitS1_idem]

set_option maxHeartbeats 1000000 in
set_option maxRecDepth 100000 in
theorem markUnits_f {w : World} {F : List Nat} {v : Value} {x : UnitsT} (h : OwF true dUnits w F v x) (k : Nat) (hk : k + cntUnits x ≤ 1152921504606846976) :
    Calls Try.prog 18 #[v, .int .i64 k] w (Marks true dUnits w F v (k + cntUnits x) (mkUnits1 k x)) := by
  obtain ⟨v0, v1, rfl, -, -⟩ := rdUnits h.rd
  have HLT := Sec.mk h.lt
  have HB := Sec.mk (Blk.new w 35 [v0, v1])
  have HX := Sec.mk (h.mv (w' := w.alloc (.cells #[v0, v1] 35)) fun i hi => Below.heap_alloc _ _ _ (h.lt i hi))
  have HM : Sec (Mod (· ∈ F) w (w.alloc (.cells #[v0, v1] 35))) := ⟨(Mod.refl _ _).alloc _⟩
  have HF : Sec (∀ i, i ∈ F → i ∈ F) := ⟨fun _ h => h⟩
  have HCN : Sec (cntUnits x = cntUnitS x.1 + cntBS x.2) := ⟨rfl⟩
  have hcn := HCN.out
  clear h
  go_enter Try.func18, Try.ntmps18
  obtain ⟨G0, ho0, hG0, hst0⟩ := fldUnits0.lead1 (vi := v0) rfl HX.out
  have HV0 := Sec.mk ho0
  have HG0 := Sec.mk hG0
  have HT0 := Sec.mk hst0
  clear ho0 hG0 hst0
  go_wp2_with fail
  refine Calls.mono (markUnitS_i HV0.out _ k ?_ ?_) ?_
  · first | rfl | omega
  · (try dsimp only at hcn ⊢); omega
  rintro e w0 ⟨rfl, ⟨F0, ho0, hF0⟩, hm0⟩
  obtain ⟨G0', ho, hG0'⟩ := HT0.out w0 _ F0 hm0 ho0 hF0
  have HX0 := Sec.mk ho
  have HF0 := Sec.mk (fun i hi => HF.out i (hG0' i hi))
  have HM0 : Sec (Mod (· ∈ F) w w0) := ⟨HM.out.trans hm0 fun i hi _ => HF.out i (HG0.out i hi)⟩
  have HB0 := Sec.mk (HB.out.mod hm0 (fun h => absurd (HLT.out _ (HF.out _ (HG0.out _ h))) (Nat.lt_irrefl _)))
  have p0_1 : w0.cell? ⟨w.heap.size, 1, none⟩ = some v1 := HB0.out.cell 1
  clear ho0 hF0 hm0 ho hG0' HT0 HV0 HG0
  obtain ⟨s0, hs0⟩ : ∃ t, t = k + cntUnitS x.1 := ⟨_, rfl⟩
  try dsimp only at HX0
  rw [← hs0]
  have HS0 := Sec.mk hs0
  clear hs0
  obtain ⟨G1, ho1, hG1, hst1⟩ := fldUnits1.lead1 (vi := v1) rfl HX0.out
  have HV1 := Sec.mk ho1
  have HG1 := Sec.mk hG1
  have HT1 := Sec.mk hst1
  clear ho1 hG1 hst1
  go_wp2_with fail
  refine Calls.mono (markByteS_i HV1.out _ s0 ?_ ?_) ?_
  · first | rfl | omega
  · have := HS0.out; (try dsimp only at hcn ⊢); omega
  rintro e w1 ⟨rfl, ⟨F1, ho1, hF1⟩, hm1⟩
  obtain ⟨G1', ho, hG1'⟩ := HT1.out w1 _ F1 hm1 ho1 hF1
  have HX1 := Sec.mk ho
  have HF1 := Sec.mk (fun i hi => HF0.out i (hG1' i hi))
  have HM1 : Sec (Mod (· ∈ F) w w1) := ⟨HM0.out.trans hm1 fun i hi _ => HF0.out i (HG1.out i hi)⟩
  have HB1 := Sec.mk (HB0.out.mod hm1 (fun h => absurd (HLT.out _ (HF0.out _ (HG1.out _ h))) (Nat.lt_irrefl _)))
  clear ho1 hF1 hm1 ho hG1' HT1 HV1 HG1
  obtain ⟨s1, hs1⟩ : ∃ t, t = s0 + cntBS x.2 := ⟨_, rfl⟩
  try dsimp only at HX1
  rw [← hs1]
  have HS1 := Sec.mk hs1
  clear hs1
  have HFIN : Sec (s1 = k + cntUnits x) := ⟨by rw [HCN.out]; have := HS0.out; have := HS1.out; omega⟩
  have HEQ : Sec ((mkUnitS1 k x.1, mkBS1 s0 x.2) = mkUnits1 k x) := ⟨by have h0 := HS0.out; subst h0; have h1 := HS1.out; subst h1; rfl⟩
  try rw [← HFIN.out]
  go_wp2
  go_ret
  exact ⟨by first | rfl | (rw [← HFIN.out]; rfl), ⟨G1', by first | exact HX1.out | (rw [← HEQ.out]; exact HX1.out), HF1.out⟩, HM1.out⟩
theorem markUnits_v {w : World} {lo hi : Nat} {v : Value} {x : UnitsT} (h : OwV true dUnits w lo hi v x) (k : Nat) (hk : k + cntUnits x ≤ 1152921504606846976) :
    Calls Try.prog 18 #[v, .int .i64 k] w fun e w' => e = .returned (.int .i64 ((k + cntUnits x : Nat) : Int)) ∧ OwV true dUnits w' lo hi v (mkUnits1 k x) ∧ Mod (fun i => lo ≤ i ∧ i < hi) w w' :=
  h.mark fun F hF => markUnits_f hF k hk


set_option maxHeartbeats 1000000 in
set_option maxRecDepth 100000 in
theorem heldUnits_v {w : World} {v : Value} {x : UnitsT} (h : RdV true dUnits w v x) (k : Nat) (hx : x = mkUnits1 k x) (hk : k + cntUnits x ≤ 1152921504606846976) :
    Calls Try.prog 19 #[v, .int .i64 k] w (Ret (.int .i64 ((k + cntUnits x : Nat) : Int)) w) := by
  obtain ⟨v0, v1, rfl, k0, k1⟩ := rdUnits h
  have HZ := Sec.mk hx
  have HB := Sec.mk (Blk.new w 35 [v0, v1])
  have HM : Sec (New w (w.alloc (.cells #[v0, v1] 35))) := ⟨(Mod.refl _ _).alloc _⟩
  have HK0 := Sec.mk k0
  have HK1 := Sec.mk k1
  have HCN : Sec (cntUnits x = cntUnitS x.1 + cntBS x.2) := ⟨rfl⟩
  have hcn := HCN.out
  clear h hx k0 k1
  go_enter Try.func19, Try.ntmps19
  have HRD0 := Sec.mk (HK0.out.step HM.out)
  have z0 : x.1 = mkUnitS1 k x.1 := by have h := congrArg (fun x : UnitsT => x.1) HZ.out; (try simp only [mkUnits1] at h); exact h
  have HZ0 := Sec.mk z0
  clear z0
  go_wp2_with fail
  refine Calls.mono (heldUnitS_i HRD0.out _ k ?_ HZ0.out ?_) ?_
  · first | rfl | omega
  · (try dsimp only at hcn ⊢); omega
  rintro e w0 ⟨rfl, hm0⟩
  have HM0 := Sec.mk (HM.out.transN hm0)
  have HB0 := Sec.mk (HB.out.mod hm0 id)
  have p0_1 : w0.cell? ⟨w.heap.size, 1, none⟩ = some v1 := HB0.out.cell 1
  clear hm0
  obtain ⟨s0, hs0⟩ : ∃ t, t = k + cntUnitS x.1 := ⟨_, rfl⟩
  rw [← hs0]
  have HS0 := Sec.mk hs0
  clear hs0
  have HRD1 := Sec.mk (HK1.out.step HM0.out)
  have z1 : x.2 = mkBS1 s0 x.2 := by have h := congrArg (fun x : UnitsT => x.2) HZ.out; have h0 := HS0.out; subst h0; (try simp only [mkUnits1] at h); exact h
  have HZ1 := Sec.mk z1
  clear z1
  go_wp2_with fail
  refine Calls.mono (heldByteS_i HRD1.out _ s0 ?_ HZ1.out ?_) ?_
  · first | rfl | omega
  · have := HS0.out; (try dsimp only at hcn ⊢); omega
  rintro e w1 ⟨rfl, hm1⟩
  have HM1 := Sec.mk (HM0.out.transN hm1)
  have HB1 := Sec.mk (HB0.out.mod hm1 id)
  clear hm1
  obtain ⟨s1, hs1⟩ : ∃ t, t = s0 + cntBS x.2 := ⟨_, rfl⟩
  rw [← hs1]
  have HS1 := Sec.mk hs1
  clear hs1
  have HFIN : Sec (s1 = k + cntUnits x) := ⟨by rw [HCN.out]; have := HS0.out; have := HS1.out; omega⟩
  try rw [← HFIN.out]
  go_wp2
  go_ret
  exact ⟨by first | rfl | (rw [← HFIN.out]; rfl), HM1.out⟩

end Go.Proofs.Ytciiejkfppnimaa
