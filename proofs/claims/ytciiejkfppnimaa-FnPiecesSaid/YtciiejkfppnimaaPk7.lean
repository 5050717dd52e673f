/- The laws' helpers over Units. More single steps for drawn regions. One unit of a stream, of the specification. -/
import Derived.Test.YtciiejkfppnimaaPk6
import Derived.Test.YtciiejkfppnimaaPk5
import Derived.Test.YtciiejkfppnimaaPk4
import Derived.Test.YtciiejkfppnimaaPk2
import Derived.Test.YtciiejkfppnimaaProg
import Derived.WalkKit
import Derived.Test.YtciiejkfppnimaaPk3
import Derived.Deep.DeepCutAuto
import Derived.Deep.Cut
namespace Go.Proofs.Ytciiejkfppnimaa
open Go.RowKit Mem
set_option linter.unusedVariables false
set_option linter.unusedSimpArgs false
abbrev UnitsT := UnitST × Bytes
abbrev dUnits : Ty UnitsT := Ty.pair dUnitS dBS
theorem rdUnits {w : World} {v : Value} {x : UnitsT} (h : RdV true dUnits w v x) : ∃ v0 v1, v = .agg #[v0, v1] ∧ RdV false dUnitS w v0 x.1 ∧ RdV false dBS w v1 x.2 := by
  obtain ⟨cs, rfl, c0, c1, rfl, h0, h1⟩ := h
  obtain ⟨A0, cp0, rfl, g0⟩ := h0
  obtain ⟨A1, cp1, rfl, g1⟩ := h1
  exact ⟨_, _, rfl, ⟨_, rfl, A0, cp0, rfl, g0⟩, ⟨_, rfl, A1, cp1, rfl, g1⟩⟩
theorem cellsUnits {w : World} {v : Value} {x : UnitsT} (h : RdV true dUnits w v x) : ∃ A0 q0 A1 q1, v = .agg #[.slice A0 x.1.length q0, .slice A1 x.2.length q1] := by
  obtain ⟨v0, v1, rfl, k0, k1⟩ := rdUnits h
  obtain ⟨A0, q0, rfl, _⟩ := k0.slice
  obtain ⟨A1, q1, rfl, _⟩ := k1.slice
  exact ⟨A0, q0, A1, q1, rfl⟩
theorem fldUnits0 : Fld dUnits 0 dUnitS (fun x => x.1) (fun x y => (y, x.2)) := (Fld.fst (Fld.one rfl))
theorem fldUnits1 : Fld dUnits 1 dBS (fun x => x.2) (fun x y => (x.1, y)) := (Fld.snd (Fld.one rfl) rfl)
theorem mUnits {w : World} {x : UnitsT} {F0 F1 : List Nat} {v0 v1 : Value} (o0 : Own dUnit 44 w F0 v0 x.1) (o1 : Own Ty.byte 5 w F1 v1 x.2) (hd : ∀ k, k ∈ F0 → k ∉ F1) : dUnits.M w (F0 ++ (F1)) x [v0, v1] := by
  have n1 : (F1).Nodup := by simpa using o1.nd
  have n0' : (F0 ++ (F1)).Nodup := List.nodup_append.2 ⟨o0.nd, n1, fun p hp q hq e => by subst e; exact hd p hp (by simpa using hq)⟩
  exact ⟨_, _, F0, _, rfl, rfl, (List.nodup_append.2 ⟨o0.nd, n1, fun p hp q hq e => by subst e; exact hd p hp (by simpa using hq)⟩), ⟨_, rfl, o0⟩, ⟨_, rfl, o1⟩⟩

set_option maxHeartbeats 1000000 in
set_option maxRecDepth 100000 in
theorem eqUnits_v {w : World} {v v' : Value} {x x' : UnitsT} (h : RdV true dUnits w v x) (h' : RdV true dUnits w v' x') : Calls Try.prog 15 #[v, v'] w (Ret (.bool (decide (x = x'))) w) := by
  obtain ⟨v0, v1, rfl, k0, k1⟩ := rdUnits h
  obtain ⟨u0, u1, rfl, k0', k1'⟩ := rdUnits h'
  obtain ⟨a0, a1⟩ := x
  obtain ⟨b0, b1⟩ := x'
  simp only at k0 k0' k1 k1' ⊢
  have HB0 := Sec.mk ((Blk.new w 35 [v0, v1]).alloc (.cells #[u0, u1] 35))
  have HB1 := Sec.mk (Blk.new (w.alloc (.cells #[v0, v1] 35)) 35 [u0, u1])
  rw [show (w.alloc (.cells #[v0, v1] 35)).heap.size = w.heap.size + 1 by simp] at HB1
  have HM0 := Sec.mk (((Mod.refl (fun _ => False) w).alloc (.cells #[v0, v1] 35)).alloc (.cells #[u0, u1] 35))
  have H0 := Sec.mk (k0.step HM0.out)
  have H0' := Sec.mk (k0'.step HM0.out)
  have H1 := Sec.mk (k1.step HM0.out)
  have H1' := Sec.mk (k1'.step HM0.out)
  clear h h' k0 k0' k1 k1'
  by_cases e0 : a0 = b0
  rotate_left
  · have HE : Sec (decide ((a0, a1) = (b0, b1)) = false) := ⟨by simp [e0]⟩
    have E0 : Sec (decide (a0 = b0) = false) := ⟨by simp [e0]⟩
    clear e0
    go_enter Try.func15, Try.ntmps15
    go_wp2_with fail
    refine (eqUnitS_v (H0.out) (H0'.out)).mono ?_
    rw [E0.out]
    rintro e w0 ⟨rfl, hm0⟩
    have m0 := Sec.mk hm0
    clear hm0
    go_wp2
    go_ret
    exact ⟨by rw [HE.out]; rfl, HM0.out.transN m0.out⟩
  have E0 : Sec (decide (a0 = b0) = true) := ⟨by simp [e0]⟩
  have S0 := Sec.mk e0
  clear e0
  by_cases e1 : a1 = b1
  rotate_left
  · have HE : Sec (decide ((a0, a1) = (b0, b1)) = false) := ⟨by simp [e1]⟩
    have E1 : Sec (decide (a1 = b1) = false) := ⟨by simp [e1]⟩
    clear e1
    go_enter Try.func15, Try.ntmps15
    go_wp2_with fail
    refine (eqUnitS_v (H0.out) (H0'.out)).mono ?_
    rw [E0.out]
    rintro e w0 ⟨rfl, hm0⟩
    have m0 := Sec.mk hm0
    have p0_1 : w0.cell? ⟨w.heap.size, 1, none⟩ = some (v1) := (HB0.out.mod m0.out id).cell 1
    have q0_1 : w0.cell? ⟨w.heap.size + 1, 1, none⟩ = some (u1) := (HB1.out.mod m0.out id).cell 1
    clear hm0
    go_wp2_with fail
    refine (eqByteS_v (H1.out.step m0.out) (H1'.out.step m0.out)).mono ?_
    rw [E1.out]
    rintro e w1 ⟨rfl, hm1⟩
    have m1 := Sec.mk (m0.out.transN hm1)
    clear hm1
    go_wp2
    go_ret
    exact ⟨by rw [HE.out]; rfl, HM0.out.transN m1.out⟩
  have E1 : Sec (decide (a1 = b1) = true) := ⟨by simp [e1]⟩
  have S1 := Sec.mk e1
  clear e1
  have HE : Sec (decide ((a0, a1) = (b0, b1)) = true) := ⟨by simp [S0.out, S1.out]⟩
  go_enter Try.func15, Try.ntmps15
  go_wp2_with fail
  refine (eqUnitS_v (H0.out) (H0'.out)).mono ?_
  rw [E0.out]
  rintro e w0 ⟨rfl, hm0⟩
  have m0 := Sec.mk hm0
  have p0_1 : w0.cell? ⟨w.heap.size, 1, none⟩ = some (v1) := (HB0.out.mod m0.out id).cell 1
  have q0_1 : w0.cell? ⟨w.heap.size + 1, 1, none⟩ = some (u1) := (HB1.out.mod m0.out id).cell 1
  clear hm0
  go_wp2_with fail
  refine (eqByteS_v (H1.out.step m0.out) (H1'.out.step m0.out)).mono ?_
  rw [E1.out]
  rintro e w1 ⟨rfl, hm1⟩
  have m1 := Sec.mk (m0.out.transN hm1)
  clear hm1
  go_wp2
  go_ret
  exact ⟨by rw [HE.out]; rfl, HM0.out.transN m1.out⟩

def mkUnits1 (k : Nat) (x : UnitsT) : UnitsT := (mkUnitS1 k x.1, mkBS1 (k + cntUnitS x.1) x.2)
def cntUnits (x : UnitsT) : Nat := cntUnitS x.1 + cntBS x.2
theorem cntUnits_mk (k : Nat) (x : UnitsT) : cntUnits (mkUnits1 k x) = cntUnits x := by simp only [cntUnits, mkUnits1, cntBS_mk, cntUnitS_mk]
theorem mkUnits1_idem (k k' : Nat) (x : UnitsT) : mkUnits1 k' (mkUnits1 k x) = mkUnits1 k' x := by simp only [mkUnits1, cntBS_mk, cntUnitS_mk, mkBS1_idem, mkUnitS1_idem]

set_option maxHeartbeats 1000000 in
set_option maxRecDepth 100000 in
theorem markUnits_f {w : World} {F : List Nat} {v : Value} {x : UnitsT} (h : OwF true dUnits w F v x) (k : Nat) (hk : k + cntUnits x ≤ 1152921504606846976) :
    Calls Try.prog 18 #[v, .int .i64 k] w (Marks true dUnits w F v (k + cntUnits x) (mkUnits1 k x)) := by
  obtain ⟨v0, v1, rfl, -, -⟩ := rdUnits h.rd
  have HLT := Sec.mk h.lt
  have HB := Sec.mk (Blk.new w 35 [v0, v1])
  have HX := Sec.mk (h.mv (w' := w.alloc (.cells #[v0, v1] 35)) fun i hi => Below.heap_alloc _ _ _ (h.lt i hi))
  have HM : Sec (Mod (· ∈ F) w (w.alloc (.cells #[v0, v1] 35))) := ⟨(Mod.refl _ _).alloc _⟩
  have HF : Sec (∀ i, i ∈ F → i ∈ F) := ⟨fun _ h => h⟩
  have HCN : Sec (cntUnits x = cntUnitS x.1 + cntBS x.2) := ⟨rfl⟩
  have hcn := HCN.out
  clear h
  go_enter Try.func18, Try.ntmps18
  obtain ⟨G0, ho0, hG0, hst0⟩ := fldUnits0.lead1 (vi := v0) rfl HX.out
  have HV0 := Sec.mk ho0
  have HG0 := Sec.mk hG0
  have HT0 := Sec.mk hst0
  clear ho0 hG0 hst0
  go_wp2_with fail
  refine Calls.mono (markUnitS_i HV0.out _ k ?_ ?_) ?_
  · first | rfl | omega
  · (try dsimp only at hcn ⊢); omega
  rintro e w0 ⟨rfl, ⟨F0, ho0, hF0⟩, hm0⟩
  obtain ⟨G0', ho, hG0'⟩ := HT0.out w0 _ F0 hm0 ho0 hF0
  have HX0 := Sec.mk ho
  have HF0 := Sec.mk (fun i hi => HF.out i (hG0' i hi))
  have HM0 : Sec (Mod (· ∈ F) w w0) := ⟨HM.out.trans hm0 fun i hi _ => HF.out i (HG0.out i hi)⟩
  have HB0 := Sec.mk (HB.out.mod hm0 (fun h => absurd (HLT.out _ (HF.out _ (HG0.out _ h))) (Nat.lt_irrefl _)))
  have p0_1 : w0.cell? ⟨w.heap.size, 1, none⟩ = some v1 := HB0.out.cell 1
  clear ho0 hF0 hm0 ho hG0' HT0 HV0 HG0
  obtain ⟨s0, hs0⟩ : ∃ t, t = k + cntUnitS x.1 := ⟨_, rfl⟩
  try dsimp only at HX0
  rw [← hs0]
  have HS0 := Sec.mk hs0
  clear hs0
  obtain ⟨G1, ho1, hG1, hst1⟩ := fldUnits1.lead1 (vi := v1) rfl HX0.out
  have HV1 := Sec.mk ho1
  have HG1 := Sec.mk hG1
  have HT1 := Sec.mk hst1
  clear ho1 hG1 hst1
  go_wp2_with fail
  refine Calls.mono (markByteS_i HV1.out _ s0 ?_ ?_) ?_
  · first | rfl | omega
  · have := HS0.out; (try dsimp only at hcn ⊢); omega
  rintro e w1 ⟨rfl, ⟨F1, ho1, hF1⟩, hm1⟩
  obtain ⟨G1', ho, hG1'⟩ := HT1.out w1 _ F1 hm1 ho1 hF1
  have HX1 := Sec.mk ho
  have HF1 := Sec.mk (fun i hi => HF0.out i (hG1' i hi))
  have HM1 : Sec (Mod (· ∈ F) w w1) := ⟨HM0.out.trans hm1 fun i hi _ => HF0.out i (HG1.out i hi)⟩
  have HB1 := Sec.mk (HB0.out.mod hm1 (fun h => absurd (HLT.out _ (HF0.out _ (HG1.out _ h))) (Nat.lt_irrefl _)))
  clear ho1 hF1 hm1 ho hG1' HT1 HV1 HG1
  obtain ⟨s1, hs1⟩ : ∃ t, t = s0 + cntBS x.2 := ⟨_, rfl⟩
  try dsimp only at HX1
  rw [← hs1]
  have HS1 := Sec.mk hs1
  clear hs1
  have HFIN : Sec (s1 = k + cntUnits x) := ⟨by rw [HCN.out]; have := HS0.out; have := HS1.out; omega⟩
  have HEQ : Sec ((mkUnitS1 k x.1, mkBS1 s0 x.2) = mkUnits1 k x) := ⟨by have h0 := HS0.out; subst h0; have h1 := HS1.out; subst h1; rfl⟩
  try rw [← HFIN.out]
  go_wp2
  go_ret
  exact ⟨by first | rfl | (rw [← HFIN.out]; rfl), ⟨G1', by first | exact HX1.out | (rw [← HEQ.out]; exact HX1.out), HF1.out⟩, HM1.out⟩
theorem markUnits_v {w : World} {lo hi : Nat} {v : Value} {x : UnitsT} (h : OwV true dUnits w lo hi v x) (k : Nat) (hk : k + cntUnits x ≤ 1152921504606846976) :
    Calls Try.prog 18 #[v, .int .i64 k] w fun e w' => e = .returned (.int .i64 ((k + cntUnits x : Nat) : Int)) ∧ OwV true dUnits w' lo hi v (mkUnits1 k x) ∧ Mod (fun i => lo ≤ i ∧ i < hi) w w' :=
  h.mark fun F hF => markUnits_f hF k hk


set_option maxHeartbeats 1000000 in
set_option maxRecDepth 100000 in
theorem heldUnits_v {w : World} {v : Value} {x : UnitsT} (h : RdV true dUnits w v x) (k : Nat) (hx : x = mkUnits1 k x) (hk : k + cntUnits x ≤ 1152921504606846976) :
    Calls Try.prog 19 #[v, .int .i64 k] w (Ret (.int .i64 ((k + cntUnits x : Nat) : Int)) w) := by
  obtain ⟨v0, v1, rfl, k0, k1⟩ := rdUnits h
  have HZ := Sec.mk hx
  have HB := Sec.mk (Blk.new w 35 [v0, v1])
  have HM : Sec (New w (w.alloc (.cells #[v0, v1] 35))) := ⟨(Mod.refl _ _).alloc _⟩
  have HK0 := Sec.mk k0
  have HK1 := Sec.mk k1
  have HCN : Sec (cntUnits x = cntUnitS x.1 + cntBS x.2) := ⟨rfl⟩
  have hcn := HCN.out
  clear h hx k0 k1
  go_enter Try.func19, Try.ntmps19
  have HRD0 := Sec.mk (HK0.out.step HM.out)
  have z0 : x.1 = mkUnitS1 k x.1 := by have h := congrArg (fun x : UnitsT => x.1) HZ.out; (try simp only [mkUnits1] at h); exact h
  have HZ0 := Sec.mk z0
  clear z0
  go_wp2_with fail
  refine Calls.mono (heldUnitS_i HRD0.out _ k ?_ HZ0.out ?_) ?_
  · first | rfl | omega
  · (try dsimp only at hcn ⊢); omega
  rintro e w0 ⟨rfl, hm0⟩
  have HM0 := Sec.mk (HM.out.transN hm0)
  have HB0 := Sec.mk (HB.out.mod hm0 id)
  have p0_1 : w0.cell? ⟨w.heap.size, 1, none⟩ = some v1 := HB0.out.cell 1
  clear hm0
  obtain ⟨s0, hs0⟩ : ∃ t, t = k + cntUnitS x.1 := ⟨_, rfl⟩
  rw [← hs0]
  have HS0 := Sec.mk hs0
  clear hs0
  have HRD1 := Sec.mk (HK1.out.step HM0.out)
  have z1 : x.2 = mkBS1 s0 x.2 := by have h := congrArg (fun x : UnitsT => x.2) HZ.out; have h0 := HS0.out; subst h0; (try simp only [mkUnits1] at h); exact h
  have HZ1 := Sec.mk z1
  clear z1
  go_wp2_with fail
  refine Calls.mono (heldByteS_i HRD1.out _ s0 ?_ HZ1.out ?_) ?_
  · first | rfl | omega
  · have := HS0.out; (try dsimp only at hcn ⊢); omega
  rintro e w1 ⟨rfl, hm1⟩
  have HM1 := Sec.mk (HM0.out.transN hm1)
  have HB1 := Sec.mk (HB0.out.mod hm1 id)
  clear hm1
  obtain ⟨s1, hs1⟩ : ∃ t, t = s0 + cntBS x.2 := ⟨_, rfl⟩
  rw [← hs1]
  have HS1 := Sec.mk hs1
  clear hs1
  have HFIN : Sec (s1 = k + cntUnits x) := ⟨by rw [HCN.out]; have := HS0.out; have := HS1.out; omega⟩
  try rw [← HFIN.out]
  go_wp2
  go_ret
  exact ⟨by first | rfl | (rw [← HFIN.out]; rfl), HM1.out⟩

end Go.Proofs.Ytciiejkfppnimaa

namespace Go.Proofs.Ytciiejkfppnimaa.Mem
open Go.RowKit
set_option linter.unusedVariables false
section
variable {P : Program} {o : Oper} {a : Act} {w : World} {v : Value}
theorem exec_assign {x : Operand} (ho : o.op = .assign x) (h : a.eval x = v) : (execOp a.eval o).run P w = .ok (.value v) w := by
  unfold execOp; simp only [ho, h, Sem.run_pure]
theorem exec_nil {x : Operand} {ad : Addr} (ho : o.op = .nilCheck x) (hx : a.eval x = .pointer (some ad)) : (execOp a.eval o).run P w = .ok (.value (.pointer (some ad))) w := by
  unfold execOp; simp only [ho, hx, Sem.run_pure]
theorem exec_build {t : TypeId} {parts : List (Nat × Operand)} (ho : o.op = .build t parts.toArray) {vs : List (Nat × Value)} (hx : parts.map (fun (i, x) => (i, a.eval x)) = vs) (h : (Instr.build t vs.toArray).run P w = .ok v w) : (execOp a.eval o).run P w = .ok (.value v) w := by
  unfold execOp; simp only [ho, List.map_toArray, hx, Sem.run_bind, h, Result.andThen_ok, Sem.run_pure]
end
end Go.Proofs.Ytciiejkfppnimaa.Mem

namespace Go.Proofs.Ytciiejkfppnimaa
open Go.RowKit Mem
set_option linter.unusedVariables false
set_option linter.unusedSimpArgs false
theorem l1BytesC_calls {A : Option Addr} {n c : Nat} {xs : Bytes} {B : Nat → Prop} {w : World} (h : Row Ty.byte w B A n xs) (hB : ∀ k, B k → k < w.heap.size) (hl : xs.length ≤ 1048576) : Calls Try.prog 31 #[.slice A n c] w (RetOwn Ty.byte 5 w xs) := by
  obtain rfl := h.1
  have HR := Sec.mk h
  have HB := Sec.mk hB
  clear h hB
  go_enter Try.func31, Try.ntmps31
  go_wp2_with (first
    | (refine wpList_mk _ rfl (.tmp 5) _ rfl Ty.byte 5 Try.underlying22 elt_byte 0 (fun _ => ⟨rfl, rfl⟩) xs.length rfl (by omega) ?_; intro w1 ho1; have HO1 := Sec.mk ho1; clear ho1)
    | (refine wpList_copyAll _ rfl (.tmp 7) (.tmp 8) _ _ rfl Try.underlying22 elt_byte rfl flat_byte rfl rfl HO1.out (HO1.out.read HR.out HB.out) ?_; intro w2 ho2; have HO2 := Sec.mk ho2; clear ho2))
  go_wp2
  go_ret
  exact HO2.out.ret
theorem results_blk2 {P : Program} {fn : Func} {a b : Tmp} {t e : TypeId} {fs : Array Field} (h : fn.results = #[.cell a t, .tmp b]) {tmps : Array Value} {w : World} {g : Nat} {cs : List Value} {v : Value} (ht : tmps.getD a undef = .pointer (some ⟨g, 0, none⟩)) (hv : tmps.getD b undef = v) (hb : Blk w g e cs)
    (hu : P.underlying t = some (.struct fs)) (hi : (P.info? t).map (·.size) = some cs.length) : (results fn tmps).run P w = .ok (.tuple #[.agg cs.toArray, v]) w := by
  have := run_loadVar_row (P := P) w g e t cs.toArray (0, 0) _ hb hu rfl (by rw [hi]; simp)
  rw [Array.getD_eq_getD_getElem?] at ht hv
  simp [results, h, ht, hv, asAddr, this]
def set4 (w : World) (g : Nat) (a0 a1 a2 a3 : Value) : World := (((w.setCell ⟨g, 0, none⟩ a0).setCell ⟨g, 1, none⟩ a1).setCell ⟨g, 2, none⟩ a2).setCell ⟨g, 3, none⟩ a3
theorem set4_blk {w : World} {g : Nat} {t : TypeId} {b0 b1 b2 b3 : Value} (h : Blk w g t [b0, b1, b2, b3]) (a0 a1 a2 a3 : Value) : Blk (set4 w g a0 a1 a2 a3) g t [a0, a1, a2, a3] := by
  have := (((h.set_ 0 a0).set_ 1 a1).set_ 2 a2).set_ 3 a3
  simp only [List.set_cons_zero, List.set_cons_succ] at this
  exact this
theorem set4_mod (w : World) (g : Nat) (a0 a1 a2 a3 : Value) : Mod (fun k => k = g) w (set4 w g a0 a1 a2 a3) :=
  ((((Mod.refl (fun k => k = g) w).setCell (p := ⟨g, 0, none⟩) (fun _ => rfl) a0).setCell (p := ⟨g, 1, none⟩) (fun _ => rfl) a1).setCell (p := ⟨g, 2, none⟩) (fun _ => rfl) a2).setCell (p := ⟨g, 3, none⟩) (fun _ => rfl) a3
def RetU (w : World) (r : UnitT × Nat) (e : Ending) (w' : World) : Prop := ∃ v, e = .returned (.tuple #[v, .int .i64 (r.2 : Int)]) ∧ OwV true dUnit w' w.heap.size w'.heap.size v r.1 ∧ New w w'
theorem unitOwn {w : World} {lo hi : Nat} {F0 F1 : List Nat} {v0 v1 : Value} {x : UnitT} (o0 : OwX w F0 v0 x.1) (o1 : OwX w F1 v1 x.2.1) (hd : ∀ k, k ∈ F0 → k ∉ F1) (hF : ∀ k, k ∈ F0 ++ F1 → lo ≤ k ∧ k < hi) : OwV true dUnit w lo hi (.agg #[v0, v1, .bool x.2.2.1, .bool x.2.2.2]) x :=
  ⟨_, _, rfl, mUnit o0 o1 hd, fun k hk => hF k (by simpa using hk)⟩
theorem slTo (A : Option Addr) (n c m : Nat) (hm : m ≤ c) (w : World) : (Instr.sliceAt 22 (.slice A n c) none (some (.int .i64 (m : Int))) none).run Try.prog w = .ok (.slice A m c) w := slice_to Try.underlying22 hm (by kernel_rfl)
theorem slLH (ad : Addr) (n c l h : Nat) (hl : 0 < l) (hlh : l ≤ h) (hh : h < c) (w : World) : (Instr.sliceAt 22 (.slice (some ad) n c) (some (.int .i64 (l : Int))) (some (.int .i64 (h : Int))) none).run Try.prog w = .ok (.slice (some ⟨ad.block, ad.off + l, none⟩) (h - l) (c - l)) w := by
  have h0 : (0 : Int) ≤ (l : Int) := by omega
  have h1 : (l : Int) ≤ (h : Int) := by omega
  have h2 : (h : Int) ≤ (c : Int) := by omega
  have h3 : c ≠ l := by omega
  have h4 : l ≠ 0 := by omega
  go_simp
  simp [Addr.add, h4]
theorem bldUnit (A0 A1 : Option Addr) (n0 c0 n1 c1 : Nat) (w : World) : (Instr.build 44 #[(0, .slice A0 n0 c0), (1, .slice A1 n1 c1), (2, .bool true)]).run Try.prog w = .ok (.agg #[.slice A0 n0 c0, .slice A1 n1 c1, .bool true, .bool false]) w := by go_simp
theorem stUnit {w : World} {g : Nat} {a0 a1 a2 a3 : Value} (h : Blk w g 44 [a0, a1, a2, a3]) (A0 A1 : Option Addr) (n0 c0 n1 c1 : Nat) (x y : Bool) :
    (Instr.storeAt 44 (.pointer (some ⟨g, 0, none⟩)) (.agg #[.slice A0 n0 c0, .slice A1 n1 c1, .bool x, .bool y])).run Try.prog w = .ok () (set4 w g (.slice A0 n0 c0) (.slice A1 n1 c1) (.bool x) (.bool y)) := by
  have q0 : w.cell? ⟨g, 0, none⟩ = some a0 := h.cell 0
  have q1 : w.cell? ⟨g, 1, none⟩ = some a1 := h.cell 1
  have q2 : w.cell? ⟨g, 2, none⟩ = some a2 := h.cell 2
  have q3 : w.cell? ⟨g, 3, none⟩ = some a3 := h.cell 3
  have f0 := h.frozen 0
  have f1 := h.frozen 1
  have f2 := h.frozen 2
  have f3 := h.frozen 3
  have hlt := h.lt
  unfold set4
  go_simp
theorem addIIC {a b : Int} (hw : IntKind.i64.wrap (a + b) = a + b) (x y : Operand) (w : World) : (do eqGuard .add 3 x y (.int .i64 a) (.int .i64 b); binOp .add 3 (.int .i64 a) (.int .i64 b) : Sem Value).run Try.prog w = .ok (.int .i64 (a + b)) w := by go_simp
theorem litL_lt {line : Bytes} {p n : Nat} (h : litL line = some (p, n)) : p < line.length ∧ n < 1000000000 := by
  unfold litL at h
  split at h
  · cases h
  · rename_i q hq
    split at h
    · rename_i hc
      injection h with h
      injection h with h1 h2
      subst h1 h2
      exact ⟨(lastI_lt line _ _ hq).1, ((dec9_num (wordL line q)).2 hc.2).2⟩
    · cases h
set_option maxHeartbeats 4000000 in
set_option maxRecDepth 100000 in
theorem l6One_v {A : Option Addr} {c : Nat} {b : Bytes} {B : Nat → Prop} {w : World} (lit : Bool) (h : Row Ty.byte w B A b.length b) (hB : ∀ k, B k → k < w.heap.size) (hl : b.length ≤ 1048576) (hc : b.length ≤ c) (hcm : c ≤ 9223372036854775807) : Calls Try.prog 30 #[.bool lit, .slice A b.length c] w (RetU w (oneC lit b)) := by
  have HR := Sec.mk h
  have HB := Sec.mk hB
  clear h hB
  have HBRwz := Sec.mk (Blk.new w 44 [.slice none 0 0, .slice none 0 0, .bool false, .bool false])
  have HMwz : Sec (New w (w.alloc (.cells #[.slice none 0 0, .slice none 0 0, .bool false, .bool false] 44))) := ⟨(Mod.refl _ _).alloc _⟩
  rcases endI_spec b with ⟨he, hno⟩ | ⟨e, he, hel, hea, hno⟩
  · have HE : Sec (oneC lit b = (noU, 0)) := ⟨by unfold oneC; rw [he]; rfl⟩
    have hei : endI b < 0 := by omega
    clear hno
    go_enter Try.func30, Try.ntmps30
    go_upto_region 1 with (fail)
    generalize (w.alloc (.cells #[.slice none 0 0, .slice none 0 0, .bool false, .bool false] 44)) = wz at *
    go_wp2_with fail
    refine (l6End_calls (HR.out.mod (w' := wz) (fun _ h => h) (fun k hk => HMwz.out.block k (HB.out k hk) id)) hl).mono ?_
    rintro e2 w2 ⟨rfl, hw2⟩
    obtain rfl : wz = w2 := hw2.symm
    clear he
    generalize endI b = ei at *
    have rc0 : wz.cell? ⟨w.heap.size, 0, none⟩ = some (.slice none 0 0) := HBRwz.out.cell 0
    have rf0 : wz.frozen? ⟨w.heap.size, 0, none⟩ = false := HBRwz.out.frozen 0
    have rc1 : wz.cell? ⟨w.heap.size, 1, none⟩ = some (.slice none 0 0) := HBRwz.out.cell 1
    have rf1 : wz.frozen? ⟨w.heap.size, 1, none⟩ = false := HBRwz.out.frozen 1
    have rc2 : wz.cell? ⟨w.heap.size, 2, none⟩ = some (.bool false) := HBRwz.out.cell 2
    have rf2 : wz.frozen? ⟨w.heap.size, 2, none⟩ = false := HBRwz.out.frozen 2
    have rc3 : wz.cell? ⟨w.heap.size, 3, none⟩ = some (.bool false) := HBRwz.out.cell 3
    have rf3 : wz.frozen? ⟨w.heap.size, 3, none⟩ = false := HBRwz.out.frozen 3
    have hwr : w.heap.size < wz.heap.size := HBRwz.out.lt
    have HFB := Sec.mk (set4_blk HBRwz.out (.slice none 0 0) (.slice none 0 0) (.bool false) (.bool false))
    have HFM := set4_mod wz w.heap.size (.slice none 0 0) (.slice none 0 0) (.bool false) (.bool false)
    have HMG := Sec.mk ((HMwz.out.mono (T := fun k => w.heap.size ≤ k) (fun i hlt h => h.elim)).trans HFM (fun i hi hlt => by omega))
    have HFK := Sec.mk HFM
    clear HFM
    go_wp2
    refine bodyPost_ret (results_blk2 rfl rfl rfl HFB.out Try.underlying44 (by kernel_rfl)) rfl ?_
    rw [HE.out]
    exact ⟨_, rfl, unitOwn (lo := w.heap.size) (x := noU) (F0 := []) (F1 := []) (.inl (Own.nil _ _ _)) (.inl (Own.nil _ _ _)) (fun k hk => by simp at hk) (fun k hk => by simp at hk), HMG.out.mono (fun i hlt h => by omega)⟩
  have HN : Sec (oneC lit b = if 300 < e then (badU, e + 2)
    else match (if lit then litL (b.take e) else none) with
    | none => ((b.take e, [], false, false), e + 2)
    | some (p, n) =>
      if 8000 < n then (badU, e + 2)
      else if b.length < e + 2 + n + 2 then (noU, 0)
      else if b[e + 2 + n]? = some 13 ∧ b[e + 2 + n + 1]? = some 10 then
        (((b.take e).take p, (b.take (e + 2 + n)).drop (e + 2), true, false), e + 2 + n + 2)
      else (badU, e + 2 + n)) := ⟨by unfold oneC; rw [he]; simp only [Int.toNat_natCast]; rw [if_neg (by omega)]; rfl⟩
  have HEI := Sec.mk he
  clear he hea hno
  have hA : ∃ ad, A = some ad := by
    obtain ⟨ad, rfl, -⟩ := HR.out.byte_at (w' := w) (fun _ _ => rfl) (k := e) (by omega)
    exact ⟨ad, rfl⟩
  obtain ⟨ad, rfl⟩ := hA
  go_enter Try.func30, Try.ntmps30
  go_upto_region 1 with (fail)
  generalize (w.alloc (.cells #[.slice none 0 0, .slice none 0 0, .bool false, .bool false] 44)) = wz at *
  have HRZ := Sec.mk (HR.out.mod (w' := wz) (fun _ h => h) (fun k hk => HMwz.out.block k (HB.out k hk) id))
  have HBZ : Sec (∀ k, B k → k < wz.heap.size) := ⟨fun k hk => Nat.lt_of_lt_of_le (HB.out k hk) HMwz.out.size⟩
  have hzs := HMwz.out.size
  go_wp2_with fail
  refine (l6End_calls HRZ.out hl).mono ?_
  rw [HEI.out]
  rintro e2 w2 ⟨rfl, hw2⟩
  obtain rfl : wz = w2 := hw2.symm
  have hec : (e : Int) ≤ (c : Int) := by omega
  have HRL := Sec.mk (HRZ.out.take (m := e) (by omega))
  have hle : (b.take e).length = e := by rw [List.length_take]; omega
  generalize hres : oneC lit b = res at *
  clear hres
  by_cases h300 : 300 < e
  · have HE : Sec (res = (badU, e + 2)) := ⟨HN.out.trans (if_pos h300)⟩
    have h300i : (300 : Int) < (e : Int) := by omega
    clear HN
    have rc0 : wz.cell? ⟨w.heap.size, 0, none⟩ = some (.slice none 0 0) := HBRwz.out.cell 0
    have rf0 : wz.frozen? ⟨w.heap.size, 0, none⟩ = false := HBRwz.out.frozen 0
    have rc1 : wz.cell? ⟨w.heap.size, 1, none⟩ = some (.slice none 0 0) := HBRwz.out.cell 1
    have rf1 : wz.frozen? ⟨w.heap.size, 1, none⟩ = false := HBRwz.out.frozen 1
    have rc2 : wz.cell? ⟨w.heap.size, 2, none⟩ = some (.bool false) := HBRwz.out.cell 2
    have rf2 : wz.frozen? ⟨w.heap.size, 2, none⟩ = false := HBRwz.out.frozen 2
    have rc3 : wz.cell? ⟨w.heap.size, 3, none⟩ = some (.bool false) := HBRwz.out.cell 3
    have rf3 : wz.frozen? ⟨w.heap.size, 3, none⟩ = false := HBRwz.out.frozen 3
    have hwr : w.heap.size < wz.heap.size := HBRwz.out.lt
    have HFB := Sec.mk (set4_blk HBRwz.out (.slice none 0 0) (.slice none 0 0) (.bool false) (.bool true))
    have HFM := set4_mod wz w.heap.size (.slice none 0 0) (.slice none 0 0) (.bool false) (.bool true)
    have HMG := Sec.mk ((HMwz.out.mono (T := fun k => w.heap.size ≤ k) (fun i hlt h => h.elim)).trans HFM (fun i hi hlt => by omega))
    have HFK := Sec.mk HFM
    clear HFM
    go_wp2
    refine bodyPost_ret (results_blk2 rfl rfl rfl HFB.out Try.underlying44 (by kernel_rfl)) rfl ?_
    rw [HE.out]
    exact ⟨_, rfl, unitOwn (lo := w.heap.size) (x := badU) (F0 := []) (F1 := []) (.inl (Own.nil _ _ _)) (.inl (Own.nil _ _ _)) (fun k hk => by simp at hk) (fun k hk => by simp at hk), HMG.out.mono (fun i hlt h => by omega)⟩
  have h300i : ¬ (300 : Int) < (e : Int) := by omega
  have HN1 := Sec.mk (HN.out.trans (if_neg h300))
  clear HN
  go_wp2_with fail
  have hrl : Row Ty.byte wz B (some ad) (b.take e).length (b.take e) := by rw [hle]; exact HRL.out
  have HLC := Sec.mk (l6Literal_calls (c := c) hrl (by omega) (by omega))
  rw [hle] at HLC
  clear hrl
  refine HLC.out.mono ?_
  rintro e2 w2 ⟨rfl, hm2⟩
  have HMw2 := Sec.mk (HMwz.out.transN hm2)
  have HBRw2 := Sec.mk (HBRwz.out.mod hm2 id)
  have HRZ2 := Sec.mk (HRZ.out.mod (w' := w2) (fun _ h => h) (fun k hk => hm2.block k (HBZ.out k hk) id))
  have HRL2 := Sec.mk (HRL.out.mod (w' := w2) (fun _ h => h) (fun k hk => hm2.block k (HBZ.out k hk) id))
  have HBZ2 : Sec (∀ k, B k → k < w2.heap.size) := ⟨fun k hk => Nat.lt_of_lt_of_le (HBZ.out k hk) hm2.size⟩
  have hzs2 := hm2.size
  clear hm2
  have hplain : lit = false ∨ (lit = true ∧ litL (b.take e) = none ∧ litR (b.take e) = (-1, 0)) ∨ (lit = true ∧ ∃ p n, litL (b.take e) = some (p, n) ∧ litR (b.take e) = ((n : Int), (p : Int))) := by
    cases lit
    · exact .inl rfl
    · cases hx : litL (b.take e) with
      | none => exact .inr (.inl ⟨rfl, rfl, by unfold litR; rw [hx]⟩)
      | some pn => exact .inr (.inr ⟨rfl, pn.1, pn.2, rfl, by unfold litR; rw [hx]⟩)
  rcases hplain with rfl | ⟨rfl, hln, hlr⟩ | ⟨rfl, p, n, hpn, hrn⟩
  · have HE : Sec (res = ((b.take e, [], false, false), e + 2)) := ⟨HN1.out⟩
    clear HN1 HLC
    generalize litR (b.take e) = lr at *
    go_upto_region 9 with (fail)
    go_wp2_with fail
    refine (l1BytesC_calls HRL2.out HBZ2.out (by omega)).mono ?_
    intro e2 w5 hret
    obtain ⟨A5, c5, rfl, hmine⟩ := hret.mine
    rw [hle] at *
    obtain ⟨⟨F5, ho5, hF5⟩, hn5⟩ := hmine
    have HMw5 := Sec.mk (HMw2.out.transN hn5)
    have HBRw5 := Sec.mk (HBRw2.out.mod hn5 id)
    have HO5 := Sec.mk ho5
    have HF5 : Sec (∀ k, k ∈ F5 → wz.heap.size ≤ k ∧ k < w5.heap.size) := ⟨fun k hk => ⟨Nat.le_trans hzs2 (hF5 k hk), ho5.lt k hk⟩⟩
    have hwz : w.heap.size < wz.heap.size := HBRwz.out.lt
    clear hret ho5 hF5 hn5
    have rc0 : w5.cell? ⟨w.heap.size, 0, none⟩ = some (.slice none 0 0) := HBRw5.out.cell 0
    have rf0 : w5.frozen? ⟨w.heap.size, 0, none⟩ = false := HBRw5.out.frozen 0
    have rc1 : w5.cell? ⟨w.heap.size, 1, none⟩ = some (.slice none 0 0) := HBRw5.out.cell 1
    have rf1 : w5.frozen? ⟨w.heap.size, 1, none⟩ = false := HBRw5.out.frozen 1
    have rc2 : w5.cell? ⟨w.heap.size, 2, none⟩ = some (.bool false) := HBRw5.out.cell 2
    have rf2 : w5.frozen? ⟨w.heap.size, 2, none⟩ = false := HBRw5.out.frozen 2
    have rc3 : w5.cell? ⟨w.heap.size, 3, none⟩ = some (.bool false) := HBRw5.out.cell 3
    have rf3 : w5.frozen? ⟨w.heap.size, 3, none⟩ = false := HBRw5.out.frozen 3
    have hwr : w.heap.size < w5.heap.size := HBRw5.out.lt
    have HFB := Sec.mk (set4_blk HBRw5.out (.slice A5 e c5) (.slice none 0 0) (.bool false) (.bool false))
    have HFM := set4_mod w5 w.heap.size (.slice A5 e c5) (.slice none 0 0) (.bool false) (.bool false)
    have HMG := Sec.mk ((HMw5.out.mono (T := fun k => w.heap.size ≤ k) (fun i hlt h => h.elim)).trans HFM (fun i hi hlt => by omega))
    have HFK := Sec.mk HFM
    clear HFM
    go_wp2
    refine bodyPost_ret (results_blk2 rfl rfl rfl HFB.out Try.underlying44 (by kernel_rfl)) rfl ?_
    rw [HE.out]
    exact ⟨_, rfl, unitOwn (lo := w.heap.size) (x := (b.take e, [], false, false)) (F1 := []) (.inl (HO5.out.keep HFK.out (fun k hk e => by have := HF5.out k hk; omega))) (.inl (Own.nil _ _ _)) (fun k hk h => by simp at h) (fun k hk => by have h1 := HF5.out k (by simpa using hk); have h2 := HFK.out.size; exact ⟨by omega, Nat.lt_of_lt_of_le h1.2 h2⟩), HMG.out.mono (fun i hlt h => by omega)⟩
  · have HE : Sec (res = ((b.take e, [], false, false), e + 2)) := ⟨by rw [HN1.out, if_pos rfl, hln]⟩
    clear HN1 HLC hln
    rw [hlr]
    clear hlr
    go_upto_region 9 with (fail)
    go_wp2_with fail
    refine (l1BytesC_calls HRL2.out HBZ2.out (by omega)).mono ?_
    intro e2 w5 hret
    obtain ⟨A5, c5, rfl, hmine⟩ := hret.mine
    rw [hle] at *
    obtain ⟨⟨F5, ho5, hF5⟩, hn5⟩ := hmine
    have HMw5 := Sec.mk (HMw2.out.transN hn5)
    have HBRw5 := Sec.mk (HBRw2.out.mod hn5 id)
    have HO5 := Sec.mk ho5
    have HF5 : Sec (∀ k, k ∈ F5 → wz.heap.size ≤ k ∧ k < w5.heap.size) := ⟨fun k hk => ⟨Nat.le_trans hzs2 (hF5 k hk), ho5.lt k hk⟩⟩
    have hwz : w.heap.size < wz.heap.size := HBRwz.out.lt
    clear hret ho5 hF5 hn5
    have rc0 : w5.cell? ⟨w.heap.size, 0, none⟩ = some (.slice none 0 0) := HBRw5.out.cell 0
    have rf0 : w5.frozen? ⟨w.heap.size, 0, none⟩ = false := HBRw5.out.frozen 0
    have rc1 : w5.cell? ⟨w.heap.size, 1, none⟩ = some (.slice none 0 0) := HBRw5.out.cell 1
    have rf1 : w5.frozen? ⟨w.heap.size, 1, none⟩ = false := HBRw5.out.frozen 1
    have rc2 : w5.cell? ⟨w.heap.size, 2, none⟩ = some (.bool false) := HBRw5.out.cell 2
    have rf2 : w5.frozen? ⟨w.heap.size, 2, none⟩ = false := HBRw5.out.frozen 2
    have rc3 : w5.cell? ⟨w.heap.size, 3, none⟩ = some (.bool false) := HBRw5.out.cell 3
    have rf3 : w5.frozen? ⟨w.heap.size, 3, none⟩ = false := HBRw5.out.frozen 3
    have hwr : w.heap.size < w5.heap.size := HBRw5.out.lt
    have HFB := Sec.mk (set4_blk HBRw5.out (.slice A5 e c5) (.slice none 0 0) (.bool false) (.bool false))
    have HFM := set4_mod w5 w.heap.size (.slice A5 e c5) (.slice none 0 0) (.bool false) (.bool false)
    have HMG := Sec.mk ((HMw5.out.mono (T := fun k => w.heap.size ≤ k) (fun i hlt h => h.elim)).trans HFM (fun i hi hlt => by omega))
    have HFK := Sec.mk HFM
    clear HFM
    go_wp2
    refine bodyPost_ret (results_blk2 rfl rfl rfl HFB.out Try.underlying44 (by kernel_rfl)) rfl ?_
    rw [HE.out]
    exact ⟨_, rfl, unitOwn (lo := w.heap.size) (x := (b.take e, [], false, false)) (F1 := []) (.inl (HO5.out.keep HFK.out (fun k hk e => by have := HF5.out k hk; omega))) (.inl (Own.nil _ _ _)) (fun k hk h => by simp at h) (fun k hk => by have h1 := HF5.out k (by simpa using hk); have h2 := HFK.out.size; exact ⟨by omega, Nat.lt_of_lt_of_le h1.2 h2⟩), HMG.out.mono (fun i hlt h => by omega)⟩
  have HN2 := Sec.mk (HN1.out.trans (by rw [if_pos rfl, hpn]))
  obtain ⟨hp, hn⟩ := litL_lt hpn
  rw [hle] at hp
  rw [hrn]
  clear HLC hpn hrn HN1
  by_cases h8 : 8000 < n
  · have HE : Sec (res = (badU, e + 2)) := ⟨HN2.out.trans (if_pos h8)⟩
    have h8i : (8000 : Int) < (n : Int) := by omega
    clear HN2
    have rc0 : w2.cell? ⟨w.heap.size, 0, none⟩ = some (.slice none 0 0) := HBRw2.out.cell 0
    have rf0 : w2.frozen? ⟨w.heap.size, 0, none⟩ = false := HBRw2.out.frozen 0
    have rc1 : w2.cell? ⟨w.heap.size, 1, none⟩ = some (.slice none 0 0) := HBRw2.out.cell 1
    have rf1 : w2.frozen? ⟨w.heap.size, 1, none⟩ = false := HBRw2.out.frozen 1
    have rc2 : w2.cell? ⟨w.heap.size, 2, none⟩ = some (.bool false) := HBRw2.out.cell 2
    have rf2 : w2.frozen? ⟨w.heap.size, 2, none⟩ = false := HBRw2.out.frozen 2
    have rc3 : w2.cell? ⟨w.heap.size, 3, none⟩ = some (.bool false) := HBRw2.out.cell 3
    have rf3 : w2.frozen? ⟨w.heap.size, 3, none⟩ = false := HBRw2.out.frozen 3
    have hwr : w.heap.size < w2.heap.size := HBRw2.out.lt
    have HFB := Sec.mk (set4_blk HBRw2.out (.slice none 0 0) (.slice none 0 0) (.bool false) (.bool true))
    have HFM := set4_mod w2 w.heap.size (.slice none 0 0) (.slice none 0 0) (.bool false) (.bool true)
    have HMG := Sec.mk ((HMw2.out.mono (T := fun k => w.heap.size ≤ k) (fun i hlt h => h.elim)).trans HFM (fun i hi hlt => by omega))
    have HFK := Sec.mk HFM
    clear HFM
    go_wp2
    refine bodyPost_ret (results_blk2 rfl rfl rfl HFB.out Try.underlying44 (by kernel_rfl)) rfl ?_
    rw [HE.out]
    exact ⟨_, rfl, unitOwn (lo := w.heap.size) (x := badU) (F0 := []) (F1 := []) (.inl (Own.nil _ _ _)) (.inl (Own.nil _ _ _)) (fun k hk => by simp at hk) (fun k hk => by simp at hk), HMG.out.mono (fun i hlt h => by omega)⟩
  have HN3 := Sec.mk (HN2.out.trans (if_neg h8))
  have h8i : ¬ (8000 : Int) < (n : Int) := by omega
  obtain ⟨st, hst⟩ : ∃ st, st = e + 2 + n := ⟨_, rfl⟩
  rw [← hst] at HN3
  have hsti : (e : Int) + 2 + (n : Int) = (st : Int) := by omega
  clear HN2
  by_cases hlen : b.length < st + 2
  · have HE : Sec (res = (noU, 0)) := ⟨HN3.out.trans (if_pos hlen)⟩
    have hleni : (b.length : Int) < (st : Int) + 2 := by omega
    clear HN3 hst
    have rc0 : w2.cell? ⟨w.heap.size, 0, none⟩ = some (.slice none 0 0) := HBRw2.out.cell 0
    have rf0 : w2.frozen? ⟨w.heap.size, 0, none⟩ = false := HBRw2.out.frozen 0
    have rc1 : w2.cell? ⟨w.heap.size, 1, none⟩ = some (.slice none 0 0) := HBRw2.out.cell 1
    have rf1 : w2.frozen? ⟨w.heap.size, 1, none⟩ = false := HBRw2.out.frozen 1
    have rc2 : w2.cell? ⟨w.heap.size, 2, none⟩ = some (.bool false) := HBRw2.out.cell 2
    have rf2 : w2.frozen? ⟨w.heap.size, 2, none⟩ = false := HBRw2.out.frozen 2
    have rc3 : w2.cell? ⟨w.heap.size, 3, none⟩ = some (.bool false) := HBRw2.out.cell 3
    have rf3 : w2.frozen? ⟨w.heap.size, 3, none⟩ = false := HBRw2.out.frozen 3
    have hwr : w.heap.size < w2.heap.size := HBRw2.out.lt
    have HFB := Sec.mk (set4_blk HBRw2.out (.slice none 0 0) (.slice none 0 0) (.bool false) (.bool false))
    have HFM := set4_mod w2 w.heap.size (.slice none 0 0) (.slice none 0 0) (.bool false) (.bool false)
    have HMG := Sec.mk ((HMw2.out.mono (T := fun k => w.heap.size ≤ k) (fun i hlt h => h.elim)).trans HFM (fun i hi hlt => by omega))
    have HFK := Sec.mk HFM
    clear HFM
    go_wp2
    refine bodyPost_ret (results_blk2 rfl rfl rfl HFB.out Try.underlying44 (by kernel_rfl)) rfl ?_
    rw [HE.out]
    exact ⟨_, rfl, unitOwn (lo := w.heap.size) (x := noU) (F0 := []) (F1 := []) (.inl (Own.nil _ _ _)) (.inl (Own.nil _ _ _)) (fun k hk => by simp at hk) (fun k hk => by simp at hk), HMG.out.mono (fun i hlt h => by omega)⟩
  have HN4 := Sec.mk (HN3.out.trans (if_neg hlen))
  have hleni : ¬ (b.length : Int) < (st : Int) + 2 := by omega
  clear HN3
  obtain ⟨ad', e1, h0⟩ := HRZ2.out.byte_at (w' := w2) (fun _ _ => rfl) (k := st) (by omega)
  obtain rfl : ad = ad' := Option.some.inj e1
  obtain ⟨ad', e1', h1⟩ := HRZ2.out.byte_at (w' := w2) (fun _ _ => rfl) (k := st + 1) (by omega)
  obtain rfl : ad = ad' := Option.some.inj e1'
  have h1' : w2.cell? ⟨ad.block, ad.off + (st + 1), none⟩ = some (.int .u8 (b[st + 1].toNat : Int)) := by simpa [Addr.add] using h1
  have HG0 : Sec (b[st]? = some (b[st]'(by omega))) := ⟨List.getElem?_eq_getElem _⟩
  have HG1 : Sec (b[st + 1]? = some (b[st + 1]'(by omega))) := ⟨List.getElem?_eq_getElem _⟩
  have hsl : (st : Int) < (b.length : Int) := by omega
  have hsl1 : (st : Int) + 1 < (b.length : Int) := by omega
  have hst1 : ((st : Int) + 1).toNat = st + 1 := by omega
  have HST := Sec.mk hst
  have hse : e + 2 ≤ st := by omega
  clear e1 e1' h1 hst
  generalize b[st]'(by omega) = x at *
  generalize b[st + 1]'(by omega) = y at *
  by_cases hx : x = 13
  rotate_left
  · have HE : Sec (res = (badU, st)) := ⟨HN4.out.trans (if_neg (fun h => hx (Option.some.inj (HG0.out.symm.trans h.1))))⟩
    have hxb := u8_neb (n := 13) rfl hx
    clear hx HN4
    have rc0 : w2.cell? ⟨w.heap.size, 0, none⟩ = some (.slice none 0 0) := HBRw2.out.cell 0
    have rf0 : w2.frozen? ⟨w.heap.size, 0, none⟩ = false := HBRw2.out.frozen 0
    have rc1 : w2.cell? ⟨w.heap.size, 1, none⟩ = some (.slice none 0 0) := HBRw2.out.cell 1
    have rf1 : w2.frozen? ⟨w.heap.size, 1, none⟩ = false := HBRw2.out.frozen 1
    have rc2 : w2.cell? ⟨w.heap.size, 2, none⟩ = some (.bool false) := HBRw2.out.cell 2
    have rf2 : w2.frozen? ⟨w.heap.size, 2, none⟩ = false := HBRw2.out.frozen 2
    have rc3 : w2.cell? ⟨w.heap.size, 3, none⟩ = some (.bool false) := HBRw2.out.cell 3
    have rf3 : w2.frozen? ⟨w.heap.size, 3, none⟩ = false := HBRw2.out.frozen 3
    have hwr : w.heap.size < w2.heap.size := HBRw2.out.lt
    have HFB := Sec.mk (set4_blk HBRw2.out (.slice none 0 0) (.slice none 0 0) (.bool false) (.bool true))
    have HFM := set4_mod w2 w.heap.size (.slice none 0 0) (.slice none 0 0) (.bool false) (.bool true)
    have HMG := Sec.mk ((HMw2.out.mono (T := fun k => w.heap.size ≤ k) (fun i hlt h => h.elim)).trans HFM (fun i hi hlt => by omega))
    have HFK := Sec.mk HFM
    clear HFM
    go_wp2
    refine bodyPost_ret (results_blk2 rfl rfl rfl HFB.out Try.underlying44 (by kernel_rfl)) rfl ?_
    rw [HE.out]
    exact ⟨_, rfl, unitOwn (lo := w.heap.size) (x := badU) (F0 := []) (F1 := []) (.inl (Own.nil _ _ _)) (.inl (Own.nil _ _ _)) (fun k hk => by simp at hk) (fun k hk => by simp at hk), HMG.out.mono (fun i hlt h => by omega)⟩
  subst hx
  by_cases hy : y = 10
  rotate_left
  · have HE : Sec (res = (badU, st)) := ⟨HN4.out.trans (if_neg (fun h => hy (Option.some.inj (HG1.out.symm.trans h.2))))⟩
    have hyb := u8_neb (n := 10) rfl hy
    clear hy HN4
    have rc0 : w2.cell? ⟨w.heap.size, 0, none⟩ = some (.slice none 0 0) := HBRw2.out.cell 0
    have rf0 : w2.frozen? ⟨w.heap.size, 0, none⟩ = false := HBRw2.out.frozen 0
    have rc1 : w2.cell? ⟨w.heap.size, 1, none⟩ = some (.slice none 0 0) := HBRw2.out.cell 1
    have rf1 : w2.frozen? ⟨w.heap.size, 1, none⟩ = false := HBRw2.out.frozen 1
    have rc2 : w2.cell? ⟨w.heap.size, 2, none⟩ = some (.bool false) := HBRw2.out.cell 2
    have rf2 : w2.frozen? ⟨w.heap.size, 2, none⟩ = false := HBRw2.out.frozen 2
    have rc3 : w2.cell? ⟨w.heap.size, 3, none⟩ = some (.bool false) := HBRw2.out.cell 3
    have rf3 : w2.frozen? ⟨w.heap.size, 3, none⟩ = false := HBRw2.out.frozen 3
    have hwr : w.heap.size < w2.heap.size := HBRw2.out.lt
    have HFB := Sec.mk (set4_blk HBRw2.out (.slice none 0 0) (.slice none 0 0) (.bool false) (.bool true))
    have HFM := set4_mod w2 w.heap.size (.slice none 0 0) (.slice none 0 0) (.bool false) (.bool true)
    have HMG := Sec.mk ((HMw2.out.mono (T := fun k => w.heap.size ≤ k) (fun i hlt h => h.elim)).trans HFM (fun i hi hlt => by omega))
    have HFK := Sec.mk HFM
    clear HFM
    go_wp2
    refine bodyPost_ret (results_blk2 rfl rfl rfl HFB.out Try.underlying44 (by kernel_rfl)) rfl ?_
    rw [HE.out]
    exact ⟨_, rfl, unitOwn (lo := w.heap.size) (x := badU) (F0 := []) (F1 := []) (.inl (Own.nil _ _ _)) (.inl (Own.nil _ _ _)) (fun k hk => by simp at hk) (fun k hk => by simp at hk), HMG.out.mono (fun i hlt h => by omega)⟩
  subst hy
  have HE : Sec (res = (((b.take e).take p, (b.take st).drop (e + 2), true, false), st + 2)) := ⟨HN4.out.trans (if_pos ⟨HG0.out, HG1.out⟩)⟩
  clear HN4
  have HR0 := Sec.mk (HRL2.out.take (m := p) (by omega))
  have hcut := HRZ2.out.cut1 (k := e + 2) (m := st) hse (by omega)
  have HR1 : Sec (Row Ty.byte w2 B (some ⟨ad.block, ad.off + (e + 2), none⟩) (st - (e + 2)) ((b.take st).drop (e + 2))) := ⟨by simpa [Addr.add] using hcut⟩
  clear hcut
  have hwe : IntKind.i64.wrap ((e : Int) + 2) = (e : Int) + 2 := by rw [IntKind.wrap_i64]; omega
  have hws : IntKind.i64.wrap ((st : Int) + 2) = (st : Int) + 2 := by rw [IntKind.wrap_i64]; omega
  have HWE := Sec.mk hwe
  have HWS := Sec.mk hws
  have hpc : p ≤ c := by omega
  have hstc : st < c := by omega
  have hcast2 : (e : Int) + 2 = ((e + 2 : Nat) : Int) := by omega
  have HC2 := Sec.mk hcast2
  have hwz : w.heap.size < w2.heap.size := HBRw2.out.lt
  clear hwe hws hcast2
  go_upto_region 17 with (fail)
  have HSS : Sec (Mod (fun k => k = w.heap.size) w2 w2.drew) := ⟨(Mod.refl _ _).drew⟩
  refine reg_start [] (fun W => Sec (Mod (fun k => k = w.heap.size) w2 W)) (by kernel_rfl) ?_
  refine reg_take (.slice (some ad) e c) (i := 0) (n := 71) HSS rfl (by kernel_rfl) (by kernel_rfl) (by kernel_rfl) (by kernel_rfl) (fun _ _ _ h => h) (fun W hW => exec_move rfl rfl) ?_
  simp only [Act.put, List.setIfInBounds_toArray, List.set_cons_zero, List.set_cons_succ]
  refine reg_take (.int .i64 (p : Int)) (i := 1) (n := 72) HSS rfl (by kernel_rfl) (by kernel_rfl) (by kernel_rfl) (by kernel_rfl) (fun _ _ _ h => h) (fun W hW => exec_move rfl rfl) ?_
  simp only [Act.put, List.setIfInBounds_toArray, List.set_cons_zero, List.set_cons_succ]
  refine reg_take (.slice (some ad) p c) (i := 2) (n := 73) HSS rfl (by kernel_rfl) (by kernel_rfl) (by kernel_rfl) (by kernel_rfl) (fun _ _ _ h => h) (fun W hW => exec_slice rfl rfl rfl rfl rfl (slTo _ _ _ _ hpc _)) ?_
  simp only [Act.put, List.setIfInBounds_toArray, List.set_cons_zero, List.set_cons_succ]
  refine reg_take (.slice (some ad) b.length c) (i := 4) (n := 75) HSS rfl (by kernel_rfl) (by kernel_rfl) (by kernel_rfl) (by kernel_rfl) (fun _ _ _ h => h) (fun W hW => exec_move rfl rfl) ?_
  simp only [Act.put, List.setIfInBounds_toArray, List.set_cons_zero, List.set_cons_succ]
  refine reg_take (.int .i64 (e : Int)) (i := 5) (n := 76) HSS rfl (by kernel_rfl) (by kernel_rfl) (by kernel_rfl) (by kernel_rfl) (fun _ _ _ h => h) (fun W hW => exec_move rfl rfl) ?_
  simp only [Act.put, List.setIfInBounds_toArray, List.set_cons_zero, List.set_cons_succ]
  refine reg_take (.int .i64 ((e + 2 : Nat) : Int)) (i := 6) (n := 77) HSS rfl (by kernel_rfl) (by kernel_rfl) (by kernel_rfl) (by kernel_rfl) (fun _ _ _ h => h) (fun W hW => by rw [← HC2.out]; exact exec_bin rfl rfl rfl (addIIC HWE.out _ _ _)) ?_
  simp only [Act.put, List.setIfInBounds_toArray, List.set_cons_zero, List.set_cons_succ]
  refine reg_take (.int .i64 (st : Int)) (i := 7) (n := 78) HSS rfl (by kernel_rfl) (by kernel_rfl) (by kernel_rfl) (by kernel_rfl) (fun _ _ _ h => h) (fun W hW => exec_move rfl rfl) ?_
  simp only [Act.put, List.setIfInBounds_toArray, List.set_cons_zero, List.set_cons_succ]
  refine reg_take (.slice (some ⟨ad.block, ad.off + (e + 2), none⟩) (st - (e + 2)) (c - (e + 2))) (i := 8) (n := 79) HSS rfl (by kernel_rfl) (by kernel_rfl) (by kernel_rfl) (by kernel_rfl) (fun _ _ _ h => h) (fun W hW => exec_slice rfl rfl rfl rfl rfl (slLH _ _ _ _ _ (by omega) hse hstc _)) ?_
  simp only [Act.put, List.setIfInBounds_toArray, List.set_cons_zero, List.set_cons_succ]
  refine reg_take (.int .i64 (st : Int)) (i := 11) (n := 82) HSS rfl (by kernel_rfl) (by kernel_rfl) (by kernel_rfl) (by kernel_rfl) (fun _ _ _ h => h) (fun W hW => exec_move rfl rfl) ?_
  simp only [Act.put, List.setIfInBounds_toArray, List.set_cons_zero, List.set_cons_succ]
  refine reg_take (.int .i64 ((st : Int) + 2)) (i := 12) (n := 83) HSS rfl (by kernel_rfl) (by kernel_rfl) (by kernel_rfl) (by kernel_rfl) (fun _ _ _ h => h) (fun W hW => exec_bin rfl rfl rfl (addIIC HWS.out _ _ _)) ?_
  simp only [Act.put, List.setIfInBounds_toArray, List.set_cons_zero, List.set_cons_succ]
  refine reg_step (i := 3) rfl (by kernel_rfl) (fun K hK => ?_)
  refine wp_call (n := 74) (vals := [.slice (some ad) p c]) rfl rfl rfl (by kernel_rfl) (l1BytesC_calls (HR0.out.mod (w' := w2.drew) (fun _ h => h) (fun _ _ => rfl)) (fun k hk => HBZ2.out k hk) (by rw [List.length_take]; omega)) ?_
  intro e2 w5 hret
  obtain ⟨A5, c5, rfl, hmine⟩ := hret.mine
  obtain ⟨⟨F5, ho5, hF5⟩, hn5⟩ := hmine
  have hn5' : New w2 w5 := ((Mod.refl _ _).drew).transN hn5
  have hs5 := hn5'.size
  have HO5 := Sec.mk ho5
  have HF5 : Sec (∀ k, k ∈ F5 → w2.heap.size ≤ k ∧ k < w5.heap.size) := ⟨fun k hk => ⟨hF5 k hk, ho5.lt k hk⟩⟩
  have HSS : Sec (Mod (fun k => k = w.heap.size) w2 w5) := ⟨hn5'.mono (fun i _ h => h.elim)⟩
  have HN5 := Sec.mk hn5'
  refine ⟨_, rfl, hK.out _ _ (fun _ => HSS) ?_⟩
  clear hret ho5 hF5 hn5 hn5'
  clear hK K
  simp only [Act.put, List.setIfInBounds_toArray, List.set_cons_zero, List.set_cons_succ]
  refine reg_step (i := 9) rfl (by kernel_rfl) (fun K hK => ?_)
  refine wp_call (n := 80) (vals := [.slice (some ⟨ad.block, ad.off + (e + 2), none⟩) (st - (e + 2)) (c - (e + 2))]) rfl rfl rfl (by kernel_rfl) (l1BytesC_calls (HR1.out.mod (w' := w5) (fun _ h => h) (fun k hk => HN5.out.block k (HBZ2.out k hk) id)) (fun k hk => Nat.lt_of_lt_of_le (HBZ2.out k hk) hs5) (by rw [List.length_drop, List.length_take]; omega)) ?_
  intro e2 w6 hret
  obtain ⟨A6, c6, rfl, hmine⟩ := hret.mine
  obtain ⟨⟨F6, ho6, hF6⟩, hn6⟩ := hmine
  have hs6 := hn6.size
  have HO6 := Sec.mk ho6
  have HO5' := Sec.mk (HO5.out.keep hn6 (fun _ _ h => h))
  have HF6 : Sec (∀ k, k ∈ F6 → w5.heap.size ≤ k ∧ k < w6.heap.size) := ⟨fun k hk => ⟨hF6 k hk, ho6.lt k hk⟩⟩
  have HN6 := Sec.mk (HN5.out.transN hn6)
  have HSS : Sec (Mod (fun k => k = w.heap.size) w2 w6) := ⟨HN6.out.mono (fun i _ h => h.elim)⟩
  refine ⟨_, rfl, hK.out _ _ (fun _ => HSS) ?_⟩
  clear hret ho6 hF6 hn6
  clear hK K
  simp only [Act.put, List.setIfInBounds_toArray, List.set_cons_zero, List.set_cons_succ]
  have hl5 : ((b.take e).take p).length = p := by rw [List.length_take, List.length_take]; omega
  have hl6 : ((b.take st).drop (e + 2)).length = st - (e + 2) := by rw [List.length_drop, List.length_take]; omega
  refine reg_take (.agg #[.slice A5 ((b.take e).take p).length c5, .slice A6 ((b.take st).drop (e + 2)).length c6, .bool true, .bool false]) (i := 10) (n := 81) HSS rfl (by kernel_rfl) (by kernel_rfl) (by kernel_rfl) (by kernel_rfl) (fun _ _ _ h => h) (fun W hW => exec_build (parts := [(0, .tmp 74), (1, .tmp 80), (2, .const (.bool true))]) rfl rfl (bldUnit _ _ _ _ _ _ _)) ?_
  simp only [Act.put, List.setIfInBounds_toArray, List.set_cons_zero, List.set_cons_succ]
  refine reg_step (i := 13) rfl (by kernel_rfl) (fun K hK => ?_)
  have HBR6 := Sec.mk (HBRw2.out.mod HN6.out id)
  have HSM := Sec.mk (set4_mod w6 w.heap.size (.slice A5 ((b.take e).take p).length c5) (.slice A6 ((b.take st).drop (e + 2)).length c6) (.bool true) (.bool false))
  have HSS : Sec (Mod (fun k => k = w.heap.size) w2 (set4 w6 w.heap.size (.slice A5 ((b.take e).take p).length c5) (.slice A6 ((b.take st).drop (e + 2)).length c6) (.bool true) (.bool false))) := ⟨(HN6.out.mono (T := fun k => k = w.heap.size) (fun i _ h => h.elim)).trans HSM.out (fun i hi _ => hi)⟩
  refine wp_store rfl rfl rfl rfl (stUnit HBR6.out A5 A6 _ c5 _ c6 true false) (hK.out _ _ (fun _ => HSS) ?_)
  clear hK K
  refine reg_take (.int .i64 ((st : Int) + 2)) (i := 14) (n := 5) HSS rfl (by kernel_rfl) (by kernel_rfl) (by kernel_rfl) (by kernel_rfl) (fun _ _ _ h => h) (fun W hW => exec_assign rfl rfl) ?_
  simp only [Act.put, List.setIfInBounds_toArray, List.set_cons_zero, List.set_cons_succ]
  refine reg_done (by kernel_rfl) ?_ _
  have HFB := Sec.mk (set4_blk HBR6.out (.slice A5 ((b.take e).take p).length c5) (.slice A6 ((b.take st).drop (e + 2)).length c6) (.bool true) (.bool false))
  have HX5 := Sec.mk (HO5'.out.keep HSM.out (fun k hk e => by have := HF5.out k hk; omega))
  have HX6 := Sec.mk (HO6.out.keep HSM.out (fun k hk e => by have := HF6.out k hk; omega))
  have HMG := Sec.mk ((HMw2.out.mono (T := fun k => w.heap.size ≤ k) (fun i _ h => h.elim)).trans HSS.out (fun i hi _ => by omega))
  have hsf := HSM.out.size
  go_wp2
  refine bodyPost_ret (results_blk2 rfl rfl rfl HFB.out Try.underlying44 (by kernel_rfl)) rfl ?_
  rw [HE.out]
  refine ⟨_, rfl, unitOwn (lo := w.heap.size) (x := ((b.take e).take p, (b.take st).drop (e + 2), true, false)) (.inl HX5.out) (.inl HX6.out) (fun k hk h => ?_) (fun k hk => ?_), HMG.out.mono (fun i hlt h => by omega)⟩
  · have h1 := HF5.out k hk
    have h2 := HF6.out k h
    omega
  · rcases List.mem_append.1 hk with hk | hk
    · have h1 := HF5.out k hk
      omega
    · have h1 := HF6.out k hk
      omega
end Go.Proofs.Ytciiejkfppnimaa
