/- What the laws' sizes come to; rows in ranges one behind the other. The laws' copies and sizes of bytes that may stem from a text. The laws' copies and sizes of Unit. A unit as the law's walk wants it. ParseImap of both sides, by value. A unit that is handed in reads as an abstract one. The walk of the law FnExactParseImap. -/
import Derived.Test.YtiaknomadhgckaaDoorPk8
import Derived.Test.YtiaknomadhgckaaDoorPk11
import Derived.Test.YtiaknomadhgckaaDoorPk13
import Derived.Test.YtiaknomadhgckaaDoorPk12
namespace Go.Proofs.YtiaknomadhgckaaDoor
open Go.RowKit Mem
set_option linter.unusedVariables false
def SzR (w : World) (left : Int) (s : Nat) (e : Ending) (w' : World) : Prop := e = .returned (.int .i64 (if left < (s : Int) then -1 else left - (s : Int))) ∧ New w w'
theorem owSl_form {α : Type} {d : Ty α} {e : TypeId} {w : World} {lo hi : Nat} {v : Value} {xs : List α} (h : OwV false (Ty.slice e d) w lo hi v xs) : ∃ A c, v = .slice A xs.length c := by
  obtain ⟨A, c, F, rfl, _⟩ := h.slice
  exact ⟨A, c, rfl⟩
theorem szByteS_s {w : World} {v : Value} {x : Bytes} (h : RdV false dBS w v x) (left : Int) (h0 : 0 ≤ left) (h1 : left ≤ 1048576) : Calls Tryd.prog 34 #[v, .int .i64 left] w (SzR w left (szBS x)) :=
  (szByteS_v h left h0 h1).mono fun e w' ⟨h1, h2⟩ => ⟨h1, h2 ▸ Mod.refl _ _⟩
theorem sz_set (w : World) (p : Addr) (v : Value) : (w.setCell p v).heap.size = w.heap.size := by simp [World.setCell]
end Go.Proofs.YtiaknomadhgckaaDoor

namespace Go.Proofs.YtiaknomadhgckaaDoor
open Go.RowKit Mem
set_option linter.unusedVariables false
theorem OwX.form {w : World} {F : List Nat} {v : Value} {x : Bytes} (h : OwX w F v x) : ∃ A c, v = .slice A x.length c ∧ True := by
  rcases h with h | ⟨g, c, rfl, _⟩
  · obtain ⟨A, c, rfl, _⟩ := h.form
    exact ⟨A, c, rfl, trivial⟩
  · exact ⟨_, _, rfl, trivial⟩
def szBX (x : Bytes) : Nat := szBS x
theorem szByteX_s {w : World} {v : Value} {x : Bytes} (h : RdV false dBX w v x) (left : Int) (h0 : 0 ≤ left) (h1 : left ≤ 1048576) : Calls Tryd.prog 34 #[v, .int .i64 left] w (SzR w left (szBX x)) := szByteS_s (x := x) h left h0 h1
theorem toByteX_v {w : World} {v : Value} {x : Bytes} (h : RdV false dBX w v x) (hl : szBX x ≤ 1048576) : Calls Tryd.prog 41 #[v] w (RetV false dBS w x) := toByteS_v (x := x) h hl
end Go.Proofs.YtiaknomadhgckaaDoor

namespace Go.Proofs.YtiaknomadhgckaaDoor
open Go.RowKit Mem
set_option linter.unusedVariables false
set_option linter.unusedSimpArgs false
def szUnit (x : UnitT) : Nat := (szBX x.1) + (szBX x.2.1)
set_option maxHeartbeats 1000000 in
set_option maxRecDepth 100000 in
theorem szUnit_v {w : World} {v : Value} {x : UnitT} (h : RdV true dUnit w v x) (left : Int) (h0 : 0 ≤ left) (h1 : left ≤ 1048576) : Calls Tryd.prog 10 #[v, .int .i64 left] w (SzR w left (szUnit x)) := by
  obtain ⟨v0, v1, rfl, k0, k1⟩ := rdUnit h
  have HB0 := Sec.mk (Blk.new w 34 [v0, v1, .bool x.2.2.1, .bool x.2.2.2])
  have HM0 := Sec.mk ((Mod.refl (fun _ => False) w).alloc (.cells #[v0, v1, .bool x.2.2.1, .bool x.2.2.2] 34))
  have H0 := Sec.mk k0
  have H1 := Sec.mk k1
  have HS : Sec (szUnit x = (szBX x.1) + (szBX x.2.1)) := ⟨rfl⟩
  clear h k0 k1
  generalize hs : szUnit x = s at *
  clear hs
  obtain ⟨c0, hc0⟩ : ∃ c, c = szBX x.1 := ⟨_, rfl⟩
  obtain ⟨c1, hc1⟩ : ∃ c, c = szBX x.2.1 := ⟨_, rfl⟩
  rw [← hc0, ← hc1] at HS
  have HC0 := Sec.mk hc0
  have HC1 := Sec.mk hc1
  clear hc0 hc1
  by_cases g0 : left < (c0 : Int)
  · have hn0 : left - (c0 : Int) < 0 := by omega
    go_enter Tryd.func10, Tryd.ntmps10
    go_wp2_with fail
    refine (szByteX_s (H0.out.step HM0.out) (left) (by omega) (by omega)).mono ?_
    rintro e w0 ⟨rfl, hm0⟩
    rw [← HC0.out, if_pos (by omega)]
    have HM0 := Sec.mk (HM0.out.transN hm0)
    have HB1 := Sec.mk (HB0.out.mod hm0 id)
    clear hm0
    go_wp2
    go_ret
    exact ⟨by rw [if_pos (by have := HS.out; omega)]; rfl, HM0.out⟩
  by_cases g1 : left < (c0 : Int) + (c1 : Int)
  · have hn1 : left - (c0 : Int) - (c1 : Int) < 0 := by omega
    go_enter Tryd.func10, Tryd.ntmps10
    go_wp2_with fail
    refine (szByteX_s (H0.out.step HM0.out) (left) (by omega) (by omega)).mono ?_
    rintro e w0 ⟨rfl, hm0⟩
    rw [← HC0.out, if_neg (by omega)]
    have HM0 := Sec.mk (HM0.out.transN hm0)
    have HB1 := Sec.mk (HB0.out.mod hm0 id)
    have p0_1 : w0.cell? ⟨w.heap.size, 1, none⟩ = some (v1) := HB1.out.cell 1
    clear hm0
    have l0 : ¬ left - (c0 : Int) < 0 := by omega
    go_wp2_with fail
    refine (szByteX_s (H1.out.step HM0.out) (left - (c0 : Int)) (by omega) (by omega)).mono ?_
    rintro e w1 ⟨rfl, hm1⟩
    rw [← HC1.out, if_pos (by omega)]
    have HM1 := Sec.mk (HM0.out.transN hm1)
    have HB2 := Sec.mk (HB1.out.mod hm1 id)
    clear hm1
    go_wp2
    go_ret
    exact ⟨by rw [if_pos (by have := HS.out; omega)]; rfl, HM1.out⟩
  go_enter Tryd.func10, Tryd.ntmps10
  go_wp2_with fail
  refine (szByteX_s (H0.out.step HM0.out) (left) (by omega) (by omega)).mono ?_
  rintro e w0 ⟨rfl, hm0⟩
  rw [← HC0.out, if_neg (by omega)]
  have HM0 := Sec.mk (HM0.out.transN hm0)
  have HB1 := Sec.mk (HB0.out.mod hm0 id)
  have p0_1 : w0.cell? ⟨w.heap.size, 1, none⟩ = some (v1) := HB1.out.cell 1
  clear hm0
  have l0 : ¬ left - (c0 : Int) < 0 := by omega
  go_wp2_with fail
  refine (szByteX_s (H1.out.step HM0.out) (left - (c0 : Int)) (by omega) (by omega)).mono ?_
  rintro e w1 ⟨rfl, hm1⟩
  rw [← HC1.out, if_neg (by omega)]
  have HM1 := Sec.mk (HM0.out.transN hm1)
  have HB2 := Sec.mk (HB1.out.mod hm1 id)
  clear hm1
  have l1 : ¬ left - (c0 : Int) - (c1 : Int) < 0 := by omega
  go_wp2
  go_ret
  exact ⟨by rw [if_neg (by have := HS.out; omega)]; have := HS.out; simp; omega, HM1.out⟩
set_option maxHeartbeats 1000000 in
set_option maxRecDepth 100000 in
theorem toUnit_v {w : World} {v : Value} {x : UnitT} (h : RdV true dUnit w v x) (hs : szUnit x ≤ 1048576) : Calls Tryd.prog 12 #[v] w (RetV true dUnit w x) := by
  obtain ⟨v0, v1, rfl, k0, k1⟩ := rdUnit h
  have hsz : (szBX x.1) + (szBX x.2.1) ≤ 1048576 := hs
  have HX := Sec.mk (((Blk.new w 34 [v0, v1, .bool x.2.2.1, .bool x.2.2.2]).alloc (.cells #[.slice none 0 0, .slice none 0 0, .bool false, .bool false] 40)).alloc (.cells #[.slice none 0 0, .slice none 0 0, .bool false, .bool false] 40))
  have HR := Sec.mk ((Blk.new (w.alloc (.cells #[v0, v1, .bool x.2.2.1, .bool x.2.2.2] 34)) 40 [.slice none 0 0, .slice none 0 0, .bool false, .bool false]).alloc (.cells #[.slice none 0 0, .slice none 0 0, .bool false, .bool false] 40))
  have HO := Sec.mk (Blk.new ((w.alloc (.cells #[v0, v1, .bool x.2.2.1, .bool x.2.2.2] 34)).alloc (.cells #[.slice none 0 0, .slice none 0 0, .bool false, .bool false] 40)) 40 [.slice none 0 0, .slice none 0 0, .bool false, .bool false])
  rw [show (w.alloc (.cells #[v0, v1, .bool x.2.2.1, .bool x.2.2.2] 34)).heap.size = w.heap.size + 1 by simp] at HR
  rw [show ((w.alloc (.cells #[v0, v1, .bool x.2.2.1, .bool x.2.2.2] 34)).alloc (.cells #[.slice none 0 0, .slice none 0 0, .bool false, .bool false] 40)).heap.size = w.heap.size + 2 by simp] at HO
  have HM := Sec.mk ((((Mod.refl (fun _ => False) w).alloc (.cells #[v0, v1, .bool x.2.2.1, .bool x.2.2.2] 34)).alloc (.cells #[.slice none 0 0, .slice none 0 0, .bool false, .bool false] 40)).alloc (.cells #[.slice none 0 0, .slice none 0 0, .bool false, .bool false] 40))
  have H0 := Sec.mk k0
  have H1 := Sec.mk k1
  clear h k0 k1
  go_enter Tryd.func12, Tryd.ntmps12
  go_wp2_with fail
  refine (toByteX_v (H0.out.step HM.out) (by omega)).mono ?_
  rintro e w0 ⟨y0, rfl, ho0, hm0⟩
  have HM0 := Sec.mk (HM.out.transN hm0)
  have hs0 := hm0.size
  simp [World.setCell] at hs0
  have HX0 := Sec.mk (HX.out.mod hm0 id)
  have HR0 := Sec.mk (HR.out.mod hm0 id)
  have HO0' := Sec.mk (HO.out.mod hm0 id)
  have hO0 : w0.cell? ⟨w.heap.size + 2, 0, none⟩ = some (.slice none 0 0) := HO0'.out.cell 0
  have hF0 : w0.frozen? ⟨w.heap.size + 2, 0, none⟩ = false := HO0'.out.frozen 0
  have pX0_1 : w0.cell? ⟨w.heap.size, 1, none⟩ = some (v1) := HX0.out.cell 1
  obtain ⟨aY0, qY0, rfl⟩ := owSl_form ho0
  have HO0 := Sec.mk (HO0'.out.set_ 0 (.slice aY0 x.1.length qY0))
  simp only [List.set_cons_zero, List.set_cons_succ] at HO0
  have HX0' := Sec.mk (HX0.out.far (p := ⟨w.heap.size + 2, 0, none⟩) (by simp; try omega) (.slice aY0 x.1.length qY0))
  have HR0' := Sec.mk (HR0.out.far (p := ⟨w.heap.size + 2, 0, none⟩) (by simp; try omega) (.slice aY0 x.1.length qY0))
  have HM0' := Sec.mk (HM0.out.setCell (p := ⟨w.heap.size + 2, 0, none⟩) (fun h => absurd h (by simp; try omega)) (.slice aY0 x.1.length qY0))
  have hMo0 := ((Mod.refl (fun k => k = w.heap.size + 2) w0).setCell (p := ⟨w.heap.size + 2, 0, none⟩) (fun _ => rfl) (.slice aY0 x.1.length qY0))
  have HW0_0 := Sec.mk (ho0.keep hMo0 (fun k h1 h2 h3 => by simp at h1; omega))
  clear ho0 hm0 hMo0
  go_wp2_with fail
  refine (toByteX_v (H1.out.step HM0'.out) (by omega)).mono ?_
  rintro e w1 ⟨y1, rfl, ho1, hm1⟩
  have HM1 := Sec.mk (HM0'.out.transN hm1)
  have hs1 := hm1.size
  simp [World.setCell] at hs1
  have HX1 := Sec.mk (HX0'.out.mod hm1 id)
  have HR1 := Sec.mk (HR0'.out.mod hm1 id)
  have HO1' := Sec.mk (HO0.out.mod hm1 id)
  have HW0_1 := Sec.mk (HW0_0.out.step hm1)
  have hO1 : w1.cell? ⟨w.heap.size + 2, 1, none⟩ = some (.slice none 0 0) := HO1'.out.cell 1
  have hF1 : w1.frozen? ⟨w.heap.size + 2, 1, none⟩ = false := HO1'.out.frozen 1
  have pX1_2 : w1.cell? ⟨w.heap.size, 2, none⟩ = some (.bool x.2.2.1) := HX1.out.cell 2
  have pX1_3 : w1.cell? ⟨w.heap.size, 3, none⟩ = some (.bool x.2.2.2) := HX1.out.cell 3
  have hO2 : w1.cell? ⟨w.heap.size + 2, 2, none⟩ = some (.bool false) := HO1'.out.cell 2
  have hF2 : w1.frozen? ⟨w.heap.size + 2, 2, none⟩ = false := HO1'.out.frozen 2
  have hO3 : w1.cell? ⟨w.heap.size + 2, 3, none⟩ = some (.bool false) := HO1'.out.cell 3
  have hF3 : w1.frozen? ⟨w.heap.size + 2, 3, none⟩ = false := HO1'.out.frozen 3
  obtain ⟨aY1, qY1, rfl⟩ := owSl_form ho1
  have HO1 := Sec.mk (((HO1'.out.set_ 1 (.slice aY1 x.2.1.length qY1)).set_ 2 (.bool x.2.2.1)).set_ 3 (.bool x.2.2.2))
  simp only [List.set_cons_zero, List.set_cons_succ] at HO1
  have HX1' := Sec.mk (((HX1.out.far (p := ⟨w.heap.size + 2, 1, none⟩) (by simp; try omega) (.slice aY1 x.2.1.length qY1)).far (p := ⟨w.heap.size + 2, 2, none⟩) (by simp; try omega) (.bool x.2.2.1)).far (p := ⟨w.heap.size + 2, 3, none⟩) (by simp; try omega) (.bool x.2.2.2))
  have HR1' := Sec.mk (((HR1.out.far (p := ⟨w.heap.size + 2, 1, none⟩) (by simp; try omega) (.slice aY1 x.2.1.length qY1)).far (p := ⟨w.heap.size + 2, 2, none⟩) (by simp; try omega) (.bool x.2.2.1)).far (p := ⟨w.heap.size + 2, 3, none⟩) (by simp; try omega) (.bool x.2.2.2))
  have HM1' := Sec.mk (((HM1.out.setCell (p := ⟨w.heap.size + 2, 1, none⟩) (fun h => absurd h (by simp; try omega)) (.slice aY1 x.2.1.length qY1)).setCell (p := ⟨w.heap.size + 2, 2, none⟩) (fun h => absurd h (by simp; try omega)) (.bool x.2.2.1)).setCell (p := ⟨w.heap.size + 2, 3, none⟩) (fun h => absurd h (by simp; try omega)) (.bool x.2.2.2))
  have hMo1 := ((((Mod.refl (fun k => k = w.heap.size + 2) w1).setCell (p := ⟨w.heap.size + 2, 1, none⟩) (fun _ => rfl) (.slice aY1 x.2.1.length qY1)).setCell (p := ⟨w.heap.size + 2, 2, none⟩) (fun _ => rfl) (.bool x.2.2.1)).setCell (p := ⟨w.heap.size + 2, 3, none⟩) (fun _ => rfl) (.bool x.2.2.2))
  have HW1_1 := Sec.mk (ho1.keep hMo1 (fun k h1 h2 h3 => by simp at h1; omega))
  have HW0_1 := Sec.mk (HW0_1.out.keep hMo1 (fun k h1 h2 h3 => by simp at h1; omega))
  clear ho1 hm1 hMo1
  have tO0 := HO1.out.cell 0
  have tR0 := HR1'.out.cell 0
  have tF0 := HR1'.out.frozen 0
  have tO1 := HO1.out.cell 1
  have tR1 := HR1'.out.cell 1
  have tF1 := HR1'.out.frozen 1
  have tO2 := HO1.out.cell 2
  have tR2 := HR1'.out.cell 2
  have tF2 := HR1'.out.frozen 2
  have tO3 := HO1.out.cell 3
  have tR3 := HR1'.out.cell 3
  have tF3 := HR1'.out.frozen 3
  simp only [List.getElem?_cons_zero, List.getElem?_cons_succ] at tO0 tR0 tO1 tR1 tO2 tR2 tO3 tR3
  skip
  go_wp2
  refine bodyPost_ret (results_blk rfl rfl ((((HR1'.out.set_ 0 (.slice aY0 x.1.length qY0)).set_ 1 (.slice aY1 x.2.1.length qY1)).set_ 2 (.bool x.2.2.1)).set_ 3 (.bool x.2.2.2)) Tryd.underlying40 (by kernel_rfl)) rfl ?_
  have hMr := (((((Mod.refl (fun k => k = w.heap.size + 1) (((w1.setCell ⟨w.heap.size + 2, 1, none⟩ (.slice aY1 x.2.1.length qY1)).setCell ⟨w.heap.size + 2, 2, none⟩ (.bool x.2.2.1)).setCell ⟨w.heap.size + 2, 3, none⟩ (.bool x.2.2.2))).setCell (p := ⟨w.heap.size + 1, 0, none⟩) (fun _ => rfl) (.slice aY0 x.1.length qY0)).setCell (p := ⟨w.heap.size + 1, 1, none⟩) (fun _ => rfl) (.slice aY1 x.2.1.length qY1)).setCell (p := ⟨w.heap.size + 1, 2, none⟩) (fun _ => rfl) (.bool x.2.2.1)).setCell (p := ⟨w.heap.size + 1, 3, none⟩) (fun _ => rfl) (.bool x.2.2.2))
  have z0 := HW0_1.out.keep hMr (fun k h1 h2 h3 => by simp at h1; omega)
  have z1 := HW1_1.out.keep hMr (fun k h1 h2 h3 => by simp at h1; omega)
  obtain ⟨_, _, F0, _, f0, r0⟩ := OwV.slice z0
  obtain ⟨_, _, F1, _, f1, r1⟩ := OwV.slice z1
  refine ⟨_, rfl, ⟨_, _, rfl, mUnit (.inl f0) (.inl f1) ?_, ?_⟩, ((((HM1'.out.setCell (fun h => absurd h (by simp; try omega)) _).setCell (fun h => absurd h (by simp; try omega)) _).setCell (fun h => absurd h (by simp; try omega)) _).setCell (fun h => absurd h (by simp; try omega)) _)⟩
  · exact fun k ha hb => by have a1 := r0 k ha; have b1 := r1 k hb; simp only [sz_set] at a1 b1; omega
  · intro k hk; (try simp only [List.mem_append, List.mem_nil_iff, or_false, false_or] at hk); rcases hk with hk | hk; all_goals (first | (have := r0 k hk; simp at this ⊢; try omega) | (have := r1 k hk; simp at this ⊢; try omega))
end Go.Proofs.YtiaknomadhgckaaDoor

namespace Go.Proofs.YtiaknomadhgckaaDoor
open Go.RowKit Mem
set_option linter.unusedVariables false
theorem ldUnitL {w : World} {g : Nat} {c0 c1 c2 c3 : Value} (h : Blk w g 34 [c0, c1, c2, c3]) : (Instr.loadAt 34 (.pointer (some ⟨g, 0, none⟩))).run Tryd.prog w = .ok (.agg #[c0, c1, c2, c3]) w := by
  have k0 : w.cell? ⟨g, 0, none⟩ = some c0 := h.cell 0
  have k1 : w.cell? ⟨g, 1, none⟩ = some c1 := h.cell 1
  have k2 : w.cell? ⟨g, 2, none⟩ = some c2 := h.cell 2
  have k3 : w.cell? ⟨g, 3, none⟩ = some c3 := h.cell 3
  go_simp
theorem ldUnitI {w : World} {g : Nat} {c0 c1 c2 c3 : Value} (h : Blk w g 40 [c0, c1, c2, c3]) : (Instr.loadAt 40 (.pointer (some ⟨g, 0, none⟩))).run Tryd.prog w = .ok (.agg #[c0, c1, c2, c3]) w := by
  have k0 : w.cell? ⟨g, 0, none⟩ = some c0 := h.cell 0
  have k1 : w.cell? ⟨g, 1, none⟩ = some c1 := h.cell 1
  have k2 : w.cell? ⟨g, 2, none⟩ = some c2 := h.cell 2
  have k3 : w.cell? ⟨g, 3, none⟩ = some c3 := h.cell 3
  go_simp
theorem eqUnit_same {w : World} {v v' : Value} {x : UnitT} (h : RdV true dUnit w v x) (h' : RdV true dUnit w v' x) : Calls Tryd.prog 15 #[v, v'] w (Ret (.bool true) w) := by
  have := eqUnit_v h h'
  rw [show decide (x = x) = true by simp] at this
  exact this
def cntUnitV (x : UnitT) : Nat := cntBX x.1 + cntBX x.2.1
def mkUnitV1 (k : Nat) (x : UnitT) : UnitT := (mkBX1 k x.1, mkBX1 (k + cntBX x.1) x.2.1, x.2.2.1, x.2.2.2)
set_option maxHeartbeats 1000000 in
set_option maxRecDepth 100000 in
theorem markUnit_f {w : World} {F : List Nat} {v : Value} {x : UnitT} (h : OwF true dUnit w F v x) (k : Nat) (hk : k + cntUnitV x ≤ 1152921504606846976) :
    Calls Tryd.prog 16 #[v, .int .i64 k] w (Marks true dUnit w F v (k + cntUnitV x) (mkUnitV1 k x)) := by
  obtain ⟨v0, v1, rfl, -, -⟩ := rdUnit h.rd
  have HLT := Sec.mk h.lt
  have HB := Sec.mk (Blk.new w 40 [v0, v1, .bool x.2.2.1, .bool x.2.2.2])
  have HX := Sec.mk (h.mv (w' := (w.alloc (.cells #[v0, v1, .bool x.2.2.1, .bool x.2.2.2] 40))) fun i hi => Below.heap_alloc _ _ _ (h.lt i hi))
  have HM : Sec (Mod (· ∈ F) w (w.alloc (.cells #[v0, v1, .bool x.2.2.1, .bool x.2.2.2] 40))) := ⟨(Mod.refl _ _).alloc _⟩
  have HF : Sec (∀ i, i ∈ F → i ∈ F) := ⟨fun _ h => h⟩
  have HCN : Sec (cntUnitV x = cntBX x.1 + cntBX x.2.1) := ⟨rfl⟩
  have hcn := HCN.out
  clear h
  go_enter Tryd.func16, Tryd.ntmps16
  obtain ⟨G0, ho0, hG0, hst0⟩ := fldUnit0.lead1 (vi := v0) rfl HX.out
  have HV0 := Sec.mk ho0
  have HG0 := Sec.mk hG0
  have HT0 := Sec.mk hst0
  clear ho0 hG0 hst0
  go_wp2_with fail
  refine Calls.mono (markByteX_i HV0.out _ k ?_ ?_) ?_
  · first | rfl | omega
  · (try dsimp only at hcn ⊢); omega
  rintro e w0 ⟨rfl, ⟨F0, ho0, hF0⟩, hm0⟩
  obtain ⟨G0', ho, hG0'⟩ := HT0.out w0 _ F0 hm0 ho0 hF0
  have HX0 := Sec.mk ho
  have HF0 := Sec.mk (fun i hi => HF.out i (hG0' i hi))
  have HM0 : Sec (Mod (· ∈ F) w w0) := ⟨HM.out.trans hm0 fun i hi _ => HF.out i (HG0.out i hi)⟩
  have HB0 := Sec.mk (HB.out.mod hm0 (fun h => absurd (HLT.out _ (HF.out _ (HG0.out _ h))) (Nat.lt_irrefl _)))
  have p0_1 : w0.cell? ⟨w.heap.size, 1, none⟩ = some v1 := HB0.out.cell 1
  clear ho0 hF0 hm0 ho hG0' HT0 HV0 HG0
  obtain ⟨s0, hs0⟩ : ∃ t, t = k + cntBX x.1 := ⟨_, rfl⟩
  try dsimp only at HX0
  rw [← hs0]
  have HS0 := Sec.mk hs0
  clear hs0
  obtain ⟨G1, ho1, hG1, hst1⟩ := fldUnit1.lead1 (vi := v1) rfl HX0.out
  have HV1 := Sec.mk ho1
  have HG1 := Sec.mk hG1
  have HT1 := Sec.mk hst1
  clear ho1 hG1 hst1
  go_wp2_with fail
  refine Calls.mono (markByteX_i HV1.out _ s0 ?_ ?_) ?_
  · first | rfl | omega
  · have := HS0.out; (try dsimp only at hcn ⊢); omega
  rintro e w1 ⟨rfl, ⟨F1, ho1, hF1⟩, hm1⟩
  obtain ⟨G1', ho, hG1'⟩ := HT1.out w1 _ F1 hm1 ho1 hF1
  have HX1 := Sec.mk ho
  have HF1 := Sec.mk (fun i hi => HF0.out i (hG1' i hi))
  have HM1 : Sec (Mod (· ∈ F) w w1) := ⟨HM0.out.trans hm1 fun i hi _ => HF0.out i (HG1.out i hi)⟩
  have HB1 := Sec.mk (HB0.out.mod hm1 (fun h => absurd (HLT.out _ (HF0.out _ (HG1.out _ h))) (Nat.lt_irrefl _)))
  clear ho1 hF1 hm1 ho hG1' HT1 HV1 HG1
  obtain ⟨s1, hs1⟩ : ∃ t, t = s0 + cntBX x.2.1 := ⟨_, rfl⟩
  try dsimp only at HX1
  rw [← hs1]
  have HS1 := Sec.mk hs1
  clear hs1
  have HFIN : Sec (s1 = k + cntUnitV x) := ⟨by rw [HCN.out]; have := HS0.out; have := HS1.out; omega⟩
  have HEQ : Sec ((mkBX1 k x.1, mkBX1 s0 x.2.1, x.2.2.1, x.2.2.2) = mkUnitV1 k x) := ⟨by have h0 := HS0.out; subst h0; rfl⟩
  try rw [← HFIN.out]
  go_wp2
  go_ret
  exact ⟨by first | rfl | (rw [← HFIN.out]; rfl), ⟨G1', by first | exact HX1.out | (rw [← HEQ.out]; exact HX1.out), HF1.out⟩, HM1.out⟩
theorem markUnit_v {w : World} {lo hi : Nat} {v : Value} {x : UnitT} (h : OwV true dUnit w lo hi v x) (k : Nat) (hk : k + cntUnitV x ≤ 1152921504606846976) :
    Calls Tryd.prog 16 #[v, .int .i64 k] w fun e w' => e = .returned (.int .i64 ((k + cntUnitV x : Nat) : Int)) ∧ OwV true dUnit w' lo hi v (mkUnitV1 k x) ∧ Mod (fun i => lo ≤ i ∧ i < hi) w w' :=
  h.mark fun F hF => markUnit_f hF k hk
end Go.Proofs.YtiaknomadhgckaaDoor

namespace Go.Proofs.YtiaknomadhgckaaDoor
open Go.RowKit Mem
set_option linter.unusedVariables false
def ParseImapL (u : UnitT) : CmdT := imapL u
theorem szU1 {u : UnitT} (hb : szUnit u ≤ 1048576) : u.1.length ≤ 1048576 ∧ u.2.1.length ≤ 1048576 := by
  have h : szBX u.1 + szBX u.2.1 ≤ 1048576 := hb
  have h1 : u.1.length + u.2.1.length ≤ 1048576 := h
  omega
theorem specParseImap_v {w : World} {v : Value} {x : UnitT} (h : RdV true dUnit w v x) (hb : szUnit x ≤ 1048576) : Calls Tryd.prog 11 #[v] w (RetV true dCmd w (ParseImapL x)) := parseImapS_v h (szU1 hb).1 (szU1 hb).2
theorem implParseImap_v {w : World} {v : Value} {x : UnitT} (h : RdV true dUnit w v x) (hb : szUnit x ≤ 1048576) (hE : Names1 w) : Calls Tryd.prog 13 #[v] w (RetV true dCmd w (ParseImapL x)) := parseImapI_v hE h (szU1 hb).1 (szU1 hb).2
theorem cntUnitV_lt {x : UnitT} (h : szUnit x ≤ 1048576) : cntUnitV x ≤ 4194304 := by
  have h1 := szU1 h
  show x.1.length + x.2.1.length ≤ _
  omega
theorem cntP_len (l : List (Int × Int)) : cntPairS l = 2 * l.length := by
  show preS cntPair l l.length = _
  unfold preS
  rw [List.take_length]
  induction l with
  | nil => rfl
  | cons a r ih =>
    have : cntPair a = 2 := rfl
    rw [List.map_cons, List.sum_cons, ih, this, List.length_cons]; omega
theorem cnt_set (k : Int) (t : Bytes) (uid : Bool) (x : Bytes) (n m f : Int) : cntCmd (k, t, 0, uid, (SetB x).2, n, m, f, []) ≤ 100 := by
  have h := SetB_cnt x
  have h2 := cntP_len (SetB x).2
  have h3 : cntCmd (k, t, 0, uid, (SetB x).2, n, m, f, []) = cntPairS (SetB x).2 + 0 := rfl
  omega
theorem cnt_bad (t : Bytes) : cntCmd (badC t) ≤ 100 := by show cntPairS [] + 0 ≤ 100; rw [cntP_len]; decide
theorem cnt_kind (t : Bytes) (k : Int) : cntCmd (kindC t k) ≤ 100 := by show cntPairS [] + 0 ≤ 100; rw [cntP_len]; decide
theorem cnt_fetch (t : Bytes) (u : Bool) (r : Bytes) : cntCmd (fetchC t u r) ≤ 100 := by
  unfold fetchC
  split
  · exact cnt_set _ _ _ _ _ _ _
  · exact cnt_bad t
theorem cnt_store (t : Bytes) (u : Bool) (r : Bytes) : cntCmd (storeC t u r) ≤ 100 := by
  unfold storeC
  split
  · exact cnt_set _ _ _ _ _ _ _
  · exact cnt_bad t
theorem cnt_verb (t : Bytes) (uid : Bool) (u : Bytes) (b : Bool) (r : Bytes) : cntCmd (verbC t uid u b r) ≤ 100 := by
  have h1 := cnt_fetch t uid r
  have h2 := cnt_store t uid r
  have h3 := cnt_bad t
  have h4 := cnt_kind t (plainK u)
  unfold verbC
  generalize fetchC t uid r = x1 at *
  generalize storeC t uid r = x2 at *
  generalize badC t = x3 at *
  generalize kindC t (plainK u) = x4 at *
  repeat' split
  all_goals assumption
theorem cnt_app (t r b : Bytes) : cntCmd (appC t r b) ≤ 100 + b.length := by
  have hb := cnt_bad t
  have hn : ∀ f : Int, cntCmd (12, t, 0, false, [], 0, 0, f, b) = cntPairS [] + b.length := fun _ => rfl
  have h0 := cntP_len []
  have h00 : ([] : List (Int × Int)).length = 0 := rfl
  unfold appC appT
  repeat' split
  all_goals (try have := hn 0)
  · omega
  · rw [hn]; omega
  · omega
  · omega
theorem ParseImap_cnt (x : UnitT) (hb : szUnit x ≤ 1048576) : cntCmd (ParseImapL x) ≤ 2097152 := by
  have h1 := szU1 hb
  unfold ParseImapL imapL
  split
  · exact Nat.le_trans (cnt_bad [42]) (by decide)
  split
  · have := cnt_app (cutL 32 x.1).1 (cutL 32 x.1).2.1 x.2.1; omega
  · refine Nat.le_trans (show _ ≤ 100 from ?_) (by decide)
    unfold restC
    split
    · exact cnt_verb _ _ _ _ _
    · exact cnt_verb _ _ _ _ _
end Go.Proofs.YtiaknomadhgckaaDoor

namespace Go.Proofs.YtiaknomadhgckaaDoor
open Mem
set_option linter.unusedVariables false
theorem opens_bxL : Opens Tryd.prog dBX 32 := by
  have h : Opens Tryd.prog dBS 32 := Opens.slice Tryd.underlying32 (by kernel_rfl) opens_byte
  exact ⟨h.1, h.2.1, h.2.2⟩
theorem opens_boolL : Opens Tryd.prog Ty.bool 4 := Opens.bool Tryd.underlying4 (by kernel_rfl)
theorem opens_unitL : Opens Tryd.prog dUnit 34 := Opens.struct (fs := [_, _, _, _]) Tryd.underlying34 (by kernel_rfl) (OpensF.cons rfl opens_bxL (OpensF.cons rfl opens_bxL (OpensF.cons rfl opens_boolL (OpensF.last rfl opens_boolL))))
end Go.Proofs.YtiaknomadhgckaaDoor

namespace Go.Proofs.YtiaknomadhgckaaDoor
open Go.RowKit Mem
set_option linter.unusedVariables false
set_option synthInstance.maxSize 2000
set_option maxHeartbeats 4000000 in
set_option maxRecDepth 100000 in
theorem lawFnExactParseImap_walk {w : World} (hE : Names1 w) {vU : Value} {xU : UnitT} (haU : RdV true dUnit w vU xU) :
    Calls Tryd.prog 4 #[vU] w (Ret (.bool true) w) := by
  have HENV := Sec.mk hE
  clear hE
  have HRaU := Sec.mk haU
  clear haU
  obtain ⟨caU_0, caU_1, caU_2, caU_3, rfl⟩ := cellsUnit HRaU.out
  by_cases hsz0 : ((szUnit xU : Nat) : Int) ≤ 1048576
  rotate_left
  · have hif : Sec ((if (1048576 : Int) < ((szUnit xU : Nat) : Int) then (-1 : Int) else 1048576 - ((szUnit xU : Nat) : Int)) = -1) := ⟨if_pos (by omega)⟩
    go_enter Tryd.func4, Tryd.ntmps4
    have HM0 := Sec.mk ((Mod.refl (fun _ => False) w).alloc (.cells #[.slice caU_0 xU.1.length caU_1, .slice caU_2 xU.2.1.length caU_3, .bool xU.2.2.1, .bool xU.2.2.2] 34))
    have HBK_aU := Sec.mk (Blk.new w 34 [.slice caU_0 xU.1.length caU_1, .slice caU_2 xU.2.1.length caU_3, .bool xU.2.2.1, .bool xU.2.2.2])
    have hz0 : ((w.alloc (.cells #[.slice caU_0 xU.1.length caU_1, .slice caU_2 xU.2.1.length caU_3, .bool xU.2.2.1, .bool xU.2.2.2] 34))).heap.size = w.heap.size + 1 := by simp
    have kaU_0 : ((w.alloc (.cells #[.slice caU_0 xU.1.length caU_1, .slice caU_2 xU.2.1.length caU_3, .bool xU.2.2.1, .bool xU.2.2.2] 34))).cell? ⟨w.heap.size, 0, none⟩ = some (.slice caU_0 xU.1.length caU_1) := HBK_aU.out.cell 0
    have kaU_1 : ((w.alloc (.cells #[.slice caU_0 xU.1.length caU_1, .slice caU_2 xU.2.1.length caU_3, .bool xU.2.2.1, .bool xU.2.2.2] 34))).cell? ⟨w.heap.size, 1, none⟩ = some (.slice caU_2 xU.2.1.length caU_3) := HBK_aU.out.cell 1
    have kaU_2 : ((w.alloc (.cells #[.slice caU_0 xU.1.length caU_1, .slice caU_2 xU.2.1.length caU_3, .bool xU.2.2.1, .bool xU.2.2.2] 34))).cell? ⟨w.heap.size, 2, none⟩ = some (.bool xU.2.2.1) := HBK_aU.out.cell 2
    have kaU_3 : ((w.alloc (.cells #[.slice caU_0 xU.1.length caU_1, .slice caU_2 xU.2.1.length caU_3, .bool xU.2.2.1, .bool xU.2.2.2] 34))).cell? ⟨w.heap.size, 3, none⟩ = some (.bool xU.2.2.2) := HBK_aU.out.cell 3
    go_wp2_with fail
    refine (szUnit_v (HRaU.out.step HM0.out) (1048576) (by omega) (by omega)).mono ?_
    rintro e w1 ⟨rfl, hm1⟩
    rw [hif.out]
    clear kaU_0 kaU_1 kaU_2 kaU_3
    have HBK1_aU := Sec.mk (HBK_aU.out.mod hm1 id)
    clear HBK_aU
    have HM1 := Sec.mk (HM0.out.transN hm1)
    clear HM0
    have hs1 := hm1.size
    clear hm1
    have kaU_0 : (w1).cell? ⟨w.heap.size, 0, none⟩ = some (.slice caU_0 xU.1.length caU_1) := HBK1_aU.out.cell 0
    have kaU_1 : (w1).cell? ⟨w.heap.size, 1, none⟩ = some (.slice caU_2 xU.2.1.length caU_3) := HBK1_aU.out.cell 1
    have kaU_2 : (w1).cell? ⟨w.heap.size, 2, none⟩ = some (.bool xU.2.2.1) := HBK1_aU.out.cell 2
    have kaU_3 : (w1).cell? ⟨w.heap.size, 3, none⟩ = some (.bool xU.2.2.2) := HBK1_aU.out.cell 3
    go_wp2
    go_ret
    exact ⟨by simp, HM1.out⟩
  have hif0 : Sec ((if (1048576 : Int) < ((szUnit xU : Nat) : Int) then (-1 : Int) else 1048576 - ((szUnit xU : Nat) : Int)) = 1048576 - ((szUnit xU : Nat) : Int)) := ⟨if_neg (by omega)⟩
  have hb0 : szUnit xU ≤ 1048576 := by omega
  have hc0 := cntUnitV_lt hb0
  have hlf0 : ¬ (1048576 - ((szUnit xU : Nat) : Int) < 0) := by omega
  have hcr := ParseImap_cnt (xU) hb0
  generalize hFN : ParseImapL xU = r at *
  have HFN := Sec.mk hFN
  clear hFN
  go_enter Tryd.func4, Tryd.ntmps4
  have HM0 := Sec.mk ((Mod.refl (fun _ => False) w).alloc (.cells #[.slice caU_0 xU.1.length caU_1, .slice caU_2 xU.2.1.length caU_3, .bool xU.2.2.1, .bool xU.2.2.2] 34))
  have HBK_aU := Sec.mk (Blk.new w 34 [.slice caU_0 xU.1.length caU_1, .slice caU_2 xU.2.1.length caU_3, .bool xU.2.2.1, .bool xU.2.2.2])
  have hz0 : ((w.alloc (.cells #[.slice caU_0 xU.1.length caU_1, .slice caU_2 xU.2.1.length caU_3, .bool xU.2.2.1, .bool xU.2.2.2] 34))).heap.size = w.heap.size + 1 := by simp
  have kaU_0 : ((w.alloc (.cells #[.slice caU_0 xU.1.length caU_1, .slice caU_2 xU.2.1.length caU_3, .bool xU.2.2.1, .bool xU.2.2.2] 34))).cell? ⟨w.heap.size, 0, none⟩ = some (.slice caU_0 xU.1.length caU_1) := HBK_aU.out.cell 0
  have kaU_1 : ((w.alloc (.cells #[.slice caU_0 xU.1.length caU_1, .slice caU_2 xU.2.1.length caU_3, .bool xU.2.2.1, .bool xU.2.2.2] 34))).cell? ⟨w.heap.size, 1, none⟩ = some (.slice caU_2 xU.2.1.length caU_3) := HBK_aU.out.cell 1
  have kaU_2 : ((w.alloc (.cells #[.slice caU_0 xU.1.length caU_1, .slice caU_2 xU.2.1.length caU_3, .bool xU.2.2.1, .bool xU.2.2.2] 34))).cell? ⟨w.heap.size, 2, none⟩ = some (.bool xU.2.2.1) := HBK_aU.out.cell 2
  have kaU_3 : ((w.alloc (.cells #[.slice caU_0 xU.1.length caU_1, .slice caU_2 xU.2.1.length caU_3, .bool xU.2.2.1, .bool xU.2.2.2] 34))).cell? ⟨w.heap.size, 3, none⟩ = some (.bool xU.2.2.2) := HBK_aU.out.cell 3
  go_wp2_with fail
  refine (szUnit_v (HRaU.out.step HM0.out) (1048576) (by omega) (by omega)).mono ?_
  rintro e w1 ⟨rfl, hm1⟩
  rw [hif0.out]
  clear kaU_0 kaU_1 kaU_2 kaU_3
  have HBK1_aU := Sec.mk (HBK_aU.out.mod hm1 id)
  clear HBK_aU
  have HM1 := Sec.mk (HM0.out.transN hm1)
  clear HM0
  have hs1 := hm1.size
  clear hm1
  have kaU_0 : (w1).cell? ⟨w.heap.size, 0, none⟩ = some (.slice caU_0 xU.1.length caU_1) := HBK1_aU.out.cell 0
  have kaU_1 : (w1).cell? ⟨w.heap.size, 1, none⟩ = some (.slice caU_2 xU.2.1.length caU_3) := HBK1_aU.out.cell 1
  have kaU_2 : (w1).cell? ⟨w.heap.size, 2, none⟩ = some (.bool xU.2.2.1) := HBK1_aU.out.cell 2
  have kaU_3 : (w1).cell? ⟨w.heap.size, 3, none⟩ = some (.bool xU.2.2.2) := HBK1_aU.out.cell 3
  go_wp2_with fail
  refine (toUnit_v (HRaU.out.step HM1.out) hb0).mono ?_
  rintro e w2 ⟨v2, rfl, ho2, hm2⟩
  clear kaU_0 kaU_1 kaU_2 kaU_3
  have HBK2_aU := Sec.mk (HBK1_aU.out.mod hm2 id)
  clear HBK1_aU
  have HM2 := Sec.mk (HM1.out.transN hm2)
  clear HM1
  have hs2 := hm2.size
  clear hm2
  have kaU_0 : (w2).cell? ⟨w.heap.size, 0, none⟩ = some (.slice caU_0 xU.1.length caU_1) := HBK2_aU.out.cell 0
  have kaU_1 : (w2).cell? ⟨w.heap.size, 1, none⟩ = some (.slice caU_2 xU.2.1.length caU_3) := HBK2_aU.out.cell 1
  have kaU_2 : (w2).cell? ⟨w.heap.size, 2, none⟩ = some (.bool xU.2.2.1) := HBK2_aU.out.cell 2
  have kaU_3 : (w2).cell? ⟨w.heap.size, 3, none⟩ = some (.bool xU.2.2.2) := HBK2_aU.out.cell 3
  have TUW0_2 := Sec.mk ho2
  clear ho2
  go_wp2_with fail
  refine (specParseImap_v TUW0_2.out.rd hb0).mono ?_
  rw [HFN.out]
  rintro e w3 ⟨v3, rfl, ho3, hm3⟩
  clear kaU_0 kaU_1 kaU_2 kaU_3
  have HBK3_aU := Sec.mk (HBK2_aU.out.mod hm3 id)
  clear HBK2_aU
  have TUW0_3 := Sec.mk (TUW0_2.out.step hm3)
  clear TUW0_2
  have HM3 := Sec.mk (HM2.out.transN hm3)
  clear HM2
  have hs3 := hm3.size
  clear hm3
  have kaU_0 : (w3).cell? ⟨w.heap.size, 0, none⟩ = some (.slice caU_0 xU.1.length caU_1) := HBK3_aU.out.cell 0
  have kaU_1 : (w3).cell? ⟨w.heap.size, 1, none⟩ = some (.slice caU_2 xU.2.1.length caU_3) := HBK3_aU.out.cell 1
  have kaU_2 : (w3).cell? ⟨w.heap.size, 2, none⟩ = some (.bool xU.2.2.1) := HBK3_aU.out.cell 2
  have kaU_3 : (w3).cell? ⟨w.heap.size, 3, none⟩ = some (.bool xU.2.2.2) := HBK3_aU.out.cell 3
  have W0_3 := Sec.mk ho3
  clear ho3
  obtain ⟨cw0_0, cw0_1, cw0_2, cw0_3, rfl⟩ := cellsCmd W0_3.out.rd
  have hma3 := ((Mod.refl (fun _ => False) w3).alloc (.cells #[.int .i64 r.1, .string ⟨(r.2.1).toArray⟩, .int .u32 r.2.2.1, .bool r.2.2.2.1, .slice cw0_0 r.2.2.2.2.1.length cw0_1, .int .i64 r.2.2.2.2.2.1, .int .i64 r.2.2.2.2.2.2.1, .int .u32 r.2.2.2.2.2.2.2.1, .slice cw0_2 r.2.2.2.2.2.2.2.2.length cw0_3] 38))
  clear kaU_0 kaU_1 kaU_2 kaU_3
  have HBK4_aU := Sec.mk (HBK3_aU.out.mod hma3 id)
  clear HBK3_aU
  have TUW0_4 := Sec.mk (TUW0_3.out.step hma3)
  clear TUW0_3
  have W0_4 := Sec.mk (W0_3.out.step hma3)
  clear W0_3
  have HM4 := Sec.mk (HM3.out.transN hma3)
  clear HM3
  have hs4 := hma3.size
  clear hma3
  have kaU_0 : (w3.alloc (.cells #[.int .i64 r.1, .string ⟨(r.2.1).toArray⟩, .int .u32 r.2.2.1, .bool r.2.2.2.1, .slice cw0_0 r.2.2.2.2.1.length cw0_1, .int .i64 r.2.2.2.2.2.1, .int .i64 r.2.2.2.2.2.2.1, .int .u32 r.2.2.2.2.2.2.2.1, .slice cw0_2 r.2.2.2.2.2.2.2.2.length cw0_3] 38)).cell? ⟨w.heap.size, 0, none⟩ = some (.slice caU_0 xU.1.length caU_1) := HBK4_aU.out.cell 0
  have kaU_1 : (w3.alloc (.cells #[.int .i64 r.1, .string ⟨(r.2.1).toArray⟩, .int .u32 r.2.2.1, .bool r.2.2.2.1, .slice cw0_0 r.2.2.2.2.1.length cw0_1, .int .i64 r.2.2.2.2.2.1, .int .i64 r.2.2.2.2.2.2.1, .int .u32 r.2.2.2.2.2.2.2.1, .slice cw0_2 r.2.2.2.2.2.2.2.2.length cw0_3] 38)).cell? ⟨w.heap.size, 1, none⟩ = some (.slice caU_2 xU.2.1.length caU_3) := HBK4_aU.out.cell 1
  have kaU_2 : (w3.alloc (.cells #[.int .i64 r.1, .string ⟨(r.2.1).toArray⟩, .int .u32 r.2.2.1, .bool r.2.2.2.1, .slice cw0_0 r.2.2.2.2.1.length cw0_1, .int .i64 r.2.2.2.2.2.1, .int .i64 r.2.2.2.2.2.2.1, .int .u32 r.2.2.2.2.2.2.2.1, .slice cw0_2 r.2.2.2.2.2.2.2.2.length cw0_3] 38)).cell? ⟨w.heap.size, 2, none⟩ = some (.bool xU.2.2.1) := HBK4_aU.out.cell 2
  have kaU_3 : (w3.alloc (.cells #[.int .i64 r.1, .string ⟨(r.2.1).toArray⟩, .int .u32 r.2.2.1, .bool r.2.2.2.1, .slice cw0_0 r.2.2.2.2.1.length cw0_1, .int .i64 r.2.2.2.2.2.1, .int .i64 r.2.2.2.2.2.2.1, .int .u32 r.2.2.2.2.2.2.2.1, .slice cw0_2 r.2.2.2.2.2.2.2.2.length cw0_3] 38)).cell? ⟨w.heap.size, 3, none⟩ = some (.bool xU.2.2.2) := HBK4_aU.out.cell 3
  have HBK_w0 := Sec.mk (Blk.new w3 38 [.int .i64 r.1, .string ⟨(r.2.1).toArray⟩, .int .u32 r.2.2.1, .bool r.2.2.2.1, .slice cw0_0 r.2.2.2.2.1.length cw0_1, .int .i64 r.2.2.2.2.2.1, .int .i64 r.2.2.2.2.2.2.1, .int .u32 r.2.2.2.2.2.2.2.1, .slice cw0_2 r.2.2.2.2.2.2.2.2.length cw0_3])
  have hz3 : (w3.alloc (.cells #[.int .i64 r.1, .string ⟨(r.2.1).toArray⟩, .int .u32 r.2.2.1, .bool r.2.2.2.1, .slice cw0_0 r.2.2.2.2.1.length cw0_1, .int .i64 r.2.2.2.2.2.1, .int .i64 r.2.2.2.2.2.2.1, .int .u32 r.2.2.2.2.2.2.2.1, .slice cw0_2 r.2.2.2.2.2.2.2.2.length cw0_3] 38)).heap.size = w3.heap.size + 1 := by simp
  clear kaU_0 kaU_1 kaU_2 kaU_3
  have kaU_0 : (w3.alloc (.cells #[.int .i64 r.1, .string ⟨(r.2.1).toArray⟩, .int .u32 r.2.2.1, .bool r.2.2.2.1, .slice cw0_0 r.2.2.2.2.1.length cw0_1, .int .i64 r.2.2.2.2.2.1, .int .i64 r.2.2.2.2.2.2.1, .int .u32 r.2.2.2.2.2.2.2.1, .slice cw0_2 r.2.2.2.2.2.2.2.2.length cw0_3] 38)).cell? ⟨w.heap.size, 0, none⟩ = some (.slice caU_0 xU.1.length caU_1) := HBK4_aU.out.cell 0
  have kaU_1 : (w3.alloc (.cells #[.int .i64 r.1, .string ⟨(r.2.1).toArray⟩, .int .u32 r.2.2.1, .bool r.2.2.2.1, .slice cw0_0 r.2.2.2.2.1.length cw0_1, .int .i64 r.2.2.2.2.2.1, .int .i64 r.2.2.2.2.2.2.1, .int .u32 r.2.2.2.2.2.2.2.1, .slice cw0_2 r.2.2.2.2.2.2.2.2.length cw0_3] 38)).cell? ⟨w.heap.size, 1, none⟩ = some (.slice caU_2 xU.2.1.length caU_3) := HBK4_aU.out.cell 1
  have kaU_2 : (w3.alloc (.cells #[.int .i64 r.1, .string ⟨(r.2.1).toArray⟩, .int .u32 r.2.2.1, .bool r.2.2.2.1, .slice cw0_0 r.2.2.2.2.1.length cw0_1, .int .i64 r.2.2.2.2.2.1, .int .i64 r.2.2.2.2.2.2.1, .int .u32 r.2.2.2.2.2.2.2.1, .slice cw0_2 r.2.2.2.2.2.2.2.2.length cw0_3] 38)).cell? ⟨w.heap.size, 2, none⟩ = some (.bool xU.2.2.1) := HBK4_aU.out.cell 2
  have kaU_3 : (w3.alloc (.cells #[.int .i64 r.1, .string ⟨(r.2.1).toArray⟩, .int .u32 r.2.2.1, .bool r.2.2.2.1, .slice cw0_0 r.2.2.2.2.1.length cw0_1, .int .i64 r.2.2.2.2.2.1, .int .i64 r.2.2.2.2.2.2.1, .int .u32 r.2.2.2.2.2.2.2.1, .slice cw0_2 r.2.2.2.2.2.2.2.2.length cw0_3] 38)).cell? ⟨w.heap.size, 3, none⟩ = some (.bool xU.2.2.2) := HBK4_aU.out.cell 3
  have kw0_0 : (w3.alloc (.cells #[.int .i64 r.1, .string ⟨(r.2.1).toArray⟩, .int .u32 r.2.2.1, .bool r.2.2.2.1, .slice cw0_0 r.2.2.2.2.1.length cw0_1, .int .i64 r.2.2.2.2.2.1, .int .i64 r.2.2.2.2.2.2.1, .int .u32 r.2.2.2.2.2.2.2.1, .slice cw0_2 r.2.2.2.2.2.2.2.2.length cw0_3] 38)).cell? ⟨w3.heap.size, 0, none⟩ = some (.int .i64 r.1) := HBK_w0.out.cell 0
  have kw0_1 : (w3.alloc (.cells #[.int .i64 r.1, .string ⟨(r.2.1).toArray⟩, .int .u32 r.2.2.1, .bool r.2.2.2.1, .slice cw0_0 r.2.2.2.2.1.length cw0_1, .int .i64 r.2.2.2.2.2.1, .int .i64 r.2.2.2.2.2.2.1, .int .u32 r.2.2.2.2.2.2.2.1, .slice cw0_2 r.2.2.2.2.2.2.2.2.length cw0_3] 38)).cell? ⟨w3.heap.size, 1, none⟩ = some (.string ⟨(r.2.1).toArray⟩) := HBK_w0.out.cell 1
  have kw0_2 : (w3.alloc (.cells #[.int .i64 r.1, .string ⟨(r.2.1).toArray⟩, .int .u32 r.2.2.1, .bool r.2.2.2.1, .slice cw0_0 r.2.2.2.2.1.length cw0_1, .int .i64 r.2.2.2.2.2.1, .int .i64 r.2.2.2.2.2.2.1, .int .u32 r.2.2.2.2.2.2.2.1, .slice cw0_2 r.2.2.2.2.2.2.2.2.length cw0_3] 38)).cell? ⟨w3.heap.size, 2, none⟩ = some (.int .u32 r.2.2.1) := HBK_w0.out.cell 2
  have kw0_3 : (w3.alloc (.cells #[.int .i64 r.1, .string ⟨(r.2.1).toArray⟩, .int .u32 r.2.2.1, .bool r.2.2.2.1, .slice cw0_0 r.2.2.2.2.1.length cw0_1, .int .i64 r.2.2.2.2.2.1, .int .i64 r.2.2.2.2.2.2.1, .int .u32 r.2.2.2.2.2.2.2.1, .slice cw0_2 r.2.2.2.2.2.2.2.2.length cw0_3] 38)).cell? ⟨w3.heap.size, 3, none⟩ = some (.bool r.2.2.2.1) := HBK_w0.out.cell 3
  have kw0_4 : (w3.alloc (.cells #[.int .i64 r.1, .string ⟨(r.2.1).toArray⟩, .int .u32 r.2.2.1, .bool r.2.2.2.1, .slice cw0_0 r.2.2.2.2.1.length cw0_1, .int .i64 r.2.2.2.2.2.1, .int .i64 r.2.2.2.2.2.2.1, .int .u32 r.2.2.2.2.2.2.2.1, .slice cw0_2 r.2.2.2.2.2.2.2.2.length cw0_3] 38)).cell? ⟨w3.heap.size, 4, none⟩ = some (.slice cw0_0 r.2.2.2.2.1.length cw0_1) := HBK_w0.out.cell 4
  have kw0_5 : (w3.alloc (.cells #[.int .i64 r.1, .string ⟨(r.2.1).toArray⟩, .int .u32 r.2.2.1, .bool r.2.2.2.1, .slice cw0_0 r.2.2.2.2.1.length cw0_1, .int .i64 r.2.2.2.2.2.1, .int .i64 r.2.2.2.2.2.2.1, .int .u32 r.2.2.2.2.2.2.2.1, .slice cw0_2 r.2.2.2.2.2.2.2.2.length cw0_3] 38)).cell? ⟨w3.heap.size, 5, none⟩ = some (.int .i64 r.2.2.2.2.2.1) := HBK_w0.out.cell 5
  have kw0_6 : (w3.alloc (.cells #[.int .i64 r.1, .string ⟨(r.2.1).toArray⟩, .int .u32 r.2.2.1, .bool r.2.2.2.1, .slice cw0_0 r.2.2.2.2.1.length cw0_1, .int .i64 r.2.2.2.2.2.1, .int .i64 r.2.2.2.2.2.2.1, .int .u32 r.2.2.2.2.2.2.2.1, .slice cw0_2 r.2.2.2.2.2.2.2.2.length cw0_3] 38)).cell? ⟨w3.heap.size, 6, none⟩ = some (.int .i64 r.2.2.2.2.2.2.1) := HBK_w0.out.cell 6
  have kw0_7 : (w3.alloc (.cells #[.int .i64 r.1, .string ⟨(r.2.1).toArray⟩, .int .u32 r.2.2.1, .bool r.2.2.2.1, .slice cw0_0 r.2.2.2.2.1.length cw0_1, .int .i64 r.2.2.2.2.2.1, .int .i64 r.2.2.2.2.2.2.1, .int .u32 r.2.2.2.2.2.2.2.1, .slice cw0_2 r.2.2.2.2.2.2.2.2.length cw0_3] 38)).cell? ⟨w3.heap.size, 7, none⟩ = some (.int .u32 r.2.2.2.2.2.2.2.1) := HBK_w0.out.cell 7
  have kw0_8 : (w3.alloc (.cells #[.int .i64 r.1, .string ⟨(r.2.1).toArray⟩, .int .u32 r.2.2.1, .bool r.2.2.2.1, .slice cw0_0 r.2.2.2.2.1.length cw0_1, .int .i64 r.2.2.2.2.2.1, .int .i64 r.2.2.2.2.2.2.1, .int .u32 r.2.2.2.2.2.2.2.1, .slice cw0_2 r.2.2.2.2.2.2.2.2.length cw0_3] 38)).cell? ⟨w3.heap.size, 8, none⟩ = some (.slice cw0_2 r.2.2.2.2.2.2.2.2.length cw0_3) := HBK_w0.out.cell 8
  clear TUW0_4
  go_wp2_with fail
  refine (toUnit_v (HRaU.out.step HM4.out) hb0).mono ?_
  rintro e w5 ⟨v5, rfl, ho5, hm5⟩
  clear kaU_0 kaU_1 kaU_2 kaU_3
  clear kw0_0 kw0_1 kw0_2 kw0_3 kw0_4 kw0_5 kw0_6 kw0_7 kw0_8
  have HBK5_aU := Sec.mk (HBK4_aU.out.mod hm5 id)
  clear HBK4_aU
  have HBK5_w0 := Sec.mk (HBK_w0.out.mod hm5 id)
  clear HBK_w0
  have W0_5 := Sec.mk (W0_4.out.step hm5)
  clear W0_4
  have HM5 := Sec.mk (HM4.out.transN hm5)
  clear HM4
  have hs5 := hm5.size
  clear hm5
  have kaU_0 : (w5).cell? ⟨w.heap.size, 0, none⟩ = some (.slice caU_0 xU.1.length caU_1) := HBK5_aU.out.cell 0
  have kaU_1 : (w5).cell? ⟨w.heap.size, 1, none⟩ = some (.slice caU_2 xU.2.1.length caU_3) := HBK5_aU.out.cell 1
  have kaU_2 : (w5).cell? ⟨w.heap.size, 2, none⟩ = some (.bool xU.2.2.1) := HBK5_aU.out.cell 2
  have kaU_3 : (w5).cell? ⟨w.heap.size, 3, none⟩ = some (.bool xU.2.2.2) := HBK5_aU.out.cell 3
  have kw0_0 : (w5).cell? ⟨w3.heap.size, 0, none⟩ = some (.int .i64 r.1) := HBK5_w0.out.cell 0
  have kw0_1 : (w5).cell? ⟨w3.heap.size, 1, none⟩ = some (.string ⟨(r.2.1).toArray⟩) := HBK5_w0.out.cell 1
  have kw0_2 : (w5).cell? ⟨w3.heap.size, 2, none⟩ = some (.int .u32 r.2.2.1) := HBK5_w0.out.cell 2
  have kw0_3 : (w5).cell? ⟨w3.heap.size, 3, none⟩ = some (.bool r.2.2.2.1) := HBK5_w0.out.cell 3
  have kw0_4 : (w5).cell? ⟨w3.heap.size, 4, none⟩ = some (.slice cw0_0 r.2.2.2.2.1.length cw0_1) := HBK5_w0.out.cell 4
  have kw0_5 : (w5).cell? ⟨w3.heap.size, 5, none⟩ = some (.int .i64 r.2.2.2.2.2.1) := HBK5_w0.out.cell 5
  have kw0_6 : (w5).cell? ⟨w3.heap.size, 6, none⟩ = some (.int .i64 r.2.2.2.2.2.2.1) := HBK5_w0.out.cell 6
  have kw0_7 : (w5).cell? ⟨w3.heap.size, 7, none⟩ = some (.int .u32 r.2.2.2.2.2.2.2.1) := HBK5_w0.out.cell 7
  have kw0_8 : (w5).cell? ⟨w3.heap.size, 8, none⟩ = some (.slice cw0_2 r.2.2.2.2.2.2.2.2.length cw0_3) := HBK5_w0.out.cell 8
  have X0_5 := Sec.mk ho5
  clear ho5
  obtain ⟨cx0_0, cx0_1, cx0_2, cx0_3, rfl⟩ := cellsUnit X0_5.out.rd
  have hma5 := ((Mod.refl (fun _ => False) w5).alloc (.cells #[.slice cx0_0 xU.1.length cx0_1, .slice cx0_2 xU.2.1.length cx0_3, .bool xU.2.2.1, .bool xU.2.2.2] 40))
  clear kaU_0 kaU_1 kaU_2 kaU_3
  clear kw0_0 kw0_1 kw0_2 kw0_3 kw0_4 kw0_5 kw0_6 kw0_7 kw0_8
  have HBK6_aU := Sec.mk (HBK5_aU.out.mod hma5 id)
  clear HBK5_aU
  have HBK6_w0 := Sec.mk (HBK5_w0.out.mod hma5 id)
  clear HBK5_w0
  have W0_6 := Sec.mk (W0_5.out.step hma5)
  clear W0_5
  have X0_6 := Sec.mk (X0_5.out.step hma5)
  clear X0_5
  have HM6 := Sec.mk (HM5.out.transN hma5)
  clear HM5
  have hs6 := hma5.size
  clear hma5
  have kaU_0 : (w5.alloc (.cells #[.slice cx0_0 xU.1.length cx0_1, .slice cx0_2 xU.2.1.length cx0_3, .bool xU.2.2.1, .bool xU.2.2.2] 40)).cell? ⟨w.heap.size, 0, none⟩ = some (.slice caU_0 xU.1.length caU_1) := HBK6_aU.out.cell 0
  have kaU_1 : (w5.alloc (.cells #[.slice cx0_0 xU.1.length cx0_1, .slice cx0_2 xU.2.1.length cx0_3, .bool xU.2.2.1, .bool xU.2.2.2] 40)).cell? ⟨w.heap.size, 1, none⟩ = some (.slice caU_2 xU.2.1.length caU_3) := HBK6_aU.out.cell 1
  have kaU_2 : (w5.alloc (.cells #[.slice cx0_0 xU.1.length cx0_1, .slice cx0_2 xU.2.1.length cx0_3, .bool xU.2.2.1, .bool xU.2.2.2] 40)).cell? ⟨w.heap.size, 2, none⟩ = some (.bool xU.2.2.1) := HBK6_aU.out.cell 2
  have kaU_3 : (w5.alloc (.cells #[.slice cx0_0 xU.1.length cx0_1, .slice cx0_2 xU.2.1.length cx0_3, .bool xU.2.2.1, .bool xU.2.2.2] 40)).cell? ⟨w.heap.size, 3, none⟩ = some (.bool xU.2.2.2) := HBK6_aU.out.cell 3
  have kw0_0 : (w5.alloc (.cells #[.slice cx0_0 xU.1.length cx0_1, .slice cx0_2 xU.2.1.length cx0_3, .bool xU.2.2.1, .bool xU.2.2.2] 40)).cell? ⟨w3.heap.size, 0, none⟩ = some (.int .i64 r.1) := HBK6_w0.out.cell 0
  have kw0_1 : (w5.alloc (.cells #[.slice cx0_0 xU.1.length cx0_1, .slice cx0_2 xU.2.1.length cx0_3, .bool xU.2.2.1, .bool xU.2.2.2] 40)).cell? ⟨w3.heap.size, 1, none⟩ = some (.string ⟨(r.2.1).toArray⟩) := HBK6_w0.out.cell 1
  have kw0_2 : (w5.alloc (.cells #[.slice cx0_0 xU.1.length cx0_1, .slice cx0_2 xU.2.1.length cx0_3, .bool xU.2.2.1, .bool xU.2.2.2] 40)).cell? ⟨w3.heap.size, 2, none⟩ = some (.int .u32 r.2.2.1) := HBK6_w0.out.cell 2
  have kw0_3 : (w5.alloc (.cells #[.slice cx0_0 xU.1.length cx0_1, .slice cx0_2 xU.2.1.length cx0_3, .bool xU.2.2.1, .bool xU.2.2.2] 40)).cell? ⟨w3.heap.size, 3, none⟩ = some (.bool r.2.2.2.1) := HBK6_w0.out.cell 3
  have kw0_4 : (w5.alloc (.cells #[.slice cx0_0 xU.1.length cx0_1, .slice cx0_2 xU.2.1.length cx0_3, .bool xU.2.2.1, .bool xU.2.2.2] 40)).cell? ⟨w3.heap.size, 4, none⟩ = some (.slice cw0_0 r.2.2.2.2.1.length cw0_1) := HBK6_w0.out.cell 4
  have kw0_5 : (w5.alloc (.cells #[.slice cx0_0 xU.1.length cx0_1, .slice cx0_2 xU.2.1.length cx0_3, .bool xU.2.2.1, .bool xU.2.2.2] 40)).cell? ⟨w3.heap.size, 5, none⟩ = some (.int .i64 r.2.2.2.2.2.1) := HBK6_w0.out.cell 5
  have kw0_6 : (w5.alloc (.cells #[.slice cx0_0 xU.1.length cx0_1, .slice cx0_2 xU.2.1.length cx0_3, .bool xU.2.2.1, .bool xU.2.2.2] 40)).cell? ⟨w3.heap.size, 6, none⟩ = some (.int .i64 r.2.2.2.2.2.2.1) := HBK6_w0.out.cell 6
  have kw0_7 : (w5.alloc (.cells #[.slice cx0_0 xU.1.length cx0_1, .slice cx0_2 xU.2.1.length cx0_3, .bool xU.2.2.1, .bool xU.2.2.2] 40)).cell? ⟨w3.heap.size, 7, none⟩ = some (.int .u32 r.2.2.2.2.2.2.2.1) := HBK6_w0.out.cell 7
  have kw0_8 : (w5.alloc (.cells #[.slice cx0_0 xU.1.length cx0_1, .slice cx0_2 xU.2.1.length cx0_3, .bool xU.2.2.1, .bool xU.2.2.2] 40)).cell? ⟨w3.heap.size, 8, none⟩ = some (.slice cw0_2 r.2.2.2.2.2.2.2.2.length cw0_3) := HBK6_w0.out.cell 8
  have HBK_x0 := Sec.mk (Blk.new w5 40 [.slice cx0_0 xU.1.length cx0_1, .slice cx0_2 xU.2.1.length cx0_3, .bool xU.2.2.1, .bool xU.2.2.2])
  have hz5 : (w5.alloc (.cells #[.slice cx0_0 xU.1.length cx0_1, .slice cx0_2 xU.2.1.length cx0_3, .bool xU.2.2.1, .bool xU.2.2.2] 40)).heap.size = w5.heap.size + 1 := by simp
  clear kaU_0 kaU_1 kaU_2 kaU_3
  clear kw0_0 kw0_1 kw0_2 kw0_3 kw0_4 kw0_5 kw0_6 kw0_7 kw0_8
  have kaU_0 : (w5.alloc (.cells #[.slice cx0_0 xU.1.length cx0_1, .slice cx0_2 xU.2.1.length cx0_3, .bool xU.2.2.1, .bool xU.2.2.2] 40)).cell? ⟨w.heap.size, 0, none⟩ = some (.slice caU_0 xU.1.length caU_1) := HBK6_aU.out.cell 0
  have kaU_1 : (w5.alloc (.cells #[.slice cx0_0 xU.1.length cx0_1, .slice cx0_2 xU.2.1.length cx0_3, .bool xU.2.2.1, .bool xU.2.2.2] 40)).cell? ⟨w.heap.size, 1, none⟩ = some (.slice caU_2 xU.2.1.length caU_3) := HBK6_aU.out.cell 1
  have kaU_2 : (w5.alloc (.cells #[.slice cx0_0 xU.1.length cx0_1, .slice cx0_2 xU.2.1.length cx0_3, .bool xU.2.2.1, .bool xU.2.2.2] 40)).cell? ⟨w.heap.size, 2, none⟩ = some (.bool xU.2.2.1) := HBK6_aU.out.cell 2
  have kaU_3 : (w5.alloc (.cells #[.slice cx0_0 xU.1.length cx0_1, .slice cx0_2 xU.2.1.length cx0_3, .bool xU.2.2.1, .bool xU.2.2.2] 40)).cell? ⟨w.heap.size, 3, none⟩ = some (.bool xU.2.2.2) := HBK6_aU.out.cell 3
  have kw0_0 : (w5.alloc (.cells #[.slice cx0_0 xU.1.length cx0_1, .slice cx0_2 xU.2.1.length cx0_3, .bool xU.2.2.1, .bool xU.2.2.2] 40)).cell? ⟨w3.heap.size, 0, none⟩ = some (.int .i64 r.1) := HBK6_w0.out.cell 0
  have kw0_1 : (w5.alloc (.cells #[.slice cx0_0 xU.1.length cx0_1, .slice cx0_2 xU.2.1.length cx0_3, .bool xU.2.2.1, .bool xU.2.2.2] 40)).cell? ⟨w3.heap.size, 1, none⟩ = some (.string ⟨(r.2.1).toArray⟩) := HBK6_w0.out.cell 1
  have kw0_2 : (w5.alloc (.cells #[.slice cx0_0 xU.1.length cx0_1, .slice cx0_2 xU.2.1.length cx0_3, .bool xU.2.2.1, .bool xU.2.2.2] 40)).cell? ⟨w3.heap.size, 2, none⟩ = some (.int .u32 r.2.2.1) := HBK6_w0.out.cell 2
  have kw0_3 : (w5.alloc (.cells #[.slice cx0_0 xU.1.length cx0_1, .slice cx0_2 xU.2.1.length cx0_3, .bool xU.2.2.1, .bool xU.2.2.2] 40)).cell? ⟨w3.heap.size, 3, none⟩ = some (.bool r.2.2.2.1) := HBK6_w0.out.cell 3
  have kw0_4 : (w5.alloc (.cells #[.slice cx0_0 xU.1.length cx0_1, .slice cx0_2 xU.2.1.length cx0_3, .bool xU.2.2.1, .bool xU.2.2.2] 40)).cell? ⟨w3.heap.size, 4, none⟩ = some (.slice cw0_0 r.2.2.2.2.1.length cw0_1) := HBK6_w0.out.cell 4
  have kw0_5 : (w5.alloc (.cells #[.slice cx0_0 xU.1.length cx0_1, .slice cx0_2 xU.2.1.length cx0_3, .bool xU.2.2.1, .bool xU.2.2.2] 40)).cell? ⟨w3.heap.size, 5, none⟩ = some (.int .i64 r.2.2.2.2.2.1) := HBK6_w0.out.cell 5
  have kw0_6 : (w5.alloc (.cells #[.slice cx0_0 xU.1.length cx0_1, .slice cx0_2 xU.2.1.length cx0_3, .bool xU.2.2.1, .bool xU.2.2.2] 40)).cell? ⟨w3.heap.size, 6, none⟩ = some (.int .i64 r.2.2.2.2.2.2.1) := HBK6_w0.out.cell 6
  have kw0_7 : (w5.alloc (.cells #[.slice cx0_0 xU.1.length cx0_1, .slice cx0_2 xU.2.1.length cx0_3, .bool xU.2.2.1, .bool xU.2.2.2] 40)).cell? ⟨w3.heap.size, 7, none⟩ = some (.int .u32 r.2.2.2.2.2.2.2.1) := HBK6_w0.out.cell 7
  have kw0_8 : (w5.alloc (.cells #[.slice cx0_0 xU.1.length cx0_1, .slice cx0_2 xU.2.1.length cx0_3, .bool xU.2.2.1, .bool xU.2.2.2] 40)).cell? ⟨w3.heap.size, 8, none⟩ = some (.slice cw0_2 r.2.2.2.2.2.2.2.2.length cw0_3) := HBK6_w0.out.cell 8
  have kx0_0 : (w5.alloc (.cells #[.slice cx0_0 xU.1.length cx0_1, .slice cx0_2 xU.2.1.length cx0_3, .bool xU.2.2.1, .bool xU.2.2.2] 40)).cell? ⟨w5.heap.size, 0, none⟩ = some (.slice cx0_0 xU.1.length cx0_1) := HBK_x0.out.cell 0
  have kx0_1 : (w5.alloc (.cells #[.slice cx0_0 xU.1.length cx0_1, .slice cx0_2 xU.2.1.length cx0_3, .bool xU.2.2.1, .bool xU.2.2.2] 40)).cell? ⟨w5.heap.size, 1, none⟩ = some (.slice cx0_2 xU.2.1.length cx0_3) := HBK_x0.out.cell 1
  have kx0_2 : (w5.alloc (.cells #[.slice cx0_0 xU.1.length cx0_1, .slice cx0_2 xU.2.1.length cx0_3, .bool xU.2.2.1, .bool xU.2.2.2] 40)).cell? ⟨w5.heap.size, 2, none⟩ = some (.bool xU.2.2.1) := HBK_x0.out.cell 2
  have kx0_3 : (w5.alloc (.cells #[.slice cx0_0 xU.1.length cx0_1, .slice cx0_2 xU.2.1.length cx0_3, .bool xU.2.2.1, .bool xU.2.2.2] 40)).cell? ⟨w5.heap.size, 3, none⟩ = some (.bool xU.2.2.2) := HBK_x0.out.cell 3
  go_wp2_with fail
  refine (implParseImap_v X0_6.out.rd hb0 (HENV.out.new HM6.out)).mono ?_
  rw [HFN.out]
  rintro e w7 ⟨v7, rfl, ho7, hm7⟩
  clear kaU_0 kaU_1 kaU_2 kaU_3
  clear kw0_0 kw0_1 kw0_2 kw0_3 kw0_4 kw0_5 kw0_6 kw0_7 kw0_8
  clear kx0_0 kx0_1 kx0_2 kx0_3
  have HBK7_aU := Sec.mk (HBK6_aU.out.mod hm7 id)
  clear HBK6_aU
  have HBK7_w0 := Sec.mk (HBK6_w0.out.mod hm7 id)
  clear HBK6_w0
  have HBK7_x0 := Sec.mk (HBK_x0.out.mod hm7 id)
  clear HBK_x0
  have W0_7 := Sec.mk (W0_6.out.step hm7)
  clear W0_6
  have X0_7 := Sec.mk (X0_6.out.step hm7)
  clear X0_6
  have HM7 := Sec.mk (HM6.out.transN hm7)
  clear HM6
  have hs7 := hm7.size
  clear hm7
  have kaU_0 : (w7).cell? ⟨w.heap.size, 0, none⟩ = some (.slice caU_0 xU.1.length caU_1) := HBK7_aU.out.cell 0
  have kaU_1 : (w7).cell? ⟨w.heap.size, 1, none⟩ = some (.slice caU_2 xU.2.1.length caU_3) := HBK7_aU.out.cell 1
  have kaU_2 : (w7).cell? ⟨w.heap.size, 2, none⟩ = some (.bool xU.2.2.1) := HBK7_aU.out.cell 2
  have kaU_3 : (w7).cell? ⟨w.heap.size, 3, none⟩ = some (.bool xU.2.2.2) := HBK7_aU.out.cell 3
  have kw0_0 : (w7).cell? ⟨w3.heap.size, 0, none⟩ = some (.int .i64 r.1) := HBK7_w0.out.cell 0
  have kw0_1 : (w7).cell? ⟨w3.heap.size, 1, none⟩ = some (.string ⟨(r.2.1).toArray⟩) := HBK7_w0.out.cell 1
  have kw0_2 : (w7).cell? ⟨w3.heap.size, 2, none⟩ = some (.int .u32 r.2.2.1) := HBK7_w0.out.cell 2
  have kw0_3 : (w7).cell? ⟨w3.heap.size, 3, none⟩ = some (.bool r.2.2.2.1) := HBK7_w0.out.cell 3
  have kw0_4 : (w7).cell? ⟨w3.heap.size, 4, none⟩ = some (.slice cw0_0 r.2.2.2.2.1.length cw0_1) := HBK7_w0.out.cell 4
  have kw0_5 : (w7).cell? ⟨w3.heap.size, 5, none⟩ = some (.int .i64 r.2.2.2.2.2.1) := HBK7_w0.out.cell 5
  have kw0_6 : (w7).cell? ⟨w3.heap.size, 6, none⟩ = some (.int .i64 r.2.2.2.2.2.2.1) := HBK7_w0.out.cell 6
  have kw0_7 : (w7).cell? ⟨w3.heap.size, 7, none⟩ = some (.int .u32 r.2.2.2.2.2.2.2.1) := HBK7_w0.out.cell 7
  have kw0_8 : (w7).cell? ⟨w3.heap.size, 8, none⟩ = some (.slice cw0_2 r.2.2.2.2.2.2.2.2.length cw0_3) := HBK7_w0.out.cell 8
  have kx0_0 : (w7).cell? ⟨w5.heap.size, 0, none⟩ = some (.slice cx0_0 xU.1.length cx0_1) := HBK7_x0.out.cell 0
  have kx0_1 : (w7).cell? ⟨w5.heap.size, 1, none⟩ = some (.slice cx0_2 xU.2.1.length cx0_3) := HBK7_x0.out.cell 1
  have kx0_2 : (w7).cell? ⟨w5.heap.size, 2, none⟩ = some (.bool xU.2.2.1) := HBK7_x0.out.cell 2
  have kx0_3 : (w7).cell? ⟨w5.heap.size, 3, none⟩ = some (.bool xU.2.2.2) := HBK7_x0.out.cell 3
  have G0_7 := Sec.mk ho7
  clear ho7
  obtain ⟨cg0_0, cg0_1, cg0_2, cg0_3, rfl⟩ := cellsCmd G0_7.out.rd
  have hma7 := ((Mod.refl (fun _ => False) w7).alloc (.cells #[.int .i64 r.1, .string ⟨(r.2.1).toArray⟩, .int .u32 r.2.2.1, .bool r.2.2.2.1, .slice cg0_0 r.2.2.2.2.1.length cg0_1, .int .i64 r.2.2.2.2.2.1, .int .i64 r.2.2.2.2.2.2.1, .int .u32 r.2.2.2.2.2.2.2.1, .slice cg0_2 r.2.2.2.2.2.2.2.2.length cg0_3] 38))
  clear kaU_0 kaU_1 kaU_2 kaU_3
  clear kw0_0 kw0_1 kw0_2 kw0_3 kw0_4 kw0_5 kw0_6 kw0_7 kw0_8
  clear kx0_0 kx0_1 kx0_2 kx0_3
  have HBK8_aU := Sec.mk (HBK7_aU.out.mod hma7 id)
  clear HBK7_aU
  have HBK8_w0 := Sec.mk (HBK7_w0.out.mod hma7 id)
  clear HBK7_w0
  have HBK8_x0 := Sec.mk (HBK7_x0.out.mod hma7 id)
  clear HBK7_x0
  have W0_8 := Sec.mk (W0_7.out.step hma7)
  clear W0_7
  have X0_8 := Sec.mk (X0_7.out.step hma7)
  clear X0_7
  have G0_8 := Sec.mk (G0_7.out.step hma7)
  clear G0_7
  have HM8 := Sec.mk (HM7.out.transN hma7)
  clear HM7
  have hs8 := hma7.size
  clear hma7
  have kaU_0 : (w7.alloc (.cells #[.int .i64 r.1, .string ⟨(r.2.1).toArray⟩, .int .u32 r.2.2.1, .bool r.2.2.2.1, .slice cg0_0 r.2.2.2.2.1.length cg0_1, .int .i64 r.2.2.2.2.2.1, .int .i64 r.2.2.2.2.2.2.1, .int .u32 r.2.2.2.2.2.2.2.1, .slice cg0_2 r.2.2.2.2.2.2.2.2.length cg0_3] 38)).cell? ⟨w.heap.size, 0, none⟩ = some (.slice caU_0 xU.1.length caU_1) := HBK8_aU.out.cell 0
  have kaU_1 : (w7.alloc (.cells #[.int .i64 r.1, .string ⟨(r.2.1).toArray⟩, .int .u32 r.2.2.1, .bool r.2.2.2.1, .slice cg0_0 r.2.2.2.2.1.length cg0_1, .int .i64 r.2.2.2.2.2.1, .int .i64 r.2.2.2.2.2.2.1, .int .u32 r.2.2.2.2.2.2.2.1, .slice cg0_2 r.2.2.2.2.2.2.2.2.length cg0_3] 38)).cell? ⟨w.heap.size, 1, none⟩ = some (.slice caU_2 xU.2.1.length caU_3) := HBK8_aU.out.cell 1
  have kaU_2 : (w7.alloc (.cells #[.int .i64 r.1, .string ⟨(r.2.1).toArray⟩, .int .u32 r.2.2.1, .bool r.2.2.2.1, .slice cg0_0 r.2.2.2.2.1.length cg0_1, .int .i64 r.2.2.2.2.2.1, .int .i64 r.2.2.2.2.2.2.1, .int .u32 r.2.2.2.2.2.2.2.1, .slice cg0_2 r.2.2.2.2.2.2.2.2.length cg0_3] 38)).cell? ⟨w.heap.size, 2, none⟩ = some (.bool xU.2.2.1) := HBK8_aU.out.cell 2
  have kaU_3 : (w7.alloc (.cells #[.int .i64 r.1, .string ⟨(r.2.1).toArray⟩, .int .u32 r.2.2.1, .bool r.2.2.2.1, .slice cg0_0 r.2.2.2.2.1.length cg0_1, .int .i64 r.2.2.2.2.2.1, .int .i64 r.2.2.2.2.2.2.1, .int .u32 r.2.2.2.2.2.2.2.1, .slice cg0_2 r.2.2.2.2.2.2.2.2.length cg0_3] 38)).cell? ⟨w.heap.size, 3, none⟩ = some (.bool xU.2.2.2) := HBK8_aU.out.cell 3
  have kw0_0 : (w7.alloc (.cells #[.int .i64 r.1, .string ⟨(r.2.1).toArray⟩, .int .u32 r.2.2.1, .bool r.2.2.2.1, .slice cg0_0 r.2.2.2.2.1.length cg0_1, .int .i64 r.2.2.2.2.2.1, .int .i64 r.2.2.2.2.2.2.1, .int .u32 r.2.2.2.2.2.2.2.1, .slice cg0_2 r.2.2.2.2.2.2.2.2.length cg0_3] 38)).cell? ⟨w3.heap.size, 0, none⟩ = some (.int .i64 r.1) := HBK8_w0.out.cell 0
  have kw0_1 : (w7.alloc (.cells #[.int .i64 r.1, .string ⟨(r.2.1).toArray⟩, .int .u32 r.2.2.1, .bool r.2.2.2.1, .slice cg0_0 r.2.2.2.2.1.length cg0_1, .int .i64 r.2.2.2.2.2.1, .int .i64 r.2.2.2.2.2.2.1, .int .u32 r.2.2.2.2.2.2.2.1, .slice cg0_2 r.2.2.2.2.2.2.2.2.length cg0_3] 38)).cell? ⟨w3.heap.size, 1, none⟩ = some (.string ⟨(r.2.1).toArray⟩) := HBK8_w0.out.cell 1
  have kw0_2 : (w7.alloc (.cells #[.int .i64 r.1, .string ⟨(r.2.1).toArray⟩, .int .u32 r.2.2.1, .bool r.2.2.2.1, .slice cg0_0 r.2.2.2.2.1.length cg0_1, .int .i64 r.2.2.2.2.2.1, .int .i64 r.2.2.2.2.2.2.1, .int .u32 r.2.2.2.2.2.2.2.1, .slice cg0_2 r.2.2.2.2.2.2.2.2.length cg0_3] 38)).cell? ⟨w3.heap.size, 2, none⟩ = some (.int .u32 r.2.2.1) := HBK8_w0.out.cell 2
  have kw0_3 : (w7.alloc (.cells #[.int .i64 r.1, .string ⟨(r.2.1).toArray⟩, .int .u32 r.2.2.1, .bool r.2.2.2.1, .slice cg0_0 r.2.2.2.2.1.length cg0_1, .int .i64 r.2.2.2.2.2.1, .int .i64 r.2.2.2.2.2.2.1, .int .u32 r.2.2.2.2.2.2.2.1, .slice cg0_2 r.2.2.2.2.2.2.2.2.length cg0_3] 38)).cell? ⟨w3.heap.size, 3, none⟩ = some (.bool r.2.2.2.1) := HBK8_w0.out.cell 3
  have kw0_4 : (w7.alloc (.cells #[.int .i64 r.1, .string ⟨(r.2.1).toArray⟩, .int .u32 r.2.2.1, .bool r.2.2.2.1, .slice cg0_0 r.2.2.2.2.1.length cg0_1, .int .i64 r.2.2.2.2.2.1, .int .i64 r.2.2.2.2.2.2.1, .int .u32 r.2.2.2.2.2.2.2.1, .slice cg0_2 r.2.2.2.2.2.2.2.2.length cg0_3] 38)).cell? ⟨w3.heap.size, 4, none⟩ = some (.slice cw0_0 r.2.2.2.2.1.length cw0_1) := HBK8_w0.out.cell 4
  have kw0_5 : (w7.alloc (.cells #[.int .i64 r.1, .string ⟨(r.2.1).toArray⟩, .int .u32 r.2.2.1, .bool r.2.2.2.1, .slice cg0_0 r.2.2.2.2.1.length cg0_1, .int .i64 r.2.2.2.2.2.1, .int .i64 r.2.2.2.2.2.2.1, .int .u32 r.2.2.2.2.2.2.2.1, .slice cg0_2 r.2.2.2.2.2.2.2.2.length cg0_3] 38)).cell? ⟨w3.heap.size, 5, none⟩ = some (.int .i64 r.2.2.2.2.2.1) := HBK8_w0.out.cell 5
  have kw0_6 : (w7.alloc (.cells #[.int .i64 r.1, .string ⟨(r.2.1).toArray⟩, .int .u32 r.2.2.1, .bool r.2.2.2.1, .slice cg0_0 r.2.2.2.2.1.length cg0_1, .int .i64 r.2.2.2.2.2.1, .int .i64 r.2.2.2.2.2.2.1, .int .u32 r.2.2.2.2.2.2.2.1, .slice cg0_2 r.2.2.2.2.2.2.2.2.length cg0_3] 38)).cell? ⟨w3.heap.size, 6, none⟩ = some (.int .i64 r.2.2.2.2.2.2.1) := HBK8_w0.out.cell 6
  have kw0_7 : (w7.alloc (.cells #[.int .i64 r.1, .string ⟨(r.2.1).toArray⟩, .int .u32 r.2.2.1, .bool r.2.2.2.1, .slice cg0_0 r.2.2.2.2.1.length cg0_1, .int .i64 r.2.2.2.2.2.1, .int .i64 r.2.2.2.2.2.2.1, .int .u32 r.2.2.2.2.2.2.2.1, .slice cg0_2 r.2.2.2.2.2.2.2.2.length cg0_3] 38)).cell? ⟨w3.heap.size, 7, none⟩ = some (.int .u32 r.2.2.2.2.2.2.2.1) := HBK8_w0.out.cell 7
  have kw0_8 : (w7.alloc (.cells #[.int .i64 r.1, .string ⟨(r.2.1).toArray⟩, .int .u32 r.2.2.1, .bool r.2.2.2.1, .slice cg0_0 r.2.2.2.2.1.length cg0_1, .int .i64 r.2.2.2.2.2.1, .int .i64 r.2.2.2.2.2.2.1, .int .u32 r.2.2.2.2.2.2.2.1, .slice cg0_2 r.2.2.2.2.2.2.2.2.length cg0_3] 38)).cell? ⟨w3.heap.size, 8, none⟩ = some (.slice cw0_2 r.2.2.2.2.2.2.2.2.length cw0_3) := HBK8_w0.out.cell 8
  have kx0_0 : (w7.alloc (.cells #[.int .i64 r.1, .string ⟨(r.2.1).toArray⟩, .int .u32 r.2.2.1, .bool r.2.2.2.1, .slice cg0_0 r.2.2.2.2.1.length cg0_1, .int .i64 r.2.2.2.2.2.1, .int .i64 r.2.2.2.2.2.2.1, .int .u32 r.2.2.2.2.2.2.2.1, .slice cg0_2 r.2.2.2.2.2.2.2.2.length cg0_3] 38)).cell? ⟨w5.heap.size, 0, none⟩ = some (.slice cx0_0 xU.1.length cx0_1) := HBK8_x0.out.cell 0
  have kx0_1 : (w7.alloc (.cells #[.int .i64 r.1, .string ⟨(r.2.1).toArray⟩, .int .u32 r.2.2.1, .bool r.2.2.2.1, .slice cg0_0 r.2.2.2.2.1.length cg0_1, .int .i64 r.2.2.2.2.2.1, .int .i64 r.2.2.2.2.2.2.1, .int .u32 r.2.2.2.2.2.2.2.1, .slice cg0_2 r.2.2.2.2.2.2.2.2.length cg0_3] 38)).cell? ⟨w5.heap.size, 1, none⟩ = some (.slice cx0_2 xU.2.1.length cx0_3) := HBK8_x0.out.cell 1
  have kx0_2 : (w7.alloc (.cells #[.int .i64 r.1, .string ⟨(r.2.1).toArray⟩, .int .u32 r.2.2.1, .bool r.2.2.2.1, .slice cg0_0 r.2.2.2.2.1.length cg0_1, .int .i64 r.2.2.2.2.2.1, .int .i64 r.2.2.2.2.2.2.1, .int .u32 r.2.2.2.2.2.2.2.1, .slice cg0_2 r.2.2.2.2.2.2.2.2.length cg0_3] 38)).cell? ⟨w5.heap.size, 2, none⟩ = some (.bool xU.2.2.1) := HBK8_x0.out.cell 2
  have kx0_3 : (w7.alloc (.cells #[.int .i64 r.1, .string ⟨(r.2.1).toArray⟩, .int .u32 r.2.2.1, .bool r.2.2.2.1, .slice cg0_0 r.2.2.2.2.1.length cg0_1, .int .i64 r.2.2.2.2.2.1, .int .i64 r.2.2.2.2.2.2.1, .int .u32 r.2.2.2.2.2.2.2.1, .slice cg0_2 r.2.2.2.2.2.2.2.2.length cg0_3] 38)).cell? ⟨w5.heap.size, 3, none⟩ = some (.bool xU.2.2.2) := HBK8_x0.out.cell 3
  have HBK_g0 := Sec.mk (Blk.new w7 38 [.int .i64 r.1, .string ⟨(r.2.1).toArray⟩, .int .u32 r.2.2.1, .bool r.2.2.2.1, .slice cg0_0 r.2.2.2.2.1.length cg0_1, .int .i64 r.2.2.2.2.2.1, .int .i64 r.2.2.2.2.2.2.1, .int .u32 r.2.2.2.2.2.2.2.1, .slice cg0_2 r.2.2.2.2.2.2.2.2.length cg0_3])
  have hz7 : (w7.alloc (.cells #[.int .i64 r.1, .string ⟨(r.2.1).toArray⟩, .int .u32 r.2.2.1, .bool r.2.2.2.1, .slice cg0_0 r.2.2.2.2.1.length cg0_1, .int .i64 r.2.2.2.2.2.1, .int .i64 r.2.2.2.2.2.2.1, .int .u32 r.2.2.2.2.2.2.2.1, .slice cg0_2 r.2.2.2.2.2.2.2.2.length cg0_3] 38)).heap.size = w7.heap.size + 1 := by simp
  clear kaU_0 kaU_1 kaU_2 kaU_3
  clear kw0_0 kw0_1 kw0_2 kw0_3 kw0_4 kw0_5 kw0_6 kw0_7 kw0_8
  clear kx0_0 kx0_1 kx0_2 kx0_3
  have kaU_0 : (w7.alloc (.cells #[.int .i64 r.1, .string ⟨(r.2.1).toArray⟩, .int .u32 r.2.2.1, .bool r.2.2.2.1, .slice cg0_0 r.2.2.2.2.1.length cg0_1, .int .i64 r.2.2.2.2.2.1, .int .i64 r.2.2.2.2.2.2.1, .int .u32 r.2.2.2.2.2.2.2.1, .slice cg0_2 r.2.2.2.2.2.2.2.2.length cg0_3] 38)).cell? ⟨w.heap.size, 0, none⟩ = some (.slice caU_0 xU.1.length caU_1) := HBK8_aU.out.cell 0
  have kaU_1 : (w7.alloc (.cells #[.int .i64 r.1, .string ⟨(r.2.1).toArray⟩, .int .u32 r.2.2.1, .bool r.2.2.2.1, .slice cg0_0 r.2.2.2.2.1.length cg0_1, .int .i64 r.2.2.2.2.2.1, .int .i64 r.2.2.2.2.2.2.1, .int .u32 r.2.2.2.2.2.2.2.1, .slice cg0_2 r.2.2.2.2.2.2.2.2.length cg0_3] 38)).cell? ⟨w.heap.size, 1, none⟩ = some (.slice caU_2 xU.2.1.length caU_3) := HBK8_aU.out.cell 1
  have kaU_2 : (w7.alloc (.cells #[.int .i64 r.1, .string ⟨(r.2.1).toArray⟩, .int .u32 r.2.2.1, .bool r.2.2.2.1, .slice cg0_0 r.2.2.2.2.1.length cg0_1, .int .i64 r.2.2.2.2.2.1, .int .i64 r.2.2.2.2.2.2.1, .int .u32 r.2.2.2.2.2.2.2.1, .slice cg0_2 r.2.2.2.2.2.2.2.2.length cg0_3] 38)).cell? ⟨w.heap.size, 2, none⟩ = some (.bool xU.2.2.1) := HBK8_aU.out.cell 2
  have kaU_3 : (w7.alloc (.cells #[.int .i64 r.1, .string ⟨(r.2.1).toArray⟩, .int .u32 r.2.2.1, .bool r.2.2.2.1, .slice cg0_0 r.2.2.2.2.1.length cg0_1, .int .i64 r.2.2.2.2.2.1, .int .i64 r.2.2.2.2.2.2.1, .int .u32 r.2.2.2.2.2.2.2.1, .slice cg0_2 r.2.2.2.2.2.2.2.2.length cg0_3] 38)).cell? ⟨w.heap.size, 3, none⟩ = some (.bool xU.2.2.2) := HBK8_aU.out.cell 3
  have kw0_0 : (w7.alloc (.cells #[.int .i64 r.1, .string ⟨(r.2.1).toArray⟩, .int .u32 r.2.2.1, .bool r.2.2.2.1, .slice cg0_0 r.2.2.2.2.1.length cg0_1, .int .i64 r.2.2.2.2.2.1, .int .i64 r.2.2.2.2.2.2.1, .int .u32 r.2.2.2.2.2.2.2.1, .slice cg0_2 r.2.2.2.2.2.2.2.2.length cg0_3] 38)).cell? ⟨w3.heap.size, 0, none⟩ = some (.int .i64 r.1) := HBK8_w0.out.cell 0
  have kw0_1 : (w7.alloc (.cells #[.int .i64 r.1, .string ⟨(r.2.1).toArray⟩, .int .u32 r.2.2.1, .bool r.2.2.2.1, .slice cg0_0 r.2.2.2.2.1.length cg0_1, .int .i64 r.2.2.2.2.2.1, .int .i64 r.2.2.2.2.2.2.1, .int .u32 r.2.2.2.2.2.2.2.1, .slice cg0_2 r.2.2.2.2.2.2.2.2.length cg0_3] 38)).cell? ⟨w3.heap.size, 1, none⟩ = some (.string ⟨(r.2.1).toArray⟩) := HBK8_w0.out.cell 1
  have kw0_2 : (w7.alloc (.cells #[.int .i64 r.1, .string ⟨(r.2.1).toArray⟩, .int .u32 r.2.2.1, .bool r.2.2.2.1, .slice cg0_0 r.2.2.2.2.1.length cg0_1, .int .i64 r.2.2.2.2.2.1, .int .i64 r.2.2.2.2.2.2.1, .int .u32 r.2.2.2.2.2.2.2.1, .slice cg0_2 r.2.2.2.2.2.2.2.2.length cg0_3] 38)).cell? ⟨w3.heap.size, 2, none⟩ = some (.int .u32 r.2.2.1) := HBK8_w0.out.cell 2
  have kw0_3 : (w7.alloc (.cells #[.int .i64 r.1, .string ⟨(r.2.1).toArray⟩, .int .u32 r.2.2.1, .bool r.2.2.2.1, .slice cg0_0 r.2.2.2.2.1.length cg0_1, .int .i64 r.2.2.2.2.2.1, .int .i64 r.2.2.2.2.2.2.1, .int .u32 r.2.2.2.2.2.2.2.1, .slice cg0_2 r.2.2.2.2.2.2.2.2.length cg0_3] 38)).cell? ⟨w3.heap.size, 3, none⟩ = some (.bool r.2.2.2.1) := HBK8_w0.out.cell 3
  have kw0_4 : (w7.alloc (.cells #[.int .i64 r.1, .string ⟨(r.2.1).toArray⟩, .int .u32 r.2.2.1, .bool r.2.2.2.1, .slice cg0_0 r.2.2.2.2.1.length cg0_1, .int .i64 r.2.2.2.2.2.1, .int .i64 r.2.2.2.2.2.2.1, .int .u32 r.2.2.2.2.2.2.2.1, .slice cg0_2 r.2.2.2.2.2.2.2.2.length cg0_3] 38)).cell? ⟨w3.heap.size, 4, none⟩ = some (.slice cw0_0 r.2.2.2.2.1.length cw0_1) := HBK8_w0.out.cell 4
  have kw0_5 : (w7.alloc (.cells #[.int .i64 r.1, .string ⟨(r.2.1).toArray⟩, .int .u32 r.2.2.1, .bool r.2.2.2.1, .slice cg0_0 r.2.2.2.2.1.length cg0_1, .int .i64 r.2.2.2.2.2.1, .int .i64 r.2.2.2.2.2.2.1, .int .u32 r.2.2.2.2.2.2.2.1, .slice cg0_2 r.2.2.2.2.2.2.2.2.length cg0_3] 38)).cell? ⟨w3.heap.size, 5, none⟩ = some (.int .i64 r.2.2.2.2.2.1) := HBK8_w0.out.cell 5
  have kw0_6 : (w7.alloc (.cells #[.int .i64 r.1, .string ⟨(r.2.1).toArray⟩, .int .u32 r.2.2.1, .bool r.2.2.2.1, .slice cg0_0 r.2.2.2.2.1.length cg0_1, .int .i64 r.2.2.2.2.2.1, .int .i64 r.2.2.2.2.2.2.1, .int .u32 r.2.2.2.2.2.2.2.1, .slice cg0_2 r.2.2.2.2.2.2.2.2.length cg0_3] 38)).cell? ⟨w3.heap.size, 6, none⟩ = some (.int .i64 r.2.2.2.2.2.2.1) := HBK8_w0.out.cell 6
  have kw0_7 : (w7.alloc (.cells #[.int .i64 r.1, .string ⟨(r.2.1).toArray⟩, .int .u32 r.2.2.1, .bool r.2.2.2.1, .slice cg0_0 r.2.2.2.2.1.length cg0_1, .int .i64 r.2.2.2.2.2.1, .int .i64 r.2.2.2.2.2.2.1, .int .u32 r.2.2.2.2.2.2.2.1, .slice cg0_2 r.2.2.2.2.2.2.2.2.length cg0_3] 38)).cell? ⟨w3.heap.size, 7, none⟩ = some (.int .u32 r.2.2.2.2.2.2.2.1) := HBK8_w0.out.cell 7
  have kw0_8 : (w7.alloc (.cells #[.int .i64 r.1, .string ⟨(r.2.1).toArray⟩, .int .u32 r.2.2.1, .bool r.2.2.2.1, .slice cg0_0 r.2.2.2.2.1.length cg0_1, .int .i64 r.2.2.2.2.2.1, .int .i64 r.2.2.2.2.2.2.1, .int .u32 r.2.2.2.2.2.2.2.1, .slice cg0_2 r.2.2.2.2.2.2.2.2.length cg0_3] 38)).cell? ⟨w3.heap.size, 8, none⟩ = some (.slice cw0_2 r.2.2.2.2.2.2.2.2.length cw0_3) := HBK8_w0.out.cell 8
  have kx0_0 : (w7.alloc (.cells #[.int .i64 r.1, .string ⟨(r.2.1).toArray⟩, .int .u32 r.2.2.1, .bool r.2.2.2.1, .slice cg0_0 r.2.2.2.2.1.length cg0_1, .int .i64 r.2.2.2.2.2.1, .int .i64 r.2.2.2.2.2.2.1, .int .u32 r.2.2.2.2.2.2.2.1, .slice cg0_2 r.2.2.2.2.2.2.2.2.length cg0_3] 38)).cell? ⟨w5.heap.size, 0, none⟩ = some (.slice cx0_0 xU.1.length cx0_1) := HBK8_x0.out.cell 0
  have kx0_1 : (w7.alloc (.cells #[.int .i64 r.1, .string ⟨(r.2.1).toArray⟩, .int .u32 r.2.2.1, .bool r.2.2.2.1, .slice cg0_0 r.2.2.2.2.1.length cg0_1, .int .i64 r.2.2.2.2.2.1, .int .i64 r.2.2.2.2.2.2.1, .int .u32 r.2.2.2.2.2.2.2.1, .slice cg0_2 r.2.2.2.2.2.2.2.2.length cg0_3] 38)).cell? ⟨w5.heap.size, 1, none⟩ = some (.slice cx0_2 xU.2.1.length cx0_3) := HBK8_x0.out.cell 1
  have kx0_2 : (w7.alloc (.cells #[.int .i64 r.1, .string ⟨(r.2.1).toArray⟩, .int .u32 r.2.2.1, .bool r.2.2.2.1, .slice cg0_0 r.2.2.2.2.1.length cg0_1, .int .i64 r.2.2.2.2.2.1, .int .i64 r.2.2.2.2.2.2.1, .int .u32 r.2.2.2.2.2.2.2.1, .slice cg0_2 r.2.2.2.2.2.2.2.2.length cg0_3] 38)).cell? ⟨w5.heap.size, 2, none⟩ = some (.bool xU.2.2.1) := HBK8_x0.out.cell 2
  have kx0_3 : (w7.alloc (.cells #[.int .i64 r.1, .string ⟨(r.2.1).toArray⟩, .int .u32 r.2.2.1, .bool r.2.2.2.1, .slice cg0_0 r.2.2.2.2.1.length cg0_1, .int .i64 r.2.2.2.2.2.1, .int .i64 r.2.2.2.2.2.2.1, .int .u32 r.2.2.2.2.2.2.2.1, .slice cg0_2 r.2.2.2.2.2.2.2.2.length cg0_3] 38)).cell? ⟨w5.heap.size, 3, none⟩ = some (.bool xU.2.2.2) := HBK8_x0.out.cell 3
  have kg0_0 : (w7.alloc (.cells #[.int .i64 r.1, .string ⟨(r.2.1).toArray⟩, .int .u32 r.2.2.1, .bool r.2.2.2.1, .slice cg0_0 r.2.2.2.2.1.length cg0_1, .int .i64 r.2.2.2.2.2.1, .int .i64 r.2.2.2.2.2.2.1, .int .u32 r.2.2.2.2.2.2.2.1, .slice cg0_2 r.2.2.2.2.2.2.2.2.length cg0_3] 38)).cell? ⟨w7.heap.size, 0, none⟩ = some (.int .i64 r.1) := HBK_g0.out.cell 0
  have kg0_1 : (w7.alloc (.cells #[.int .i64 r.1, .string ⟨(r.2.1).toArray⟩, .int .u32 r.2.2.1, .bool r.2.2.2.1, .slice cg0_0 r.2.2.2.2.1.length cg0_1, .int .i64 r.2.2.2.2.2.1, .int .i64 r.2.2.2.2.2.2.1, .int .u32 r.2.2.2.2.2.2.2.1, .slice cg0_2 r.2.2.2.2.2.2.2.2.length cg0_3] 38)).cell? ⟨w7.heap.size, 1, none⟩ = some (.string ⟨(r.2.1).toArray⟩) := HBK_g0.out.cell 1
  have kg0_2 : (w7.alloc (.cells #[.int .i64 r.1, .string ⟨(r.2.1).toArray⟩, .int .u32 r.2.2.1, .bool r.2.2.2.1, .slice cg0_0 r.2.2.2.2.1.length cg0_1, .int .i64 r.2.2.2.2.2.1, .int .i64 r.2.2.2.2.2.2.1, .int .u32 r.2.2.2.2.2.2.2.1, .slice cg0_2 r.2.2.2.2.2.2.2.2.length cg0_3] 38)).cell? ⟨w7.heap.size, 2, none⟩ = some (.int .u32 r.2.2.1) := HBK_g0.out.cell 2
  have kg0_3 : (w7.alloc (.cells #[.int .i64 r.1, .string ⟨(r.2.1).toArray⟩, .int .u32 r.2.2.1, .bool r.2.2.2.1, .slice cg0_0 r.2.2.2.2.1.length cg0_1, .int .i64 r.2.2.2.2.2.1, .int .i64 r.2.2.2.2.2.2.1, .int .u32 r.2.2.2.2.2.2.2.1, .slice cg0_2 r.2.2.2.2.2.2.2.2.length cg0_3] 38)).cell? ⟨w7.heap.size, 3, none⟩ = some (.bool r.2.2.2.1) := HBK_g0.out.cell 3
  have kg0_4 : (w7.alloc (.cells #[.int .i64 r.1, .string ⟨(r.2.1).toArray⟩, .int .u32 r.2.2.1, .bool r.2.2.2.1, .slice cg0_0 r.2.2.2.2.1.length cg0_1, .int .i64 r.2.2.2.2.2.1, .int .i64 r.2.2.2.2.2.2.1, .int .u32 r.2.2.2.2.2.2.2.1, .slice cg0_2 r.2.2.2.2.2.2.2.2.length cg0_3] 38)).cell? ⟨w7.heap.size, 4, none⟩ = some (.slice cg0_0 r.2.2.2.2.1.length cg0_1) := HBK_g0.out.cell 4
  have kg0_5 : (w7.alloc (.cells #[.int .i64 r.1, .string ⟨(r.2.1).toArray⟩, .int .u32 r.2.2.1, .bool r.2.2.2.1, .slice cg0_0 r.2.2.2.2.1.length cg0_1, .int .i64 r.2.2.2.2.2.1, .int .i64 r.2.2.2.2.2.2.1, .int .u32 r.2.2.2.2.2.2.2.1, .slice cg0_2 r.2.2.2.2.2.2.2.2.length cg0_3] 38)).cell? ⟨w7.heap.size, 5, none⟩ = some (.int .i64 r.2.2.2.2.2.1) := HBK_g0.out.cell 5
  have kg0_6 : (w7.alloc (.cells #[.int .i64 r.1, .string ⟨(r.2.1).toArray⟩, .int .u32 r.2.2.1, .bool r.2.2.2.1, .slice cg0_0 r.2.2.2.2.1.length cg0_1, .int .i64 r.2.2.2.2.2.1, .int .i64 r.2.2.2.2.2.2.1, .int .u32 r.2.2.2.2.2.2.2.1, .slice cg0_2 r.2.2.2.2.2.2.2.2.length cg0_3] 38)).cell? ⟨w7.heap.size, 6, none⟩ = some (.int .i64 r.2.2.2.2.2.2.1) := HBK_g0.out.cell 6
  have kg0_7 : (w7.alloc (.cells #[.int .i64 r.1, .string ⟨(r.2.1).toArray⟩, .int .u32 r.2.2.1, .bool r.2.2.2.1, .slice cg0_0 r.2.2.2.2.1.length cg0_1, .int .i64 r.2.2.2.2.2.1, .int .i64 r.2.2.2.2.2.2.1, .int .u32 r.2.2.2.2.2.2.2.1, .slice cg0_2 r.2.2.2.2.2.2.2.2.length cg0_3] 38)).cell? ⟨w7.heap.size, 7, none⟩ = some (.int .u32 r.2.2.2.2.2.2.2.1) := HBK_g0.out.cell 7
  have kg0_8 : (w7.alloc (.cells #[.int .i64 r.1, .string ⟨(r.2.1).toArray⟩, .int .u32 r.2.2.1, .bool r.2.2.2.1, .slice cg0_0 r.2.2.2.2.1.length cg0_1, .int .i64 r.2.2.2.2.2.1, .int .i64 r.2.2.2.2.2.2.1, .int .u32 r.2.2.2.2.2.2.2.1, .slice cg0_2 r.2.2.2.2.2.2.2.2.length cg0_3] 38)).cell? ⟨w7.heap.size, 8, none⟩ = some (.slice cg0_2 r.2.2.2.2.2.2.2.2.length cg0_3) := HBK_g0.out.cell 8
  go_wp2_with fail
  refine (eqCmd_v G0_8.out.rd W0_8.out.rd).mono ?_
  rintro e w9 ⟨rfl, hm9⟩
  clear kaU_0 kaU_1 kaU_2 kaU_3
  clear kw0_0 kw0_1 kw0_2 kw0_3 kw0_4 kw0_5 kw0_6 kw0_7 kw0_8
  clear kx0_0 kx0_1 kx0_2 kx0_3
  clear kg0_0 kg0_1 kg0_2 kg0_3 kg0_4 kg0_5 kg0_6 kg0_7 kg0_8
  have HBK9_aU := Sec.mk (HBK8_aU.out.mod hm9 id)
  clear HBK8_aU
  have HBK9_w0 := Sec.mk (HBK8_w0.out.mod hm9 id)
  clear HBK8_w0
  have HBK9_x0 := Sec.mk (HBK8_x0.out.mod hm9 id)
  clear HBK8_x0
  have HBK9_g0 := Sec.mk (HBK_g0.out.mod hm9 id)
  clear HBK_g0
  have W0_9 := Sec.mk (W0_8.out.step hm9)
  clear W0_8
  have X0_9 := Sec.mk (X0_8.out.step hm9)
  clear X0_8
  have G0_9 := Sec.mk (G0_8.out.step hm9)
  clear G0_8
  have HM9 := Sec.mk (HM8.out.transN hm9)
  clear HM8
  have hs9 := hm9.size
  clear hm9
  have kaU_0 : (w9).cell? ⟨w.heap.size, 0, none⟩ = some (.slice caU_0 xU.1.length caU_1) := HBK9_aU.out.cell 0
  have kaU_1 : (w9).cell? ⟨w.heap.size, 1, none⟩ = some (.slice caU_2 xU.2.1.length caU_3) := HBK9_aU.out.cell 1
  have kaU_2 : (w9).cell? ⟨w.heap.size, 2, none⟩ = some (.bool xU.2.2.1) := HBK9_aU.out.cell 2
  have kaU_3 : (w9).cell? ⟨w.heap.size, 3, none⟩ = some (.bool xU.2.2.2) := HBK9_aU.out.cell 3
  have kw0_0 : (w9).cell? ⟨w3.heap.size, 0, none⟩ = some (.int .i64 r.1) := HBK9_w0.out.cell 0
  have kw0_1 : (w9).cell? ⟨w3.heap.size, 1, none⟩ = some (.string ⟨(r.2.1).toArray⟩) := HBK9_w0.out.cell 1
  have kw0_2 : (w9).cell? ⟨w3.heap.size, 2, none⟩ = some (.int .u32 r.2.2.1) := HBK9_w0.out.cell 2
  have kw0_3 : (w9).cell? ⟨w3.heap.size, 3, none⟩ = some (.bool r.2.2.2.1) := HBK9_w0.out.cell 3
  have kw0_4 : (w9).cell? ⟨w3.heap.size, 4, none⟩ = some (.slice cw0_0 r.2.2.2.2.1.length cw0_1) := HBK9_w0.out.cell 4
  have kw0_5 : (w9).cell? ⟨w3.heap.size, 5, none⟩ = some (.int .i64 r.2.2.2.2.2.1) := HBK9_w0.out.cell 5
  have kw0_6 : (w9).cell? ⟨w3.heap.size, 6, none⟩ = some (.int .i64 r.2.2.2.2.2.2.1) := HBK9_w0.out.cell 6
  have kw0_7 : (w9).cell? ⟨w3.heap.size, 7, none⟩ = some (.int .u32 r.2.2.2.2.2.2.2.1) := HBK9_w0.out.cell 7
  have kw0_8 : (w9).cell? ⟨w3.heap.size, 8, none⟩ = some (.slice cw0_2 r.2.2.2.2.2.2.2.2.length cw0_3) := HBK9_w0.out.cell 8
  have kx0_0 : (w9).cell? ⟨w5.heap.size, 0, none⟩ = some (.slice cx0_0 xU.1.length cx0_1) := HBK9_x0.out.cell 0
  have kx0_1 : (w9).cell? ⟨w5.heap.size, 1, none⟩ = some (.slice cx0_2 xU.2.1.length cx0_3) := HBK9_x0.out.cell 1
  have kx0_2 : (w9).cell? ⟨w5.heap.size, 2, none⟩ = some (.bool xU.2.2.1) := HBK9_x0.out.cell 2
  have kx0_3 : (w9).cell? ⟨w5.heap.size, 3, none⟩ = some (.bool xU.2.2.2) := HBK9_x0.out.cell 3
  have kg0_0 : (w9).cell? ⟨w7.heap.size, 0, none⟩ = some (.int .i64 r.1) := HBK9_g0.out.cell 0
  have kg0_1 : (w9).cell? ⟨w7.heap.size, 1, none⟩ = some (.string ⟨(r.2.1).toArray⟩) := HBK9_g0.out.cell 1
  have kg0_2 : (w9).cell? ⟨w7.heap.size, 2, none⟩ = some (.int .u32 r.2.2.1) := HBK9_g0.out.cell 2
  have kg0_3 : (w9).cell? ⟨w7.heap.size, 3, none⟩ = some (.bool r.2.2.2.1) := HBK9_g0.out.cell 3
  have kg0_4 : (w9).cell? ⟨w7.heap.size, 4, none⟩ = some (.slice cg0_0 r.2.2.2.2.1.length cg0_1) := HBK9_g0.out.cell 4
  have kg0_5 : (w9).cell? ⟨w7.heap.size, 5, none⟩ = some (.int .i64 r.2.2.2.2.2.1) := HBK9_g0.out.cell 5
  have kg0_6 : (w9).cell? ⟨w7.heap.size, 6, none⟩ = some (.int .i64 r.2.2.2.2.2.2.1) := HBK9_g0.out.cell 6
  have kg0_7 : (w9).cell? ⟨w7.heap.size, 7, none⟩ = some (.int .u32 r.2.2.2.2.2.2.2.1) := HBK9_g0.out.cell 7
  have kg0_8 : (w9).cell? ⟨w7.heap.size, 8, none⟩ = some (.slice cg0_2 r.2.2.2.2.2.2.2.2.length cg0_3) := HBK9_g0.out.cell 8
  rw [show decide (r = r) = true by simp]
  go_wp2
  refine reg_start [] (fun W => Sec (New (w9) W)) (by kernel_rfl) ?_
  have HSS : Sec (New (w9) (w9).drew) := ⟨(Mod.refl _ _).drew⟩
  refine reg_take (.agg #[.slice cx0_0 xU.1.length cx0_1, .slice cx0_2 xU.2.1.length cx0_3, .bool xU.2.2.1, .bool xU.2.2.2]) (i := 0) (n := 27) HSS rfl (by kernel_rfl) (by kernel_rfl) (by kernel_rfl) (by kernel_rfl) (fun _ _ _ h => h) (fun W hW => exec_load rfl rfl (ldUnitI (HBK9_x0.out.mod hW.out id))) ?_
  simp only [Act.put, List.setIfInBounds_toArray, List.set_cons_zero, List.set_cons_succ]
  refine reg_take (.agg #[.slice caU_0 xU.1.length caU_1, .slice caU_2 xU.2.1.length caU_3, .bool xU.2.2.1, .bool xU.2.2.2]) (i := 1) (n := 28) HSS rfl (by kernel_rfl) (by kernel_rfl) (by kernel_rfl) (by kernel_rfl) (fun _ _ _ h => h) (fun W hW => exec_load rfl rfl (ldUnitL (HBK9_aU.out.mod hW.out id))) ?_
  simp only [Act.put, List.setIfInBounds_toArray, List.set_cons_zero, List.set_cons_succ]
  refine reg_step (i := 2) rfl (by kernel_rfl) (fun K hK => ?_)
  refine wp_call (n := 29) (vals := [.agg #[.slice caU_0 xU.1.length caU_1, .slice caU_2 xU.2.1.length caU_3, .bool xU.2.2.1, .bool xU.2.2.2]]) rfl rfl rfl (by kernel_rfl) (toUnit_v (HRaU.out.step (HM9.out.transN HSS.out)) hb0) ?_
  rintro e w10' ⟨v10, rfl, ho10, hm10⟩
  have HO10 := Sec.mk ho10
  have HSS : Sec (New (w9) w10') := ⟨HSS.out.transN hm10⟩
  refine ⟨_, rfl, hK.out _ _ (fun _ => HSS) ?_⟩
  clear hm10 ho10
  clear hK K
  simp only [Act.put, List.setIfInBounds_toArray, List.set_cons_zero, List.set_cons_succ]
  refine reg_step (i := 3) rfl (by kernel_rfl) (fun K hK => ?_)
  refine wp_call (n := 30) (vals := [.agg #[.slice cx0_0 xU.1.length cx0_1, .slice cx0_2 xU.2.1.length cx0_3, .bool xU.2.2.1, .bool xU.2.2.2], v10]) rfl rfl rfl (by kernel_rfl) (eqUnit_same (X0_9.out.rd.step HSS.out) HO10.out.rd) ?_
  rintro e w10 ⟨rfl, hn10⟩
  have HSS : Sec (New (w9) w10) := ⟨HSS.out.transN hn10⟩
  refine ⟨_, rfl, hK.out _ _ (fun _ => HSS) ?_⟩
  clear hn10
  clear hK K
  simp only [Act.put, List.setIfInBounds_toArray, List.set_cons_zero, List.set_cons_succ]
  refine reg_take (.bool false) (i := 4) (n := 31) HSS rfl (by kernel_rfl) (by kernel_rfl) (by kernel_rfl) (by kernel_rfl) (fun _ _ _ h => h) (fun W hW => exec_un rfl rfl (by go_simp)) ?_
  simp only [Act.put, List.setIfInBounds_toArray, List.set_cons_zero, List.set_cons_succ]
  refine reg_done (by kernel_rfl) ?_ _
  clear HO10
  have hm10 := HSS.out
  clear kaU_0 kaU_1 kaU_2 kaU_3
  clear kw0_0 kw0_1 kw0_2 kw0_3 kw0_4 kw0_5 kw0_6 kw0_7 kw0_8
  clear kx0_0 kx0_1 kx0_2 kx0_3
  clear kg0_0 kg0_1 kg0_2 kg0_3 kg0_4 kg0_5 kg0_6 kg0_7 kg0_8
  have HBK10_aU := Sec.mk (HBK9_aU.out.mod hm10 id)
  clear HBK9_aU
  have HBK10_w0 := Sec.mk (HBK9_w0.out.mod hm10 id)
  clear HBK9_w0
  have HBK10_x0 := Sec.mk (HBK9_x0.out.mod hm10 id)
  clear HBK9_x0
  have HBK10_g0 := Sec.mk (HBK9_g0.out.mod hm10 id)
  clear HBK9_g0
  have W0_10 := Sec.mk (W0_9.out.step hm10)
  clear W0_9
  have X0_10 := Sec.mk (X0_9.out.step hm10)
  clear X0_9
  have G0_10 := Sec.mk (G0_9.out.step hm10)
  clear G0_9
  have HM10 := Sec.mk (HM9.out.transN hm10)
  clear HM9
  have hs10 := hm10.size
  clear hm10
  have kaU_0 : (w10).cell? ⟨w.heap.size, 0, none⟩ = some (.slice caU_0 xU.1.length caU_1) := HBK10_aU.out.cell 0
  have kaU_1 : (w10).cell? ⟨w.heap.size, 1, none⟩ = some (.slice caU_2 xU.2.1.length caU_3) := HBK10_aU.out.cell 1
  have kaU_2 : (w10).cell? ⟨w.heap.size, 2, none⟩ = some (.bool xU.2.2.1) := HBK10_aU.out.cell 2
  have kaU_3 : (w10).cell? ⟨w.heap.size, 3, none⟩ = some (.bool xU.2.2.2) := HBK10_aU.out.cell 3
  have kw0_0 : (w10).cell? ⟨w3.heap.size, 0, none⟩ = some (.int .i64 r.1) := HBK10_w0.out.cell 0
  have kw0_1 : (w10).cell? ⟨w3.heap.size, 1, none⟩ = some (.string ⟨(r.2.1).toArray⟩) := HBK10_w0.out.cell 1
  have kw0_2 : (w10).cell? ⟨w3.heap.size, 2, none⟩ = some (.int .u32 r.2.2.1) := HBK10_w0.out.cell 2
  have kw0_3 : (w10).cell? ⟨w3.heap.size, 3, none⟩ = some (.bool r.2.2.2.1) := HBK10_w0.out.cell 3
  have kw0_4 : (w10).cell? ⟨w3.heap.size, 4, none⟩ = some (.slice cw0_0 r.2.2.2.2.1.length cw0_1) := HBK10_w0.out.cell 4
  have kw0_5 : (w10).cell? ⟨w3.heap.size, 5, none⟩ = some (.int .i64 r.2.2.2.2.2.1) := HBK10_w0.out.cell 5
  have kw0_6 : (w10).cell? ⟨w3.heap.size, 6, none⟩ = some (.int .i64 r.2.2.2.2.2.2.1) := HBK10_w0.out.cell 6
  have kw0_7 : (w10).cell? ⟨w3.heap.size, 7, none⟩ = some (.int .u32 r.2.2.2.2.2.2.2.1) := HBK10_w0.out.cell 7
  have kw0_8 : (w10).cell? ⟨w3.heap.size, 8, none⟩ = some (.slice cw0_2 r.2.2.2.2.2.2.2.2.length cw0_3) := HBK10_w0.out.cell 8
  have kx0_0 : (w10).cell? ⟨w5.heap.size, 0, none⟩ = some (.slice cx0_0 xU.1.length cx0_1) := HBK10_x0.out.cell 0
  have kx0_1 : (w10).cell? ⟨w5.heap.size, 1, none⟩ = some (.slice cx0_2 xU.2.1.length cx0_3) := HBK10_x0.out.cell 1
  have kx0_2 : (w10).cell? ⟨w5.heap.size, 2, none⟩ = some (.bool xU.2.2.1) := HBK10_x0.out.cell 2
  have kx0_3 : (w10).cell? ⟨w5.heap.size, 3, none⟩ = some (.bool xU.2.2.2) := HBK10_x0.out.cell 3
  have kg0_0 : (w10).cell? ⟨w7.heap.size, 0, none⟩ = some (.int .i64 r.1) := HBK10_g0.out.cell 0
  have kg0_1 : (w10).cell? ⟨w7.heap.size, 1, none⟩ = some (.string ⟨(r.2.1).toArray⟩) := HBK10_g0.out.cell 1
  have kg0_2 : (w10).cell? ⟨w7.heap.size, 2, none⟩ = some (.int .u32 r.2.2.1) := HBK10_g0.out.cell 2
  have kg0_3 : (w10).cell? ⟨w7.heap.size, 3, none⟩ = some (.bool r.2.2.2.1) := HBK10_g0.out.cell 3
  have kg0_4 : (w10).cell? ⟨w7.heap.size, 4, none⟩ = some (.slice cg0_0 r.2.2.2.2.1.length cg0_1) := HBK10_g0.out.cell 4
  have kg0_5 : (w10).cell? ⟨w7.heap.size, 5, none⟩ = some (.int .i64 r.2.2.2.2.2.1) := HBK10_g0.out.cell 5
  have kg0_6 : (w10).cell? ⟨w7.heap.size, 6, none⟩ = some (.int .i64 r.2.2.2.2.2.2.1) := HBK10_g0.out.cell 6
  have kg0_7 : (w10).cell? ⟨w7.heap.size, 7, none⟩ = some (.int .u32 r.2.2.2.2.2.2.2.1) := HBK10_g0.out.cell 7
  have kg0_8 : (w10).cell? ⟨w7.heap.size, 8, none⟩ = some (.slice cg0_2 r.2.2.2.2.2.2.2.2.length cg0_3) := HBK10_g0.out.cell 8
  clear HSS
  go_wp2_with fail
  refine (markUnit_v X0_10.out (1) (by omega)).mono ?_
  rintro e w11 ⟨rfl, ho11, hm11⟩
  clear X0_10
  clear kaU_0 kaU_1 kaU_2 kaU_3
  clear kw0_0 kw0_1 kw0_2 kw0_3 kw0_4 kw0_5 kw0_6 kw0_7 kw0_8
  clear kx0_0 kx0_1 kx0_2 kx0_3
  clear kg0_0 kg0_1 kg0_2 kg0_3 kg0_4 kg0_5 kg0_6 kg0_7 kg0_8
  have HBK11_aU := Sec.mk (HBK10_aU.out.mod hm11 (by omega))
  clear HBK10_aU
  have HBK11_w0 := Sec.mk (HBK10_w0.out.mod hm11 (by omega))
  clear HBK10_w0
  have HBK11_x0 := Sec.mk (HBK10_x0.out.mod hm11 (by omega))
  clear HBK10_x0
  have HBK11_g0 := Sec.mk (HBK10_g0.out.mod hm11 (by omega))
  clear HBK10_g0
  have W0_11 := Sec.mk (W0_10.out.keep hm11 (fun k h1 h2 h3 => by omega))
  clear W0_10
  have G0_11 := Sec.mk (G0_10.out.keep hm11 (fun k h1 h2 h3 => by omega))
  clear G0_10
  have HM11 := Sec.mk (HM10.out.trans hm11 (fun i hi hlt => by omega))
  clear HM10
  have hs11 := hm11.size
  clear hm11
  have kaU_0 : (w11).cell? ⟨w.heap.size, 0, none⟩ = some (.slice caU_0 xU.1.length caU_1) := HBK11_aU.out.cell 0
  have kaU_1 : (w11).cell? ⟨w.heap.size, 1, none⟩ = some (.slice caU_2 xU.2.1.length caU_3) := HBK11_aU.out.cell 1
  have kaU_2 : (w11).cell? ⟨w.heap.size, 2, none⟩ = some (.bool xU.2.2.1) := HBK11_aU.out.cell 2
  have kaU_3 : (w11).cell? ⟨w.heap.size, 3, none⟩ = some (.bool xU.2.2.2) := HBK11_aU.out.cell 3
  have kw0_0 : (w11).cell? ⟨w3.heap.size, 0, none⟩ = some (.int .i64 r.1) := HBK11_w0.out.cell 0
  have kw0_1 : (w11).cell? ⟨w3.heap.size, 1, none⟩ = some (.string ⟨(r.2.1).toArray⟩) := HBK11_w0.out.cell 1
  have kw0_2 : (w11).cell? ⟨w3.heap.size, 2, none⟩ = some (.int .u32 r.2.2.1) := HBK11_w0.out.cell 2
  have kw0_3 : (w11).cell? ⟨w3.heap.size, 3, none⟩ = some (.bool r.2.2.2.1) := HBK11_w0.out.cell 3
  have kw0_4 : (w11).cell? ⟨w3.heap.size, 4, none⟩ = some (.slice cw0_0 r.2.2.2.2.1.length cw0_1) := HBK11_w0.out.cell 4
  have kw0_5 : (w11).cell? ⟨w3.heap.size, 5, none⟩ = some (.int .i64 r.2.2.2.2.2.1) := HBK11_w0.out.cell 5
  have kw0_6 : (w11).cell? ⟨w3.heap.size, 6, none⟩ = some (.int .i64 r.2.2.2.2.2.2.1) := HBK11_w0.out.cell 6
  have kw0_7 : (w11).cell? ⟨w3.heap.size, 7, none⟩ = some (.int .u32 r.2.2.2.2.2.2.2.1) := HBK11_w0.out.cell 7
  have kw0_8 : (w11).cell? ⟨w3.heap.size, 8, none⟩ = some (.slice cw0_2 r.2.2.2.2.2.2.2.2.length cw0_3) := HBK11_w0.out.cell 8
  have kx0_0 : (w11).cell? ⟨w5.heap.size, 0, none⟩ = some (.slice cx0_0 xU.1.length cx0_1) := HBK11_x0.out.cell 0
  have kx0_1 : (w11).cell? ⟨w5.heap.size, 1, none⟩ = some (.slice cx0_2 xU.2.1.length cx0_3) := HBK11_x0.out.cell 1
  have kx0_2 : (w11).cell? ⟨w5.heap.size, 2, none⟩ = some (.bool xU.2.2.1) := HBK11_x0.out.cell 2
  have kx0_3 : (w11).cell? ⟨w5.heap.size, 3, none⟩ = some (.bool xU.2.2.2) := HBK11_x0.out.cell 3
  have kg0_0 : (w11).cell? ⟨w7.heap.size, 0, none⟩ = some (.int .i64 r.1) := HBK11_g0.out.cell 0
  have kg0_1 : (w11).cell? ⟨w7.heap.size, 1, none⟩ = some (.string ⟨(r.2.1).toArray⟩) := HBK11_g0.out.cell 1
  have kg0_2 : (w11).cell? ⟨w7.heap.size, 2, none⟩ = some (.int .u32 r.2.2.1) := HBK11_g0.out.cell 2
  have kg0_3 : (w11).cell? ⟨w7.heap.size, 3, none⟩ = some (.bool r.2.2.2.1) := HBK11_g0.out.cell 3
  have kg0_4 : (w11).cell? ⟨w7.heap.size, 4, none⟩ = some (.slice cg0_0 r.2.2.2.2.1.length cg0_1) := HBK11_g0.out.cell 4
  have kg0_5 : (w11).cell? ⟨w7.heap.size, 5, none⟩ = some (.int .i64 r.2.2.2.2.2.1) := HBK11_g0.out.cell 5
  have kg0_6 : (w11).cell? ⟨w7.heap.size, 6, none⟩ = some (.int .i64 r.2.2.2.2.2.2.1) := HBK11_g0.out.cell 6
  have kg0_7 : (w11).cell? ⟨w7.heap.size, 7, none⟩ = some (.int .u32 r.2.2.2.2.2.2.2.1) := HBK11_g0.out.cell 7
  have kg0_8 : (w11).cell? ⟨w7.heap.size, 8, none⟩ = some (.slice cg0_2 r.2.2.2.2.2.2.2.2.length cg0_3) := HBK11_g0.out.cell 8
  have X0_11 := Sec.mk ho11
  clear ho11
  go_wp2_with fail
  refine (eqCmd_v G0_11.out.rd W0_11.out.rd).mono ?_
  rintro e w12 ⟨rfl, hm12⟩
  clear kaU_0 kaU_1 kaU_2 kaU_3
  clear kw0_0 kw0_1 kw0_2 kw0_3 kw0_4 kw0_5 kw0_6 kw0_7 kw0_8
  clear kx0_0 kx0_1 kx0_2 kx0_3
  clear kg0_0 kg0_1 kg0_2 kg0_3 kg0_4 kg0_5 kg0_6 kg0_7 kg0_8
  have HBK12_aU := Sec.mk (HBK11_aU.out.mod hm12 id)
  clear HBK11_aU
  have HBK12_w0 := Sec.mk (HBK11_w0.out.mod hm12 id)
  clear HBK11_w0
  have HBK12_x0 := Sec.mk (HBK11_x0.out.mod hm12 id)
  clear HBK11_x0
  have HBK12_g0 := Sec.mk (HBK11_g0.out.mod hm12 id)
  clear HBK11_g0
  have W0_12 := Sec.mk (W0_11.out.step hm12)
  clear W0_11
  have X0_12 := Sec.mk (X0_11.out.step hm12)
  clear X0_11
  have G0_12 := Sec.mk (G0_11.out.step hm12)
  clear G0_11
  have HM12 := Sec.mk (HM11.out.transN hm12)
  clear HM11
  have hs12 := hm12.size
  clear hm12
  have kaU_0 : (w12).cell? ⟨w.heap.size, 0, none⟩ = some (.slice caU_0 xU.1.length caU_1) := HBK12_aU.out.cell 0
  have kaU_1 : (w12).cell? ⟨w.heap.size, 1, none⟩ = some (.slice caU_2 xU.2.1.length caU_3) := HBK12_aU.out.cell 1
  have kaU_2 : (w12).cell? ⟨w.heap.size, 2, none⟩ = some (.bool xU.2.2.1) := HBK12_aU.out.cell 2
  have kaU_3 : (w12).cell? ⟨w.heap.size, 3, none⟩ = some (.bool xU.2.2.2) := HBK12_aU.out.cell 3
  have kw0_0 : (w12).cell? ⟨w3.heap.size, 0, none⟩ = some (.int .i64 r.1) := HBK12_w0.out.cell 0
  have kw0_1 : (w12).cell? ⟨w3.heap.size, 1, none⟩ = some (.string ⟨(r.2.1).toArray⟩) := HBK12_w0.out.cell 1
  have kw0_2 : (w12).cell? ⟨w3.heap.size, 2, none⟩ = some (.int .u32 r.2.2.1) := HBK12_w0.out.cell 2
  have kw0_3 : (w12).cell? ⟨w3.heap.size, 3, none⟩ = some (.bool r.2.2.2.1) := HBK12_w0.out.cell 3
  have kw0_4 : (w12).cell? ⟨w3.heap.size, 4, none⟩ = some (.slice cw0_0 r.2.2.2.2.1.length cw0_1) := HBK12_w0.out.cell 4
  have kw0_5 : (w12).cell? ⟨w3.heap.size, 5, none⟩ = some (.int .i64 r.2.2.2.2.2.1) := HBK12_w0.out.cell 5
  have kw0_6 : (w12).cell? ⟨w3.heap.size, 6, none⟩ = some (.int .i64 r.2.2.2.2.2.2.1) := HBK12_w0.out.cell 6
  have kw0_7 : (w12).cell? ⟨w3.heap.size, 7, none⟩ = some (.int .u32 r.2.2.2.2.2.2.2.1) := HBK12_w0.out.cell 7
  have kw0_8 : (w12).cell? ⟨w3.heap.size, 8, none⟩ = some (.slice cw0_2 r.2.2.2.2.2.2.2.2.length cw0_3) := HBK12_w0.out.cell 8
  have kx0_0 : (w12).cell? ⟨w5.heap.size, 0, none⟩ = some (.slice cx0_0 xU.1.length cx0_1) := HBK12_x0.out.cell 0
  have kx0_1 : (w12).cell? ⟨w5.heap.size, 1, none⟩ = some (.slice cx0_2 xU.2.1.length cx0_3) := HBK12_x0.out.cell 1
  have kx0_2 : (w12).cell? ⟨w5.heap.size, 2, none⟩ = some (.bool xU.2.2.1) := HBK12_x0.out.cell 2
  have kx0_3 : (w12).cell? ⟨w5.heap.size, 3, none⟩ = some (.bool xU.2.2.2) := HBK12_x0.out.cell 3
  have kg0_0 : (w12).cell? ⟨w7.heap.size, 0, none⟩ = some (.int .i64 r.1) := HBK12_g0.out.cell 0
  have kg0_1 : (w12).cell? ⟨w7.heap.size, 1, none⟩ = some (.string ⟨(r.2.1).toArray⟩) := HBK12_g0.out.cell 1
  have kg0_2 : (w12).cell? ⟨w7.heap.size, 2, none⟩ = some (.int .u32 r.2.2.1) := HBK12_g0.out.cell 2
  have kg0_3 : (w12).cell? ⟨w7.heap.size, 3, none⟩ = some (.bool r.2.2.2.1) := HBK12_g0.out.cell 3
  have kg0_4 : (w12).cell? ⟨w7.heap.size, 4, none⟩ = some (.slice cg0_0 r.2.2.2.2.1.length cg0_1) := HBK12_g0.out.cell 4
  have kg0_5 : (w12).cell? ⟨w7.heap.size, 5, none⟩ = some (.int .i64 r.2.2.2.2.2.1) := HBK12_g0.out.cell 5
  have kg0_6 : (w12).cell? ⟨w7.heap.size, 6, none⟩ = some (.int .i64 r.2.2.2.2.2.2.1) := HBK12_g0.out.cell 6
  have kg0_7 : (w12).cell? ⟨w7.heap.size, 7, none⟩ = some (.int .u32 r.2.2.2.2.2.2.2.1) := HBK12_g0.out.cell 7
  have kg0_8 : (w12).cell? ⟨w7.heap.size, 8, none⟩ = some (.slice cg0_2 r.2.2.2.2.2.2.2.2.length cg0_3) := HBK12_g0.out.cell 8
  rw [show decide (r = r) = true by simp]
  go_wp2_with fail
  refine (markCmd_v G0_12.out (1) (by omega)).mono ?_
  rintro e w13 ⟨rfl, ho13, hm13⟩
  clear G0_12
  clear kaU_0 kaU_1 kaU_2 kaU_3
  clear kw0_0 kw0_1 kw0_2 kw0_3 kw0_4 kw0_5 kw0_6 kw0_7 kw0_8
  clear kx0_0 kx0_1 kx0_2 kx0_3
  clear kg0_0 kg0_1 kg0_2 kg0_3 kg0_4 kg0_5 kg0_6 kg0_7 kg0_8
  have HBK13_aU := Sec.mk (HBK12_aU.out.mod hm13 (by omega))
  clear HBK12_aU
  have HBK13_w0 := Sec.mk (HBK12_w0.out.mod hm13 (by omega))
  clear HBK12_w0
  have HBK13_x0 := Sec.mk (HBK12_x0.out.mod hm13 (by omega))
  clear HBK12_x0
  have HBK13_g0 := Sec.mk (HBK12_g0.out.mod hm13 (by omega))
  clear HBK12_g0
  have W0_13 := Sec.mk (W0_12.out.keep hm13 (fun k h1 h2 h3 => by omega))
  clear W0_12
  have X0_13 := Sec.mk (X0_12.out.keep hm13 (fun k h1 h2 h3 => by omega))
  clear X0_12
  have HM13 := Sec.mk (HM12.out.trans hm13 (fun i hi hlt => by omega))
  clear HM12
  have hs13 := hm13.size
  clear hm13
  have kaU_0 : (w13).cell? ⟨w.heap.size, 0, none⟩ = some (.slice caU_0 xU.1.length caU_1) := HBK13_aU.out.cell 0
  have kaU_1 : (w13).cell? ⟨w.heap.size, 1, none⟩ = some (.slice caU_2 xU.2.1.length caU_3) := HBK13_aU.out.cell 1
  have kaU_2 : (w13).cell? ⟨w.heap.size, 2, none⟩ = some (.bool xU.2.2.1) := HBK13_aU.out.cell 2
  have kaU_3 : (w13).cell? ⟨w.heap.size, 3, none⟩ = some (.bool xU.2.2.2) := HBK13_aU.out.cell 3
  have kw0_0 : (w13).cell? ⟨w3.heap.size, 0, none⟩ = some (.int .i64 r.1) := HBK13_w0.out.cell 0
  have kw0_1 : (w13).cell? ⟨w3.heap.size, 1, none⟩ = some (.string ⟨(r.2.1).toArray⟩) := HBK13_w0.out.cell 1
  have kw0_2 : (w13).cell? ⟨w3.heap.size, 2, none⟩ = some (.int .u32 r.2.2.1) := HBK13_w0.out.cell 2
  have kw0_3 : (w13).cell? ⟨w3.heap.size, 3, none⟩ = some (.bool r.2.2.2.1) := HBK13_w0.out.cell 3
  have kw0_4 : (w13).cell? ⟨w3.heap.size, 4, none⟩ = some (.slice cw0_0 r.2.2.2.2.1.length cw0_1) := HBK13_w0.out.cell 4
  have kw0_5 : (w13).cell? ⟨w3.heap.size, 5, none⟩ = some (.int .i64 r.2.2.2.2.2.1) := HBK13_w0.out.cell 5
  have kw0_6 : (w13).cell? ⟨w3.heap.size, 6, none⟩ = some (.int .i64 r.2.2.2.2.2.2.1) := HBK13_w0.out.cell 6
  have kw0_7 : (w13).cell? ⟨w3.heap.size, 7, none⟩ = some (.int .u32 r.2.2.2.2.2.2.2.1) := HBK13_w0.out.cell 7
  have kw0_8 : (w13).cell? ⟨w3.heap.size, 8, none⟩ = some (.slice cw0_2 r.2.2.2.2.2.2.2.2.length cw0_3) := HBK13_w0.out.cell 8
  have kx0_0 : (w13).cell? ⟨w5.heap.size, 0, none⟩ = some (.slice cx0_0 xU.1.length cx0_1) := HBK13_x0.out.cell 0
  have kx0_1 : (w13).cell? ⟨w5.heap.size, 1, none⟩ = some (.slice cx0_2 xU.2.1.length cx0_3) := HBK13_x0.out.cell 1
  have kx0_2 : (w13).cell? ⟨w5.heap.size, 2, none⟩ = some (.bool xU.2.2.1) := HBK13_x0.out.cell 2
  have kx0_3 : (w13).cell? ⟨w5.heap.size, 3, none⟩ = some (.bool xU.2.2.2) := HBK13_x0.out.cell 3
  have kg0_0 : (w13).cell? ⟨w7.heap.size, 0, none⟩ = some (.int .i64 r.1) := HBK13_g0.out.cell 0
  have kg0_1 : (w13).cell? ⟨w7.heap.size, 1, none⟩ = some (.string ⟨(r.2.1).toArray⟩) := HBK13_g0.out.cell 1
  have kg0_2 : (w13).cell? ⟨w7.heap.size, 2, none⟩ = some (.int .u32 r.2.2.1) := HBK13_g0.out.cell 2
  have kg0_3 : (w13).cell? ⟨w7.heap.size, 3, none⟩ = some (.bool r.2.2.2.1) := HBK13_g0.out.cell 3
  have kg0_4 : (w13).cell? ⟨w7.heap.size, 4, none⟩ = some (.slice cg0_0 r.2.2.2.2.1.length cg0_1) := HBK13_g0.out.cell 4
  have kg0_5 : (w13).cell? ⟨w7.heap.size, 5, none⟩ = some (.int .i64 r.2.2.2.2.2.1) := HBK13_g0.out.cell 5
  have kg0_6 : (w13).cell? ⟨w7.heap.size, 6, none⟩ = some (.int .i64 r.2.2.2.2.2.2.1) := HBK13_g0.out.cell 6
  have kg0_7 : (w13).cell? ⟨w7.heap.size, 7, none⟩ = some (.int .u32 r.2.2.2.2.2.2.2.1) := HBK13_g0.out.cell 7
  have kg0_8 : (w13).cell? ⟨w7.heap.size, 8, none⟩ = some (.slice cg0_2 r.2.2.2.2.2.2.2.2.length cg0_3) := HBK13_g0.out.cell 8
  have G0_13 := Sec.mk ho13
  clear ho13
  have HX := Sec.mk (mkCmd1_idem 1 1 r).symm
  have HK := Sec.mk (cntCmd_mk 1 r)
  go_wp2_with fail
  refine (heldCmd_v G0_13.out.rd 1 HX.out (by rw [HK.out]; omega)).mono ?_
  rintro e w14 ⟨rfl, hm14⟩
  rw [HK.out]
  clear kaU_0 kaU_1 kaU_2 kaU_3
  clear kw0_0 kw0_1 kw0_2 kw0_3 kw0_4 kw0_5 kw0_6 kw0_7 kw0_8
  clear kx0_0 kx0_1 kx0_2 kx0_3
  clear kg0_0 kg0_1 kg0_2 kg0_3 kg0_4 kg0_5 kg0_6 kg0_7 kg0_8
  have HBK14_aU := Sec.mk (HBK13_aU.out.mod hm14 id)
  clear HBK13_aU
  have HBK14_w0 := Sec.mk (HBK13_w0.out.mod hm14 id)
  clear HBK13_w0
  have HBK14_x0 := Sec.mk (HBK13_x0.out.mod hm14 id)
  clear HBK13_x0
  have HBK14_g0 := Sec.mk (HBK13_g0.out.mod hm14 id)
  clear HBK13_g0
  have W0_14 := Sec.mk (W0_13.out.step hm14)
  clear W0_13
  have X0_14 := Sec.mk (X0_13.out.step hm14)
  clear X0_13
  have G0_14 := Sec.mk (G0_13.out.step hm14)
  clear G0_13
  have HM14 := Sec.mk (HM13.out.transN hm14)
  clear HM13
  have hs14 := hm14.size
  clear hm14
  have kaU_0 : (w14).cell? ⟨w.heap.size, 0, none⟩ = some (.slice caU_0 xU.1.length caU_1) := HBK14_aU.out.cell 0
  have kaU_1 : (w14).cell? ⟨w.heap.size, 1, none⟩ = some (.slice caU_2 xU.2.1.length caU_3) := HBK14_aU.out.cell 1
  have kaU_2 : (w14).cell? ⟨w.heap.size, 2, none⟩ = some (.bool xU.2.2.1) := HBK14_aU.out.cell 2
  have kaU_3 : (w14).cell? ⟨w.heap.size, 3, none⟩ = some (.bool xU.2.2.2) := HBK14_aU.out.cell 3
  have kw0_0 : (w14).cell? ⟨w3.heap.size, 0, none⟩ = some (.int .i64 r.1) := HBK14_w0.out.cell 0
  have kw0_1 : (w14).cell? ⟨w3.heap.size, 1, none⟩ = some (.string ⟨(r.2.1).toArray⟩) := HBK14_w0.out.cell 1
  have kw0_2 : (w14).cell? ⟨w3.heap.size, 2, none⟩ = some (.int .u32 r.2.2.1) := HBK14_w0.out.cell 2
  have kw0_3 : (w14).cell? ⟨w3.heap.size, 3, none⟩ = some (.bool r.2.2.2.1) := HBK14_w0.out.cell 3
  have kw0_4 : (w14).cell? ⟨w3.heap.size, 4, none⟩ = some (.slice cw0_0 r.2.2.2.2.1.length cw0_1) := HBK14_w0.out.cell 4
  have kw0_5 : (w14).cell? ⟨w3.heap.size, 5, none⟩ = some (.int .i64 r.2.2.2.2.2.1) := HBK14_w0.out.cell 5
  have kw0_6 : (w14).cell? ⟨w3.heap.size, 6, none⟩ = some (.int .i64 r.2.2.2.2.2.2.1) := HBK14_w0.out.cell 6
  have kw0_7 : (w14).cell? ⟨w3.heap.size, 7, none⟩ = some (.int .u32 r.2.2.2.2.2.2.2.1) := HBK14_w0.out.cell 7
  have kw0_8 : (w14).cell? ⟨w3.heap.size, 8, none⟩ = some (.slice cw0_2 r.2.2.2.2.2.2.2.2.length cw0_3) := HBK14_w0.out.cell 8
  have kx0_0 : (w14).cell? ⟨w5.heap.size, 0, none⟩ = some (.slice cx0_0 xU.1.length cx0_1) := HBK14_x0.out.cell 0
  have kx0_1 : (w14).cell? ⟨w5.heap.size, 1, none⟩ = some (.slice cx0_2 xU.2.1.length cx0_3) := HBK14_x0.out.cell 1
  have kx0_2 : (w14).cell? ⟨w5.heap.size, 2, none⟩ = some (.bool xU.2.2.1) := HBK14_x0.out.cell 2
  have kx0_3 : (w14).cell? ⟨w5.heap.size, 3, none⟩ = some (.bool xU.2.2.2) := HBK14_x0.out.cell 3
  have kg0_0 : (w14).cell? ⟨w7.heap.size, 0, none⟩ = some (.int .i64 r.1) := HBK14_g0.out.cell 0
  have kg0_1 : (w14).cell? ⟨w7.heap.size, 1, none⟩ = some (.string ⟨(r.2.1).toArray⟩) := HBK14_g0.out.cell 1
  have kg0_2 : (w14).cell? ⟨w7.heap.size, 2, none⟩ = some (.int .u32 r.2.2.1) := HBK14_g0.out.cell 2
  have kg0_3 : (w14).cell? ⟨w7.heap.size, 3, none⟩ = some (.bool r.2.2.2.1) := HBK14_g0.out.cell 3
  have kg0_4 : (w14).cell? ⟨w7.heap.size, 4, none⟩ = some (.slice cg0_0 r.2.2.2.2.1.length cg0_1) := HBK14_g0.out.cell 4
  have kg0_5 : (w14).cell? ⟨w7.heap.size, 5, none⟩ = some (.int .i64 r.2.2.2.2.2.1) := HBK14_g0.out.cell 5
  have kg0_6 : (w14).cell? ⟨w7.heap.size, 6, none⟩ = some (.int .i64 r.2.2.2.2.2.2.1) := HBK14_g0.out.cell 6
  have kg0_7 : (w14).cell? ⟨w7.heap.size, 7, none⟩ = some (.int .u32 r.2.2.2.2.2.2.2.1) := HBK14_g0.out.cell 7
  have kg0_8 : (w14).cell? ⟨w7.heap.size, 8, none⟩ = some (.slice cg0_2 r.2.2.2.2.2.2.2.2.length cg0_3) := HBK14_g0.out.cell 8
  go_wp2_with fail
  refine (toUnit_v (HRaU.out.step HM14.out) hb0).mono ?_
  rintro e w15 ⟨v15, rfl, ho15, hm15⟩
  clear kaU_0 kaU_1 kaU_2 kaU_3
  clear kw0_0 kw0_1 kw0_2 kw0_3 kw0_4 kw0_5 kw0_6 kw0_7 kw0_8
  clear kx0_0 kx0_1 kx0_2 kx0_3
  clear kg0_0 kg0_1 kg0_2 kg0_3 kg0_4 kg0_5 kg0_6 kg0_7 kg0_8
  have HBK15_aU := Sec.mk (HBK14_aU.out.mod hm15 id)
  clear HBK14_aU
  have HBK15_w0 := Sec.mk (HBK14_w0.out.mod hm15 id)
  clear HBK14_w0
  have HBK15_x0 := Sec.mk (HBK14_x0.out.mod hm15 id)
  clear HBK14_x0
  have HBK15_g0 := Sec.mk (HBK14_g0.out.mod hm15 id)
  clear HBK14_g0
  have W0_15 := Sec.mk (W0_14.out.step hm15)
  clear W0_14
  have X0_15 := Sec.mk (X0_14.out.step hm15)
  clear X0_14
  have G0_15 := Sec.mk (G0_14.out.step hm15)
  clear G0_14
  have HM15 := Sec.mk (HM14.out.transN hm15)
  clear HM14
  have hs15 := hm15.size
  clear hm15
  have kaU_0 : (w15).cell? ⟨w.heap.size, 0, none⟩ = some (.slice caU_0 xU.1.length caU_1) := HBK15_aU.out.cell 0
  have kaU_1 : (w15).cell? ⟨w.heap.size, 1, none⟩ = some (.slice caU_2 xU.2.1.length caU_3) := HBK15_aU.out.cell 1
  have kaU_2 : (w15).cell? ⟨w.heap.size, 2, none⟩ = some (.bool xU.2.2.1) := HBK15_aU.out.cell 2
  have kaU_3 : (w15).cell? ⟨w.heap.size, 3, none⟩ = some (.bool xU.2.2.2) := HBK15_aU.out.cell 3
  have kw0_0 : (w15).cell? ⟨w3.heap.size, 0, none⟩ = some (.int .i64 r.1) := HBK15_w0.out.cell 0
  have kw0_1 : (w15).cell? ⟨w3.heap.size, 1, none⟩ = some (.string ⟨(r.2.1).toArray⟩) := HBK15_w0.out.cell 1
  have kw0_2 : (w15).cell? ⟨w3.heap.size, 2, none⟩ = some (.int .u32 r.2.2.1) := HBK15_w0.out.cell 2
  have kw0_3 : (w15).cell? ⟨w3.heap.size, 3, none⟩ = some (.bool r.2.2.2.1) := HBK15_w0.out.cell 3
  have kw0_4 : (w15).cell? ⟨w3.heap.size, 4, none⟩ = some (.slice cw0_0 r.2.2.2.2.1.length cw0_1) := HBK15_w0.out.cell 4
  have kw0_5 : (w15).cell? ⟨w3.heap.size, 5, none⟩ = some (.int .i64 r.2.2.2.2.2.1) := HBK15_w0.out.cell 5
  have kw0_6 : (w15).cell? ⟨w3.heap.size, 6, none⟩ = some (.int .i64 r.2.2.2.2.2.2.1) := HBK15_w0.out.cell 6
  have kw0_7 : (w15).cell? ⟨w3.heap.size, 7, none⟩ = some (.int .u32 r.2.2.2.2.2.2.2.1) := HBK15_w0.out.cell 7
  have kw0_8 : (w15).cell? ⟨w3.heap.size, 8, none⟩ = some (.slice cw0_2 r.2.2.2.2.2.2.2.2.length cw0_3) := HBK15_w0.out.cell 8
  have kx0_0 : (w15).cell? ⟨w5.heap.size, 0, none⟩ = some (.slice cx0_0 xU.1.length cx0_1) := HBK15_x0.out.cell 0
  have kx0_1 : (w15).cell? ⟨w5.heap.size, 1, none⟩ = some (.slice cx0_2 xU.2.1.length cx0_3) := HBK15_x0.out.cell 1
  have kx0_2 : (w15).cell? ⟨w5.heap.size, 2, none⟩ = some (.bool xU.2.2.1) := HBK15_x0.out.cell 2
  have kx0_3 : (w15).cell? ⟨w5.heap.size, 3, none⟩ = some (.bool xU.2.2.2) := HBK15_x0.out.cell 3
  have kg0_0 : (w15).cell? ⟨w7.heap.size, 0, none⟩ = some (.int .i64 r.1) := HBK15_g0.out.cell 0
  have kg0_1 : (w15).cell? ⟨w7.heap.size, 1, none⟩ = some (.string ⟨(r.2.1).toArray⟩) := HBK15_g0.out.cell 1
  have kg0_2 : (w15).cell? ⟨w7.heap.size, 2, none⟩ = some (.int .u32 r.2.2.1) := HBK15_g0.out.cell 2
  have kg0_3 : (w15).cell? ⟨w7.heap.size, 3, none⟩ = some (.bool r.2.2.2.1) := HBK15_g0.out.cell 3
  have kg0_4 : (w15).cell? ⟨w7.heap.size, 4, none⟩ = some (.slice cg0_0 r.2.2.2.2.1.length cg0_1) := HBK15_g0.out.cell 4
  have kg0_5 : (w15).cell? ⟨w7.heap.size, 5, none⟩ = some (.int .i64 r.2.2.2.2.2.1) := HBK15_g0.out.cell 5
  have kg0_6 : (w15).cell? ⟨w7.heap.size, 6, none⟩ = some (.int .i64 r.2.2.2.2.2.2.1) := HBK15_g0.out.cell 6
  have kg0_7 : (w15).cell? ⟨w7.heap.size, 7, none⟩ = some (.int .u32 r.2.2.2.2.2.2.2.1) := HBK15_g0.out.cell 7
  have kg0_8 : (w15).cell? ⟨w7.heap.size, 8, none⟩ = some (.slice cg0_2 r.2.2.2.2.2.2.2.2.length cg0_3) := HBK15_g0.out.cell 8
  have TUH0_15 := Sec.mk ho15
  clear ho15
  go_wp2_with fail
  refine (implParseImap_v TUH0_15.out.rd hb0 (HENV.out.new HM15.out)).mono ?_
  rw [HFN.out]
  rintro e w16 ⟨v16, rfl, ho16, hm16⟩
  clear kaU_0 kaU_1 kaU_2 kaU_3
  clear kw0_0 kw0_1 kw0_2 kw0_3 kw0_4 kw0_5 kw0_6 kw0_7 kw0_8
  clear kx0_0 kx0_1 kx0_2 kx0_3
  clear kg0_0 kg0_1 kg0_2 kg0_3 kg0_4 kg0_5 kg0_6 kg0_7 kg0_8
  have HBK16_aU := Sec.mk (HBK15_aU.out.mod hm16 id)
  clear HBK15_aU
  have HBK16_w0 := Sec.mk (HBK15_w0.out.mod hm16 id)
  clear HBK15_w0
  have HBK16_x0 := Sec.mk (HBK15_x0.out.mod hm16 id)
  clear HBK15_x0
  have HBK16_g0 := Sec.mk (HBK15_g0.out.mod hm16 id)
  clear HBK15_g0
  have W0_16 := Sec.mk (W0_15.out.step hm16)
  clear W0_15
  have X0_16 := Sec.mk (X0_15.out.step hm16)
  clear X0_15
  have G0_16 := Sec.mk (G0_15.out.step hm16)
  clear G0_15
  have TUH0_16 := Sec.mk (TUH0_15.out.step hm16)
  clear TUH0_15
  have HM16 := Sec.mk (HM15.out.transN hm16)
  clear HM15
  have hs16 := hm16.size
  clear hm16
  have kaU_0 : (w16).cell? ⟨w.heap.size, 0, none⟩ = some (.slice caU_0 xU.1.length caU_1) := HBK16_aU.out.cell 0
  have kaU_1 : (w16).cell? ⟨w.heap.size, 1, none⟩ = some (.slice caU_2 xU.2.1.length caU_3) := HBK16_aU.out.cell 1
  have kaU_2 : (w16).cell? ⟨w.heap.size, 2, none⟩ = some (.bool xU.2.2.1) := HBK16_aU.out.cell 2
  have kaU_3 : (w16).cell? ⟨w.heap.size, 3, none⟩ = some (.bool xU.2.2.2) := HBK16_aU.out.cell 3
  have kw0_0 : (w16).cell? ⟨w3.heap.size, 0, none⟩ = some (.int .i64 r.1) := HBK16_w0.out.cell 0
  have kw0_1 : (w16).cell? ⟨w3.heap.size, 1, none⟩ = some (.string ⟨(r.2.1).toArray⟩) := HBK16_w0.out.cell 1
  have kw0_2 : (w16).cell? ⟨w3.heap.size, 2, none⟩ = some (.int .u32 r.2.2.1) := HBK16_w0.out.cell 2
  have kw0_3 : (w16).cell? ⟨w3.heap.size, 3, none⟩ = some (.bool r.2.2.2.1) := HBK16_w0.out.cell 3
  have kw0_4 : (w16).cell? ⟨w3.heap.size, 4, none⟩ = some (.slice cw0_0 r.2.2.2.2.1.length cw0_1) := HBK16_w0.out.cell 4
  have kw0_5 : (w16).cell? ⟨w3.heap.size, 5, none⟩ = some (.int .i64 r.2.2.2.2.2.1) := HBK16_w0.out.cell 5
  have kw0_6 : (w16).cell? ⟨w3.heap.size, 6, none⟩ = some (.int .i64 r.2.2.2.2.2.2.1) := HBK16_w0.out.cell 6
  have kw0_7 : (w16).cell? ⟨w3.heap.size, 7, none⟩ = some (.int .u32 r.2.2.2.2.2.2.2.1) := HBK16_w0.out.cell 7
  have kw0_8 : (w16).cell? ⟨w3.heap.size, 8, none⟩ = some (.slice cw0_2 r.2.2.2.2.2.2.2.2.length cw0_3) := HBK16_w0.out.cell 8
  have kx0_0 : (w16).cell? ⟨w5.heap.size, 0, none⟩ = some (.slice cx0_0 xU.1.length cx0_1) := HBK16_x0.out.cell 0
  have kx0_1 : (w16).cell? ⟨w5.heap.size, 1, none⟩ = some (.slice cx0_2 xU.2.1.length cx0_3) := HBK16_x0.out.cell 1
  have kx0_2 : (w16).cell? ⟨w5.heap.size, 2, none⟩ = some (.bool xU.2.2.1) := HBK16_x0.out.cell 2
  have kx0_3 : (w16).cell? ⟨w5.heap.size, 3, none⟩ = some (.bool xU.2.2.2) := HBK16_x0.out.cell 3
  have kg0_0 : (w16).cell? ⟨w7.heap.size, 0, none⟩ = some (.int .i64 r.1) := HBK16_g0.out.cell 0
  have kg0_1 : (w16).cell? ⟨w7.heap.size, 1, none⟩ = some (.string ⟨(r.2.1).toArray⟩) := HBK16_g0.out.cell 1
  have kg0_2 : (w16).cell? ⟨w7.heap.size, 2, none⟩ = some (.int .u32 r.2.2.1) := HBK16_g0.out.cell 2
  have kg0_3 : (w16).cell? ⟨w7.heap.size, 3, none⟩ = some (.bool r.2.2.2.1) := HBK16_g0.out.cell 3
  have kg0_4 : (w16).cell? ⟨w7.heap.size, 4, none⟩ = some (.slice cg0_0 r.2.2.2.2.1.length cg0_1) := HBK16_g0.out.cell 4
  have kg0_5 : (w16).cell? ⟨w7.heap.size, 5, none⟩ = some (.int .i64 r.2.2.2.2.2.1) := HBK16_g0.out.cell 5
  have kg0_6 : (w16).cell? ⟨w7.heap.size, 6, none⟩ = some (.int .i64 r.2.2.2.2.2.2.1) := HBK16_g0.out.cell 6
  have kg0_7 : (w16).cell? ⟨w7.heap.size, 7, none⟩ = some (.int .u32 r.2.2.2.2.2.2.2.1) := HBK16_g0.out.cell 7
  have kg0_8 : (w16).cell? ⟨w7.heap.size, 8, none⟩ = some (.slice cg0_2 r.2.2.2.2.2.2.2.2.length cg0_3) := HBK16_g0.out.cell 8
  have H0_16 := Sec.mk ho16
  clear ho16
  obtain ⟨ch0_0, ch0_1, ch0_2, ch0_3, rfl⟩ := cellsCmd H0_16.out.rd
  have hma16 := ((Mod.refl (fun _ => False) w16).alloc (.cells #[.int .i64 r.1, .string ⟨(r.2.1).toArray⟩, .int .u32 r.2.2.1, .bool r.2.2.2.1, .slice ch0_0 r.2.2.2.2.1.length ch0_1, .int .i64 r.2.2.2.2.2.1, .int .i64 r.2.2.2.2.2.2.1, .int .u32 r.2.2.2.2.2.2.2.1, .slice ch0_2 r.2.2.2.2.2.2.2.2.length ch0_3] 38))
  clear kaU_0 kaU_1 kaU_2 kaU_3
  clear kw0_0 kw0_1 kw0_2 kw0_3 kw0_4 kw0_5 kw0_6 kw0_7 kw0_8
  clear kx0_0 kx0_1 kx0_2 kx0_3
  clear kg0_0 kg0_1 kg0_2 kg0_3 kg0_4 kg0_5 kg0_6 kg0_7 kg0_8
  have HBK17_aU := Sec.mk (HBK16_aU.out.mod hma16 id)
  clear HBK16_aU
  have HBK17_w0 := Sec.mk (HBK16_w0.out.mod hma16 id)
  clear HBK16_w0
  have HBK17_x0 := Sec.mk (HBK16_x0.out.mod hma16 id)
  clear HBK16_x0
  have HBK17_g0 := Sec.mk (HBK16_g0.out.mod hma16 id)
  clear HBK16_g0
  have W0_17 := Sec.mk (W0_16.out.step hma16)
  clear W0_16
  have X0_17 := Sec.mk (X0_16.out.step hma16)
  clear X0_16
  have G0_17 := Sec.mk (G0_16.out.step hma16)
  clear G0_16
  have TUH0_17 := Sec.mk (TUH0_16.out.step hma16)
  clear TUH0_16
  have H0_17 := Sec.mk (H0_16.out.step hma16)
  clear H0_16
  have HM17 := Sec.mk (HM16.out.transN hma16)
  clear HM16
  have hs17 := hma16.size
  clear hma16
  have kaU_0 : (w16.alloc (.cells #[.int .i64 r.1, .string ⟨(r.2.1).toArray⟩, .int .u32 r.2.2.1, .bool r.2.2.2.1, .slice ch0_0 r.2.2.2.2.1.length ch0_1, .int .i64 r.2.2.2.2.2.1, .int .i64 r.2.2.2.2.2.2.1, .int .u32 r.2.2.2.2.2.2.2.1, .slice ch0_2 r.2.2.2.2.2.2.2.2.length ch0_3] 38)).cell? ⟨w.heap.size, 0, none⟩ = some (.slice caU_0 xU.1.length caU_1) := HBK17_aU.out.cell 0
  have kaU_1 : (w16.alloc (.cells #[.int .i64 r.1, .string ⟨(r.2.1).toArray⟩, .int .u32 r.2.2.1, .bool r.2.2.2.1, .slice ch0_0 r.2.2.2.2.1.length ch0_1, .int .i64 r.2.2.2.2.2.1, .int .i64 r.2.2.2.2.2.2.1, .int .u32 r.2.2.2.2.2.2.2.1, .slice ch0_2 r.2.2.2.2.2.2.2.2.length ch0_3] 38)).cell? ⟨w.heap.size, 1, none⟩ = some (.slice caU_2 xU.2.1.length caU_3) := HBK17_aU.out.cell 1
  have kaU_2 : (w16.alloc (.cells #[.int .i64 r.1, .string ⟨(r.2.1).toArray⟩, .int .u32 r.2.2.1, .bool r.2.2.2.1, .slice ch0_0 r.2.2.2.2.1.length ch0_1, .int .i64 r.2.2.2.2.2.1, .int .i64 r.2.2.2.2.2.2.1, .int .u32 r.2.2.2.2.2.2.2.1, .slice ch0_2 r.2.2.2.2.2.2.2.2.length ch0_3] 38)).cell? ⟨w.heap.size, 2, none⟩ = some (.bool xU.2.2.1) := HBK17_aU.out.cell 2
  have kaU_3 : (w16.alloc (.cells #[.int .i64 r.1, .string ⟨(r.2.1).toArray⟩, .int .u32 r.2.2.1, .bool r.2.2.2.1, .slice ch0_0 r.2.2.2.2.1.length ch0_1, .int .i64 r.2.2.2.2.2.1, .int .i64 r.2.2.2.2.2.2.1, .int .u32 r.2.2.2.2.2.2.2.1, .slice ch0_2 r.2.2.2.2.2.2.2.2.length ch0_3] 38)).cell? ⟨w.heap.size, 3, none⟩ = some (.bool xU.2.2.2) := HBK17_aU.out.cell 3
  have kw0_0 : (w16.alloc (.cells #[.int .i64 r.1, .string ⟨(r.2.1).toArray⟩, .int .u32 r.2.2.1, .bool r.2.2.2.1, .slice ch0_0 r.2.2.2.2.1.length ch0_1, .int .i64 r.2.2.2.2.2.1, .int .i64 r.2.2.2.2.2.2.1, .int .u32 r.2.2.2.2.2.2.2.1, .slice ch0_2 r.2.2.2.2.2.2.2.2.length ch0_3] 38)).cell? ⟨w3.heap.size, 0, none⟩ = some (.int .i64 r.1) := HBK17_w0.out.cell 0
  have kw0_1 : (w16.alloc (.cells #[.int .i64 r.1, .string ⟨(r.2.1).toArray⟩, .int .u32 r.2.2.1, .bool r.2.2.2.1, .slice ch0_0 r.2.2.2.2.1.length ch0_1, .int .i64 r.2.2.2.2.2.1, .int .i64 r.2.2.2.2.2.2.1, .int .u32 r.2.2.2.2.2.2.2.1, .slice ch0_2 r.2.2.2.2.2.2.2.2.length ch0_3] 38)).cell? ⟨w3.heap.size, 1, none⟩ = some (.string ⟨(r.2.1).toArray⟩) := HBK17_w0.out.cell 1
  have kw0_2 : (w16.alloc (.cells #[.int .i64 r.1, .string ⟨(r.2.1).toArray⟩, .int .u32 r.2.2.1, .bool r.2.2.2.1, .slice ch0_0 r.2.2.2.2.1.length ch0_1, .int .i64 r.2.2.2.2.2.1, .int .i64 r.2.2.2.2.2.2.1, .int .u32 r.2.2.2.2.2.2.2.1, .slice ch0_2 r.2.2.2.2.2.2.2.2.length ch0_3] 38)).cell? ⟨w3.heap.size, 2, none⟩ = some (.int .u32 r.2.2.1) := HBK17_w0.out.cell 2
  have kw0_3 : (w16.alloc (.cells #[.int .i64 r.1, .string ⟨(r.2.1).toArray⟩, .int .u32 r.2.2.1, .bool r.2.2.2.1, .slice ch0_0 r.2.2.2.2.1.length ch0_1, .int .i64 r.2.2.2.2.2.1, .int .i64 r.2.2.2.2.2.2.1, .int .u32 r.2.2.2.2.2.2.2.1, .slice ch0_2 r.2.2.2.2.2.2.2.2.length ch0_3] 38)).cell? ⟨w3.heap.size, 3, none⟩ = some (.bool r.2.2.2.1) := HBK17_w0.out.cell 3
  have kw0_4 : (w16.alloc (.cells #[.int .i64 r.1, .string ⟨(r.2.1).toArray⟩, .int .u32 r.2.2.1, .bool r.2.2.2.1, .slice ch0_0 r.2.2.2.2.1.length ch0_1, .int .i64 r.2.2.2.2.2.1, .int .i64 r.2.2.2.2.2.2.1, .int .u32 r.2.2.2.2.2.2.2.1, .slice ch0_2 r.2.2.2.2.2.2.2.2.length ch0_3] 38)).cell? ⟨w3.heap.size, 4, none⟩ = some (.slice cw0_0 r.2.2.2.2.1.length cw0_1) := HBK17_w0.out.cell 4
  have kw0_5 : (w16.alloc (.cells #[.int .i64 r.1, .string ⟨(r.2.1).toArray⟩, .int .u32 r.2.2.1, .bool r.2.2.2.1, .slice ch0_0 r.2.2.2.2.1.length ch0_1, .int .i64 r.2.2.2.2.2.1, .int .i64 r.2.2.2.2.2.2.1, .int .u32 r.2.2.2.2.2.2.2.1, .slice ch0_2 r.2.2.2.2.2.2.2.2.length ch0_3] 38)).cell? ⟨w3.heap.size, 5, none⟩ = some (.int .i64 r.2.2.2.2.2.1) := HBK17_w0.out.cell 5
  have kw0_6 : (w16.alloc (.cells #[.int .i64 r.1, .string ⟨(r.2.1).toArray⟩, .int .u32 r.2.2.1, .bool r.2.2.2.1, .slice ch0_0 r.2.2.2.2.1.length ch0_1, .int .i64 r.2.2.2.2.2.1, .int .i64 r.2.2.2.2.2.2.1, .int .u32 r.2.2.2.2.2.2.2.1, .slice ch0_2 r.2.2.2.2.2.2.2.2.length ch0_3] 38)).cell? ⟨w3.heap.size, 6, none⟩ = some (.int .i64 r.2.2.2.2.2.2.1) := HBK17_w0.out.cell 6
  have kw0_7 : (w16.alloc (.cells #[.int .i64 r.1, .string ⟨(r.2.1).toArray⟩, .int .u32 r.2.2.1, .bool r.2.2.2.1, .slice ch0_0 r.2.2.2.2.1.length ch0_1, .int .i64 r.2.2.2.2.2.1, .int .i64 r.2.2.2.2.2.2.1, .int .u32 r.2.2.2.2.2.2.2.1, .slice ch0_2 r.2.2.2.2.2.2.2.2.length ch0_3] 38)).cell? ⟨w3.heap.size, 7, none⟩ = some (.int .u32 r.2.2.2.2.2.2.2.1) := HBK17_w0.out.cell 7
  have kw0_8 : (w16.alloc (.cells #[.int .i64 r.1, .string ⟨(r.2.1).toArray⟩, .int .u32 r.2.2.1, .bool r.2.2.2.1, .slice ch0_0 r.2.2.2.2.1.length ch0_1, .int .i64 r.2.2.2.2.2.1, .int .i64 r.2.2.2.2.2.2.1, .int .u32 r.2.2.2.2.2.2.2.1, .slice ch0_2 r.2.2.2.2.2.2.2.2.length ch0_3] 38)).cell? ⟨w3.heap.size, 8, none⟩ = some (.slice cw0_2 r.2.2.2.2.2.2.2.2.length cw0_3) := HBK17_w0.out.cell 8
  have kx0_0 : (w16.alloc (.cells #[.int .i64 r.1, .string ⟨(r.2.1).toArray⟩, .int .u32 r.2.2.1, .bool r.2.2.2.1, .slice ch0_0 r.2.2.2.2.1.length ch0_1, .int .i64 r.2.2.2.2.2.1, .int .i64 r.2.2.2.2.2.2.1, .int .u32 r.2.2.2.2.2.2.2.1, .slice ch0_2 r.2.2.2.2.2.2.2.2.length ch0_3] 38)).cell? ⟨w5.heap.size, 0, none⟩ = some (.slice cx0_0 xU.1.length cx0_1) := HBK17_x0.out.cell 0
  have kx0_1 : (w16.alloc (.cells #[.int .i64 r.1, .string ⟨(r.2.1).toArray⟩, .int .u32 r.2.2.1, .bool r.2.2.2.1, .slice ch0_0 r.2.2.2.2.1.length ch0_1, .int .i64 r.2.2.2.2.2.1, .int .i64 r.2.2.2.2.2.2.1, .int .u32 r.2.2.2.2.2.2.2.1, .slice ch0_2 r.2.2.2.2.2.2.2.2.length ch0_3] 38)).cell? ⟨w5.heap.size, 1, none⟩ = some (.slice cx0_2 xU.2.1.length cx0_3) := HBK17_x0.out.cell 1
  have kx0_2 : (w16.alloc (.cells #[.int .i64 r.1, .string ⟨(r.2.1).toArray⟩, .int .u32 r.2.2.1, .bool r.2.2.2.1, .slice ch0_0 r.2.2.2.2.1.length ch0_1, .int .i64 r.2.2.2.2.2.1, .int .i64 r.2.2.2.2.2.2.1, .int .u32 r.2.2.2.2.2.2.2.1, .slice ch0_2 r.2.2.2.2.2.2.2.2.length ch0_3] 38)).cell? ⟨w5.heap.size, 2, none⟩ = some (.bool xU.2.2.1) := HBK17_x0.out.cell 2
  have kx0_3 : (w16.alloc (.cells #[.int .i64 r.1, .string ⟨(r.2.1).toArray⟩, .int .u32 r.2.2.1, .bool r.2.2.2.1, .slice ch0_0 r.2.2.2.2.1.length ch0_1, .int .i64 r.2.2.2.2.2.1, .int .i64 r.2.2.2.2.2.2.1, .int .u32 r.2.2.2.2.2.2.2.1, .slice ch0_2 r.2.2.2.2.2.2.2.2.length ch0_3] 38)).cell? ⟨w5.heap.size, 3, none⟩ = some (.bool xU.2.2.2) := HBK17_x0.out.cell 3
  have kg0_0 : (w16.alloc (.cells #[.int .i64 r.1, .string ⟨(r.2.1).toArray⟩, .int .u32 r.2.2.1, .bool r.2.2.2.1, .slice ch0_0 r.2.2.2.2.1.length ch0_1, .int .i64 r.2.2.2.2.2.1, .int .i64 r.2.2.2.2.2.2.1, .int .u32 r.2.2.2.2.2.2.2.1, .slice ch0_2 r.2.2.2.2.2.2.2.2.length ch0_3] 38)).cell? ⟨w7.heap.size, 0, none⟩ = some (.int .i64 r.1) := HBK17_g0.out.cell 0
  have kg0_1 : (w16.alloc (.cells #[.int .i64 r.1, .string ⟨(r.2.1).toArray⟩, .int .u32 r.2.2.1, .bool r.2.2.2.1, .slice ch0_0 r.2.2.2.2.1.length ch0_1, .int .i64 r.2.2.2.2.2.1, .int .i64 r.2.2.2.2.2.2.1, .int .u32 r.2.2.2.2.2.2.2.1, .slice ch0_2 r.2.2.2.2.2.2.2.2.length ch0_3] 38)).cell? ⟨w7.heap.size, 1, none⟩ = some (.string ⟨(r.2.1).toArray⟩) := HBK17_g0.out.cell 1
  have kg0_2 : (w16.alloc (.cells #[.int .i64 r.1, .string ⟨(r.2.1).toArray⟩, .int .u32 r.2.2.1, .bool r.2.2.2.1, .slice ch0_0 r.2.2.2.2.1.length ch0_1, .int .i64 r.2.2.2.2.2.1, .int .i64 r.2.2.2.2.2.2.1, .int .u32 r.2.2.2.2.2.2.2.1, .slice ch0_2 r.2.2.2.2.2.2.2.2.length ch0_3] 38)).cell? ⟨w7.heap.size, 2, none⟩ = some (.int .u32 r.2.2.1) := HBK17_g0.out.cell 2
  have kg0_3 : (w16.alloc (.cells #[.int .i64 r.1, .string ⟨(r.2.1).toArray⟩, .int .u32 r.2.2.1, .bool r.2.2.2.1, .slice ch0_0 r.2.2.2.2.1.length ch0_1, .int .i64 r.2.2.2.2.2.1, .int .i64 r.2.2.2.2.2.2.1, .int .u32 r.2.2.2.2.2.2.2.1, .slice ch0_2 r.2.2.2.2.2.2.2.2.length ch0_3] 38)).cell? ⟨w7.heap.size, 3, none⟩ = some (.bool r.2.2.2.1) := HBK17_g0.out.cell 3
  have kg0_4 : (w16.alloc (.cells #[.int .i64 r.1, .string ⟨(r.2.1).toArray⟩, .int .u32 r.2.2.1, .bool r.2.2.2.1, .slice ch0_0 r.2.2.2.2.1.length ch0_1, .int .i64 r.2.2.2.2.2.1, .int .i64 r.2.2.2.2.2.2.1, .int .u32 r.2.2.2.2.2.2.2.1, .slice ch0_2 r.2.2.2.2.2.2.2.2.length ch0_3] 38)).cell? ⟨w7.heap.size, 4, none⟩ = some (.slice cg0_0 r.2.2.2.2.1.length cg0_1) := HBK17_g0.out.cell 4
  have kg0_5 : (w16.alloc (.cells #[.int .i64 r.1, .string ⟨(r.2.1).toArray⟩, .int .u32 r.2.2.1, .bool r.2.2.2.1, .slice ch0_0 r.2.2.2.2.1.length ch0_1, .int .i64 r.2.2.2.2.2.1, .int .i64 r.2.2.2.2.2.2.1, .int .u32 r.2.2.2.2.2.2.2.1, .slice ch0_2 r.2.2.2.2.2.2.2.2.length ch0_3] 38)).cell? ⟨w7.heap.size, 5, none⟩ = some (.int .i64 r.2.2.2.2.2.1) := HBK17_g0.out.cell 5
  have kg0_6 : (w16.alloc (.cells #[.int .i64 r.1, .string ⟨(r.2.1).toArray⟩, .int .u32 r.2.2.1, .bool r.2.2.2.1, .slice ch0_0 r.2.2.2.2.1.length ch0_1, .int .i64 r.2.2.2.2.2.1, .int .i64 r.2.2.2.2.2.2.1, .int .u32 r.2.2.2.2.2.2.2.1, .slice ch0_2 r.2.2.2.2.2.2.2.2.length ch0_3] 38)).cell? ⟨w7.heap.size, 6, none⟩ = some (.int .i64 r.2.2.2.2.2.2.1) := HBK17_g0.out.cell 6
  have kg0_7 : (w16.alloc (.cells #[.int .i64 r.1, .string ⟨(r.2.1).toArray⟩, .int .u32 r.2.2.1, .bool r.2.2.2.1, .slice ch0_0 r.2.2.2.2.1.length ch0_1, .int .i64 r.2.2.2.2.2.1, .int .i64 r.2.2.2.2.2.2.1, .int .u32 r.2.2.2.2.2.2.2.1, .slice ch0_2 r.2.2.2.2.2.2.2.2.length ch0_3] 38)).cell? ⟨w7.heap.size, 7, none⟩ = some (.int .u32 r.2.2.2.2.2.2.2.1) := HBK17_g0.out.cell 7
  have kg0_8 : (w16.alloc (.cells #[.int .i64 r.1, .string ⟨(r.2.1).toArray⟩, .int .u32 r.2.2.1, .bool r.2.2.2.1, .slice ch0_0 r.2.2.2.2.1.length ch0_1, .int .i64 r.2.2.2.2.2.1, .int .i64 r.2.2.2.2.2.2.1, .int .u32 r.2.2.2.2.2.2.2.1, .slice ch0_2 r.2.2.2.2.2.2.2.2.length ch0_3] 38)).cell? ⟨w7.heap.size, 8, none⟩ = some (.slice cg0_2 r.2.2.2.2.2.2.2.2.length cg0_3) := HBK17_g0.out.cell 8
  have HBK_h0 := Sec.mk (Blk.new w16 38 [.int .i64 r.1, .string ⟨(r.2.1).toArray⟩, .int .u32 r.2.2.1, .bool r.2.2.2.1, .slice ch0_0 r.2.2.2.2.1.length ch0_1, .int .i64 r.2.2.2.2.2.1, .int .i64 r.2.2.2.2.2.2.1, .int .u32 r.2.2.2.2.2.2.2.1, .slice ch0_2 r.2.2.2.2.2.2.2.2.length ch0_3])
  have hz16 : (w16.alloc (.cells #[.int .i64 r.1, .string ⟨(r.2.1).toArray⟩, .int .u32 r.2.2.1, .bool r.2.2.2.1, .slice ch0_0 r.2.2.2.2.1.length ch0_1, .int .i64 r.2.2.2.2.2.1, .int .i64 r.2.2.2.2.2.2.1, .int .u32 r.2.2.2.2.2.2.2.1, .slice ch0_2 r.2.2.2.2.2.2.2.2.length ch0_3] 38)).heap.size = w16.heap.size + 1 := by simp
  clear kaU_0 kaU_1 kaU_2 kaU_3
  clear kw0_0 kw0_1 kw0_2 kw0_3 kw0_4 kw0_5 kw0_6 kw0_7 kw0_8
  clear kx0_0 kx0_1 kx0_2 kx0_3
  clear kg0_0 kg0_1 kg0_2 kg0_3 kg0_4 kg0_5 kg0_6 kg0_7 kg0_8
  have kaU_0 : (w16.alloc (.cells #[.int .i64 r.1, .string ⟨(r.2.1).toArray⟩, .int .u32 r.2.2.1, .bool r.2.2.2.1, .slice ch0_0 r.2.2.2.2.1.length ch0_1, .int .i64 r.2.2.2.2.2.1, .int .i64 r.2.2.2.2.2.2.1, .int .u32 r.2.2.2.2.2.2.2.1, .slice ch0_2 r.2.2.2.2.2.2.2.2.length ch0_3] 38)).cell? ⟨w.heap.size, 0, none⟩ = some (.slice caU_0 xU.1.length caU_1) := HBK17_aU.out.cell 0
  have kaU_1 : (w16.alloc (.cells #[.int .i64 r.1, .string ⟨(r.2.1).toArray⟩, .int .u32 r.2.2.1, .bool r.2.2.2.1, .slice ch0_0 r.2.2.2.2.1.length ch0_1, .int .i64 r.2.2.2.2.2.1, .int .i64 r.2.2.2.2.2.2.1, .int .u32 r.2.2.2.2.2.2.2.1, .slice ch0_2 r.2.2.2.2.2.2.2.2.length ch0_3] 38)).cell? ⟨w.heap.size, 1, none⟩ = some (.slice caU_2 xU.2.1.length caU_3) := HBK17_aU.out.cell 1
  have kaU_2 : (w16.alloc (.cells #[.int .i64 r.1, .string ⟨(r.2.1).toArray⟩, .int .u32 r.2.2.1, .bool r.2.2.2.1, .slice ch0_0 r.2.2.2.2.1.length ch0_1, .int .i64 r.2.2.2.2.2.1, .int .i64 r.2.2.2.2.2.2.1, .int .u32 r.2.2.2.2.2.2.2.1, .slice ch0_2 r.2.2.2.2.2.2.2.2.length ch0_3] 38)).cell? ⟨w.heap.size, 2, none⟩ = some (.bool xU.2.2.1) := HBK17_aU.out.cell 2
  have kaU_3 : (w16.alloc (.cells #[.int .i64 r.1, .string ⟨(r.2.1).toArray⟩, .int .u32 r.2.2.1, .bool r.2.2.2.1, .slice ch0_0 r.2.2.2.2.1.length ch0_1, .int .i64 r.2.2.2.2.2.1, .int .i64 r.2.2.2.2.2.2.1, .int .u32 r.2.2.2.2.2.2.2.1, .slice ch0_2 r.2.2.2.2.2.2.2.2.length ch0_3] 38)).cell? ⟨w.heap.size, 3, none⟩ = some (.bool xU.2.2.2) := HBK17_aU.out.cell 3
  have kw0_0 : (w16.alloc (.cells #[.int .i64 r.1, .string ⟨(r.2.1).toArray⟩, .int .u32 r.2.2.1, .bool r.2.2.2.1, .slice ch0_0 r.2.2.2.2.1.length ch0_1, .int .i64 r.2.2.2.2.2.1, .int .i64 r.2.2.2.2.2.2.1, .int .u32 r.2.2.2.2.2.2.2.1, .slice ch0_2 r.2.2.2.2.2.2.2.2.length ch0_3] 38)).cell? ⟨w3.heap.size, 0, none⟩ = some (.int .i64 r.1) := HBK17_w0.out.cell 0
  have kw0_1 : (w16.alloc (.cells #[.int .i64 r.1, .string ⟨(r.2.1).toArray⟩, .int .u32 r.2.2.1, .bool r.2.2.2.1, .slice ch0_0 r.2.2.2.2.1.length ch0_1, .int .i64 r.2.2.2.2.2.1, .int .i64 r.2.2.2.2.2.2.1, .int .u32 r.2.2.2.2.2.2.2.1, .slice ch0_2 r.2.2.2.2.2.2.2.2.length ch0_3] 38)).cell? ⟨w3.heap.size, 1, none⟩ = some (.string ⟨(r.2.1).toArray⟩) := HBK17_w0.out.cell 1
  have kw0_2 : (w16.alloc (.cells #[.int .i64 r.1, .string ⟨(r.2.1).toArray⟩, .int .u32 r.2.2.1, .bool r.2.2.2.1, .slice ch0_0 r.2.2.2.2.1.length ch0_1, .int .i64 r.2.2.2.2.2.1, .int .i64 r.2.2.2.2.2.2.1, .int .u32 r.2.2.2.2.2.2.2.1, .slice ch0_2 r.2.2.2.2.2.2.2.2.length ch0_3] 38)).cell? ⟨w3.heap.size, 2, none⟩ = some (.int .u32 r.2.2.1) := HBK17_w0.out.cell 2
  have kw0_3 : (w16.alloc (.cells #[.int .i64 r.1, .string ⟨(r.2.1).toArray⟩, .int .u32 r.2.2.1, .bool r.2.2.2.1, .slice ch0_0 r.2.2.2.2.1.length ch0_1, .int .i64 r.2.2.2.2.2.1, .int .i64 r.2.2.2.2.2.2.1, .int .u32 r.2.2.2.2.2.2.2.1, .slice ch0_2 r.2.2.2.2.2.2.2.2.length ch0_3] 38)).cell? ⟨w3.heap.size, 3, none⟩ = some (.bool r.2.2.2.1) := HBK17_w0.out.cell 3
  have kw0_4 : (w16.alloc (.cells #[.int .i64 r.1, .string ⟨(r.2.1).toArray⟩, .int .u32 r.2.2.1, .bool r.2.2.2.1, .slice ch0_0 r.2.2.2.2.1.length ch0_1, .int .i64 r.2.2.2.2.2.1, .int .i64 r.2.2.2.2.2.2.1, .int .u32 r.2.2.2.2.2.2.2.1, .slice ch0_2 r.2.2.2.2.2.2.2.2.length ch0_3] 38)).cell? ⟨w3.heap.size, 4, none⟩ = some (.slice cw0_0 r.2.2.2.2.1.length cw0_1) := HBK17_w0.out.cell 4
  have kw0_5 : (w16.alloc (.cells #[.int .i64 r.1, .string ⟨(r.2.1).toArray⟩, .int .u32 r.2.2.1, .bool r.2.2.2.1, .slice ch0_0 r.2.2.2.2.1.length ch0_1, .int .i64 r.2.2.2.2.2.1, .int .i64 r.2.2.2.2.2.2.1, .int .u32 r.2.2.2.2.2.2.2.1, .slice ch0_2 r.2.2.2.2.2.2.2.2.length ch0_3] 38)).cell? ⟨w3.heap.size, 5, none⟩ = some (.int .i64 r.2.2.2.2.2.1) := HBK17_w0.out.cell 5
  have kw0_6 : (w16.alloc (.cells #[.int .i64 r.1, .string ⟨(r.2.1).toArray⟩, .int .u32 r.2.2.1, .bool r.2.2.2.1, .slice ch0_0 r.2.2.2.2.1.length ch0_1, .int .i64 r.2.2.2.2.2.1, .int .i64 r.2.2.2.2.2.2.1, .int .u32 r.2.2.2.2.2.2.2.1, .slice ch0_2 r.2.2.2.2.2.2.2.2.length ch0_3] 38)).cell? ⟨w3.heap.size, 6, none⟩ = some (.int .i64 r.2.2.2.2.2.2.1) := HBK17_w0.out.cell 6
  have kw0_7 : (w16.alloc (.cells #[.int .i64 r.1, .string ⟨(r.2.1).toArray⟩, .int .u32 r.2.2.1, .bool r.2.2.2.1, .slice ch0_0 r.2.2.2.2.1.length ch0_1, .int .i64 r.2.2.2.2.2.1, .int .i64 r.2.2.2.2.2.2.1, .int .u32 r.2.2.2.2.2.2.2.1, .slice ch0_2 r.2.2.2.2.2.2.2.2.length ch0_3] 38)).cell? ⟨w3.heap.size, 7, none⟩ = some (.int .u32 r.2.2.2.2.2.2.2.1) := HBK17_w0.out.cell 7
  have kw0_8 : (w16.alloc (.cells #[.int .i64 r.1, .string ⟨(r.2.1).toArray⟩, .int .u32 r.2.2.1, .bool r.2.2.2.1, .slice ch0_0 r.2.2.2.2.1.length ch0_1, .int .i64 r.2.2.2.2.2.1, .int .i64 r.2.2.2.2.2.2.1, .int .u32 r.2.2.2.2.2.2.2.1, .slice ch0_2 r.2.2.2.2.2.2.2.2.length ch0_3] 38)).cell? ⟨w3.heap.size, 8, none⟩ = some (.slice cw0_2 r.2.2.2.2.2.2.2.2.length cw0_3) := HBK17_w0.out.cell 8
  have kx0_0 : (w16.alloc (.cells #[.int .i64 r.1, .string ⟨(r.2.1).toArray⟩, .int .u32 r.2.2.1, .bool r.2.2.2.1, .slice ch0_0 r.2.2.2.2.1.length ch0_1, .int .i64 r.2.2.2.2.2.1, .int .i64 r.2.2.2.2.2.2.1, .int .u32 r.2.2.2.2.2.2.2.1, .slice ch0_2 r.2.2.2.2.2.2.2.2.length ch0_3] 38)).cell? ⟨w5.heap.size, 0, none⟩ = some (.slice cx0_0 xU.1.length cx0_1) := HBK17_x0.out.cell 0
  have kx0_1 : (w16.alloc (.cells #[.int .i64 r.1, .string ⟨(r.2.1).toArray⟩, .int .u32 r.2.2.1, .bool r.2.2.2.1, .slice ch0_0 r.2.2.2.2.1.length ch0_1, .int .i64 r.2.2.2.2.2.1, .int .i64 r.2.2.2.2.2.2.1, .int .u32 r.2.2.2.2.2.2.2.1, .slice ch0_2 r.2.2.2.2.2.2.2.2.length ch0_3] 38)).cell? ⟨w5.heap.size, 1, none⟩ = some (.slice cx0_2 xU.2.1.length cx0_3) := HBK17_x0.out.cell 1
  have kx0_2 : (w16.alloc (.cells #[.int .i64 r.1, .string ⟨(r.2.1).toArray⟩, .int .u32 r.2.2.1, .bool r.2.2.2.1, .slice ch0_0 r.2.2.2.2.1.length ch0_1, .int .i64 r.2.2.2.2.2.1, .int .i64 r.2.2.2.2.2.2.1, .int .u32 r.2.2.2.2.2.2.2.1, .slice ch0_2 r.2.2.2.2.2.2.2.2.length ch0_3] 38)).cell? ⟨w5.heap.size, 2, none⟩ = some (.bool xU.2.2.1) := HBK17_x0.out.cell 2
  have kx0_3 : (w16.alloc (.cells #[.int .i64 r.1, .string ⟨(r.2.1).toArray⟩, .int .u32 r.2.2.1, .bool r.2.2.2.1, .slice ch0_0 r.2.2.2.2.1.length ch0_1, .int .i64 r.2.2.2.2.2.1, .int .i64 r.2.2.2.2.2.2.1, .int .u32 r.2.2.2.2.2.2.2.1, .slice ch0_2 r.2.2.2.2.2.2.2.2.length ch0_3] 38)).cell? ⟨w5.heap.size, 3, none⟩ = some (.bool xU.2.2.2) := HBK17_x0.out.cell 3
  have kg0_0 : (w16.alloc (.cells #[.int .i64 r.1, .string ⟨(r.2.1).toArray⟩, .int .u32 r.2.2.1, .bool r.2.2.2.1, .slice ch0_0 r.2.2.2.2.1.length ch0_1, .int .i64 r.2.2.2.2.2.1, .int .i64 r.2.2.2.2.2.2.1, .int .u32 r.2.2.2.2.2.2.2.1, .slice ch0_2 r.2.2.2.2.2.2.2.2.length ch0_3] 38)).cell? ⟨w7.heap.size, 0, none⟩ = some (.int .i64 r.1) := HBK17_g0.out.cell 0
  have kg0_1 : (w16.alloc (.cells #[.int .i64 r.1, .string ⟨(r.2.1).toArray⟩, .int .u32 r.2.2.1, .bool r.2.2.2.1, .slice ch0_0 r.2.2.2.2.1.length ch0_1, .int .i64 r.2.2.2.2.2.1, .int .i64 r.2.2.2.2.2.2.1, .int .u32 r.2.2.2.2.2.2.2.1, .slice ch0_2 r.2.2.2.2.2.2.2.2.length ch0_3] 38)).cell? ⟨w7.heap.size, 1, none⟩ = some (.string ⟨(r.2.1).toArray⟩) := HBK17_g0.out.cell 1
  have kg0_2 : (w16.alloc (.cells #[.int .i64 r.1, .string ⟨(r.2.1).toArray⟩, .int .u32 r.2.2.1, .bool r.2.2.2.1, .slice ch0_0 r.2.2.2.2.1.length ch0_1, .int .i64 r.2.2.2.2.2.1, .int .i64 r.2.2.2.2.2.2.1, .int .u32 r.2.2.2.2.2.2.2.1, .slice ch0_2 r.2.2.2.2.2.2.2.2.length ch0_3] 38)).cell? ⟨w7.heap.size, 2, none⟩ = some (.int .u32 r.2.2.1) := HBK17_g0.out.cell 2
  have kg0_3 : (w16.alloc (.cells #[.int .i64 r.1, .string ⟨(r.2.1).toArray⟩, .int .u32 r.2.2.1, .bool r.2.2.2.1, .slice ch0_0 r.2.2.2.2.1.length ch0_1, .int .i64 r.2.2.2.2.2.1, .int .i64 r.2.2.2.2.2.2.1, .int .u32 r.2.2.2.2.2.2.2.1, .slice ch0_2 r.2.2.2.2.2.2.2.2.length ch0_3] 38)).cell? ⟨w7.heap.size, 3, none⟩ = some (.bool r.2.2.2.1) := HBK17_g0.out.cell 3
  have kg0_4 : (w16.alloc (.cells #[.int .i64 r.1, .string ⟨(r.2.1).toArray⟩, .int .u32 r.2.2.1, .bool r.2.2.2.1, .slice ch0_0 r.2.2.2.2.1.length ch0_1, .int .i64 r.2.2.2.2.2.1, .int .i64 r.2.2.2.2.2.2.1, .int .u32 r.2.2.2.2.2.2.2.1, .slice ch0_2 r.2.2.2.2.2.2.2.2.length ch0_3] 38)).cell? ⟨w7.heap.size, 4, none⟩ = some (.slice cg0_0 r.2.2.2.2.1.length cg0_1) := HBK17_g0.out.cell 4
  have kg0_5 : (w16.alloc (.cells #[.int .i64 r.1, .string ⟨(r.2.1).toArray⟩, .int .u32 r.2.2.1, .bool r.2.2.2.1, .slice ch0_0 r.2.2.2.2.1.length ch0_1, .int .i64 r.2.2.2.2.2.1, .int .i64 r.2.2.2.2.2.2.1, .int .u32 r.2.2.2.2.2.2.2.1, .slice ch0_2 r.2.2.2.2.2.2.2.2.length ch0_3] 38)).cell? ⟨w7.heap.size, 5, none⟩ = some (.int .i64 r.2.2.2.2.2.1) := HBK17_g0.out.cell 5
  have kg0_6 : (w16.alloc (.cells #[.int .i64 r.1, .string ⟨(r.2.1).toArray⟩, .int .u32 r.2.2.1, .bool r.2.2.2.1, .slice ch0_0 r.2.2.2.2.1.length ch0_1, .int .i64 r.2.2.2.2.2.1, .int .i64 r.2.2.2.2.2.2.1, .int .u32 r.2.2.2.2.2.2.2.1, .slice ch0_2 r.2.2.2.2.2.2.2.2.length ch0_3] 38)).cell? ⟨w7.heap.size, 6, none⟩ = some (.int .i64 r.2.2.2.2.2.2.1) := HBK17_g0.out.cell 6
  have kg0_7 : (w16.alloc (.cells #[.int .i64 r.1, .string ⟨(r.2.1).toArray⟩, .int .u32 r.2.2.1, .bool r.2.2.2.1, .slice ch0_0 r.2.2.2.2.1.length ch0_1, .int .i64 r.2.2.2.2.2.1, .int .i64 r.2.2.2.2.2.2.1, .int .u32 r.2.2.2.2.2.2.2.1, .slice ch0_2 r.2.2.2.2.2.2.2.2.length ch0_3] 38)).cell? ⟨w7.heap.size, 7, none⟩ = some (.int .u32 r.2.2.2.2.2.2.2.1) := HBK17_g0.out.cell 7
  have kg0_8 : (w16.alloc (.cells #[.int .i64 r.1, .string ⟨(r.2.1).toArray⟩, .int .u32 r.2.2.1, .bool r.2.2.2.1, .slice ch0_0 r.2.2.2.2.1.length ch0_1, .int .i64 r.2.2.2.2.2.1, .int .i64 r.2.2.2.2.2.2.1, .int .u32 r.2.2.2.2.2.2.2.1, .slice ch0_2 r.2.2.2.2.2.2.2.2.length ch0_3] 38)).cell? ⟨w7.heap.size, 8, none⟩ = some (.slice cg0_2 r.2.2.2.2.2.2.2.2.length cg0_3) := HBK17_g0.out.cell 8
  have kh0_0 : (w16.alloc (.cells #[.int .i64 r.1, .string ⟨(r.2.1).toArray⟩, .int .u32 r.2.2.1, .bool r.2.2.2.1, .slice ch0_0 r.2.2.2.2.1.length ch0_1, .int .i64 r.2.2.2.2.2.1, .int .i64 r.2.2.2.2.2.2.1, .int .u32 r.2.2.2.2.2.2.2.1, .slice ch0_2 r.2.2.2.2.2.2.2.2.length ch0_3] 38)).cell? ⟨w16.heap.size, 0, none⟩ = some (.int .i64 r.1) := HBK_h0.out.cell 0
  have kh0_1 : (w16.alloc (.cells #[.int .i64 r.1, .string ⟨(r.2.1).toArray⟩, .int .u32 r.2.2.1, .bool r.2.2.2.1, .slice ch0_0 r.2.2.2.2.1.length ch0_1, .int .i64 r.2.2.2.2.2.1, .int .i64 r.2.2.2.2.2.2.1, .int .u32 r.2.2.2.2.2.2.2.1, .slice ch0_2 r.2.2.2.2.2.2.2.2.length ch0_3] 38)).cell? ⟨w16.heap.size, 1, none⟩ = some (.string ⟨(r.2.1).toArray⟩) := HBK_h0.out.cell 1
  have kh0_2 : (w16.alloc (.cells #[.int .i64 r.1, .string ⟨(r.2.1).toArray⟩, .int .u32 r.2.2.1, .bool r.2.2.2.1, .slice ch0_0 r.2.2.2.2.1.length ch0_1, .int .i64 r.2.2.2.2.2.1, .int .i64 r.2.2.2.2.2.2.1, .int .u32 r.2.2.2.2.2.2.2.1, .slice ch0_2 r.2.2.2.2.2.2.2.2.length ch0_3] 38)).cell? ⟨w16.heap.size, 2, none⟩ = some (.int .u32 r.2.2.1) := HBK_h0.out.cell 2
  have kh0_3 : (w16.alloc (.cells #[.int .i64 r.1, .string ⟨(r.2.1).toArray⟩, .int .u32 r.2.2.1, .bool r.2.2.2.1, .slice ch0_0 r.2.2.2.2.1.length ch0_1, .int .i64 r.2.2.2.2.2.1, .int .i64 r.2.2.2.2.2.2.1, .int .u32 r.2.2.2.2.2.2.2.1, .slice ch0_2 r.2.2.2.2.2.2.2.2.length ch0_3] 38)).cell? ⟨w16.heap.size, 3, none⟩ = some (.bool r.2.2.2.1) := HBK_h0.out.cell 3
  have kh0_4 : (w16.alloc (.cells #[.int .i64 r.1, .string ⟨(r.2.1).toArray⟩, .int .u32 r.2.2.1, .bool r.2.2.2.1, .slice ch0_0 r.2.2.2.2.1.length ch0_1, .int .i64 r.2.2.2.2.2.1, .int .i64 r.2.2.2.2.2.2.1, .int .u32 r.2.2.2.2.2.2.2.1, .slice ch0_2 r.2.2.2.2.2.2.2.2.length ch0_3] 38)).cell? ⟨w16.heap.size, 4, none⟩ = some (.slice ch0_0 r.2.2.2.2.1.length ch0_1) := HBK_h0.out.cell 4
  have kh0_5 : (w16.alloc (.cells #[.int .i64 r.1, .string ⟨(r.2.1).toArray⟩, .int .u32 r.2.2.1, .bool r.2.2.2.1, .slice ch0_0 r.2.2.2.2.1.length ch0_1, .int .i64 r.2.2.2.2.2.1, .int .i64 r.2.2.2.2.2.2.1, .int .u32 r.2.2.2.2.2.2.2.1, .slice ch0_2 r.2.2.2.2.2.2.2.2.length ch0_3] 38)).cell? ⟨w16.heap.size, 5, none⟩ = some (.int .i64 r.2.2.2.2.2.1) := HBK_h0.out.cell 5
  have kh0_6 : (w16.alloc (.cells #[.int .i64 r.1, .string ⟨(r.2.1).toArray⟩, .int .u32 r.2.2.1, .bool r.2.2.2.1, .slice ch0_0 r.2.2.2.2.1.length ch0_1, .int .i64 r.2.2.2.2.2.1, .int .i64 r.2.2.2.2.2.2.1, .int .u32 r.2.2.2.2.2.2.2.1, .slice ch0_2 r.2.2.2.2.2.2.2.2.length ch0_3] 38)).cell? ⟨w16.heap.size, 6, none⟩ = some (.int .i64 r.2.2.2.2.2.2.1) := HBK_h0.out.cell 6
  have kh0_7 : (w16.alloc (.cells #[.int .i64 r.1, .string ⟨(r.2.1).toArray⟩, .int .u32 r.2.2.1, .bool r.2.2.2.1, .slice ch0_0 r.2.2.2.2.1.length ch0_1, .int .i64 r.2.2.2.2.2.1, .int .i64 r.2.2.2.2.2.2.1, .int .u32 r.2.2.2.2.2.2.2.1, .slice ch0_2 r.2.2.2.2.2.2.2.2.length ch0_3] 38)).cell? ⟨w16.heap.size, 7, none⟩ = some (.int .u32 r.2.2.2.2.2.2.2.1) := HBK_h0.out.cell 7
  have kh0_8 : (w16.alloc (.cells #[.int .i64 r.1, .string ⟨(r.2.1).toArray⟩, .int .u32 r.2.2.1, .bool r.2.2.2.1, .slice ch0_0 r.2.2.2.2.1.length ch0_1, .int .i64 r.2.2.2.2.2.1, .int .i64 r.2.2.2.2.2.2.1, .int .u32 r.2.2.2.2.2.2.2.1, .slice ch0_2 r.2.2.2.2.2.2.2.2.length ch0_3] 38)).cell? ⟨w16.heap.size, 8, none⟩ = some (.slice ch0_2 r.2.2.2.2.2.2.2.2.length ch0_3) := HBK_h0.out.cell 8
  clear TUH0_17
  go_wp2_with fail
  refine (eqCmd_v H0_17.out.rd W0_17.out.rd).mono ?_
  rintro e w18 ⟨rfl, hm18⟩
  clear kaU_0 kaU_1 kaU_2 kaU_3
  clear kw0_0 kw0_1 kw0_2 kw0_3 kw0_4 kw0_5 kw0_6 kw0_7 kw0_8
  clear kx0_0 kx0_1 kx0_2 kx0_3
  clear kg0_0 kg0_1 kg0_2 kg0_3 kg0_4 kg0_5 kg0_6 kg0_7 kg0_8
  clear kh0_0 kh0_1 kh0_2 kh0_3 kh0_4 kh0_5 kh0_6 kh0_7 kh0_8
  have HBK18_aU := Sec.mk (HBK17_aU.out.mod hm18 id)
  clear HBK17_aU
  have HBK18_w0 := Sec.mk (HBK17_w0.out.mod hm18 id)
  clear HBK17_w0
  have HBK18_x0 := Sec.mk (HBK17_x0.out.mod hm18 id)
  clear HBK17_x0
  have HBK18_g0 := Sec.mk (HBK17_g0.out.mod hm18 id)
  clear HBK17_g0
  have HBK18_h0 := Sec.mk (HBK_h0.out.mod hm18 id)
  clear HBK_h0
  have W0_18 := Sec.mk (W0_17.out.step hm18)
  clear W0_17
  have X0_18 := Sec.mk (X0_17.out.step hm18)
  clear X0_17
  have G0_18 := Sec.mk (G0_17.out.step hm18)
  clear G0_17
  have H0_18 := Sec.mk (H0_17.out.step hm18)
  clear H0_17
  have HM18 := Sec.mk (HM17.out.transN hm18)
  clear HM17
  have hs18 := hm18.size
  clear hm18
  have kaU_0 : (w18).cell? ⟨w.heap.size, 0, none⟩ = some (.slice caU_0 xU.1.length caU_1) := HBK18_aU.out.cell 0
  have kaU_1 : (w18).cell? ⟨w.heap.size, 1, none⟩ = some (.slice caU_2 xU.2.1.length caU_3) := HBK18_aU.out.cell 1
  have kaU_2 : (w18).cell? ⟨w.heap.size, 2, none⟩ = some (.bool xU.2.2.1) := HBK18_aU.out.cell 2
  have kaU_3 : (w18).cell? ⟨w.heap.size, 3, none⟩ = some (.bool xU.2.2.2) := HBK18_aU.out.cell 3
  have kw0_0 : (w18).cell? ⟨w3.heap.size, 0, none⟩ = some (.int .i64 r.1) := HBK18_w0.out.cell 0
  have kw0_1 : (w18).cell? ⟨w3.heap.size, 1, none⟩ = some (.string ⟨(r.2.1).toArray⟩) := HBK18_w0.out.cell 1
  have kw0_2 : (w18).cell? ⟨w3.heap.size, 2, none⟩ = some (.int .u32 r.2.2.1) := HBK18_w0.out.cell 2
  have kw0_3 : (w18).cell? ⟨w3.heap.size, 3, none⟩ = some (.bool r.2.2.2.1) := HBK18_w0.out.cell 3
  have kw0_4 : (w18).cell? ⟨w3.heap.size, 4, none⟩ = some (.slice cw0_0 r.2.2.2.2.1.length cw0_1) := HBK18_w0.out.cell 4
  have kw0_5 : (w18).cell? ⟨w3.heap.size, 5, none⟩ = some (.int .i64 r.2.2.2.2.2.1) := HBK18_w0.out.cell 5
  have kw0_6 : (w18).cell? ⟨w3.heap.size, 6, none⟩ = some (.int .i64 r.2.2.2.2.2.2.1) := HBK18_w0.out.cell 6
  have kw0_7 : (w18).cell? ⟨w3.heap.size, 7, none⟩ = some (.int .u32 r.2.2.2.2.2.2.2.1) := HBK18_w0.out.cell 7
  have kw0_8 : (w18).cell? ⟨w3.heap.size, 8, none⟩ = some (.slice cw0_2 r.2.2.2.2.2.2.2.2.length cw0_3) := HBK18_w0.out.cell 8
  have kx0_0 : (w18).cell? ⟨w5.heap.size, 0, none⟩ = some (.slice cx0_0 xU.1.length cx0_1) := HBK18_x0.out.cell 0
  have kx0_1 : (w18).cell? ⟨w5.heap.size, 1, none⟩ = some (.slice cx0_2 xU.2.1.length cx0_3) := HBK18_x0.out.cell 1
  have kx0_2 : (w18).cell? ⟨w5.heap.size, 2, none⟩ = some (.bool xU.2.2.1) := HBK18_x0.out.cell 2
  have kx0_3 : (w18).cell? ⟨w5.heap.size, 3, none⟩ = some (.bool xU.2.2.2) := HBK18_x0.out.cell 3
  have kg0_0 : (w18).cell? ⟨w7.heap.size, 0, none⟩ = some (.int .i64 r.1) := HBK18_g0.out.cell 0
  have kg0_1 : (w18).cell? ⟨w7.heap.size, 1, none⟩ = some (.string ⟨(r.2.1).toArray⟩) := HBK18_g0.out.cell 1
  have kg0_2 : (w18).cell? ⟨w7.heap.size, 2, none⟩ = some (.int .u32 r.2.2.1) := HBK18_g0.out.cell 2
  have kg0_3 : (w18).cell? ⟨w7.heap.size, 3, none⟩ = some (.bool r.2.2.2.1) := HBK18_g0.out.cell 3
  have kg0_4 : (w18).cell? ⟨w7.heap.size, 4, none⟩ = some (.slice cg0_0 r.2.2.2.2.1.length cg0_1) := HBK18_g0.out.cell 4
  have kg0_5 : (w18).cell? ⟨w7.heap.size, 5, none⟩ = some (.int .i64 r.2.2.2.2.2.1) := HBK18_g0.out.cell 5
  have kg0_6 : (w18).cell? ⟨w7.heap.size, 6, none⟩ = some (.int .i64 r.2.2.2.2.2.2.1) := HBK18_g0.out.cell 6
  have kg0_7 : (w18).cell? ⟨w7.heap.size, 7, none⟩ = some (.int .u32 r.2.2.2.2.2.2.2.1) := HBK18_g0.out.cell 7
  have kg0_8 : (w18).cell? ⟨w7.heap.size, 8, none⟩ = some (.slice cg0_2 r.2.2.2.2.2.2.2.2.length cg0_3) := HBK18_g0.out.cell 8
  have kh0_0 : (w18).cell? ⟨w16.heap.size, 0, none⟩ = some (.int .i64 r.1) := HBK18_h0.out.cell 0
  have kh0_1 : (w18).cell? ⟨w16.heap.size, 1, none⟩ = some (.string ⟨(r.2.1).toArray⟩) := HBK18_h0.out.cell 1
  have kh0_2 : (w18).cell? ⟨w16.heap.size, 2, none⟩ = some (.int .u32 r.2.2.1) := HBK18_h0.out.cell 2
  have kh0_3 : (w18).cell? ⟨w16.heap.size, 3, none⟩ = some (.bool r.2.2.2.1) := HBK18_h0.out.cell 3
  have kh0_4 : (w18).cell? ⟨w16.heap.size, 4, none⟩ = some (.slice ch0_0 r.2.2.2.2.1.length ch0_1) := HBK18_h0.out.cell 4
  have kh0_5 : (w18).cell? ⟨w16.heap.size, 5, none⟩ = some (.int .i64 r.2.2.2.2.2.1) := HBK18_h0.out.cell 5
  have kh0_6 : (w18).cell? ⟨w16.heap.size, 6, none⟩ = some (.int .i64 r.2.2.2.2.2.2.1) := HBK18_h0.out.cell 6
  have kh0_7 : (w18).cell? ⟨w16.heap.size, 7, none⟩ = some (.int .u32 r.2.2.2.2.2.2.2.1) := HBK18_h0.out.cell 7
  have kh0_8 : (w18).cell? ⟨w16.heap.size, 8, none⟩ = some (.slice ch0_2 r.2.2.2.2.2.2.2.2.length ch0_3) := HBK18_h0.out.cell 8
  rw [show decide (r = r) = true by simp]
  go_wp2_with fail
  refine (heldCmd_v G0_18.out.rd 1 HX.out (by rw [HK.out]; omega)).mono ?_
  rintro e w19 ⟨rfl, hm19⟩
  rw [HK.out]
  clear kaU_0 kaU_1 kaU_2 kaU_3
  clear kw0_0 kw0_1 kw0_2 kw0_3 kw0_4 kw0_5 kw0_6 kw0_7 kw0_8
  clear kx0_0 kx0_1 kx0_2 kx0_3
  clear kg0_0 kg0_1 kg0_2 kg0_3 kg0_4 kg0_5 kg0_6 kg0_7 kg0_8
  clear kh0_0 kh0_1 kh0_2 kh0_3 kh0_4 kh0_5 kh0_6 kh0_7 kh0_8
  have HBK19_aU := Sec.mk (HBK18_aU.out.mod hm19 id)
  clear HBK18_aU
  have HBK19_w0 := Sec.mk (HBK18_w0.out.mod hm19 id)
  clear HBK18_w0
  have HBK19_x0 := Sec.mk (HBK18_x0.out.mod hm19 id)
  clear HBK18_x0
  have HBK19_g0 := Sec.mk (HBK18_g0.out.mod hm19 id)
  clear HBK18_g0
  have HBK19_h0 := Sec.mk (HBK18_h0.out.mod hm19 id)
  clear HBK18_h0
  have W0_19 := Sec.mk (W0_18.out.step hm19)
  clear W0_18
  have X0_19 := Sec.mk (X0_18.out.step hm19)
  clear X0_18
  have G0_19 := Sec.mk (G0_18.out.step hm19)
  clear G0_18
  have H0_19 := Sec.mk (H0_18.out.step hm19)
  clear H0_18
  have HM19 := Sec.mk (HM18.out.transN hm19)
  clear HM18
  have hs19 := hm19.size
  clear hm19
  have kaU_0 : (w19).cell? ⟨w.heap.size, 0, none⟩ = some (.slice caU_0 xU.1.length caU_1) := HBK19_aU.out.cell 0
  have kaU_1 : (w19).cell? ⟨w.heap.size, 1, none⟩ = some (.slice caU_2 xU.2.1.length caU_3) := HBK19_aU.out.cell 1
  have kaU_2 : (w19).cell? ⟨w.heap.size, 2, none⟩ = some (.bool xU.2.2.1) := HBK19_aU.out.cell 2
  have kaU_3 : (w19).cell? ⟨w.heap.size, 3, none⟩ = some (.bool xU.2.2.2) := HBK19_aU.out.cell 3
  have kw0_0 : (w19).cell? ⟨w3.heap.size, 0, none⟩ = some (.int .i64 r.1) := HBK19_w0.out.cell 0
  have kw0_1 : (w19).cell? ⟨w3.heap.size, 1, none⟩ = some (.string ⟨(r.2.1).toArray⟩) := HBK19_w0.out.cell 1
  have kw0_2 : (w19).cell? ⟨w3.heap.size, 2, none⟩ = some (.int .u32 r.2.2.1) := HBK19_w0.out.cell 2
  have kw0_3 : (w19).cell? ⟨w3.heap.size, 3, none⟩ = some (.bool r.2.2.2.1) := HBK19_w0.out.cell 3
  have kw0_4 : (w19).cell? ⟨w3.heap.size, 4, none⟩ = some (.slice cw0_0 r.2.2.2.2.1.length cw0_1) := HBK19_w0.out.cell 4
  have kw0_5 : (w19).cell? ⟨w3.heap.size, 5, none⟩ = some (.int .i64 r.2.2.2.2.2.1) := HBK19_w0.out.cell 5
  have kw0_6 : (w19).cell? ⟨w3.heap.size, 6, none⟩ = some (.int .i64 r.2.2.2.2.2.2.1) := HBK19_w0.out.cell 6
  have kw0_7 : (w19).cell? ⟨w3.heap.size, 7, none⟩ = some (.int .u32 r.2.2.2.2.2.2.2.1) := HBK19_w0.out.cell 7
  have kw0_8 : (w19).cell? ⟨w3.heap.size, 8, none⟩ = some (.slice cw0_2 r.2.2.2.2.2.2.2.2.length cw0_3) := HBK19_w0.out.cell 8
  have kx0_0 : (w19).cell? ⟨w5.heap.size, 0, none⟩ = some (.slice cx0_0 xU.1.length cx0_1) := HBK19_x0.out.cell 0
  have kx0_1 : (w19).cell? ⟨w5.heap.size, 1, none⟩ = some (.slice cx0_2 xU.2.1.length cx0_3) := HBK19_x0.out.cell 1
  have kx0_2 : (w19).cell? ⟨w5.heap.size, 2, none⟩ = some (.bool xU.2.2.1) := HBK19_x0.out.cell 2
  have kx0_3 : (w19).cell? ⟨w5.heap.size, 3, none⟩ = some (.bool xU.2.2.2) := HBK19_x0.out.cell 3
  have kg0_0 : (w19).cell? ⟨w7.heap.size, 0, none⟩ = some (.int .i64 r.1) := HBK19_g0.out.cell 0
  have kg0_1 : (w19).cell? ⟨w7.heap.size, 1, none⟩ = some (.string ⟨(r.2.1).toArray⟩) := HBK19_g0.out.cell 1
  have kg0_2 : (w19).cell? ⟨w7.heap.size, 2, none⟩ = some (.int .u32 r.2.2.1) := HBK19_g0.out.cell 2
  have kg0_3 : (w19).cell? ⟨w7.heap.size, 3, none⟩ = some (.bool r.2.2.2.1) := HBK19_g0.out.cell 3
  have kg0_4 : (w19).cell? ⟨w7.heap.size, 4, none⟩ = some (.slice cg0_0 r.2.2.2.2.1.length cg0_1) := HBK19_g0.out.cell 4
  have kg0_5 : (w19).cell? ⟨w7.heap.size, 5, none⟩ = some (.int .i64 r.2.2.2.2.2.1) := HBK19_g0.out.cell 5
  have kg0_6 : (w19).cell? ⟨w7.heap.size, 6, none⟩ = some (.int .i64 r.2.2.2.2.2.2.1) := HBK19_g0.out.cell 6
  have kg0_7 : (w19).cell? ⟨w7.heap.size, 7, none⟩ = some (.int .u32 r.2.2.2.2.2.2.2.1) := HBK19_g0.out.cell 7
  have kg0_8 : (w19).cell? ⟨w7.heap.size, 8, none⟩ = some (.slice cg0_2 r.2.2.2.2.2.2.2.2.length cg0_3) := HBK19_g0.out.cell 8
  have kh0_0 : (w19).cell? ⟨w16.heap.size, 0, none⟩ = some (.int .i64 r.1) := HBK19_h0.out.cell 0
  have kh0_1 : (w19).cell? ⟨w16.heap.size, 1, none⟩ = some (.string ⟨(r.2.1).toArray⟩) := HBK19_h0.out.cell 1
  have kh0_2 : (w19).cell? ⟨w16.heap.size, 2, none⟩ = some (.int .u32 r.2.2.1) := HBK19_h0.out.cell 2
  have kh0_3 : (w19).cell? ⟨w16.heap.size, 3, none⟩ = some (.bool r.2.2.2.1) := HBK19_h0.out.cell 3
  have kh0_4 : (w19).cell? ⟨w16.heap.size, 4, none⟩ = some (.slice ch0_0 r.2.2.2.2.1.length ch0_1) := HBK19_h0.out.cell 4
  have kh0_5 : (w19).cell? ⟨w16.heap.size, 5, none⟩ = some (.int .i64 r.2.2.2.2.2.1) := HBK19_h0.out.cell 5
  have kh0_6 : (w19).cell? ⟨w16.heap.size, 6, none⟩ = some (.int .i64 r.2.2.2.2.2.2.1) := HBK19_h0.out.cell 6
  have kh0_7 : (w19).cell? ⟨w16.heap.size, 7, none⟩ = some (.int .u32 r.2.2.2.2.2.2.2.1) := HBK19_h0.out.cell 7
  have kh0_8 : (w19).cell? ⟨w16.heap.size, 8, none⟩ = some (.slice ch0_2 r.2.2.2.2.2.2.2.2.length ch0_3) := HBK19_h0.out.cell 8
  go_wp2
  go_ret
  exact ⟨by simp, HM19.out⟩
end Go.Proofs.YtiaknomadhgckaaDoor
