/- Operations one by one on a copy of a disk, of the specification. A drawn disk: what its parts are, whatever is drawn. A drawn disk. -/
import Derived.Test.YtkkgighgnbbgiaaDoorPk7
import Derived.Test.YtkkgighgnbbgiaaDoorPk2
import Derived.Deep.DeepCutAuto
import Derived.Deep.Cut
import Derived.Deep.CutBlock
namespace Go.Proofs.YtkkgighgnbbgiaaDoor
open Go.RowKit Mem
set_option linter.unusedVariables false
set_option linter.unusedSimpArgs false
def RetDone (w : World) (r : DiskT × (Int × Int)) (e : Ending) (w' : World) : Prop :=
  ∃ v0 v1 v2 v3, e = .returned (.agg #[v0, v1, v2, v3, .int .i64 r.1.2.2.2.2, .int .i64 r.2.1, .int .i64 r.2.2]) ∧ Out4 (fun k => w.heap.size ≤ k) w' v0 v1 v2 v3 r.1 ∧ New w w'
def set7 (w : World) (g : Nat) (a0 a1 a2 a3 a4 a5 a6 : Value) : World := ((set5 w g a0 a1 a2 a3 a4).setCell ⟨g, 5, none⟩ a5).setCell ⟨g, 6, none⟩ a6
theorem set7_blk {w : World} {g : Nat} {t : TypeId} {b0 b1 b2 b3 b4 b5 b6 : Value} (h : Blk w g t [b0, b1, b2, b3, b4, b5, b6]) (a0 a1 a2 a3 a4 a5 a6 : Value) : Blk (set7 w g a0 a1 a2 a3 a4 a5 a6) g t [a0, a1, a2, a3, a4, a5, a6] := by
  have := ((((((h.set_ 0 a0).set_ 1 a1).set_ 2 a2).set_ 3 a3).set_ 4 a4).set_ 5 a5).set_ 6 a6
  simp only [List.set_cons_zero, List.set_cons_succ] at this
  exact this
theorem set5_blk7 {w : World} {g : Nat} {t : TypeId} {b0 b1 b2 b3 b4 b5 b6 : Value} (h : Blk w g t [b0, b1, b2, b3, b4, b5, b6]) (a0 a1 a2 a3 a4 : Value) : Blk (set5 w g a0 a1 a2 a3 a4) g t [a0, a1, a2, a3, a4, b5, b6] := by
  have := ((((h.set_ 0 a0).set_ 1 a1).set_ 2 a2).set_ 3 a3).set_ 4 a4
  simp only [List.set_cons_zero, List.set_cons_succ] at this
  exact this
theorem set7_mod (w : World) (g : Nat) (a0 a1 a2 a3 a4 a5 a6 : Value) : Mod (fun k => k = g) w (set7 w g a0 a1 a2 a3 a4 a5 a6) :=
  ((set5_mod w g a0 a1 a2 a3 a4).setCell (p := ⟨g, 5, none⟩) (fun _ => rfl) a5).setCell (p := ⟨g, 6, none⟩) (fun _ => rfl) a6
theorem op_at {w w' : World} {B : Nat → Prop} {A : Option Addr} {n : Nat} {xs : OpST} (h : Row dOp w B A n xs) (hb : ∀ k, B k → w'.heap[k]? = w.heap[k]?) {k : Nat} (hk : k < xs.length) :
    ∃ ad A' c', A = some ad ∧ w'.cell? (ad.add (k * 4)) = some (.int .i64 xs[k].1) ∧ w'.cell? ⟨(ad.add (k * 4)).block, (ad.add (k * 4)).off + 1, none⟩ = some (.string ⟨xs[k].2.1.toArray⟩) ∧ w'.cell? ⟨(ad.add (k * 4)).block, (ad.add (k * 4)).off + 2, none⟩ = some (.string ⟨xs[k].2.2.1.toArray⟩) ∧ w'.cell? ⟨(ad.add (k * 4)).block, (ad.add (k * 4)).off + 3, none⟩ = some (.slice A' xs[k].2.2.2.length c') ∧
      IntKind.i64.wrap xs[k].1 = xs[k].1 ∧ xs[k].2.1.length ≤ 9223372036854775807 ∧ xs[k].2.2.1.length ≤ 9223372036854775807 ∧ Row Ty.byte w' B A' xs[k].2.2.2.length xs[k].2.2.2 := by
  obtain ⟨ad, cs, rfl, hK, h0, h1⟩ := h.cells_at hb hk
  obtain ⟨c0, r0, rfl, ⟨rfl, g0⟩, c1, r1, rfl, ⟨rfl, g1⟩, c2, c3, rfl, ⟨rfl, g2⟩, ⟨A', c', rfl, g3, g4, g5⟩⟩ := hK
  exact ⟨ad, A', c', rfl, h0 _ rfl, h1 0 _ rfl, h1 1 _ rfl, h1 2 _ rfl, g0, g1, g2, g5.mod (fun _ h => h) hb⟩
theorem doL_step {d : DiskL} {ops : List OpL} {k n : Nat} (hk : k < ops.length) : doL d (ops.drop k) n = if (oneL d ops[k]).2 = 0 then doL (oneL d ops[k]).1 (ops.drop (k + 1)) (n + 1) else (d, ((n : Int), (oneL d ops[k]).2)) := by
  rw [List.drop_eq_getElem_cons hk]; rfl
theorem oneL_or (d : DiskL) (o : OpL) : (oneL d o).2 = 0 ∨ (oneL d o).1 = d := by
  unfold oneL
  repeat' split
  all_goals first | exact Or.inl rfl | exact Or.inr rfl
theorem oneL_same (d : DiskL) (o : OpL) (h : (oneL d o).2 ≠ 0) : (oneL d o).1 = d := (oneL_or d o).resolve_left h
theorem doL_end (d : DiskL) (ops : List OpL) (n : Nat) : doL d (ops.drop ops.length) n = (d, ((n : Int), 0)) := by
  rw [List.drop_length]; rfl
set_option maxHeartbeats 4000000 in
set_option maxRecDepth 100000 in
theorem diskDoS_v {w : World} {v vo : Value} {d : DiskT} {ops : OpST} (h : RdV true dDisk w v d) (ho : RdV false dOpS w vo ops) (hdl : ∀ o, o ∈ ops → o.2.2.2.length ≤ 1048576) : Calls Tryd.prog 5 #[v, vo] w (RetDone w (diskDoL d ops)) := by
  have HX := Sec.mk h
  have HDL := Sec.mk hdl
  obtain ⟨Ao, co, rfl, hco, hro⟩ := ho.slice
  have HRO := Sec.mk hro
  have HRL0 : Sec (¬ (ops.length ≤ 2000 ∧ DiskValidL d = true) → diskDoL d ops = (([], [], [], [], 0), (0, 1))) := ⟨fun h => if_neg h⟩
  have HRL1 : Sec ((ops.length ≤ 2000 ∧ DiskValidL d = true) → diskDoL d ops = doL d ops 0) := ⟨fun h => if_pos h⟩
  generalize hres : diskDoL d ops = res at *
  clear hres
  obtain ⟨v0, v1, v2, v3, rfl, k0, k1, k2, k3⟩ := rdDisk h
  obtain ⟨A0, c0, rfl, hc0, hr0⟩ := k0.slice
  obtain ⟨A1, c1, rfl, hc1, hr1⟩ := k1.slice
  obtain ⟨A2, c2, rfl, hc2, hr2⟩ := k2.slice
  obtain ⟨A3, c3, rfl, hc3, hr3⟩ := k3.slice
  have HBX := Sec.mk ((Blk.new w 27 [.slice A0 d.1.length c0, .slice A1 d.2.1.length c1, .slice A2 d.2.2.1.length c2, .slice A3 d.2.2.2.1.length c3, .int .i64 d.2.2.2.2]).alloc (.cells #[.slice none 0 0, .slice none 0 0, .slice none 0 0, .slice none 0 0, .int .i64 0, .int .i64 0, .int .i64 0] 32))
  have HBC : Sec (Blk ((w.alloc (.cells #[.slice A0 d.1.length c0, .slice A1 d.2.1.length c1, .slice A2 d.2.2.1.length c2, .slice A3 d.2.2.2.1.length c3, .int .i64 d.2.2.2.2] 27)).alloc (.cells #[.slice none 0 0, .slice none 0 0, .slice none 0 0, .slice none 0 0, .int .i64 0, .int .i64 0, .int .i64 0] 32)) (w.heap.size + 1) 32 [.slice none 0 0, .slice none 0 0, .slice none 0 0, .slice none 0 0, .int .i64 0, .int .i64 0, .int .i64 0]) := ⟨by have := Blk.new (w.alloc (.cells #[.slice A0 d.1.length c0, .slice A1 d.2.1.length c1, .slice A2 d.2.2.1.length c2, .slice A3 d.2.2.2.1.length c3, .int .i64 d.2.2.2.2] 27)) 32 [.slice none 0 0, .slice none 0 0, .slice none 0 0, .slice none 0 0, .int .i64 0, .int .i64 0, .int .i64 0]; simpa using this⟩
  have HM0 := Sec.mk (((Mod.refl (fun _ => False) w).alloc (.cells #[.slice A0 d.1.length c0, .slice A1 d.2.1.length c1, .slice A2 d.2.2.1.length c2, .slice A3 d.2.2.2.1.length c3, .int .i64 d.2.2.2.2] 27)).alloc (.cells #[.slice none 0 0, .slice none 0 0, .slice none 0 0, .slice none 0 0, .int .i64 0, .int .i64 0, .int .i64 0] 32))
  have hsz : (((w.alloc (.cells #[.slice A0 d.1.length c0, .slice A1 d.2.1.length c1, .slice A2 d.2.2.1.length c2, .slice A3 d.2.2.2.1.length c3, .int .i64 d.2.2.2.2] 27)).alloc (.cells #[.slice none 0 0, .slice none 0 0, .slice none 0 0, .slice none 0 0, .int .i64 0, .int .i64 0, .int .i64 0] 32))).heap.size = w.heap.size + 2 := by simp
  have HSZ := Sec.mk hsz
  clear h ho hdl k0 k1 k2 k3 hr0 hr1 hr2 hr3 hro hsz
  go_enter Tryd.func5, Tryd.ntmps5
  go_upto_region 1 with (fail)
  generalize ((w.alloc (.cells #[.slice A0 d.1.length c0, .slice A1 d.2.1.length c1, .slice A2 d.2.2.1.length c2, .slice A3 d.2.2.2.1.length c3, .int .i64 d.2.2.2.2] 27)).alloc (.cells #[.slice none 0 0, .slice none 0 0, .slice none 0 0, .slice none 0 0, .int .i64 0, .int .i64 0, .int .i64 0] 32)) = wz at *
  have hwz : w.heap.size + 2 = wz.heap.size := HSZ.out.symm
  have hwza : w.heap.size < wz.heap.size := by omega
  have hwzb : w.heap.size + 1 < wz.heap.size := by omega
  have xc0 : wz.cell? ⟨w.heap.size, 0, none⟩ = some (.slice A0 d.1.length c0) := HBX.out.cell 0
  have xc1 : wz.cell? ⟨w.heap.size, 1, none⟩ = some (.slice A1 d.2.1.length c1) := HBX.out.cell 1
  have xc2 : wz.cell? ⟨w.heap.size, 2, none⟩ = some (.slice A2 d.2.2.1.length c2) := HBX.out.cell 2
  have xc3 : wz.cell? ⟨w.heap.size, 3, none⟩ = some (.slice A3 d.2.2.2.1.length c3) := HBX.out.cell 3
  have xc4 : wz.cell? ⟨w.heap.size, 4, none⟩ = some (.int .i64 d.2.2.2.2) := HBX.out.cell 4
  have rc0 : wz.cell? ⟨w.heap.size + 1, 0, none⟩ = some (.slice none 0 0) := HBC.out.cell 0
  have rf0 : wz.frozen? ⟨w.heap.size + 1, 0, none⟩ = false := HBC.out.frozen 0
  have rc1 : wz.cell? ⟨w.heap.size + 1, 1, none⟩ = some (.slice none 0 0) := HBC.out.cell 1
  have rf1 : wz.frozen? ⟨w.heap.size + 1, 1, none⟩ = false := HBC.out.frozen 1
  have rc2 : wz.cell? ⟨w.heap.size + 1, 2, none⟩ = some (.slice none 0 0) := HBC.out.cell 2
  have rf2 : wz.frozen? ⟨w.heap.size + 1, 2, none⟩ = false := HBC.out.frozen 2
  have rc3 : wz.cell? ⟨w.heap.size + 1, 3, none⟩ = some (.slice none 0 0) := HBC.out.cell 3
  have rf3 : wz.frozen? ⟨w.heap.size + 1, 3, none⟩ = false := HBC.out.frozen 3
  have rc4 : wz.cell? ⟨w.heap.size + 1, 4, none⟩ = some (.int .i64 0) := HBC.out.cell 4
  have rf4 : wz.frozen? ⟨w.heap.size + 1, 4, none⟩ = false := HBC.out.frozen 4
  have rc5 : wz.cell? ⟨w.heap.size + 1, 5, none⟩ = some (.int .i64 0) := HBC.out.cell 5
  have rf5 : wz.frozen? ⟨w.heap.size + 1, 5, none⟩ = false := HBC.out.frozen 5
  have rc6 : wz.cell? ⟨w.heap.size + 1, 6, none⟩ = some (.int .i64 0) := HBC.out.cell 6
  have rf6 : wz.frozen? ⟨w.heap.size + 1, 6, none⟩ = false := HBC.out.frozen 6
  by_cases hop : 2000 < ops.length
  · have hopi : (2000 : Int) < (ops.length : Int) := by omega
    have HE := Sec.mk (HRL0.out (by omega))
    have HM0' := Sec.mk (HM0.out.mono (T := fun k => w.heap.size ≤ k) (fun i hlt h => h.elim))
    have HFB := Sec.mk (set7_blk HBC.out (.slice none 0 0) (.slice none 0 0) (.slice none 0 0) (.slice none 0 0) (.int .i64 0) (.int .i64 0) (.int .i64 1))
    have HFM := set7_mod wz (w.heap.size + 1) (.slice none 0 0) (.slice none 0 0) (.slice none 0 0) (.slice none 0 0) (.int .i64 0) (.int .i64 0) (.int .i64 1)
    have HMG := Sec.mk (HM0'.out.trans HFM (fun i hi hlt => by omega))
    clear HFM
    go_wp2
    refine bodyPost_ret (results_blk rfl rfl HFB.out Tryd.underlying32 (by kernel_rfl)) rfl ?_
    rw [HE.out]; exact ⟨_, _, _, _, rfl, ⟨[], [], [], [], Own.nil _ _ _, Own.nil _ _ _, Own.nil _ _ _, Own.nil _ _ _, ⟨fun k h => by simp at h, fun k h => by simp at h, fun k h => by simp at h⟩, fun k h => by simp [In4] at h, by decide⟩, HMG.out.mono (fun i hlt h => by omega)⟩
  have hopi : ¬ (2000 : Int) < (ops.length : Int) := by omega
  go_wp2_with fail
  refine (diskValidS_v (HX.out.step HM0.out)).mono ?_
  rintro e w2 ⟨rfl, hm2⟩
  have HM2 := Sec.mk (HM0.out.transN hm2)
  have HB2 := Sec.mk (HBX.out.mod hm2 id)
  have HC2 := Sec.mk (HBC.out.mod hm2 id)
  have hs2 := hm2.size
  clear hm2 HM0 HBX HBC xc0 xc1 xc2 xc3 xc4 rc0 rc1 rc2 rc3 rc4 rc5 rc6 rf0 rf1 rf2 rf3 rf4 rf5 rf6
  have hw2a : w.heap.size < w2.heap.size := by omega
  have hw2b : w.heap.size + 1 < w2.heap.size := by omega
  have xc0 : w2.cell? ⟨w.heap.size, 0, none⟩ = some (.slice A0 d.1.length c0) := HB2.out.cell 0
  have xc1 : w2.cell? ⟨w.heap.size, 1, none⟩ = some (.slice A1 d.2.1.length c1) := HB2.out.cell 1
  have xc2 : w2.cell? ⟨w.heap.size, 2, none⟩ = some (.slice A2 d.2.2.1.length c2) := HB2.out.cell 2
  have xc3 : w2.cell? ⟨w.heap.size, 3, none⟩ = some (.slice A3 d.2.2.2.1.length c3) := HB2.out.cell 3
  have xc4 : w2.cell? ⟨w.heap.size, 4, none⟩ = some (.int .i64 d.2.2.2.2) := HB2.out.cell 4
  have rc0 : w2.cell? ⟨w.heap.size + 1, 0, none⟩ = some (.slice none 0 0) := HC2.out.cell 0
  have rf0 : w2.frozen? ⟨w.heap.size + 1, 0, none⟩ = false := HC2.out.frozen 0
  have rc1 : w2.cell? ⟨w.heap.size + 1, 1, none⟩ = some (.slice none 0 0) := HC2.out.cell 1
  have rf1 : w2.frozen? ⟨w.heap.size + 1, 1, none⟩ = false := HC2.out.frozen 1
  have rc2 : w2.cell? ⟨w.heap.size + 1, 2, none⟩ = some (.slice none 0 0) := HC2.out.cell 2
  have rf2 : w2.frozen? ⟨w.heap.size + 1, 2, none⟩ = false := HC2.out.frozen 2
  have rc3 : w2.cell? ⟨w.heap.size + 1, 3, none⟩ = some (.slice none 0 0) := HC2.out.cell 3
  have rf3 : w2.frozen? ⟨w.heap.size + 1, 3, none⟩ = false := HC2.out.frozen 3
  have rc4 : w2.cell? ⟨w.heap.size + 1, 4, none⟩ = some (.int .i64 0) := HC2.out.cell 4
  have rf4 : w2.frozen? ⟨w.heap.size + 1, 4, none⟩ = false := HC2.out.frozen 4
  have rc5 : w2.cell? ⟨w.heap.size + 1, 5, none⟩ = some (.int .i64 0) := HC2.out.cell 5
  have rf5 : w2.frozen? ⟨w.heap.size + 1, 5, none⟩ = false := HC2.out.frozen 5
  have rc6 : w2.cell? ⟨w.heap.size + 1, 6, none⟩ = some (.int .i64 0) := HC2.out.cell 6
  have rf6 : w2.frozen? ⟨w.heap.size + 1, 6, none⟩ = false := HC2.out.frozen 6
  cases hv : DiskValidL d
  · have HE := Sec.mk (HRL0.out (by rw [hv]; simp))
    have HM0' := Sec.mk (HM2.out.mono (T := fun k => w.heap.size ≤ k) (fun i hlt h => h.elim))
    clear hv
    have HFB := Sec.mk (set7_blk HC2.out (.slice none 0 0) (.slice none 0 0) (.slice none 0 0) (.slice none 0 0) (.int .i64 0) (.int .i64 0) (.int .i64 1))
    have HFM := set7_mod w2 (w.heap.size + 1) (.slice none 0 0) (.slice none 0 0) (.slice none 0 0) (.slice none 0 0) (.int .i64 0) (.int .i64 0) (.int .i64 1)
    have HMG := Sec.mk (HM0'.out.trans HFM (fun i hi hlt => by omega))
    clear HFM
    go_wp2
    refine bodyPost_ret (results_blk rfl rfl HFB.out Tryd.underlying32 (by kernel_rfl)) rfl ?_
    rw [HE.out]; exact ⟨_, _, _, _, rfl, ⟨[], [], [], [], Own.nil _ _ _, Own.nil _ _ _, Own.nil _ _ _, Own.nil _ _ _, ⟨fun k h => by simp at h, fun k h => by simp at h, fun k h => by simp at h⟩, fun k h => by simp [In4] at h, by decide⟩, HMG.out.mono (fun i hlt h => by omega)⟩
  have HE := Sec.mk (HRL1.out ⟨by omega, hv⟩)
  have hI := DInv.of_valid hv
  have hk3 := ((inOrdL_iff d.2.2.1 d.1.length).1 ((DiskValidL_iff d).1 hv).2.2.2.2.2.2.2.1).1
  have HI := Sec.mk hI
  have hki : d.2.2.1.length ≤ 100000 := by omega
  clear hv HRL0 HRL1 hI hk3
  go_wp2_with fail
  refine (l1Copy_v (HX.out.step HM2.out) HI.out (by omega) hki).mono ?_
  rintro e w3 ⟨u0, u1, u2, u3, rfl, ho3, hm3⟩
  obtain ⟨u0, u0', u1, u1', u2, u2', u3, u3', rfl, rfl, rfl, rfl, -⟩ := ho3.forms
  have HO3 := Sec.mk ho3
  have HM3 := Sec.mk (HM2.out.transN hm3)
  have HC3 := Sec.mk (HC2.out.mod hm3 id)
  have hs3 := hm3.size
  have HIW : Sec (IntKind.i64.wrap d.2.2.2.2 = d.2.2.2.2) := ⟨okDisk HX.out⟩
  clear ho3 hm3 HB2 HC2 HM2 xc0 xc1 xc2 xc3 xc4 rc0 rc1 rc2 rc3 rc4 rc5 rc6 rf0 rf1 rf2 rf3 rf4 rf5 rf6
  have HBG := Sec.mk (Blk.new w3 32 [.slice u0 d.1.length u0', .slice u1 d.2.1.length u1', .slice u2 d.2.2.1.length u2', .slice u3 d.2.2.2.1.length u3', .int .i64 d.2.2.2.2, .int .i64 0, .int .i64 0])
  have hmg : New w3 (w3.alloc (.cells #[.slice u0 d.1.length u0', .slice u1 d.2.1.length u1', .slice u2 d.2.2.1.length u2', .slice u3 d.2.2.2.1.length u3', .int .i64 d.2.2.2.2, .int .i64 0, .int .i64 0] 32)) := (Mod.refl _ _).alloc _
  have HOG := Sec.mk ((HO3.out.wide (X' := fun k => wz.heap.size ≤ k ∧ k ≠ w3.heap.size) (fun k hlt h => ⟨by omega, by omega⟩)).new hmg)
  have HMG := Sec.mk (HM3.out.transN hmg)
  have HCG := Sec.mk (HC3.out.mod hmg id)
  have hsg : w3.heap.size < (w3.alloc (.cells #[.slice u0 d.1.length u0', .slice u1 d.2.1.length u1', .slice u2 d.2.2.1.length u2', .slice u3 d.2.2.2.1.length u3', .int .i64 d.2.2.2.2, .int .i64 0, .int .i64 0] 32)).heap.size := by simp
  clear hmg HO3 HM3 HC3
  have HX0 := Sec.mk (And.intro HX.out HRO.out)
  go_upto_region 4 with (fail)
  generalize hg : w3.heap.size = g at *
  clear hg
  have hgz : wz.heap.size ≤ g := by omega
  generalize (w3.alloc (.cells #[.slice u0 d.1.length u0', .slice u1 d.2.1.length u1', .slice u2 d.2.2.1.length u2', .slice u3 d.2.2.2.1.length u3', .int .i64 d.2.2.2.2, .int .i64 0, .int .i64 0] 32)) = w4 at *
  go_wp2
  go_loopw [24] (fun i wr => ∃ (k : Nat) (q : DiskT) (y0 : Option Addr) (y0' : Nat) (y1 : Option Addr) (y1' : Nat) (y2 : Option Addr) (y2' : Nat) (y3 : Option Addr) (y3' : Nat), k ≤ ops.length ∧ i = .int .i64 (k : Int) ∧ Sec (res = doL q (ops.drop k) k) ∧ Sec (DInv (300 + k) q) ∧ Sec (Blk wr g 32 [.slice y0 q.1.length y0', .slice y1 q.2.1.length y1', .slice y2 q.2.2.1.length y2', .slice y3 q.2.2.2.1.length y3', .int .i64 q.2.2.2.2, .int .i64 (k : Int), .int .i64 0]) ∧ Sec (Out4 (fun k => wz.heap.size ≤ k ∧ k ≠ g) wr (.slice y0 q.1.length y0') (.slice y1 q.2.1.length y1') (.slice y2 q.2.2.1.length y2') (.slice y3 q.2.2.2.1.length y3') q) ∧ Sec (Blk wr (w.heap.size + 1) 32 [.slice none 0 0, .slice none 0 0, .slice none 0 0, .slice none 0 0, .int .i64 0, .int .i64 0, .int .i64 0]) ∧ Sec (New w wr)) (fun i _ => ops.length - (intOf i).toNat)
  case atStart => exact ⟨0, d, u0, u0', u1, u1', u2, u2', u3, u3', Nat.zero_le _, rfl, ⟨by rw [List.drop_zero]; exact HE.out⟩, HI, HBG, HOG, HCG, HMG⟩
  case round =>
    clear HE HI HBG HOG HCG HMG HIW
    obtain ⟨k, q, y0, y0', y1, y1', y2, y2', y3, y3', hk, rfl, HE, HI, HG, HO, HC, HM⟩ := hrel
    have hgl := HG.out.lt
    have hcl := HC.out.lt
    by_cases hlt : k < ops.length
    rotate_left
    · obtain rfl : k = ops.length := by omega
      have HE' : Sec (res = (q, ((ops.length : Int), 0))) := ⟨HE.out.trans (doL_end q ops ops.length)⟩
      have HM' := Sec.mk (HM.out.mono (T := fun k => w.heap.size ≤ k) (fun i hlt h => h.elim))
      clear HE
      have gc0 : wr.cell? ⟨g, 0, none⟩ = some (.slice y0 q.1.length y0') := HG.out.cell 0
      have gc1 : wr.cell? ⟨g, 1, none⟩ = some (.slice y1 q.2.1.length y1') := HG.out.cell 1
      have gc2 : wr.cell? ⟨g, 2, none⟩ = some (.slice y2 q.2.2.1.length y2') := HG.out.cell 2
      have gc3 : wr.cell? ⟨g, 3, none⟩ = some (.slice y3 q.2.2.2.1.length y3') := HG.out.cell 3
      have gc4 : wr.cell? ⟨g, 4, none⟩ = some (.int .i64 q.2.2.2.2) := HG.out.cell 4
      have gc5 : wr.cell? ⟨g, 5, none⟩ = some (.int .i64 (ops.length : Int)) := HG.out.cell 5
      have gc6 : wr.cell? ⟨g, 6, none⟩ = some (.int .i64 0) := HG.out.cell 6
      have rc0 : wr.cell? ⟨w.heap.size + 1, 0, none⟩ = some (.slice none 0 0) := HC.out.cell 0
      have rf0 : wr.frozen? ⟨w.heap.size + 1, 0, none⟩ = false := HC.out.frozen 0
      have rc1 : wr.cell? ⟨w.heap.size + 1, 1, none⟩ = some (.slice none 0 0) := HC.out.cell 1
      have rf1 : wr.frozen? ⟨w.heap.size + 1, 1, none⟩ = false := HC.out.frozen 1
      have rc2 : wr.cell? ⟨w.heap.size + 1, 2, none⟩ = some (.slice none 0 0) := HC.out.cell 2
      have rf2 : wr.frozen? ⟨w.heap.size + 1, 2, none⟩ = false := HC.out.frozen 2
      have rc3 : wr.cell? ⟨w.heap.size + 1, 3, none⟩ = some (.slice none 0 0) := HC.out.cell 3
      have rf3 : wr.frozen? ⟨w.heap.size + 1, 3, none⟩ = false := HC.out.frozen 3
      have rc4 : wr.cell? ⟨w.heap.size + 1, 4, none⟩ = some (.int .i64 0) := HC.out.cell 4
      have rf4 : wr.frozen? ⟨w.heap.size + 1, 4, none⟩ = false := HC.out.frozen 4
      have rc5 : wr.cell? ⟨w.heap.size + 1, 5, none⟩ = some (.int .i64 0) := HC.out.cell 5
      have rf5 : wr.frozen? ⟨w.heap.size + 1, 5, none⟩ = false := HC.out.frozen 5
      have rc6 : wr.cell? ⟨w.heap.size + 1, 6, none⟩ = some (.int .i64 0) := HC.out.cell 6
      have rf6 : wr.frozen? ⟨w.heap.size + 1, 6, none⟩ = false := HC.out.frozen 6
      have HFB := Sec.mk (set7_blk HC.out (.slice y0 q.1.length y0') (.slice y1 q.2.1.length y1') (.slice y2 q.2.2.1.length y2') (.slice y3 q.2.2.2.1.length y3') (.int .i64 q.2.2.2.2) (.int .i64 (ops.length : Int)) (.int .i64 0))
      have HFM := set7_mod wr (w.heap.size + 1) (.slice y0 q.1.length y0') (.slice y1 q.2.1.length y1') (.slice y2 q.2.2.1.length y2') (.slice y3 q.2.2.2.1.length y3') (.int .i64 q.2.2.2.2) (.int .i64 (ops.length : Int)) (.int .i64 0)
      have HMG := Sec.mk (HM'.out.trans HFM (fun i hi hlt => by omega))
      have H4 := Sec.mk (HO.out.keep HFM (fun k h e => by omega))
      clear HFM
      go_wp2
      refine bodyPost_ret (results_blk rfl rfl HFB.out Tryd.underlying32 (by kernel_rfl)) rfl ?_
      rw [HE'.out]; exact ⟨_, _, _, _, rfl, H4.out.wide (fun k _ h => by omega), HMG.out.mono (fun i hlt h => by omega)⟩
    obtain ⟨ad, Ad, dc, rfl, e0, e1, e2, e3, g0, g1, g2, hrow⟩ := op_at HRO.out (w' := wr) (fun i hi => HM.out.block i hi id) hlt
    have hkl : (k : Int) < (ops.length : Int) := by omega
    have HDK := Sec.mk (HDL.out _ (List.getElem_mem hlt))
    have HE2 := Sec.mk (HE.out.trans (doL_step hlt))
    have HI2 : Sec ((oneL q ops[k]).2 = 0 → DInv (300 + (k + 1)) (oneL q ops[k]).1) := ⟨fun h => HI.out.one _ h⟩
    obtain ⟨o, hoo⟩ : ∃ o : OpT, o = ops[k] := ⟨_, rfl⟩
    rw [← hoo] at e0 e1 e2 e3 g0 g1 g2 hrow HDK HE2 HI2
    clear hoo HE
    obtain ⟨kd, nm, tn, dat⟩ := o
    simp only at e0 e1 e2 e3 g0 g1 g2 hrow HDK
    have HRW := Sec.mk hrow
    have HKW := Sec.mk (And.intro g0 (And.intro g1 g2))
    clear hrow g0 g1 g2
    have hmn : New wr (wr.alloc (.cells #[.int .i64 kd, .string ⟨nm.toArray⟩, .string ⟨tn.toArray⟩, .slice Ad dat.length dc] 39)) := (Mod.refl _ _).alloc _
    have HBO := Sec.mk (Blk.new wr 39 [.int .i64 kd, .string ⟨nm.toArray⟩, .string ⟨tn.toArray⟩, .slice Ad dat.length dc])
    have HGn := Sec.mk (HG.out.mod hmn id)
    have HCn := Sec.mk (HC.out.mod hmn id)
    have HMn := Sec.mk (HM.out.transN hmn)
    have HOn := Sec.mk ((HO.out.wide (X' := fun k => (wz.heap.size ≤ k ∧ k ≠ g) ∧ k < wr.heap.size) (fun k h1 h2 => ⟨h2, h1⟩)).new hmn)
    have HRn := Sec.mk (HRW.out.mod (w' := wr.alloc (.cells #[.int .i64 kd, .string ⟨nm.toArray⟩, .string ⟨tn.toArray⟩, .slice Ad dat.length dc] 39)) (fun _ h => h) (fun k hk => hmn.block k (by have : k < w.heap.size := hk; omega) id))
    have hsn : wr.heap.size < (wr.alloc (.cells #[.int .i64 kd, .string ⟨nm.toArray⟩, .string ⟨tn.toArray⟩, .slice Ad dat.length dc] 39)).heap.size := by simp
    clear hmn HG HC HO HRW
    go_upto_region 7 with (fail)
    generalize wr.alloc (.cells #[.int .i64 kd, .string ⟨nm.toArray⟩, .string ⟨tn.toArray⟩, .slice Ad dat.length dc] 39) = wn at *
    have hgn : g < wn.heap.size := by omega
    have hcn : w.heap.size + 1 < wn.heap.size := by omega
    have gc0 : wn.cell? ⟨g, 0, none⟩ = some (.slice y0 q.1.length y0') := HGn.out.cell 0
    have gc1 : wn.cell? ⟨g, 1, none⟩ = some (.slice y1 q.2.1.length y1') := HGn.out.cell 1
    have gc2 : wn.cell? ⟨g, 2, none⟩ = some (.slice y2 q.2.2.1.length y2') := HGn.out.cell 2
    have gc3 : wn.cell? ⟨g, 3, none⟩ = some (.slice y3 q.2.2.2.1.length y3') := HGn.out.cell 3
    have gc4 : wn.cell? ⟨g, 4, none⟩ = some (.int .i64 q.2.2.2.2) := HGn.out.cell 4
    have oc0 : wn.cell? ⟨wr.heap.size, 0, none⟩ = some (.int .i64 kd) := HBO.out.cell 0
    have oc1 : wn.cell? ⟨wr.heap.size, 1, none⟩ = some (.string ⟨nm.toArray⟩) := HBO.out.cell 1
    have oc2 : wn.cell? ⟨wr.heap.size, 2, none⟩ = some (.string ⟨tn.toArray⟩) := HBO.out.cell 2
    have oc3 : wn.cell? ⟨wr.heap.size, 3, none⟩ = some (.slice Ad dat.length dc) := HBO.out.cell 3
    go_wp2_with fail
    refine (l1One_v HOn.out HI.out (by omega) HKW.out.1 HKW.out.2.1 HKW.out.2.2 HRn.out (fun k hk => by have : k < w.heap.size := hk; exact ⟨by omega, fun h => by omega⟩) HDK.out).mono ?_
    have HZQ : Sec ((oneL q (kd, nm, tn, dat)).2 ≠ 0 → (oneL q (kd, nm, tn, dat)).1 = q) := ⟨oneL_same q _⟩
    generalize oneL q (kd, nm, tn, dat) = r at *
    rintro e w5 ⟨z0, z1, z2, z3, rfl, ho5, hm5, hzz⟩
    obtain ⟨dn, code⟩ := r
    obtain ⟨z0, z0', z1, z1', z2, z2', z3, z3', rfl, rfl, rfl, rfl, -⟩ := ho5.forms
    have HO5 := Sec.mk ho5
    have HG5 := Sec.mk (HGn.out.mod hm5 (fun h => h.1.2 rfl))
    have HC5 := Sec.mk (HCn.out.mod hm5 (fun h => by omega))
    have HM5 := Sec.mk (HMn.out.trans hm5 (fun i hi hlt => by omega))
    have hs5 := hm5.size
    clear ho5 hm5 HGn HCn HMn HOn gc0 gc1 gc2 gc3 gc4 oc0 oc1 oc2 oc3 e0 e1 e2 e3
    simp only at *
    have hma : New w5 (w5.alloc (.cells #[.slice z0 dn.1.length z0', .slice z1 dn.2.1.length z1', .slice z2 dn.2.2.1.length z2', .slice z3 dn.2.2.2.1.length z3', .int .i64 dn.2.2.2.2] 27)) := (Mod.refl _ _).alloc _
    have HBN := Sec.mk (Blk.new w5 27 [.slice z0 dn.1.length z0', .slice z1 dn.2.1.length z1', .slice z2 dn.2.2.1.length z2', .slice z3 dn.2.2.2.1.length z3', .int .i64 dn.2.2.2.2])
    have HG6 := Sec.mk (HG5.out.mod hma id)
    have HC6 := Sec.mk (HC5.out.mod hma id)
    have HM6 := Sec.mk (HM5.out.transN hma)
    have HO6 := Sec.mk (HO5.out.new hma)
    have hs6 : w5.heap.size < (w5.alloc (.cells #[.slice z0 dn.1.length z0', .slice z1 dn.2.1.length z1', .slice z2 dn.2.2.1.length z2', .slice z3 dn.2.2.2.1.length z3', .int .i64 dn.2.2.2.2] 27)).heap.size := by simp
    clear hma HG5 HC5 HM5 HO5
    go_upto_region 8 with (fail)
    generalize (w5.alloc (.cells #[.slice z0 dn.1.length z0', .slice z1 dn.2.1.length z1', .slice z2 dn.2.2.1.length z2', .slice z3 dn.2.2.2.1.length z3', .int .i64 dn.2.2.2.2] 27)) = w6 at *
    have hg6 : g < w6.heap.size := by omega
    have hc6 : w.heap.size + 1 < w6.heap.size := by omega
    have gc0 : w6.cell? ⟨g, 0, none⟩ = some (.slice y0 q.1.length y0') := HG6.out.cell 0
    have gf0 : w6.frozen? ⟨g, 0, none⟩ = false := HG6.out.frozen 0
    have gc1 : w6.cell? ⟨g, 1, none⟩ = some (.slice y1 q.2.1.length y1') := HG6.out.cell 1
    have gf1 : w6.frozen? ⟨g, 1, none⟩ = false := HG6.out.frozen 1
    have gc2 : w6.cell? ⟨g, 2, none⟩ = some (.slice y2 q.2.2.1.length y2') := HG6.out.cell 2
    have gf2 : w6.frozen? ⟨g, 2, none⟩ = false := HG6.out.frozen 2
    have gc3 : w6.cell? ⟨g, 3, none⟩ = some (.slice y3 q.2.2.2.1.length y3') := HG6.out.cell 3
    have gf3 : w6.frozen? ⟨g, 3, none⟩ = false := HG6.out.frozen 3
    have gc4 : w6.cell? ⟨g, 4, none⟩ = some (.int .i64 q.2.2.2.2) := HG6.out.cell 4
    have gf4 : w6.frozen? ⟨g, 4, none⟩ = false := HG6.out.frozen 4
    have gc5 : w6.cell? ⟨g, 5, none⟩ = some (.int .i64 (k : Int)) := HG6.out.cell 5
    have gf5 : w6.frozen? ⟨g, 5, none⟩ = false := HG6.out.frozen 5
    have gc6 : w6.cell? ⟨g, 6, none⟩ = some (.int .i64 0) := HG6.out.cell 6
    have gf6 : w6.frozen? ⟨g, 6, none⟩ = false := HG6.out.frozen 6
    have rc0 : w6.cell? ⟨w.heap.size + 1, 0, none⟩ = some (.slice none 0 0) := HC6.out.cell 0
    have rf0 : w6.frozen? ⟨w.heap.size + 1, 0, none⟩ = false := HC6.out.frozen 0
    have rc1 : w6.cell? ⟨w.heap.size + 1, 1, none⟩ = some (.slice none 0 0) := HC6.out.cell 1
    have rf1 : w6.frozen? ⟨w.heap.size + 1, 1, none⟩ = false := HC6.out.frozen 1
    have rc2 : w6.cell? ⟨w.heap.size + 1, 2, none⟩ = some (.slice none 0 0) := HC6.out.cell 2
    have rf2 : w6.frozen? ⟨w.heap.size + 1, 2, none⟩ = false := HC6.out.frozen 2
    have rc3 : w6.cell? ⟨w.heap.size + 1, 3, none⟩ = some (.slice none 0 0) := HC6.out.cell 3
    have rf3 : w6.frozen? ⟨w.heap.size + 1, 3, none⟩ = false := HC6.out.frozen 3
    have rc4 : w6.cell? ⟨w.heap.size + 1, 4, none⟩ = some (.int .i64 0) := HC6.out.cell 4
    have rf4 : w6.frozen? ⟨w.heap.size + 1, 4, none⟩ = false := HC6.out.frozen 4
    have rc5 : w6.cell? ⟨w.heap.size + 1, 5, none⟩ = some (.int .i64 0) := HC6.out.cell 5
    have rf5 : w6.frozen? ⟨w.heap.size + 1, 5, none⟩ = false := HC6.out.frozen 5
    have rc6 : w6.cell? ⟨w.heap.size + 1, 6, none⟩ = some (.int .i64 0) := HC6.out.cell 6
    have rf6 : w6.frozen? ⟨w.heap.size + 1, 6, none⟩ = false := HC6.out.frozen 6
    have nc0 : w6.cell? ⟨w5.heap.size, 0, none⟩ = some (.slice z0 dn.1.length z0') := HBN.out.cell 0
    have nc1 : w6.cell? ⟨w5.heap.size, 1, none⟩ = some (.slice z1 dn.2.1.length z1') := HBN.out.cell 1
    have nc2 : w6.cell? ⟨w5.heap.size, 2, none⟩ = some (.slice z2 dn.2.2.1.length z2') := HBN.out.cell 2
    have nc3 : w6.cell? ⟨w5.heap.size, 3, none⟩ = some (.slice z3 dn.2.2.2.1.length z3') := HBN.out.cell 3
    have nc4 : w6.cell? ⟨w5.heap.size, 4, none⟩ = some (.int .i64 dn.2.2.2.2) := HBN.out.cell 4
    by_cases hcode : code = 0
    rotate_left
    · obtain ⟨ez0, ez1, ez2, ez3⟩ := hzz hcode
      obtain rfl : dn = q := HZQ.out hcode
      rw [ez0, ez1, ez2, ez3] at HO6 HBN
      have HE3 : Sec (res = (dn, ((k : Int), code))) := ⟨HE2.out.trans (if_neg hcode)⟩
      have hcb : (code != 0) = true := by simpa using hcode
      have HG7 := Sec.mk (HG6.out.set_ 6 (.int .i64 code))
      simp only [List.set_cons_zero, List.set_cons_succ] at HG7
      have hm7 : Mod (fun k => k = g) w6 (w6.setCell ⟨g, 6, none⟩ (.int .i64 code)) := (Mod.refl (fun k => k = g) w6).setCell (p := ⟨g, 6, none⟩) (fun _ => rfl) _
      have HC7 := Sec.mk (HC6.out.mod hm7 (fun h => by omega))
      have HM7 := Sec.mk ((HM6.out.mono (T := fun k => w.heap.size ≤ k) (fun i hlt h => h.elim)).trans hm7 (fun i hi hlt => by omega))
      have HO7 := Sec.mk (HO6.out.keep hm7 (fun k h e => by omega))
      have hs7 : (w6.setCell ⟨g, 6, none⟩ (.int .i64 code)).heap.size = w6.heap.size := by simp [World.setCell]
      clear hm7 HG6 HC6 HM6 HO6 HI2 HE2
      go_upto_region 10 with (fail)
      generalize w6.setCell ⟨g, 6, none⟩ (.int .i64 code) = w7 at *
      clear gc0 gf0 gc1 gf1 gc2 gf2 gc3 gf3 gc4 gf4 gc5 gf5 gc6 gf6 rc0 rf0 rc1 rf1 rc2 rf2 rc3 rf3 rc4 rf4 rc5 rf5 rc6 rf6 nc0 nc1 nc2 nc3 nc4
      have hg7 : g < w7.heap.size := by omega
      have hc7 : w.heap.size + 1 < w7.heap.size := by omega
      have gc0 : w7.cell? ⟨g, 0, none⟩ = some (.slice y0 dn.1.length y0') := HG7.out.cell 0
      have gf0 : w7.frozen? ⟨g, 0, none⟩ = false := HG7.out.frozen 0
      have gc1 : w7.cell? ⟨g, 1, none⟩ = some (.slice y1 dn.2.1.length y1') := HG7.out.cell 1
      have gf1 : w7.frozen? ⟨g, 1, none⟩ = false := HG7.out.frozen 1
      have gc2 : w7.cell? ⟨g, 2, none⟩ = some (.slice y2 dn.2.2.1.length y2') := HG7.out.cell 2
      have gf2 : w7.frozen? ⟨g, 2, none⟩ = false := HG7.out.frozen 2
      have gc3 : w7.cell? ⟨g, 3, none⟩ = some (.slice y3 dn.2.2.2.1.length y3') := HG7.out.cell 3
      have gf3 : w7.frozen? ⟨g, 3, none⟩ = false := HG7.out.frozen 3
      have gc4 : w7.cell? ⟨g, 4, none⟩ = some (.int .i64 dn.2.2.2.2) := HG7.out.cell 4
      have gf4 : w7.frozen? ⟨g, 4, none⟩ = false := HG7.out.frozen 4
      have gc5 : w7.cell? ⟨g, 5, none⟩ = some (.int .i64 (k : Int)) := HG7.out.cell 5
      have gf5 : w7.frozen? ⟨g, 5, none⟩ = false := HG7.out.frozen 5
      have gc6 : w7.cell? ⟨g, 6, none⟩ = some (.int .i64 code) := HG7.out.cell 6
      have gf6 : w7.frozen? ⟨g, 6, none⟩ = false := HG7.out.frozen 6
      have rc0 : w7.cell? ⟨w.heap.size + 1, 0, none⟩ = some (.slice none 0 0) := HC7.out.cell 0
      have rf0 : w7.frozen? ⟨w.heap.size + 1, 0, none⟩ = false := HC7.out.frozen 0
      have rc1 : w7.cell? ⟨w.heap.size + 1, 1, none⟩ = some (.slice none 0 0) := HC7.out.cell 1
      have rf1 : w7.frozen? ⟨w.heap.size + 1, 1, none⟩ = false := HC7.out.frozen 1
      have rc2 : w7.cell? ⟨w.heap.size + 1, 2, none⟩ = some (.slice none 0 0) := HC7.out.cell 2
      have rf2 : w7.frozen? ⟨w.heap.size + 1, 2, none⟩ = false := HC7.out.frozen 2
      have rc3 : w7.cell? ⟨w.heap.size + 1, 3, none⟩ = some (.slice none 0 0) := HC7.out.cell 3
      have rf3 : w7.frozen? ⟨w.heap.size + 1, 3, none⟩ = false := HC7.out.frozen 3
      have rc4 : w7.cell? ⟨w.heap.size + 1, 4, none⟩ = some (.int .i64 0) := HC7.out.cell 4
      have rf4 : w7.frozen? ⟨w.heap.size + 1, 4, none⟩ = false := HC7.out.frozen 4
      have rc5 : w7.cell? ⟨w.heap.size + 1, 5, none⟩ = some (.int .i64 0) := HC7.out.cell 5
      have rf5 : w7.frozen? ⟨w.heap.size + 1, 5, none⟩ = false := HC7.out.frozen 5
      have rc6 : w7.cell? ⟨w.heap.size + 1, 6, none⟩ = some (.int .i64 0) := HC7.out.cell 6
      have rf6 : w7.frozen? ⟨w.heap.size + 1, 6, none⟩ = false := HC7.out.frozen 6
      have HFB := Sec.mk (set7_blk HC7.out (.slice y0 dn.1.length y0') (.slice y1 dn.2.1.length y1') (.slice y2 dn.2.2.1.length y2') (.slice y3 dn.2.2.2.1.length y3') (.int .i64 dn.2.2.2.2) (.int .i64 (k : Int)) (.int .i64 code))
      have HFM := set7_mod w7 (w.heap.size + 1) (.slice y0 dn.1.length y0') (.slice y1 dn.2.1.length y1') (.slice y2 dn.2.2.1.length y2') (.slice y3 dn.2.2.2.1.length y3') (.int .i64 dn.2.2.2.2) (.int .i64 (k : Int)) (.int .i64 code)
      have HMG := Sec.mk (HM7.out.trans HFM (fun i hi hlt => by omega))
      have H4 := Sec.mk (HO7.out.keep HFM (fun k h e => by omega))
      clear HFM
      go_wp2
      refine bodyPost_ret (results_blk rfl rfl HFB.out Tryd.underlying32 (by kernel_rfl)) rfl ?_
      rw [HE3.out]; exact ⟨_, _, _, _, rfl, H4.out.wide (fun k _ h => by omega), HMG.out.mono (fun i hlt h => by omega)⟩
    subst hcode
    have HE3 := Sec.mk (HE2.out.trans (if_pos rfl))
    have HI3 := Sec.mk (HI2.out rfl)
    have hm7 : Mod (fun k => k = g) w6 (((((w6.setCell ⟨g, 0, none⟩ (.slice z0 dn.1.length z0')).setCell ⟨g, 1, none⟩ (.slice z1 dn.2.1.length z1')).setCell ⟨g, 2, none⟩ (.slice z2 dn.2.2.1.length z2')).setCell ⟨g, 3, none⟩ (.slice z3 dn.2.2.2.1.length z3')).setCell ⟨g, 4, none⟩ (.int .i64 dn.2.2.2.2)) := set5_mod w6 g (.slice z0 dn.1.length z0') (.slice z1 dn.2.1.length z1') (.slice z2 dn.2.2.1.length z2') (.slice z3 dn.2.2.2.1.length z3') (.int .i64 dn.2.2.2.2)
    have HG7 : Sec (Blk (((((w6.setCell ⟨g, 0, none⟩ (.slice z0 dn.1.length z0')).setCell ⟨g, 1, none⟩ (.slice z1 dn.2.1.length z1')).setCell ⟨g, 2, none⟩ (.slice z2 dn.2.2.1.length z2')).setCell ⟨g, 3, none⟩ (.slice z3 dn.2.2.2.1.length z3')).setCell ⟨g, 4, none⟩ (.int .i64 dn.2.2.2.2)) g 32 [.slice z0 dn.1.length z0', .slice z1 dn.2.1.length z1', .slice z2 dn.2.2.1.length z2', .slice z3 dn.2.2.2.1.length z3', .int .i64 dn.2.2.2.2, .int .i64 (k : Int), .int .i64 0]) := ⟨set5_blk7 HG6.out (.slice z0 dn.1.length z0') (.slice z1 dn.2.1.length z1') (.slice z2 dn.2.2.1.length z2') (.slice z3 dn.2.2.2.1.length z3') (.int .i64 dn.2.2.2.2)⟩
    have HC7 := Sec.mk (HC6.out.mod hm7 (fun h => by omega))
    have HM7 := Sec.mk ((HM6.out.mono (T := fun k => w.heap.size ≤ k) (fun i hlt h => h.elim)).trans hm7 (fun i hi hlt => by omega))
    have HO7 := Sec.mk (HO6.out.keep hm7 (fun k h e => by omega))
    have hs7 : (((((w6.setCell ⟨g, 0, none⟩ (.slice z0 dn.1.length z0')).setCell ⟨g, 1, none⟩ (.slice z1 dn.2.1.length z1')).setCell ⟨g, 2, none⟩ (.slice z2 dn.2.2.1.length z2')).setCell ⟨g, 3, none⟩ (.slice z3 dn.2.2.2.1.length z3')).setCell ⟨g, 4, none⟩ (.int .i64 dn.2.2.2.2)).heap.size = w6.heap.size := by simp [World.setCell]
    clear hm7 HG6 HC6 HM6 HO6 HI2 HE2 hzz
    go_upto_region 12 with (fail)
    generalize (((((w6.setCell ⟨g, 0, none⟩ (.slice z0 dn.1.length z0')).setCell ⟨g, 1, none⟩ (.slice z1 dn.2.1.length z1')).setCell ⟨g, 2, none⟩ (.slice z2 dn.2.2.1.length z2')).setCell ⟨g, 3, none⟩ (.slice z3 dn.2.2.2.1.length z3')).setCell ⟨g, 4, none⟩ (.int .i64 dn.2.2.2.2)) = w7 at *
    clear gc0 gf0 gc1 gf1 gc2 gf2 gc3 gf3 gc4 gf4 gc5 gf5 gc6 gf6 rc0 rf0 rc1 rf1 rc2 rf2 rc3 rf3 rc4 rf4 rc5 rf5 rc6 rf6 nc0 nc1 nc2 nc3 nc4
    have hg7 : g < w7.heap.size := by omega
    have hc7 : w.heap.size + 1 < w7.heap.size := by omega
    have gc0 : w7.cell? ⟨g, 0, none⟩ = some (.slice z0 dn.1.length z0') := HG7.out.cell 0
    have gf0 : w7.frozen? ⟨g, 0, none⟩ = false := HG7.out.frozen 0
    have gc1 : w7.cell? ⟨g, 1, none⟩ = some (.slice z1 dn.2.1.length z1') := HG7.out.cell 1
    have gf1 : w7.frozen? ⟨g, 1, none⟩ = false := HG7.out.frozen 1
    have gc2 : w7.cell? ⟨g, 2, none⟩ = some (.slice z2 dn.2.2.1.length z2') := HG7.out.cell 2
    have gf2 : w7.frozen? ⟨g, 2, none⟩ = false := HG7.out.frozen 2
    have gc3 : w7.cell? ⟨g, 3, none⟩ = some (.slice z3 dn.2.2.2.1.length z3') := HG7.out.cell 3
    have gf3 : w7.frozen? ⟨g, 3, none⟩ = false := HG7.out.frozen 3
    have gc4 : w7.cell? ⟨g, 4, none⟩ = some (.int .i64 dn.2.2.2.2) := HG7.out.cell 4
    have gf4 : w7.frozen? ⟨g, 4, none⟩ = false := HG7.out.frozen 4
    have gc5 : w7.cell? ⟨g, 5, none⟩ = some (.int .i64 (k : Int)) := HG7.out.cell 5
    have gf5 : w7.frozen? ⟨g, 5, none⟩ = false := HG7.out.frozen 5
    have gc6 : w7.cell? ⟨g, 6, none⟩ = some (.int .i64 0) := HG7.out.cell 6
    have gf6 : w7.frozen? ⟨g, 6, none⟩ = false := HG7.out.frozen 6
    have HG8 := Sec.mk (HG7.out.set_ 5 (.int .i64 ((k + 1 : Nat) : Int)))
    simp only [List.set_cons_zero, List.set_cons_succ] at HG8
    have hm8 : Mod (fun k => k = g) w7 (w7.setCell ⟨g, 5, none⟩ (.int .i64 ((k + 1 : Nat) : Int))) := (Mod.refl (fun k => k = g) w7).setCell (p := ⟨g, 5, none⟩) (fun _ => rfl) _
    have HC8 := Sec.mk (HC7.out.mod hm8 (fun h => by omega))
    have HM8 := Sec.mk (HM7.out.trans hm8 (fun i hi hlt => by omega))
    have HO8 := Sec.mk (HO7.out.keep hm8 (fun k h e => by omega))
    clear hm8
    go_wp2
    go_roundw
    case rel =>
      refine ⟨k + 1, dn, z0, z0', z1, z1', z2, z2', z3, z3', by omega, by go_num, HE3, HI3, HG8, ⟨HO8.out.wide (fun k _ h => by omega)⟩, HC8, ⟨HM8.out.mono (fun i hlt h => by omega)⟩⟩
    case measure => simp [intOf]; omega
end Go.Proofs.YtkkgighgnbbgiaaDoor

namespace Go.Proofs.YtkkgighgnbbgiaaDoor
open Go.RowKit Mem
set_option linter.unusedVariables false
set_option linter.unusedSimpArgs false
theorem kept_step {N : Nat} {d : DiskL} (hI : DInv N d) (hk : d.2.2.1.length ≤ N) (o : OpL) : (oneL d o).1.2.2.1.length ≤ N := by
  unfold oneL
  repeat' split
  all_goals first
    | exact hk
    | (show (crashEs d.2.1).length ≤ N; rw [crashEs_len]; exact hI.names)
structure Dk (w0 w : World) (g b : Nat) (wr : World) (d : DiskT) (N : Nat) (A0 A1 A2 A3 : Option Addr) (c0 c1 c2 c3 : Nat) : Prop where
  blk : Blk wr b 27 [.slice A0 d.1.length c0, .slice A1 d.2.1.length c1, .slice A2 d.2.2.1.length c2, .slice A3 d.2.2.2.1.length c3, .int .i64 d.2.2.2.2]
  out : Out4 (fun k => b < k) wr (.slice A0 d.1.length c0) (.slice A1 d.2.1.length c1) (.slice A2 d.2.2.1.length c2) (.slice A3 d.2.2.2.1.length c3) d
  inv : DInv N d
  kept : d.2.2.1.length ≤ N
  rd : RD w0 g wr
  mod : Mod (· = g) w wr
  res : Blk wr w.heap.size 27 [.slice none 0 0, .slice none 0 0, .slice none 0 0, .slice none 0 0, .int .i64 0]
  gb : g < w.heap.size ∧ w.heap.size < b
  base : g < w0.heap.size ∧ w0.heap.size ≤ w.heap.size
namespace Dk
variable {w0 w wr wy : World} {g b : Nat} {d dn : DiskT} {N M : Nat} {A0 A1 A2 A3 B0 B1 B2 B3 : Option Addr} {c0 c1 c2 c3 e0 e1 e2 e3 : Nat}
theorem sb (h : Dk w0 w g b wr d N A0 A1 A2 A3 c0 c1 c2 c3) : b < wr.heap.size := h.blk.lt
theorem mono (h : Dk w0 w g b wr d N A0 A1 A2 A3 c0 c1 c2 c3) (hm : N ≤ M) : Dk w0 w g b wr d M A0 A1 A2 A3 c0 c1 c2 c3 := ⟨h.blk, h.out, h.inv.mono hm, Nat.le_trans h.kept hm, h.rd, h.mod, h.res, h.gb, h.base⟩
theorem call (h : Dk w0 w g b wr d N A0 A1 A2 A3 c0 c1 c2 c3) (hm : Mod (· = g) wr wy) (hr : RD w0 g wy) : Dk w0 w g b wy d N A0 A1 A2 A3 c0 c1 c2 c3 := by
  have := h.gb
  exact ⟨h.blk.mod hm (by omega), h.out.keep hm (fun k h1 h2 => by omega), h.inv, h.kept, hr, h.mod.trans hm (fun i hi _ => hi), h.res.mod hm (by omega), h.gb, h.base⟩
theorem new (h : Dk w0 w g b wr d N A0 A1 A2 A3 c0 c1 c2 c3) (hm : New wr wy) : Dk w0 w g b wy d N A0 A1 A2 A3 c0 c1 c2 c3 :=
  h.call ((Mod.refl (· = g) _).trans hm (fun i h _ => h.elim)) (h.rd.new hm)
theorem blk2 (h : Dk w0 w g b wr d N A0 A1 A2 A3 c0 c1 c2 c3) (hm : Mod (fun k => b < k) wr wy) : Blk wy b 27 [.slice A0 d.1.length c0, .slice A1 d.2.1.length c1, .slice A2 d.2.2.1.length c2, .slice A3 d.2.2.2.1.length c3, .int .i64 d.2.2.2.2] := h.blk.mod hm (by omega)
theorem step (h : Dk w0 w g b wr d N A0 A1 A2 A3 c0 c1 c2 c3) (hm : Mod (fun k => b < k) wr wy) (ho : Out4 (fun k => b < k) wy (.slice A0 d.1.length c0) (.slice A1 d.2.1.length c1) (.slice A2 d.2.2.1.length c2) (.slice A3 d.2.2.2.1.length c3) d) : Dk w0 w g b wy d N A0 A1 A2 A3 c0 c1 c2 c3 := by
  have := h.gb
  have := h.base
  exact ⟨h.blk2 hm, ho, h.inv, h.kept, h.rd.mod hm (fun k hk => by omega) (by omega), h.mod.trans hm (fun i hi hlt => by omega), h.res.mod hm (by omega), h.gb, h.base⟩
theorem store (h : Dk w0 w g b wr d N A0 A1 A2 A3 c0 c1 c2 c3) (hm : Mod (fun k => b < k) wr wy) (ho : Out4 (fun k => b < k) wy (.slice B0 dn.1.length e0) (.slice B1 dn.2.1.length e1) (.slice B2 dn.2.2.1.length e2) (.slice B3 dn.2.2.2.1.length e3) dn) (hI : DInv M dn) (hk : dn.2.2.1.length ≤ M) :
    Dk w0 w g b (set5 wy b (.slice B0 dn.1.length e0) (.slice B1 dn.2.1.length e1) (.slice B2 dn.2.2.1.length e2) (.slice B3 dn.2.2.2.1.length e3) (.int .i64 dn.2.2.2.2)) dn M B0 B1 B2 B3 e0 e1 e2 e3 := by
  have hgb := h.gb
  have hbs := h.base
  have hm5 := set5_mod wy b (.slice B0 dn.1.length e0) (.slice B1 dn.2.1.length e1) (.slice B2 dn.2.2.1.length e2) (.slice B3 dn.2.2.2.1.length e3) (.int .i64 dn.2.2.2.2)
  have hmm : Mod (fun k => b ≤ k) wr _ := (hm.mono (T := fun k => b ≤ k) (fun i _ hi => by omega)).trans hm5 (fun i hi hlt => by omega)
  exact ⟨set5_blk (h.blk2 hm) _ _ _ _ _, ho.keep hm5 (fun k h1 h2 => by omega), hI, hk, h.rd.mod hmm (fun k hk => by omega) (by omega), h.mod.trans hmm (fun i hi hlt => by omega), h.res.mod hmm (by omega), h.gb, h.base⟩
end Dk
def DiskR (w0 w : World) (g : Nat) (e : Ending) (w' : World) : Prop :=
  ∃ (d : DiskT) (A0 A1 A2 A3 : Option Addr) (c0 c1 c2 c3 : Nat), e = .returned (.agg #[.slice A0 d.1.length c0, .slice A1 d.2.1.length c1, .slice A2 d.2.2.1.length c2, .slice A3 d.2.2.2.1.length c3, .int .i64 d.2.2.2.2]) ∧
    Sec (Out4 (fun k => w.heap.size ≤ k) w' (.slice A0 d.1.length c0) (.slice A1 d.2.1.length c1) (.slice A2 d.2.2.1.length c2) (.slice A3 d.2.2.2.1.length c3) d) ∧ Sec (DInv 400 d) ∧ Sec (d.2.2.1.length ≤ 400) ∧ Sec (RD w0 g w') ∧ Sec (Mod (· = g) w w')
end Go.Proofs.YtkkgighgnbbgiaaDoor

namespace Go.Proofs.YtkkgighgnbbgiaaDoor
open Go.RowKit Mem
set_option linter.unusedVariables false
set_option linter.unusedSimpArgs false
theorem dinv0 (q : Int) (h0 : 0 ≤ q) (h1 : q ≤ 1000000) : DInv 0 ([], [], [], [], q) :=
  ⟨by simp, by simp, by simp, fun n hn => (by cases hn), List.Pairwise.nil, fun e he => (by cases he), h0, h1⟩
theorem out40 (X : Nat → Prop) (w : World) (q : Int) (hq : IntKind.i64.wrap q = q) : Out4 X w (.slice none 0 0) (.slice none 0 0) (.slice none 0 0) (.slice none 0 0) ([], [], [], [], q) :=
  ⟨[], [], [], [], Own.nil _ _ _, Own.nil _ _ _, Own.nil _ _ _, Own.nil _ _ _, ⟨fun k h => by simp at h, fun k h => by simp at h, fun k h => by simp at h⟩, fun k h => by simp [In4] at h, hq⟩
section
variable {P : Program} {o : Oper} {a : Act} {w : World} {v : Value}
theorem exec_extractX {x : Operand} {i : Nat} (ho : o.op = .extract x i) {vx : Value} (hx : a.eval x = vx) (h : (Instr.extract vx i).run P w = .ok v w) : (execOp a.eval o).run P w = .ok (.value v) w := by
  unfold execOp; simp only [ho, hx, Sem.run_bind, h, Result.andThen_ok, Sem.run_pure]
end
theorem exT_0 (a b : Value) (w : World) : (Instr.extract (.tuple #[a, b]) 0).run Tryd.prog w = .ok a w := by go_simp
theorem exT_1 (a b : Value) (w : World) : (Instr.extract (.tuple #[a, b]) 1).run Tryd.prog w = .ok b w := by go_simp
theorem strAddX {X Y S : ByteArray} (e : S = X ++ Y) (h : X.size + Y.size ≤ 1048576) (x y : Operand) (w : World) : (do eqGuard .add 9 x y (.string X) (.string Y); binOp .add 9 (.string X) (.string Y) : Sem Value).run Tryd.prog w = .ok (.string S) w := by
  rw [e]
  go_simp
  omega
theorem bldOpX (kd : Int) (X : ByteArray) (w : World) : (Instr.build 39 #[(0, .int .i64 kd), (1, .string X)]).run Tryd.prog w = .ok (.agg #[.int .i64 kd, .string X, .string ⟨#[]⟩, .slice none 0 0]) w := by go_simp
theorem row_nilX (w : World) : Row Ty.byte w (fun _ => False) none 0 [] := ⟨rfl, by decide, fun h => absurd h (by decide)⟩
theorem Dk.quota {w0 w wr : World} {g b : Nat} {d : DiskT} {N : Nat} {A0 A1 A2 A3 : Option Addr} {c0 c1 c2 c3 : Nat} (h : Dk w0 w g b wr d N A0 A1 A2 A3 c0 c1 c2 c3) (q : Int) (h0 : 0 ≤ q) (h1 : q ≤ 1000000) : Dk w0 w g b (wr.setCell ⟨b, 4, none⟩ (.int .i64 q)) (d.1, d.2.1, d.2.2.1, d.2.2.2.1, q) N A0 A1 A2 A3 c0 c1 c2 c3 := by
  have hm : Mod (fun k => k = b) wr (wr.setCell ⟨b, 4, none⟩ (.int .i64 q)) := (Mod.refl (fun k => k = b) wr).setCell (p := ⟨b, 4, none⟩) (fun _ => rfl) _
  have hgb := h.gb
  have hbs := h.base
  have hb := h.blk.set_ 4 (.int .i64 q)
  simp only [List.set_cons_zero, List.set_cons_succ] at hb
  obtain ⟨F0, F1, F2, F3, o0, o1, o2, o3, hd, hX, hq⟩ := h.out.keep hm (fun k h1 h2 => by omega)
  exact ⟨hb, ⟨F0, F1, F2, F3, o0, o1, o2, o3, hd, hX, by show IntKind.i64.wrap q = q; rw [IntKind.wrap_i64]; omega⟩, ⟨h.inv.nodes, h.inv.names, h.inv.pend, h.inv.len, h.inv.ord, h.inv.inr, h0, h1⟩, h.kept, h.rd.mod hm (fun k hk => by omega) (by omega), h.mod.trans hm (fun i hi hlt => by omega), h.res.mod hm (by omega), h.gb, h.base⟩
set_option maxHeartbeats 8000000 in
set_option maxRecDepth 100000 in
theorem l1Disk_calls {w0 w : World} {g : Nat} (h : Sec (RD w0 g w)) (hg0 : g < w0.heap.size) : Calls Tryd.prog 14 #[.pointer (some ⟨g, 0, none⟩)] w (DiskR w0 w g) := by
  have hg := h.out.lt
  have hbase := h.out.size
  have HA := Sec.mk (h.out.new ((Mod.refl _ _).alloc (.cells #[.slice none 0 0, .slice none 0 0, .slice none 0 0, .slice none 0 0, .int .i64 0] 27)))
  have HRB := Sec.mk (Blk.new w 27 [.slice none 0 0, .slice none 0 0, .slice none 0 0, .slice none 0 0, .int .i64 0])
  have HMB : Sec (New w (w.alloc (.cells #[.slice none 0 0, .slice none 0 0, .slice none 0 0, .slice none 0 0, .int .i64 0] 27))) := ⟨(Mod.refl _ _).alloc _⟩
  clear h
  go_enter Tryd.func14, Tryd.ntmps14
  go_upto_region 1 with (fail)
  generalize w.alloc (.cells #[.slice none 0 0, .slice none 0 0, .slice none 0 0, .slice none 0 0, .int .i64 0] 27) = wA at *
  go_wp2_with fail
  refine (rd_next HA).mono ?_
  rintro e w1 ⟨c, rfl, hc, HR1, HM1⟩
  have HD : Sec (Dk w0 w g w1.heap.size (w1.alloc (.cells #[.slice none 0 0, .slice none 0 0, .slice none 0 0, .slice none 0 0, .int .i64 5000] 27)) ([], [], [], [], 5000) 0 none none none none 0 0 0 0) := by
    have hn1 : New w1 (w1.alloc (.cells #[.slice none 0 0, .slice none 0 0, .slice none 0 0, .slice none 0 0, .int .i64 5000] 27)) := (Mod.refl _ _).alloc _
    have hb := HRB.out.mod HM1.out (by omega)
    exact ⟨⟨Blk.new w1 27 [.slice none 0 0, .slice none 0 0, .slice none 0 0, .slice none 0 0, .int .i64 5000], out40 _ _ _ (by decide), dinv0 _ (by decide) (by decide), by simp, HR1.out.new hn1, (((Mod.refl (· = g) _).trans HMB.out (fun i h _ => h.elim)).trans HM1.out (fun i h _ => h)).trans hn1 (fun i h _ => h.elim), hb.mod hn1 id, ⟨hg, hb.lt⟩, ⟨hg0, hbase⟩⟩⟩
  clear HA HRB HMB HR1 HM1
  go_upto_if 17 with (fail)
  generalize (w1.alloc (.cells #[.slice none 0 0, .slice none 0 0, .slice none 0 0, .slice none 0 0, .int .i64 5000] 27)) = w2 at *
  generalize w1.heap.size = b at *
  go_cut [] (fun wx => ∃ q : Int, Sec (Dk w0 w g b wx ([], [], [], [], q) 0 none none none none 0 0 0 0))
  case first =>
    have k4 : w2.cell? ⟨b, 4, none⟩ = some (.int .i64 5000) := HD.out.blk.cell 4
    have f4 : w2.frozen? ⟨b, 4, none⟩ = false := HD.out.blk.frozen 4
    have HQ := Sec.mk (HD.out.quota (c : Int) (by omega) (by omega))
    generalize ((c : Int) % 10 == 0) = bz at *
    cases bz
    · go_wp2
      go_meet
      exact ⟨5000, HD⟩
    · go_wp2
      go_meet
      exact ⟨_, HQ⟩
  case rest =>
    clear HD
    obtain ⟨q, HD⟩ := hcut
    go_upto_if 21 with (fail)
    go_cut [5] (fun _ wx => ∃ (d : DiskT) (A0 A1 A2 A3 : Option Addr) (c0 c1 c2 c3 : Nat), Sec (Dk w0 w g b wx d 300 A0 A1 A2 A3 c0 c1 c2 c3))
    case first =>
      generalize ((c : Int) == 11) = bz at *
      cases bz
      · go_wp2
        go_meet
        exact ⟨_, _, _, _, _, _, _, _, _, ⟨HD.out.mono (by decide)⟩⟩
      have HD0 : Sec (∃ (d : DiskT) (A0 A1 A2 A3 : Option Addr) (c0 c1 c2 c3 : Nat), Sec (Dk w0 w g b wc d 0 A0 A1 A2 A3 c0 c1 c2 c3)) := ⟨⟨_, _, _, _, _, _, _, _, _, HD⟩⟩
      clear HD
      go_wp2
      go_loopw [5] (fun i wr => ∃ (k : Nat) (d : DiskT) (A0 A1 A2 A3 : Option Addr) (c0 c1 c2 c3 : Nat), i = .int .i64 (k : Int) ∧ k ≤ 300 ∧ Sec (Dk w0 w g b wr d k A0 A1 A2 A3 c0 c1 c2 c3)) (fun i _ => (300 - (intOf i).toNat))
      case atStart =>
        obtain ⟨d, A0, A1, A2, A3, c0, c1, c2, c3, HD⟩ := HD0.out
        exact ⟨0, d, A0, A1, A2, A3, c0, c1, c2, c3, rfl, by omega, HD⟩
      case round =>
        obtain ⟨k, d, A0, A1, A2, A3, c0, c1, c2, c3, rfl, hk, HD⟩ := hrel
        clear HD0
        have k0 : wr.cell? ⟨b, 0, none⟩ = some (.slice A0 d.1.length c0) := HD.out.blk.cell 0
        have k1 : wr.cell? ⟨b, 1, none⟩ = some (.slice A1 d.2.1.length c1) := HD.out.blk.cell 1
        have k2 : wr.cell? ⟨b, 2, none⟩ = some (.slice A2 d.2.2.1.length c2) := HD.out.blk.cell 2
        have k3 : wr.cell? ⟨b, 3, none⟩ = some (.slice A3 d.2.2.2.1.length c3) := HD.out.blk.cell 3
        have k4 : wr.cell? ⟨b, 4, none⟩ = some (.int .i64 d.2.2.2.2) := HD.out.blk.cell 4
        by_cases hlt : k < 300
        rotate_left
        · obtain rfl : k = 300 := by omega
          go_upto_region 10 with (fail)
          go_wp2_with fail
          refine (l1Settle_v HD.out.out.rd HD.out.inv (by omega)).mono ?_
          have HIN : Sec (DInv 300 (settleL d) ∧ (settleL d).2.2.1.length ≤ 300) := ⟨HD.out.inv.settle, by show (crashEs d.2.1).length ≤ 300; rw [crashEs_len]; exact HD.out.inv.names⟩
          generalize settleL d = dn at *
          rintro e w5 ⟨z0, z1, z2, z3, rfl, ho5, hm5⟩
          obtain ⟨z0, z0', z1, z1', z2, z2', z3, z3', rfl, rfl, rfl, rfl, -⟩ := ho5.forms
          have HO5 := Sec.mk (ho5.wide (X' := fun k => b < k) (fun k h1 h2 => by have h3 : wr.heap.size ≤ k := h2; have := HD.out.sb; omega))
          have HM5 : Sec (Mod (fun k => b < k) wr w5) := ⟨(Mod.refl (fun k => b < k) _).trans hm5 (fun i h _ => h.elim)⟩
          have HB5 := Sec.mk (HD.out.blk2 HM5.out)
          have HD6 := Sec.mk (HD.out.store HM5.out HO5.out HIN.out.1 HIN.out.2)
          clear ho5 hm5 k0 k1 k2 k3 k4
          have q0 : w5.cell? ⟨b, 0, none⟩ = some (.slice A0 d.1.length c0) := HB5.out.cell 0
          have q1 : w5.cell? ⟨b, 1, none⟩ = some (.slice A1 d.2.1.length c1) := HB5.out.cell 1
          have q2 : w5.cell? ⟨b, 2, none⟩ = some (.slice A2 d.2.2.1.length c2) := HB5.out.cell 2
          have q3 : w5.cell? ⟨b, 3, none⟩ = some (.slice A3 d.2.2.2.1.length c3) := HB5.out.cell 3
          have q4 : w5.cell? ⟨b, 4, none⟩ = some (.int .i64 d.2.2.2.2) := HB5.out.cell 4
          have f0 : w5.frozen? ⟨b, 0, none⟩ = false := HB5.out.frozen 0
          have f1 : w5.frozen? ⟨b, 1, none⟩ = false := HB5.out.frozen 1
          have f2 : w5.frozen? ⟨b, 2, none⟩ = false := HB5.out.frozen 2
          have f3 : w5.frozen? ⟨b, 3, none⟩ = false := HB5.out.frozen 3
          have f4 : w5.frozen? ⟨b, 4, none⟩ = false := HB5.out.frozen 4
          go_wp2
          go_meet
          exact ⟨_, _, _, _, _, _, _, _, _, HD6⟩
        have hlti : (k : Int) < 300 := by omega
        go_upto_region 9 with (fail)
        refine reg_start [] (fun _ => True) (by kernel_rfl) ?_
        have HD1 := Sec.mk (HD.out.new ((Mod.refl _ _).drew))
        have HSS : True := trivial
        clear k0 k1 k2 k3 k4 HD
        generalize wr.drew = w3 at *
        refine reg_take (.int .i64 (k : Int)) (i := 1) (n := 28) HSS rfl (by kernel_rfl) (by kernel_rfl) (by kernel_rfl) (by kernel_rfl) (fun _ _ _ h => h) (fun W hW => exec_move rfl rfl) ?_
        simp only [Act.put, List.setIfInBounds_toArray, List.set_cons_zero, List.set_cons_succ]
        refine reg_step2 (i := 0) (j := 2) rfl rfl (by kernel_rfl) (fun K hK => ?_) (fun K hK => ?_)
        · have HLD := Sec.mk HD1.out.blk
          refine wp_val (v := .agg #[.slice A0 d.1.length c0, .slice A1 d.2.1.length c1, .slice A2 d.2.2.1.length c2, .slice A3 d.2.2.2.1.length c3, .int .i64 d.2.2.2.2]) (exec_load rfl rfl (ldDiskS HLD.out)) rfl (hK.out _ _ (fun _ => trivial) ?_)
          clear hK K
          simp only [Act.put, List.setIfInBounds_toArray, List.set_cons_zero, List.set_cons_succ]
          refine reg_step (i := 2) rfl (by kernel_rfl) (fun K hK => ?_)
          refine wp_call (n := 29) (vals := [.int .i64 (k : Int)]) rfl rfl rfl (by kernel_rfl) (dec_nm k (by omega) _) ?_
          rintro e w4 ⟨Y, rfl, hY, HN4⟩
          have HD2 := Sec.mk (HD1.out.new HN4.out)
          clear HD1
          refine ⟨_, rfl, hK.out _ _ (fun _ => trivial) ?_⟩
          clear hK K
          simp only [Act.put, List.setIfInBounds_toArray, List.set_cons_zero, List.set_cons_succ]
          obtain ⟨nm, hnm, hnl⟩ : ∃ nm : Bytes, (⟨nm.toArray⟩ : ByteArray) = ⟨#[102]⟩ ++ Y ∧ nm.length ≤ 20 := by
            obtain ⟨⟨ys⟩⟩ := Y
            exact ⟨102 :: ys, by apply ByteArray.ext; simp, by simp [ByteArray.size] at hY ⊢; omega⟩
          refine reg_take (.string ⟨nm.toArray⟩) (i := 3) (n := 30) HSS rfl (by kernel_rfl) (by kernel_rfl) (by kernel_rfl) (by kernel_rfl) (fun _ _ _ h => h) (fun W hW => exec_bin rfl rfl rfl (strAddX hnm (by have : ByteArray.size ⟨#[102]⟩ = 1 := rfl; omega) _ _ _)) ?_
          simp only [Act.put, List.setIfInBounds_toArray, List.set_cons_zero, List.set_cons_succ]
          clear hnm hY
          refine reg_take (.agg #[.int .i64 1, .string ⟨nm.toArray⟩, .string ⟨#[]⟩, .slice none 0 0]) (i := 4) (n := 31) HSS rfl (by kernel_rfl) (by kernel_rfl) (by kernel_rfl) (by kernel_rfl) (fun _ _ _ h => h) (fun W hW => exec_build (parts := [(0, .const (.int .i64 1)), (1, .tmp 30)]) (vs := [(0, .int .i64 1), (1, .string ⟨nm.toArray⟩)]) rfl rfl (bldOpX _ _ _)) ?_
          simp only [Act.put, List.setIfInBounds_toArray, List.set_cons_zero, List.set_cons_succ]
          refine reg_step (i := 5) rfl (by kernel_rfl) (fun K hK => ?_)
          have HRZ : Sec (Row Ty.byte w4 (fun _ => False) none 0 []) := ⟨row_nilX w4⟩
          have HQC := Sec.mk (l1One_v (X := fun k => b < k) HD2.out.out HD2.out.inv (by omega) (kd := 1) (nm := nm) (tn := []) (dat := []) (Ad := none) (dc := 0) (B := fun _ => False) (by decide) (by omega) (by decide) HRZ.out (fun k h => h.elim) (by decide))
          have HIN : Sec (DInv (k + 1) (oneL d (1, nm, [], [])).1 ∧ (oneL d (1, nm, [], [])).1.2.2.1.length ≤ k + 1) := ⟨by
            refine ⟨?_, Nat.le_trans (kept_step HD2.out.inv HD2.out.kept _) (Nat.le_succ k)⟩
            by_cases h0 : (oneL d (1, nm, [], [])).2 = 0
            · exact HD2.out.inv.one _ h0
            · rw [oneL_same d _ h0]; exact HD2.out.inv.mono (Nat.le_succ k)⟩
          refine wp_call (n := 32) (vals := [.agg #[.slice A0 d.1.length c0, .slice A1 d.2.1.length c1, .slice A2 d.2.2.1.length c2, .slice A3 d.2.2.2.1.length c3, .int .i64 d.2.2.2.2], .agg #[.int .i64 1, .string ⟨nm.toArray⟩, .string ⟨#[]⟩, .slice none 0 0]]) rfl rfl rfl (by kernel_rfl) HQC.out ?_
          generalize oneL d (1, nm, [], []) = r at *
          obtain ⟨dn, code⟩ := r
          rintro e w5 ⟨z0, z1, z2, z3, rfl, ho5, hm5, -⟩
          obtain ⟨z0, z0', z1, z1', z2, z2', z3, z3', rfl, rfl, rfl, rfl, -⟩ := ho5.forms
          have HO5 := Sec.mk (ho5.wide (X' := fun k => b < k) (fun k h1 h2 => h2.elim id (fun h3 => by have := HD2.out.sb; omega)))
          have HM5 := Sec.mk hm5
          have HB5 := Sec.mk (HD2.out.blk2 hm5)
          have HD6 := Sec.mk (HD2.out.store HM5.out HO5.out HIN.out.1 HIN.out.2)
          clear ho5 hm5
          refine ⟨_, rfl, hK.out _ _ (fun _ => trivial) ?_⟩
          clear hK K
          simp only [Act.put, List.setIfInBounds_toArray, List.set_cons_zero, List.set_cons_succ]
          refine reg_take (.tuple #[.agg #[.slice z0 dn.1.length z0', .slice z1 dn.2.1.length z1', .slice z2 dn.2.2.1.length z2', .slice z3 dn.2.2.2.1.length z3', .int .i64 dn.2.2.2.2], .int .i64 code]) (i := 6) (n := 26) HSS rfl (by kernel_rfl) (by kernel_rfl) (by kernel_rfl) (by kernel_rfl) (fun _ _ _ h => h) (fun W hW => exec_move rfl rfl) ?_
          simp only [Act.put, List.setIfInBounds_toArray, List.set_cons_zero, List.set_cons_succ]
          refine reg_take (.agg #[.slice z0 dn.1.length z0', .slice z1 dn.2.1.length z1', .slice z2 dn.2.2.1.length z2', .slice z3 dn.2.2.2.1.length z3', .int .i64 dn.2.2.2.2]) (i := 7) (n := 33) HSS rfl (by kernel_rfl) (by kernel_rfl) (by kernel_rfl) (by kernel_rfl) (fun _ _ _ h => h) (fun W hW => exec_extractX rfl rfl (exT_0 _ _ _)) ?_
          simp only [Act.put, List.setIfInBounds_toArray, List.set_cons_zero, List.set_cons_succ]
          refine reg_take (.int .i64 code) (i := 8) (n := 34) HSS rfl (by kernel_rfl) (by kernel_rfl) (by kernel_rfl) (by kernel_rfl) (fun _ _ _ h => h) (fun W hW => exec_extractX rfl rfl (exT_1 _ _ _)) ?_
          simp only [Act.put, List.setIfInBounds_toArray, List.set_cons_zero, List.set_cons_succ]
          refine reg_step (i := 9) rfl (by kernel_rfl) (fun K hK => ?_)
          refine wp_store rfl rfl rfl rfl (stDisk HB5.out _ _ _ _ _ _ _ _ _ _ _ _ _) (hK.out _ _ (fun _ => trivial) ?_)
          clear hK K
          refine reg_done (by kernel_rfl) ?_ _
          go_wp2
          go_roundw
          case rel => exact ⟨k + 1, _, _, _, _, _, _, _, _, _, by go_num, by omega, HD6⟩
          case measure => simp [intOf]; omega
        · refine wp_call (n := 29) (vals := [.int .i64 (k : Int)]) rfl rfl rfl (by kernel_rfl) (dec_nm k (by omega) _) ?_
          rintro e w4 ⟨Y, rfl, hY, HN4⟩
          have HD2 := Sec.mk (HD1.out.new HN4.out)
          clear HD1
          refine ⟨_, rfl, hK.out _ _ (fun _ => trivial) ?_⟩
          clear hK K
          simp only [Act.put, List.setIfInBounds_toArray, List.set_cons_zero, List.set_cons_succ]
          obtain ⟨nm, hnm, hnl⟩ : ∃ nm : Bytes, (⟨nm.toArray⟩ : ByteArray) = ⟨#[102]⟩ ++ Y ∧ nm.length ≤ 20 := by
            obtain ⟨⟨ys⟩⟩ := Y
            exact ⟨102 :: ys, by apply ByteArray.ext; simp, by simp [ByteArray.size] at hY ⊢; omega⟩
          refine reg_take (.string ⟨nm.toArray⟩) (i := 3) (n := 30) HSS rfl (by kernel_rfl) (by kernel_rfl) (by kernel_rfl) (by kernel_rfl) (fun _ _ _ h => h) (fun W hW => exec_bin rfl rfl rfl (strAddX hnm (by have : ByteArray.size ⟨#[102]⟩ = 1 := rfl; omega) _ _ _)) ?_
          simp only [Act.put, List.setIfInBounds_toArray, List.set_cons_zero, List.set_cons_succ]
          clear hnm hY
          refine reg_take (.agg #[.int .i64 1, .string ⟨nm.toArray⟩, .string ⟨#[]⟩, .slice none 0 0]) (i := 4) (n := 31) HSS rfl (by kernel_rfl) (by kernel_rfl) (by kernel_rfl) (by kernel_rfl) (fun _ _ _ h => h) (fun W hW => exec_build (parts := [(0, .const (.int .i64 1)), (1, .tmp 30)]) (vs := [(0, .int .i64 1), (1, .string ⟨nm.toArray⟩)]) rfl rfl (bldOpX _ _ _)) ?_
          simp only [Act.put, List.setIfInBounds_toArray, List.set_cons_zero, List.set_cons_succ]
          refine reg_step (i := 0) rfl (by kernel_rfl) (fun K hK => ?_)
          have HLD := Sec.mk HD2.out.blk
          refine wp_val (v := .agg #[.slice A0 d.1.length c0, .slice A1 d.2.1.length c1, .slice A2 d.2.2.1.length c2, .slice A3 d.2.2.2.1.length c3, .int .i64 d.2.2.2.2]) (exec_load rfl rfl (ldDiskS HLD.out)) rfl (hK.out _ _ (fun _ => trivial) ?_)
          clear hK K
          simp only [Act.put, List.setIfInBounds_toArray, List.set_cons_zero, List.set_cons_succ]
          refine reg_step (i := 5) rfl (by kernel_rfl) (fun K hK => ?_)
          have HRZ : Sec (Row Ty.byte w4 (fun _ => False) none 0 []) := ⟨row_nilX w4⟩
          have HQC := Sec.mk (l1One_v (X := fun k => b < k) HD2.out.out HD2.out.inv (by omega) (kd := 1) (nm := nm) (tn := []) (dat := []) (Ad := none) (dc := 0) (B := fun _ => False) (by decide) (by omega) (by decide) HRZ.out (fun k h => h.elim) (by decide))
          have HIN : Sec (DInv (k + 1) (oneL d (1, nm, [], [])).1 ∧ (oneL d (1, nm, [], [])).1.2.2.1.length ≤ k + 1) := ⟨by
            refine ⟨?_, Nat.le_trans (kept_step HD2.out.inv HD2.out.kept _) (Nat.le_succ k)⟩
            by_cases h0 : (oneL d (1, nm, [], [])).2 = 0
            · exact HD2.out.inv.one _ h0
            · rw [oneL_same d _ h0]; exact HD2.out.inv.mono (Nat.le_succ k)⟩
          refine wp_call (n := 32) (vals := [.agg #[.slice A0 d.1.length c0, .slice A1 d.2.1.length c1, .slice A2 d.2.2.1.length c2, .slice A3 d.2.2.2.1.length c3, .int .i64 d.2.2.2.2], .agg #[.int .i64 1, .string ⟨nm.toArray⟩, .string ⟨#[]⟩, .slice none 0 0]]) rfl rfl rfl (by kernel_rfl) HQC.out ?_
          generalize oneL d (1, nm, [], []) = r at *
          obtain ⟨dn, code⟩ := r
          rintro e w5 ⟨z0, z1, z2, z3, rfl, ho5, hm5, -⟩
          obtain ⟨z0, z0', z1, z1', z2, z2', z3, z3', rfl, rfl, rfl, rfl, -⟩ := ho5.forms
          have HO5 := Sec.mk (ho5.wide (X' := fun k => b < k) (fun k h1 h2 => h2.elim id (fun h3 => by have := HD2.out.sb; omega)))
          have HM5 := Sec.mk hm5
          have HB5 := Sec.mk (HD2.out.blk2 hm5)
          have HD6 := Sec.mk (HD2.out.store HM5.out HO5.out HIN.out.1 HIN.out.2)
          clear ho5 hm5
          refine ⟨_, rfl, hK.out _ _ (fun _ => trivial) ?_⟩
          clear hK K
          simp only [Act.put, List.setIfInBounds_toArray, List.set_cons_zero, List.set_cons_succ]
          refine reg_take (.tuple #[.agg #[.slice z0 dn.1.length z0', .slice z1 dn.2.1.length z1', .slice z2 dn.2.2.1.length z2', .slice z3 dn.2.2.2.1.length z3', .int .i64 dn.2.2.2.2], .int .i64 code]) (i := 6) (n := 26) HSS rfl (by kernel_rfl) (by kernel_rfl) (by kernel_rfl) (by kernel_rfl) (fun _ _ _ h => h) (fun W hW => exec_move rfl rfl) ?_
          simp only [Act.put, List.setIfInBounds_toArray, List.set_cons_zero, List.set_cons_succ]
          refine reg_take (.agg #[.slice z0 dn.1.length z0', .slice z1 dn.2.1.length z1', .slice z2 dn.2.2.1.length z2', .slice z3 dn.2.2.2.1.length z3', .int .i64 dn.2.2.2.2]) (i := 7) (n := 33) HSS rfl (by kernel_rfl) (by kernel_rfl) (by kernel_rfl) (by kernel_rfl) (fun _ _ _ h => h) (fun W hW => exec_extractX rfl rfl (exT_0 _ _ _)) ?_
          simp only [Act.put, List.setIfInBounds_toArray, List.set_cons_zero, List.set_cons_succ]
          refine reg_take (.int .i64 code) (i := 8) (n := 34) HSS rfl (by kernel_rfl) (by kernel_rfl) (by kernel_rfl) (by kernel_rfl) (fun _ _ _ h => h) (fun W hW => exec_extractX rfl rfl (exT_1 _ _ _)) ?_
          simp only [Act.put, List.setIfInBounds_toArray, List.set_cons_zero, List.set_cons_succ]
          refine reg_step (i := 9) rfl (by kernel_rfl) (fun K hK => ?_)
          refine wp_store rfl rfl rfl rfl (stDisk HB5.out _ _ _ _ _ _ _ _ _ _ _ _ _) (hK.out _ _ (fun _ => trivial) ?_)
          clear hK K
          refine reg_done (by kernel_rfl) ?_ _
          go_wp2
          go_roundw
          case rel => exact ⟨k + 1, _, _, _, _, _, _, _, _, _, by go_num, by omega, HD6⟩
          case measure => simp [intOf]; omega
    case rest =>
      clear HD
      obtain ⟨d, A0, A1, A2, A3, c0, c1, c2, c3, HD⟩ := hcut
      obtain ⟨⟨ys, hrd⟩, -⟩ := HD.out.rd
      obtain ⟨Ab, cb, xs, ri, Bb, hbb, -, -, -, -, hxl⟩ := hrd.ex
      have r0 : wc.cell? ⟨g, 0, none⟩ = some (.slice Ab xs.length cb) := hbb.cell 0
      clear hbb hrd
      go_upto_region 12 with (fail)
      generalize (xs.length : Int) / 2 = half at *
      have HD0 : Sec (∃ (d : DiskT) (A0 A1 A2 A3 : Option Addr) (c0 c1 c2 c3 : Nat), Sec (Dk w0 w g b wc d 300 A0 A1 A2 A3 c0 c1 c2 c3)) := ⟨⟨_, _, _, _, _, _, _, _, _, HD⟩⟩
      clear HD r0 hxl
      go_wp2
      go_loopw [7] (fun i wr => ∃ (k : Nat) (d : DiskT) (A0 A1 A2 A3 : Option Addr) (c0 c1 c2 c3 : Nat), i = .int .i64 (k : Int) ∧ k ≤ 60 ∧ Sec (Dk w0 w g b wr d (300 + k) A0 A1 A2 A3 c0 c1 c2 c3)) (fun i _ => (60 - (intOf i).toNat))
      case atStart =>
        obtain ⟨d, A0, A1, A2, A3, c0, c1, c2, c3, HD⟩ := HD0.out
        exact ⟨0, d, A0, A1, A2, A3, c0, c1, c2, c3, rfl, by omega, HD⟩
      case round =>
        obtain ⟨k, d, A0, A1, A2, A3, c0, c1, c2, c3, rfl, hk, HD⟩ := hrel
        clear HD0
        have k0 : wr.cell? ⟨b, 0, none⟩ = some (.slice A0 d.1.length c0) := HD.out.blk.cell 0
        have k1 : wr.cell? ⟨b, 1, none⟩ = some (.slice A1 d.2.1.length c1) := HD.out.blk.cell 1
        have k2 : wr.cell? ⟨b, 2, none⟩ = some (.slice A2 d.2.2.1.length c2) := HD.out.blk.cell 2
        have k3 : wr.cell? ⟨b, 3, none⟩ = some (.slice A3 d.2.2.2.1.length c3) := HD.out.blk.cell 3
        have k4 : wr.cell? ⟨b, 4, none⟩ = some (.int .i64 d.2.2.2.2) := HD.out.blk.cell 4
        by_cases hlt : k < 60
        rotate_left
        · obtain rfl : k = 60 := by omega
          have HFB := Sec.mk (set5_blk HD.out.res (.slice A0 d.1.length c0) (.slice A1 d.2.1.length c1) (.slice A2 d.2.2.1.length c2) (.slice A3 d.2.2.2.1.length c3) (.int .i64 d.2.2.2.2))
          have hm5 := set5_mod wr w.heap.size (.slice A0 d.1.length c0) (.slice A1 d.2.1.length c1) (.slice A2 d.2.2.1.length c2) (.slice A3 d.2.2.2.1.length c3) (.int .i64 d.2.2.2.2)
          have HGB := HD.out.gb
          have HBS := HD.out.base
          have HOE := Sec.mk ((HD.out.out.keep hm5 (fun k h1 h2 => by omega)).wide (X' := fun k => w.heap.size ≤ k) (fun k _ h => by omega))
          have HRE := Sec.mk (HD.out.rd.mod hm5 (fun k hk => by omega) (by omega))
          have HME := Sec.mk (HD.out.mod.trans hm5 (fun i hi hlt => by omega))
          have HIE := Sec.mk (HD.out.inv.mono (M := 400) (by omega))
          have HKE : Sec (d.2.2.1.length ≤ 400) := ⟨Nat.le_trans HD.out.kept (by omega)⟩
          clear hm5
          have z0 : wr.cell? ⟨w.heap.size, 0, none⟩ = some (.slice none 0 0) := HD.out.res.cell 0
          have z1 : wr.cell? ⟨w.heap.size, 1, none⟩ = some (.slice none 0 0) := HD.out.res.cell 1
          have z2 : wr.cell? ⟨w.heap.size, 2, none⟩ = some (.slice none 0 0) := HD.out.res.cell 2
          have z3 : wr.cell? ⟨w.heap.size, 3, none⟩ = some (.slice none 0 0) := HD.out.res.cell 3
          have z4 : wr.cell? ⟨w.heap.size, 4, none⟩ = some (.int .i64 0) := HD.out.res.cell 4
          have zf0 : wr.frozen? ⟨w.heap.size, 0, none⟩ = false := HD.out.res.frozen 0
          have zf1 : wr.frozen? ⟨w.heap.size, 1, none⟩ = false := HD.out.res.frozen 1
          have zf2 : wr.frozen? ⟨w.heap.size, 2, none⟩ = false := HD.out.res.frozen 2
          have zf3 : wr.frozen? ⟨w.heap.size, 3, none⟩ = false := HD.out.res.frozen 3
          have zf4 : wr.frozen? ⟨w.heap.size, 4, none⟩ = false := HD.out.res.frozen 4
          go_wp2
          refine bodyPost_ret (results_blk rfl rfl HFB.out Tryd.underlying27 (by kernel_rfl)) rfl ?_
          exact ⟨d, A0, A1, A2, A3, c0, c1, c2, c3, rfl, HOE, HIE, HKE, HRE, HME⟩
        have hlti : (k : Int) < 60 := by omega
        obtain ⟨⟨ys, hrd⟩, -⟩ := HD.out.rd
        obtain ⟨Ab, cb, xs2, ri, Bb2, hbb, -, -, -, -, -⟩ := hrd.ex
        have r1 : wr.cell? ⟨g, 1, none⟩ = some (.int .i64 (ri : Int)) := hbb.cell 1
        clear hbb hrd
        by_cases hri : (ri : Int) < half
        rotate_left
        · have HFB := Sec.mk (set5_blk HD.out.res (.slice A0 d.1.length c0) (.slice A1 d.2.1.length c1) (.slice A2 d.2.2.1.length c2) (.slice A3 d.2.2.2.1.length c3) (.int .i64 d.2.2.2.2))
          have hm5 := set5_mod wr w.heap.size (.slice A0 d.1.length c0) (.slice A1 d.2.1.length c1) (.slice A2 d.2.2.1.length c2) (.slice A3 d.2.2.2.1.length c3) (.int .i64 d.2.2.2.2)
          have HGB := HD.out.gb
          have HBS := HD.out.base
          have HOE := Sec.mk ((HD.out.out.keep hm5 (fun k h1 h2 => by omega)).wide (X' := fun k => w.heap.size ≤ k) (fun k _ h => by omega))
          have HRE := Sec.mk (HD.out.rd.mod hm5 (fun k hk => by omega) (by omega))
          have HME := Sec.mk (HD.out.mod.trans hm5 (fun i hi hlt => by omega))
          have HIE := Sec.mk (HD.out.inv.mono (M := 400) (by omega))
          have HKE : Sec (d.2.2.1.length ≤ 400) := ⟨Nat.le_trans HD.out.kept (by omega)⟩
          clear hm5
          have z0 : wr.cell? ⟨w.heap.size, 0, none⟩ = some (.slice none 0 0) := HD.out.res.cell 0
          have z1 : wr.cell? ⟨w.heap.size, 1, none⟩ = some (.slice none 0 0) := HD.out.res.cell 1
          have z2 : wr.cell? ⟨w.heap.size, 2, none⟩ = some (.slice none 0 0) := HD.out.res.cell 2
          have z3 : wr.cell? ⟨w.heap.size, 3, none⟩ = some (.slice none 0 0) := HD.out.res.cell 3
          have z4 : wr.cell? ⟨w.heap.size, 4, none⟩ = some (.int .i64 0) := HD.out.res.cell 4
          have zf0 : wr.frozen? ⟨w.heap.size, 0, none⟩ = false := HD.out.res.frozen 0
          have zf1 : wr.frozen? ⟨w.heap.size, 1, none⟩ = false := HD.out.res.frozen 1
          have zf2 : wr.frozen? ⟨w.heap.size, 2, none⟩ = false := HD.out.res.frozen 2
          have zf3 : wr.frozen? ⟨w.heap.size, 3, none⟩ = false := HD.out.res.frozen 3
          have zf4 : wr.frozen? ⟨w.heap.size, 4, none⟩ = false := HD.out.res.frozen 4
          go_wp2
          refine bodyPost_ret (results_blk rfl rfl HFB.out Tryd.underlying27 (by kernel_rfl)) rfl ?_
          exact ⟨d, A0, A1, A2, A3, c0, c1, c2, c3, rfl, HOE, HIE, HKE, HRE, HME⟩
        go_wp2_with fail
        refine (l1Ops_calls (w0 := w0) (m := 1) ⟨HD.out.rd⟩ (by decide) hg0).mono ?_
        rintro e wo ⟨Ao, co, ops, rfl, hol, HF, HO, HRo, HMo⟩
        have hbw := HD.out.sb
        have HOUT := Sec.mk ((HD.out.out.wide (X' := fun k => b < k ∧ k < wr.heap.size) (fun k h1 h2 => ⟨h2, h1⟩)).keep HMo.out (fun k h1 h2 => by have := HD.out.gb; omega))
        have HDo := Sec.mk (HD.out.call HMo.out HRo.out)
        have hso := HMo.out.size
        clear HD k0 k1 k2 k3 k4 HRo HMo r1 hri
        go_wp2
        generalize hlo : wr.heap.size = lo at *
        go_loopw [58] (fun i wy => ∃ j : Nat, i = .int .i64 (j : Int) ∧ j ≤ ops.length ∧ Sec ((j = 0 ∧ wy = wo) ∨ (j = ops.length ∧ ∃ (d : DiskT) (A0 A1 A2 A3 : Option Addr) (c0 c1 c2 c3 : Nat), Sec (Dk w0 w g b wy d (300 + (k + 1)) A0 A1 A2 A3 c0 c1 c2 c3)))) (fun i _ => (ops.length - (intOf i).toNat))
        case atStart => exact ⟨0, rfl, Nat.zero_le _, ⟨Or.inl ⟨rfl, rfl⟩⟩⟩
        case round =>
          obtain ⟨j, rfl, hjl, HJ⟩ := hrel
          by_cases hj : j < ops.length
          rotate_left
          · obtain rfl : j = ops.length := by omega
            have HE : Sec (∃ (d : DiskT) (A0 A1 A2 A3 : Option Addr) (c0 c1 c2 c3 : Nat), Sec (Dk w0 w g b wr d (300 + (k + 1)) A0 A1 A2 A3 c0 c1 c2 c3)) := ⟨by
              rcases HJ.out with ⟨_, rfl⟩ | ⟨_, h⟩
              · exact ⟨_, _, _, _, _, _, _, _, _, ⟨HDo.out.mono (by omega)⟩⟩
              · exact h⟩
            clear HJ
            go_wp2
            go_roundw
            case rel =>
              obtain ⟨d2, B0, B1, B2, B3, e0, e1, e2, e3, HD2⟩ := HE.out
              exact ⟨k + 1, d2, B0, B1, B2, B3, e0, e1, e2, e3, by go_num, by omega, HD2⟩
            case measure => simp [intOf]; omega
          have hjw : wr = wo := by
            rcases HJ.out with ⟨_, h⟩ | ⟨h, _⟩
            · exact h
            · omega
          have HJ0 : Sec (j + 1 = ops.length) := ⟨by omega⟩
          subst hjw
          clear HJ
          have hji : (j : Int) < (ops.length : Int) := by omega
          have HRO := Sec.mk HO.out.row
          have hbw' : b < wr.heap.size := by omega
          obtain ⟨ad, Ad, dc, rfl, e0, e1, e2, e3, g0, g1, g2, hrow⟩ := op_at HRO.out (w' := wr) (fun i hi => rfl) hj
          have HFo := Sec.mk (HF.out _ (List.getElem_mem hj))
          obtain ⟨o, hoo⟩ : ∃ o : OpT, o = ops[j] := ⟨_, rfl⟩
          rw [← hoo] at e0 e1 e2 e3 g0 g1 g2 hrow HFo
          clear hoo HF HO HRO
          obtain ⟨kd, nm, tn, dat⟩ := o
          simp only at e0 e1 e2 e3 g0 g1 g2 hrow HFo
          have HRW := Sec.mk hrow
          have HKW := Sec.mk (And.intro g0 (And.intro g1 g2))
          clear hrow g0 g1 g2
          have hmn : New wr (wr.alloc (.cells #[.int .i64 kd, .string ⟨nm.toArray⟩, .string ⟨tn.toArray⟩, .slice Ad dat.length dc] 39)) := (Mod.refl _ _).alloc _
          have HBO := Sec.mk (Blk.new wr 39 [.int .i64 kd, .string ⟨nm.toArray⟩, .string ⟨tn.toArray⟩, .slice Ad dat.length dc])
          have HDn := Sec.mk (HDo.out.new hmn)
          have HOn := Sec.mk (HOUT.out.new hmn)
          have HRn := Sec.mk (HRW.out.mod (w' := wr.alloc (.cells #[.int .i64 kd, .string ⟨nm.toArray⟩, .string ⟨tn.toArray⟩, .slice Ad dat.length dc] 39)) (fun _ h => h) (fun k hk => hmn.block k hk.2 id))
          have hsn : wr.heap.size < (wr.alloc (.cells #[.int .i64 kd, .string ⟨nm.toArray⟩, .string ⟨tn.toArray⟩, .slice Ad dat.length dc] 39)).heap.size := by simp
          clear hmn HDo HOUT HRW
          go_upto_region 18 with (fail)
          generalize wr.alloc (.cells #[.int .i64 kd, .string ⟨nm.toArray⟩, .string ⟨tn.toArray⟩, .slice Ad dat.length dc] 39) = wn at *
          have gc0 : wn.cell? ⟨b, 0, none⟩ = some (.slice A0 d.1.length c0) := HDn.out.blk.cell 0
          have gc1 : wn.cell? ⟨b, 1, none⟩ = some (.slice A1 d.2.1.length c1) := HDn.out.blk.cell 1
          have gc2 : wn.cell? ⟨b, 2, none⟩ = some (.slice A2 d.2.2.1.length c2) := HDn.out.blk.cell 2
          have gc3 : wn.cell? ⟨b, 3, none⟩ = some (.slice A3 d.2.2.2.1.length c3) := HDn.out.blk.cell 3
          have gc4 : wn.cell? ⟨b, 4, none⟩ = some (.int .i64 d.2.2.2.2) := HDn.out.blk.cell 4
          have oc0 : wn.cell? ⟨wr.heap.size, 0, none⟩ = some (.int .i64 kd) := HBO.out.cell 0
          have oc1 : wn.cell? ⟨wr.heap.size, 1, none⟩ = some (.string ⟨nm.toArray⟩) := HBO.out.cell 1
          have oc2 : wn.cell? ⟨wr.heap.size, 2, none⟩ = some (.string ⟨tn.toArray⟩) := HBO.out.cell 2
          have oc3 : wn.cell? ⟨wr.heap.size, 3, none⟩ = some (.slice Ad dat.length dc) := HBO.out.cell 3
          go_wp2_with fail
          refine (l1One_v HOn.out HDn.out.inv (by omega) HKW.out.1 HKW.out.2.1 HKW.out.2.2 HRn.out (fun k hk => ⟨by have := hk.2; omega, fun h => by have := hk.1; omega⟩) (Nat.le_trans (Nat.le_of_lt HFo.out.2.2) (by decide))).mono ?_
          have HIN : Sec (DInv (300 + (k + 1)) (oneL d (kd, nm, tn, dat)).1 ∧ (oneL d (kd, nm, tn, dat)).1.2.2.1.length ≤ 300 + (k + 1)) := ⟨by
            refine ⟨?_, Nat.le_trans (kept_step HDn.out.inv HDn.out.kept _) (by omega)⟩
            by_cases h0 : (oneL d (kd, nm, tn, dat)).2 = 0
            · exact HDn.out.inv.one _ h0
            · rw [oneL_same d _ h0]; exact HDn.out.inv.mono (by omega)⟩
          have HZQ : Sec ((oneL d (kd, nm, tn, dat)).2 ≠ 0 → (oneL d (kd, nm, tn, dat)).1 = d) := ⟨oneL_same d _⟩
          generalize oneL d (kd, nm, tn, dat) = r at *
          rintro e w5 ⟨z0, z1, z2, z3, rfl, ho5, hm5, hzz⟩
          obtain ⟨dn, code⟩ := r
          obtain ⟨z0, z0', z1, z1', z2, z2', z3, z3', rfl, rfl, rfl, rfl, -⟩ := ho5.forms
          have HO5 := Sec.mk (ho5.wide (X' := fun k => b < k) (fun k h1 h2 => h2.elim (fun h => h.1) (fun h3 => by omega)))
          have HM5 : Sec (Mod (fun k => b < k) wn w5) := ⟨hm5.mono (fun i _ h => h.1)⟩
          have HZZ := Sec.mk hzz
          clear ho5 hm5 hzz HOn gc0 gc1 gc2 gc3 gc4 oc0 oc1 oc2 oc3 e0 e1 e2 e3
          simp only at *
          have hma : New w5 (w5.alloc (.cells #[.slice z0 dn.1.length z0', .slice z1 dn.2.1.length z1', .slice z2 dn.2.2.1.length z2', .slice z3 dn.2.2.2.1.length z3', .int .i64 dn.2.2.2.2] 27)) := (Mod.refl _ _).alloc _
          have HBN := Sec.mk (Blk.new w5 27 [.slice z0 dn.1.length z0', .slice z1 dn.2.1.length z1', .slice z2 dn.2.2.1.length z2', .slice z3 dn.2.2.2.1.length z3', .int .i64 dn.2.2.2.2])
          have HM6 : Sec (Mod (fun k => b < k) wn (w5.alloc (.cells #[.slice z0 dn.1.length z0', .slice z1 dn.2.1.length z1', .slice z2 dn.2.2.1.length z2', .slice z3 dn.2.2.2.1.length z3', .int .i64 dn.2.2.2.2] 27))) := ⟨HM5.out.transN hma⟩
          have HO6 := Sec.mk (HO5.out.new hma)
          clear hma HO5 HM5
          go_upto_region 19 with (fail)
          generalize (w5.alloc (.cells #[.slice z0 dn.1.length z0', .slice z1 dn.2.1.length z1', .slice z2 dn.2.2.1.length z2', .slice z3 dn.2.2.2.1.length z3', .int .i64 dn.2.2.2.2] 27)) = w6 at *
          have HB6 := Sec.mk (HDn.out.blk2 HM6.out)
          by_cases hcode : code = 0
          rotate_left
          · obtain ⟨ez0, ez1, ez2, ez3⟩ := HZZ.out hcode
            obtain rfl : dn = d := HZQ.out hcode
            rw [ez0, ez1, ez2, ez3] at HO6
            have HD7 := Sec.mk ((HDn.out.step HM6.out HO6.out).mono (show 300 + k ≤ 300 + (k + 1) by omega))
            have hcb : (code == 0) = false := by simpa using hcode
            clear hcode ez0 ez1 ez2 ez3 HZZ HZQ
            go_wp2
            go_roundw
            case rel => exact ⟨j + 1, by go_num, by omega, ⟨Or.inr ⟨HJ0.out, _, _, _, _, _, _, _, _, _, HD7⟩⟩⟩
            case measure => simp [intOf]; omega
          · subst hcode
            have HD7 := Sec.mk (HDn.out.store HM6.out HO6.out HIN.out.1 HIN.out.2)
            have gc0 : w6.cell? ⟨b, 0, none⟩ = some (.slice A0 d.1.length c0) := HB6.out.cell 0
            have gf0 : w6.frozen? ⟨b, 0, none⟩ = false := HB6.out.frozen 0
            have gc1 : w6.cell? ⟨b, 1, none⟩ = some (.slice A1 d.2.1.length c1) := HB6.out.cell 1
            have gf1 : w6.frozen? ⟨b, 1, none⟩ = false := HB6.out.frozen 1
            have gc2 : w6.cell? ⟨b, 2, none⟩ = some (.slice A2 d.2.2.1.length c2) := HB6.out.cell 2
            have gf2 : w6.frozen? ⟨b, 2, none⟩ = false := HB6.out.frozen 2
            have gc3 : w6.cell? ⟨b, 3, none⟩ = some (.slice A3 d.2.2.2.1.length c3) := HB6.out.cell 3
            have gf3 : w6.frozen? ⟨b, 3, none⟩ = false := HB6.out.frozen 3
            have gc4 : w6.cell? ⟨b, 4, none⟩ = some (.int .i64 d.2.2.2.2) := HB6.out.cell 4
            have gf4 : w6.frozen? ⟨b, 4, none⟩ = false := HB6.out.frozen 4
            have nc0 : w6.cell? ⟨w5.heap.size, 0, none⟩ = some (.slice z0 dn.1.length z0') := HBN.out.cell 0
            have nc1 : w6.cell? ⟨w5.heap.size, 1, none⟩ = some (.slice z1 dn.2.1.length z1') := HBN.out.cell 1
            have nc2 : w6.cell? ⟨w5.heap.size, 2, none⟩ = some (.slice z2 dn.2.2.1.length z2') := HBN.out.cell 2
            have nc3 : w6.cell? ⟨w5.heap.size, 3, none⟩ = some (.slice z3 dn.2.2.2.1.length z3') := HBN.out.cell 3
            have nc4 : w6.cell? ⟨w5.heap.size, 4, none⟩ = some (.int .i64 dn.2.2.2.2) := HBN.out.cell 4
            go_wp2
            go_roundw
            case rel => exact ⟨j + 1, by go_num, by omega, ⟨Or.inr ⟨HJ0.out, _, _, _, _, _, _, _, _, _, HD7⟩⟩⟩
            case measure => simp [intOf]; omega
end Go.Proofs.YtkkgighgnbbgiaaDoor
