/- The specification's change of names. Maps of the call's own, by what they answer. The program's test of a list of names. One operation on a disk, of the specification. -/
import Derived.Test.YtiaknomadhgckaaDoorPk11
import Derived.Test.YtiaknomadhgckaaDoorPk8
import Derived.Test.YtiaknomadhgckaaDoorPk1
import Derived.Maps.OwnOps
import Derived.Maps.Views
import Derived.Test.YtiaknomadhgckaaDoorPk7
import Derived.BigQuiet
import Derived.Carry
namespace Go.Proofs.YtiaknomadhgckaaDoor
open Go.RowKit Mem
set_option linter.unusedVariables false
set_option linter.unusedSimpArgs false
/-- the disk, changed in its place -/
def RetO (X : Nat → Prop) (w : World) (d : DiskT) (e : Ending) (w' : World) : Prop :=
  ∃ v0 v1 v2 v3, e = .returned (.agg #[v0, v1, v2, v3, .int .i64 d.2.2.2.2]) ∧ Out4 (fun k => X k ∨ w.heap.size ≤ k) w' v0 v1 v2 v3 d ∧ Mod X w w'
theorem ReplR.own {o : Option (List EntryT)} {w w' : World} {e : Ending} (h : ReplR o w e w') : ∃ A c b, e = .returned (.tuple #[.slice A (o.getD []).length c, .bool b]) ∧ Mine dEntry 57 w w' (.slice A (o.getD []).length c) (o.getD []) := by
  cases o with
  | none => exact ⟨none, 0, false, h.1, ⟨⟨[], Own.nil _ _ _, by simp⟩, h.2⟩⟩
  | some m => obtain ⟨A, c, rfl, hm⟩ := h; exact ⟨A, c, true, rfl, hm⟩
set_option maxHeartbeats 4000000 in
set_option maxRecDepth 100000 in
theorem l1Dir_v {w : World} {X : Nat → Prop} {v0 v1 v2 v3 : Value} {d : DiskT} {N : Nat} (h : Out4 X w v0 v1 v2 v3 d) (hI : DInv N d) (hN : N ≤ 100000) (q : DirOpT) (hq0 : IntKind.i64.wrap q.1 = q.1) (hq1 : q.2.1.length ≤ 9223372036854775807) (hq2 : q.2.2.1.length ≤ 9223372036854775807) (hq3 : IntKind.i64.wrap q.2.2.2 = q.2.2.2) :
    Calls Tryd.prog 86 #[.agg #[v0, v1, v2, v3, .int .i64 d.2.2.2.2], .agg #[.int .i64 q.1, .string ⟨q.2.1.toArray⟩, .string ⟨q.2.2.1.toArray⟩, .int .i64 q.2.2.2]] w (RetO X w (dirL d q)) := by
  have HE : Sec (dirL d q = (d.1, (replayL d.2.1 q d.1.length).getD [], d.2.2.1, d.2.2.2.1 ++ [q], d.2.2.2.2)) := ⟨rfl⟩
  have hn := hI.names
  have hp := hI.pend
  have hnn := hI.nodes
  have HOR := Sec.mk hI.ord
  have HLM : Sec (((replayL d.2.1 q d.1.length).getD []).length ≤ N + 1) := ⟨by
    cases hr : replayL d.2.1 q d.1.length with
    | none => simp
    | some m => have := replayL_len hr; simp only [Option.getD_some]; omega⟩
  clear hI
  obtain ⟨kd, nm, tn, nd⟩ := q
  simp only at hq0 hq1 hq2 hq3 HE HLM ⊢
  obtain ⟨A0, c0, A1, c1, A2, c2, A3, c3, rfl, rfl, rfl, rfl, b0, b1, b2, b3⟩ := h.forms
  have HW := Sec.mk (And.intro hq0 (And.intro hq1 (And.intro hq2 hq3)))
  have HBD := Sec.mk (((Blk.new w 27 [.slice A0 d.1.length c0, .slice A1 d.2.1.length c1, .slice A2 d.2.2.1.length c2, .slice A3 d.2.2.2.1.length c3, .int .i64 d.2.2.2.2]).alloc (.cells #[.int .i64 kd, .string ⟨nm.toArray⟩, .string ⟨tn.toArray⟩, .int .i64 nd] 96)).alloc (.cells zDisk.toArray 27))
  have HBO' := (Blk.new (w.alloc (.cells #[.slice A0 d.1.length c0, .slice A1 d.2.1.length c1, .slice A2 d.2.2.1.length c2, .slice A3 d.2.2.2.1.length c3, .int .i64 d.2.2.2.2] 27)) 96 [.int .i64 kd, .string ⟨nm.toArray⟩, .string ⟨tn.toArray⟩, .int .i64 nd]).alloc (.cells zDisk.toArray 27)
  have HBR' := Blk.new ((w.alloc (.cells #[.slice A0 d.1.length c0, .slice A1 d.2.1.length c1, .slice A2 d.2.2.1.length c2, .slice A3 d.2.2.2.1.length c3, .int .i64 d.2.2.2.2] 27)).alloc (.cells #[.int .i64 kd, .string ⟨nm.toArray⟩, .string ⟨tn.toArray⟩, .int .i64 nd] 96)) 27 zDisk
  have HM0 := Sec.mk ((((Mod.refl (fun _ => False) w).alloc (.cells #[.slice A0 d.1.length c0, .slice A1 d.2.1.length c1, .slice A2 d.2.2.1.length c2, .slice A3 d.2.2.2.1.length c3, .int .i64 d.2.2.2.2] 27)).alloc (.cells #[.int .i64 kd, .string ⟨nm.toArray⟩, .string ⟨tn.toArray⟩, .int .i64 nd] 96)).alloc (.cells zDisk.toArray 27))
  have hsz : (((w.alloc (.cells #[.slice A0 d.1.length c0, .slice A1 d.2.1.length c1, .slice A2 d.2.2.1.length c2, .slice A3 d.2.2.2.1.length c3, .int .i64 d.2.2.2.2] 27)).alloc (.cells #[.int .i64 kd, .string ⟨nm.toArray⟩, .string ⟨tn.toArray⟩, .int .i64 nd] 96)).alloc (.cells zDisk.toArray 27)).heap.size = w.heap.size + 3 := by simp
  rw [show (w.alloc (.cells #[.slice A0 d.1.length c0, .slice A1 d.2.1.length c1, .slice A2 d.2.2.1.length c2, .slice A3 d.2.2.2.1.length c3, .int .i64 d.2.2.2.2] 27)).heap.size = w.heap.size + 1 by simp] at HBO'
  rw [show ((w.alloc (.cells #[.slice A0 d.1.length c0, .slice A1 d.2.1.length c1, .slice A2 d.2.2.1.length c2, .slice A3 d.2.2.2.1.length c3, .int .i64 d.2.2.2.2] 27)).alloc (.cells #[.int .i64 kd, .string ⟨nm.toArray⟩, .string ⟨tn.toArray⟩, .int .i64 nd] 96)).heap.size = w.heap.size + 1 + 1 by simp] at HBR'
  have HBO := Sec.mk HBO'
  have HBR := Sec.mk HBR'
  have HO := Sec.mk ((h.wide (X' := fun k => X k ∧ k < w.heap.size) (fun k h1 h2 => ⟨h2, h1⟩)).new HM0.out)
  have hrow : Row dEntry w (· < w.heap.size) A1 d.2.1.length d.2.1 := by
    obtain ⟨F0, F1, F2, F3, o0, o1, -⟩ := h
    exact (o1.row rfl).mod (fun k hk => o1.lt k hk) (fun _ _ => rfl)
  have HRN := Sec.mk (hrow.mod (w' := (((w.alloc (.cells #[.slice A0 d.1.length c0, .slice A1 d.2.1.length c1, .slice A2 d.2.2.1.length c2, .slice A3 d.2.2.2.1.length c3, .int .i64 d.2.2.2.2] 27)).alloc (.cells #[.int .i64 kd, .string ⟨nm.toArray⟩, .string ⟨tn.toArray⟩, .int .i64 nd] 96)).alloc (.cells zDisk.toArray 27))) (fun _ h => h) (fun k hk => HM0.out.block k hk id))
  have hlt0 : w.heap.size < (((w.alloc (.cells #[.slice A0 d.1.length c0, .slice A1 d.2.1.length c1, .slice A2 d.2.2.1.length c2, .slice A3 d.2.2.2.1.length c3, .int .i64 d.2.2.2.2] 27)).alloc (.cells #[.int .i64 kd, .string ⟨nm.toArray⟩, .string ⟨tn.toArray⟩, .int .i64 nd] 96)).alloc (.cells zDisk.toArray 27)).heap.size := by omega
  clear h hrow HBO' HBR' hq0 hq1 hq2 hq3
  go_enter Tryd.func86, Tryd.ntmps86
  go_upto_region 1 with (fail)
  have HSZ := Sec.mk hsz
  clear hsz
  generalize (((w.alloc (.cells #[.slice A0 d.1.length c0, .slice A1 d.2.1.length c1, .slice A2 d.2.2.1.length c2, .slice A3 d.2.2.2.1.length c3, .int .i64 d.2.2.2.2] 27)).alloc (.cells #[.int .i64 kd, .string ⟨nm.toArray⟩, .string ⟨tn.toArray⟩, .int .i64 nd] 96)).alloc (.cells zDisk.toArray 27)) = wz at *
  have hwz : w.heap.size + 3 ≤ wz.heap.size := by have := HSZ.out; omega
  have q0 : wz.cell? ⟨w.heap.size, 0, none⟩ = some (.slice A0 d.1.length c0) := HBD.out.cell 0
  have q1 : wz.cell? ⟨w.heap.size, 1, none⟩ = some (.slice A1 d.2.1.length c1) := HBD.out.cell 1
  have o0 : wz.cell? ⟨w.heap.size + 1, 0, none⟩ = some (.int .i64 kd) := HBO.out.cell 0
  have o1 : wz.cell? ⟨w.heap.size + 1, 1, none⟩ = some (.string ⟨nm.toArray⟩) := HBO.out.cell 1
  have o2 : wz.cell? ⟨w.heap.size + 1, 2, none⟩ = some (.string ⟨tn.toArray⟩) := HBO.out.cell 2
  have o3 : wz.cell? ⟨w.heap.size + 1, 3, none⟩ = some (.int .i64 nd) := HBO.out.cell 3
  go_wp2_with fail
  refine (l1Replay_calls HRN.out (fun k hk => Nat.lt_of_lt_of_le hk (by omega)) (by omega) HOR.out (kd, nm, tn, nd) HW.out.2.1 HW.out.2.2.1 HW.out.2.2.2 (d.1.length : Int)).mono ?_
  intro e w2 hr
  obtain ⟨B, cB, bb, rfl, hmine⟩ := hr.own
  generalize (replayL d.2.1 (kd, nm, tn, nd) d.1.length).getD [] = list at *
  have HN2 := Sec.mk hmine.new
  have HBD2 := Sec.mk (HBD.out.mod hmine.new id)
  have HBO2 := Sec.mk (HBO.out.mod hmine.new id)
  have HBR2 := Sec.mk (HBR.out.mod hmine.new id)
  have hs2 := hmine.new.size
  obtain ⟨⟨F, ho, hF⟩, -⟩ := hmine
  have HO2 := Sec.mk ((HO.out.new HN2.out).put1 (X := fun k => (X k ∧ k < w.heap.size) ∨ w.heap.size + 3 ≤ k) ho (fun k hk => by have := hF k hk; exact ⟨fun h => by omega, Or.inr (by omega)⟩) (fun k hk => Or.inl hk))
  clear hr ho hF q0 q1 o0 o1 o2 o3 HBD HBO HBR HO HRN
  have p1 : w2.cell? ⟨w.heap.size, 1, none⟩ = some (.slice A1 d.2.1.length c1) := HBD2.out.cell 1
  have pf1 : w2.frozen? ⟨w.heap.size, 1, none⟩ = false := HBD2.out.frozen 1
  have p3 : w2.cell? ⟨w.heap.size, 3, none⟩ = some (.slice A3 d.2.2.2.1.length c3) := HBD2.out.cell 3
  have o0 : w2.cell? ⟨w.heap.size + 1, 0, none⟩ = some (.int .i64 kd) := HBO2.out.cell 0
  have o1 : w2.cell? ⟨w.heap.size + 1, 1, none⟩ = some (.string ⟨nm.toArray⟩) := HBO2.out.cell 1
  have o2 : w2.cell? ⟨w.heap.size + 1, 2, none⟩ = some (.string ⟨tn.toArray⟩) := HBO2.out.cell 2
  have o3 : w2.cell? ⟨w.heap.size + 1, 3, none⟩ = some (.int .i64 nd) := HBO2.out.cell 3
  have HBD3 := Sec.mk (HBD2.out.set_ 1 (.slice B list.length cB))
  simp only [List.set_cons_zero, List.set_cons_succ] at HBD3
  have HO3 := Sec.mk (HO2.out.keep ((Mod.refl (fun k => k = w.heap.size) w2).setCell (p := ⟨w.heap.size, 1, none⟩) (fun _ => rfl) (.slice B list.length cB)) (fun k h e => by omega))
  have hs3 : (w2.setCell ⟨w.heap.size, 1, none⟩ (.slice B list.length cB)).heap.size = w2.heap.size := by simp [World.setCell]
  have HS3 := Sec.mk hs3
  have HRQ : Sec (Row dDirOp ((w2.setCell ⟨w.heap.size, 1, none⟩ (.slice B list.length cB)).alloc (.cells #[.int .i64 kd, .string ⟨nm.toArray⟩, .string ⟨tn.toArray⟩, .int .i64 nd] 96)) (· = w2.heap.size) (some ⟨w2.heap.size, 0, none⟩) 1 [((kd, nm, tn, nd) : DirOpT)]) := ⟨by
    have := rowDirOp (w2.setCell ⟨w.heap.size, 1, none⟩ (.slice B list.length cB)) (x := (kd, nm, tn, nd)) HW.out.1 HW.out.2.1 HW.out.2.2.1 HW.out.2.2.2
    rw [hs3] at this
    exact this⟩
  have hw2 : w.heap.size + 3 ≤ w2.heap.size := by omega
  have hw2' : w.heap.size + 1 < w2.heap.size := by omega
  have hw2'' : w.heap.size < w2.heap.size := by omega
  clear hs3 hs2 hwz hlt0
  go_wp2_with (at_builtin; go_loud (refine Out4.list3 (ys := [(kd, nm, tn, nd)]) _ rfl (.tmp 20) (.tmp 22) _ rfl Tryd.underlying25 rfl rfl (HO3.out.new ((Mod.refl _ _).alloc _)) HRQ.out (fun k hk => by simp [World.setCell] at hk; exact Or.inr (by omega)) (show d.2.2.2.1.length + 1 ≤ 34359738368 by omega) ?_; intro A5 n5 c5 w5 h5 hm5; have HO5 := Sec.mk h5; have HBD5 := Sec.mk ((HBD3.out.alloc _).mod hm5 (by omega)); have HBR5 := Sec.mk (((HBR2.out.far (p := ⟨w.heap.size, 1, none⟩) (by show w.heap.size + 1 + 1 ≠ w.heap.size; omega) (.slice B list.length cB)).alloc _).mod hm5 (by omega)); have HM5 := Sec.mk hm5; have hw5 : w.heap.size + 3 ≤ w5.heap.size := (by have := hm5.size; simp [World.setCell] at this; omega); clear h5 hm5; have hw5' : w.heap.size < w5.heap.size := (by omega); have hw5'' : w.heap.size + 1 + 1 < w5.heap.size := (by omega); have r0 : w5.cell? ⟨w.heap.size, 0, none⟩ = some (.slice A0 d.1.length c0) := HBD5.out.cell 0; have r1 : w5.cell? ⟨w.heap.size, 1, none⟩ = some (.slice B list.length cB) := HBD5.out.cell 1; have r2 : w5.cell? ⟨w.heap.size, 2, none⟩ = some (.slice A2 d.2.2.1.length c2) := HBD5.out.cell 2; have r3 : w5.cell? ⟨w.heap.size, 3, none⟩ = some (.slice A3 d.2.2.2.1.length c3) := HBD5.out.cell 3; have rf3 : w5.frozen? ⟨w.heap.size, 3, none⟩ = false := HBD5.out.frozen 3; have r4 : w5.cell? ⟨w.heap.size, 4, none⟩ = some (.int .i64 d.2.2.2.2) := HBD5.out.cell 4; have t0 : w5.cell? ⟨w.heap.size + 1 + 1, 0, none⟩ = some (.slice none 0 0) := HBR5.out.cell 0; have t1 : w5.cell? ⟨w.heap.size + 1 + 1, 1, none⟩ = some (.slice none 0 0) := HBR5.out.cell 1; have t2 : w5.cell? ⟨w.heap.size + 1 + 1, 2, none⟩ = some (.slice none 0 0) := HBR5.out.cell 2; have t3 : w5.cell? ⟨w.heap.size + 1 + 1, 3, none⟩ = some (.slice none 0 0) := HBR5.out.cell 3; have t4 : w5.cell? ⟨w.heap.size + 1 + 1, 4, none⟩ = some (.int .i64 0) := HBR5.out.cell 4; have tf0 : w5.frozen? ⟨w.heap.size + 1 + 1, 0, none⟩ = false := HBR5.out.frozen 0; have tf1 : w5.frozen? ⟨w.heap.size + 1 + 1, 1, none⟩ = false := HBR5.out.frozen 1; have tf2 : w5.frozen? ⟨w.heap.size + 1 + 1, 2, none⟩ = false := HBR5.out.frozen 2; have tf3 : w5.frozen? ⟨w.heap.size + 1 + 1, 3, none⟩ = false := HBR5.out.frozen 3; have tf4 : w5.frozen? ⟨w.heap.size + 1 + 1, 4, none⟩ = false := HBR5.out.frozen 4))
  have HFB := Sec.mk (set5_blk (HBR5.out.far (p := ⟨w.heap.size, 3, none⟩) (by show w.heap.size + 1 + 1 ≠ w.heap.size; omega) (.slice A5 n5 c5)) (.slice A0 d.1.length c0) (.slice B list.length cB) (.slice A2 d.2.2.1.length c2) (.slice A5 n5 c5) (.int .i64 d.2.2.2.2))
  have hmA := (Mod.refl (fun k => k = w.heap.size) w5).setCell (p := ⟨w.heap.size, 3, none⟩) (fun _ => rfl) (.slice A5 n5 c5)
  have HFM := set5_mod (w5.setCell ⟨w.heap.size, 3, none⟩ (.slice A5 n5 c5)) (w.heap.size + 1 + 1) (.slice A0 d.1.length c0) (.slice B list.length cB) (.slice A2 d.2.2.1.length c2) (.slice A5 n5 c5) (.int .i64 d.2.2.2.2)
  have H4 := Sec.mk ((HO5.out.keep hmA (fun k h e => by omega)).keep HFM (fun k h e => by omega))
  have hmB := (Mod.refl (fun k => k = w.heap.size) w2).setCell (p := ⟨w.heap.size, 1, none⟩) (fun _ => rfl) (.slice B list.length cB)
  have HMF := Sec.mk (((((HM0.out.transN HN2.out).trans hmB (fun i hi hlt => by omega)).alloc (.cells #[.int .i64 kd, .string ⟨nm.toArray⟩, .string ⟨tn.toArray⟩, .int .i64 nd] 96)).mono (T := X) (fun i hlt h => h.elim)).trans HM5.out (fun i hi hlt => by rcases hi with hi | hi; exact hi.1; omega))
  have HMG := Sec.mk ((HMF.out.trans hmA (fun i hi hlt => by omega)).trans HFM (fun i hi hlt => by omega))
  refine bodyPost_ret (results_blk rfl rfl HFB.out Tryd.underlying27 (by kernel_rfl)) rfl ?_
  rw [HE.out]
  exact ⟨_, _, _, _, rfl, H4.out.wide (fun k _ h => by rcases h with h | h; exact Or.inl h.1; exact Or.inr (by omega)), HMG.out⟩
end Go.Proofs.YtiaknomadhgckaaDoor

namespace Go.Proofs.YtiaknomadhgckaaDoor.Mem
open Go.RowKit Go.Maps
set_option linter.unusedVariables false
/-- how keys are spelt -/
structure KeyE (P : Program) (k : TypeId) {κ : Type} (ok : κ → Prop) (kv : κ → Value) (kl : κ → Lit) : Prop where
  keyed : Keyed P k
  key : ∀ x, ok x → keyOf P k (kv x) = some (kl x)
  lit : ∀ x, WideAt.IsKeyLit (kl x)
  inj : ∀ x y, kl x = kl y → x = y
/-- how elements are spelt -/
structure ValE (P : Program) (e : TypeId) {ν : Type} (ok : ν → Prop) (ev : ν → Value) (el : ν → Lit) (z : ν) : Prop where
  val : ∀ x, ok x → plainElem (H := Unit) P e (ev x) = some (.lit (el x), [])
  inv : ∀ u x ps, plainElem (H := Unit) P e u = some (.lit (el x), ps) → u = ev x
  zok : ok z
  zero : ∀ w, (zeroValue e).run P w = .ok (ev z) w
/-- a map at block b that answers as f does -/
def MapOf {κ ν : Type} (P : Program) (k e : TypeId) (kl : κ → Lit) (el : ν → Lit) (z : ν) (w : World) (b n : Nat) (f : κ → ν) : Prop :=
  ∃ D : DataW Unit, w.ownsMap P k (plainElem P e) b n D ∧ IsMap D ∧ ∀ x, D.atKey (kl x) (.lit (el z)) = .lit (el (f x))
section
variable {κ ν : Type} {P : Program} {k e : TypeId} {okk : κ → Prop} {kv : κ → Value} {kl : κ → Lit} {okv : ν → Prop} {ev : ν → Value} {el : ν → Lit} {z : ν} {w w' : World} {b n : Nat} {f : κ → ν}
theorem MapOf.made (w : World) : MapOf P k e kl el z (w.alloc (.map #[] 0)) w.heap.size 0 (fun _ => z) :=
  ⟨_, World.ownsMap_made w P k _, isMap_empty, fun _ => rfl⟩
theorem MapOf.lt (h : MapOf P k e kl el z w b n f) : b < w.heap.size := by obtain ⟨D, h, _⟩ := h; exact h.lt
theorem MapOf.mod {S : Nat → Prop} (h : MapOf P k e kl el z w b n f) (hm : Mod S w w') (hS : ¬ S b) : MapOf P k e kl el z w' b n f := by
  have hlt := h.lt
  obtain ⟨D, ⟨es, clock, hb, hr⟩, h2⟩ := h
  exact ⟨D, ⟨es, clock, (hm.block b hlt hS).trans hb, hr⟩, h2⟩
theorem MapOf.mono (h : MapOf P k e kl el z w b n f) {n' : Nat} (hn : n ≤ n') : MapOf P k e kl el z w b n' f := by
  obtain ⟨D, h, h2⟩ := h; exact ⟨D, h.mono hn, h2⟩
theorem MapOf.look [DecidableEq κ] (K : KeyE P k okk kv kl) (V : ValE P e okv ev el z) (h : MapOf P k e kl el z w b n f) {t : TypeId} (ht : P.underlying t = some (.map k e)) {x : κ} (hx : okk x) :
    (Instr.lookup t (.map (some b)) (kv x) false).run P w = .ok (ev (f x)) w := by
  obtain ⟨D, h, _, hf⟩ := h
  obtain ⟨v, ps, hrun, hv⟩ := h.lookup K.keyed ht (V.zero w) (V.val z V.zok) (K.key x hx)
  rw [hf x] at hv
  rw [hrun, V.inv _ _ _ hv]
theorem MapOf.store [DecidableEq κ] (K : KeyE P k okk kv kl) (V : ValE P e okv ev el z) (h : MapOf P k e kl el z w b n f) (hn : n < maxLen) {t : TypeId} (ht : P.underlying t = some (.map k e)) {x : κ} (hx : okk x) {y : ν} (hy : okv y) :
    ∃ w', (Instr.mapUpdate t (.map (some b)) (kv x) (ev y)).run P w = .ok () w' ∧ MapOf P k e kl el z w' b (n + 1) (fun u => if u = x then y else f u) ∧ Mod (· = b) w w' := by
  obtain ⟨D, h, hD, hf⟩ := h
  obtain ⟨w', hrun, h1, hg⟩ := h.update K.keyed ht hn (K.key x hx) (V.val y hy)
  refine ⟨w', hrun, ⟨_, h1, hD.put _ _, fun u => ?_⟩, (Mod.refl _ _).grown hg fun q hq hl => by injection hq with hq; exact hq.symm⟩
  by_cases hu : u = x
  · subst hu; simp only [if_pos]; rw [atKey_put_same hD (K.lit _)]
  · simp only [if_neg hu]; rw [atKey_put_other (fun h => hu (K.inj _ _ h)), hf u]
theorem wpList_mapSet [DecidableEq κ] {ops : Array Oper} {rest : List Oper} {o : Oper} {a : Act} {Q : Exit → Act → World → Prop} (K : KeyE P k okk kv kl) (V : ValE P e okv ev el z) (hg : o.guard = none) (m x v : Operand) (t : TypeId)
    (hop : o.op = Op.mapUpdate t m x v ∨ o.op = Op.insert t m x v) (ht : P.underlying t = some (.map k e)) (hm : a.eval m = .map (some b)) (h : MapOf P k e kl el z w b n f) (hn : n < maxLen) (kx : κ) (vy : ν) (hx : a.eval x = kv kx) (hv : a.eval v = ev vy) (hkx : okk kx) (hvy : okv vy)
    (hK : ∀ w', MapOf P k e kl el z w' b (n + 1) (fun u => if u = kx then vy else f u) → Mod (· = b) w w' → wpList P ops Q rest (a.put o.dst undef) w') : wpList P ops Q (o :: rest) a w := by
  refine wpList_plain hg fun K' hK' => ?_
  obtain ⟨w', hrun, r1, r2⟩ := h.store K V hn ht hkx hvy
  unfold Oper.wp
  rcases hop with hop | hop
  · simp [execOp, hop, hm, hx, hv, hrun, Result.andThen]
    exact hK' _ _ (hK w' r1 r2)
  · simp [execOp, hop, hm, hx, hv, hrun, Result.andThen]
    exact hK' _ _ (hK w' r1 r2)
theorem wpList_mapGet [DecidableEq κ] {ops : Array Oper} {rest : List Oper} {o : Oper} {a : Act} {Q : Exit → Act → World → Prop} (K : KeyE P k okk kv kl) (V : ValE P e okv ev el z) (hg : o.guard = none) (m x : Operand) (t : TypeId)
    (hop : o.op = Op.lookup t m x false) (ht : P.underlying t = some (.map k e)) (hm : a.eval m = .map (some b)) (h : MapOf P k e kl el z w b n f) (kx : κ) (hx : a.eval x = kv kx) (hkx : okk kx)
    (hK : wpList P ops Q rest (a.put o.dst (ev (f kx))) w) : wpList P ops Q (o :: rest) a w := by
  refine wpList_plain hg fun K' hK' => ?_
  have hrun := h.look K V ht hkx
  unfold Oper.wp
  simp [execOp, hop, hm, hx, hrun, Result.andThen]
  exact hK' _ _ hK
end
/-- keys that are texts, elements that are numbers -/
theorem keyS {P : Program} {k : TypeId} (hk : P.underlying k = some .string) : KeyE P k (fun x : List UInt8 => x.length ≤ 1048576) (fun x => .string ⟨x.toArray⟩) (fun x => .string x) where
  keyed := string_keyed hk
  key := fun x hx => by have := WideMaps.keyOf_string_mk (P := P) (k := k) hk (s := ⟨x.toArray⟩) (by show x.toArray.size ≤ maxLen; simp only [maxLen, List.size_toArray]; omega); simpa using this
  lit := fun x => by first | trivial | exact ⟨_, rfl⟩ | simp [WideAt.IsKeyLit]
  inj := fun x y h => by injection h
theorem valI {P : Program} {e : TypeId} (he : P.underlying e = some (.int .i64)) (hz : ∀ w, (zeroValue e).run P w = .ok (.int .i64 0) w) : ValE P e (fun x : Int => (Lit.int .i64 x).wf = true) (fun x => .int .i64 x) (fun x => .int .i64 x) 0 where
  val := fun x h => plainElem_int he h
  inv := fun u x ps h => by
    obtain ⟨a, rfl, h1, _⟩ := plainElem_int_inv he h
    injection h1 with h1 _
    injection h1 with h1
    injection h1 with _ h1
    rw [h1]
  zok := by decide
  zero := hz
theorem keyI {P : Program} {k : TypeId} (hk : P.underlying k = some (.int .i64)) : KeyE P k (fun x : Int => (Lit.int .i64 x).wf = true) (fun x => .int .i64 x) (fun x => .int .i64 x) where
  keyed := int_keyed hk
  key := fun x h => keyOf_int_mk hk h
  lit := fun x => by first | trivial | exact ⟨_, rfl⟩ | simp [WideAt.IsKeyLit]
  inj := fun x y h => by injection h
theorem valB {P : Program} {e : TypeId} (he : P.underlying e = some .bool) (hz : ∀ w, (zeroValue e).run P w = .ok (.bool false) w) : ValE P e (fun _ : Bool => True) (fun x => .bool x) (fun x => .bool x) false where
  val := fun x _ => plainElem_bool he x
  inv := fun u x ps h => by
    unfold plainElem at h
    rw [he] at h
    cases u <;> simp at h
    rw [h.1]
  zok := trivial
  zero := hz
end Go.Proofs.YtiaknomadhgckaaDoor.Mem

namespace Go.Proofs.YtiaknomadhgckaaDoor
open Go.RowKit Mem Go.Maps
set_option linter.unusedVariables false
set_option linter.unusedSimpArgs false
theorem hasNode_false {l : List EntL} {k : Nat} {v : Int} (hk : k < l.length) : hasNode (l.take k) v = false ↔ ∀ j (hj : j < k), (l[j]'(by omega)).2 ≠ v := by
  unfold hasNode
  rw [List.any_eq_false]
  constructor
  · intro h j hj
    have hm : (l[j]'(by omega)) ∈ l.take k := by
      rw [List.mem_take_iff_getElem]
      exact ⟨j, by omega, rfl⟩
    have := h _ hm
    simpa using this
  · intro h x hx
    rw [List.mem_take_iff_getElem] at hx
    obtain ⟨j, hj, rfl⟩ := hx
    simpa using h j (by omega)
theorem atOk_iff {l : List EntL} {nodes : Int} {k : Nat} (hk : k < l.length) (hp : ∀ j, j < k → atOk l nodes j) :
    atOk l nodes k ↔ goodL l[k].1 = true ∧ 0 ≤ l[k].2 ∧ l[k].2 < nodes ∧ (∀ (h : 0 < k), (l[k - 1]'(by omega)).1 < l[k].1) ∧ hasNode (l.take k) l[k].2 = false := by
  constructor
  · intro h
    obtain ⟨h1, h2, h3, h4⟩ := h hk
    exact ⟨h1, h2, h3, fun h0 => (h4 (k - 1) (by omega)).1, (hasNode_false hk).2 fun j hj => (h4 j hj).2⟩
  · rintro ⟨h1, h2, h3, h4, h5⟩ _
    refine ⟨h1, h2, h3, fun j hj => ⟨?_, (hasNode_false hk).1 h5 j hj⟩⟩
    rcases Nat.lt_or_eq_of_le (show j ≤ k - 1 by omega) with h | h
    · exact lb_trans ((hp (k - 1) (by omega) (by omega)).2.2.2 j h).1 (h4 (by omega))
    · subst h; exact h4 (by omega)

theorem kInt : KeyE Tryd.prog 3 (fun x : Int => (Lit.int .i64 x).wf = true) (fun x => .int .i64 x) (fun x => .int .i64 x) := keyI Tryd.underlying3
theorem vBool : ValE Tryd.prog 4 (fun _ : Bool => True) (fun x => .bool x) (fun x => .bool x) false := valB Tryd.underlying4 (fun w => by go_simp)
abbrev MapIB (w : World) (b n : Nat) (f : Int → Bool) : Prop := MapOf Tryd.prog 3 4 (fun x : Int => .int .i64 x) (fun x : Bool => .bool x) false w b n f
theorem wfInt {u : Int} (h : IntKind.i64.wrap u = u) : (Lit.int .i64 u).wf = true := by
  rw [IntKind.wrap_i64] at h
  simp [Lit.wf, IntKind.min, IntKind.max, IntKind.bits, IntKind.signed]; omega




































































































































































































end Go.Proofs.YtiaknomadhgckaaDoor

namespace Go.Proofs.YtiaknomadhgckaaDoor
open Go.RowKit Mem
set_option linter.unusedVariables false
set_option linter.unusedSimpArgs false
def RetOne (X : Nat → Prop) (a0 a1 a2 a3 : Value) (w : World) (r : DiskT × Int) (e : Ending) (w' : World) : Prop :=
  ∃ v0 v1 v2 v3, e = .returned (.tuple #[.agg #[v0, v1, v2, v3, .int .i64 r.1.2.2.2.2], .int .i64 r.2]) ∧ Out4 (fun k => X k ∨ w.heap.size ≤ k) w' v0 v1 v2 v3 r.1 ∧ Mod X w w' ∧ (r.2 ≠ 0 → v0 = a0 ∧ v1 = a1 ∧ v2 = a2 ∧ v3 = a3)
theorem results_blk2 {P : Program} {fn : Func} {a b : Tmp} {t e : TypeId} {fs : Array Field} (h : fn.results = #[.cell a t, .tmp b]) {tmps : Array Value} {w : World} {g : Nat} {cs : List Value} {v : Value} (ht : tmps.getD a undef = .pointer (some ⟨g, 0, none⟩)) (hv : tmps.getD b undef = v) (hb : Blk w g e cs)
    (hu : P.underlying t = some (.struct fs)) (hi : (P.info? t).map (·.size) = some cs.length) : (results fn tmps).run P w = .ok (.tuple #[.agg cs.toArray, v]) w := by
  have := run_loadVar_row (P := P) w g e t cs.toArray (0, 0) _ hb hu rfl (by rw [hi]; simp)
  rw [Array.getD_eq_getD_getElem?] at ht hv
  simp [results, h, ht, hv, asAddr, this]
theorem oneL_eq (d : DiskL) (kd : Int) (nm tn dat : LB) : oneL d (kd, nm, tn, dat) = if kd < 1 ∨ 6 < kd then (d, 2)
  else if kd = 6 then (settleL d, 0)
  else if goodL nm = false ∨ (kd = 4 ∧ goodL tn = false) then (d, 3)
  else if kd = 1 then
    (if 600 ≤ d.1.length ∨ 1000 ≤ d.2.2.2.1.length ∨ (hasE d.2.1 nm = false ∧ 300 ≤ d.2.1.length) then (d, 6)
     else (dirL (d.1 ++ [([], 0)], d.2) (1, nm, [], (d.1.length : Int)), 0))
  else if hasE d.2.1 nm = false then (d, 4)
  else if kd = 2 then
    (if d.2.2.2.2 < (usedL d : Int) + (dat.length : Int) then (d, 5)
     else if 40000 < (nodeAt d (nodeOf d nm)).1.length + dat.length ∨ 200000 < sumD d.1 + dat.length then (d, 6)
     else (withNode d (nodeOf d nm) ((nodeAt d (nodeOf d nm)).1 ++ dat, (nodeAt d (nodeOf d nm)).2), 0))
  else if kd = 3 then (withNode d (nodeOf d nm) ((nodeAt d (nodeOf d nm)).1, ((nodeAt d (nodeOf d nm)).1.length : Int)), 0)
  else if kd = 4 ∧ tn = nm then (d, 0)
  else if 1000 ≤ d.2.2.2.1.length then (d, 6)
  else (dirL d (kd, nm, if kd = 4 then tn else [], 0), 0) := rfl
theorem DInv.push {N : Nat} {d : DiskL} (h : DInv N d) (hn : d.1.length < 600) : DInv N (d.1 ++ [([], 0)], d.2) := ⟨by simp only [List.length_append, List.length_singleton]; omega, h.names, h.pend, fun n hn => by
      rcases List.mem_append.1 hn with hn | hn
      · exact h.len n hn
      · rw [List.mem_singleton.1 hn]; simp, h.ord, by
      have := h.inr.mono (m := ((d.1 ++ [([], 0)]).length : Int)) (by simp; omega)
      exact this, h.quota⟩
theorem wp_appM {P : Program} (w : World) {o : Oper} {a : Act} {K : Act → World → Prop} {Q : Exit → Act → World → Prop} (s x : Operand) (t : TypeId)
    (ho : o.op = .call { callee := .builtin .append, args := #[s, x], argTypes := #[t, t] })
    {α : Type} {d : Ty α} {e : TypeId} {z : Value} (ht : P.underlying t = some (.slice e)) (hE : Elt P e d.sz z) (hf : Flat d)
    {w0 : World} {A A' : Option Addr} {n m c c' : Nat} {xs ys : List α} {B : Nat → Prop} (hs : a.eval s = .slice A n c) (hx : a.eval x = .slice A' m c') (hown : Mine d e w0 w (.slice A n c) xs) (hy : Row d w B A' m ys)
    (hlen : xs.length + ys.length ≤ 34359738368)
    (h : ∀ A' n' c' w', Mine d e w0 w' (.slice A' n' c') (xs ++ ys) → K (a.put o.dst (.slice A' n' c')) w') : o.wp P a w K Q := by
  obtain ⟨news, hel, hA⟩ := hy.flat hf
  obtain ⟨⟨F, ho2, hF⟩, hn⟩ := hown
  refine wp_append w s x t ho d e ht hE hs ho2 hx hel hy.1 hA (by rw [flat_nil]; exact List.nodup_nil) (by rw [flat_nil]; intro k hk; cases hk) (by have := hy.1; omega) ?_
  intro A2 n2 c2 w2 F2 ho3 hn2 hm2 hF2
  exact h _ _ _ _ ⟨⟨F2, ho3, far_app hn hF (by rw [flat_nil]; simp) hF2⟩, New.app hn ho2 hF hm2⟩
theorem idxNode0 (g : Nat) (m c k : Nat) (h : k < m) (w : World) : (Instr.indexAt 23 (.slice (some ⟨g, 0, none⟩) m c) (.int .i64 (k : Int))).run Tryd.prog w = .ok (.pointer (some ⟨g, k * 2, none⟩)) w := by
  have e : (⟨g, 0, none⟩ : Addr).add (k * 2) = ⟨g, k * 2, none⟩ := by
    by_cases hk : k = 0
    · subst hk; rfl
    · simp [Addr.add]; omega
  rw [← e]
  exact idxNodeS ⟨g, 0, none⟩ m c k h w
theorem fptOp3 (p : Addr) (w : World) : (Instr.fieldAt 55 (.pointer (some p)) 3).run Tryd.prog w = .ok (.pointer (some ⟨p.block, p.off + 3, none⟩)) w := by go_simp
theorem stBytesD {w : World} {p : Addr} {u : Value} (h : w.cell? p = some u) (hf : w.frozen? p = false) (A : Option Addr) (n c : Nat) : (Instr.storeAt 32 (.pointer (some p)) (.slice A n c)).run Tryd.prog w = .ok () (w.setCell p (.slice A n c)) := by go_simp
theorem lenBD (A : Option Addr) (n c : Nat) (w : World) : ∀ ty, (invoke (.builtin .len #[32] ty #[false]) #[.slice A n c]).run Tryd.prog w = .ok (.value (.int .i64 (n : Int))) w := by intro ty; go_simp
theorem exec_lenD {P : Program} {o : Oper} {a : Act} {w : World} {k : Nat} {t : TypeId} {A : Option Addr} {n c : Nat} (ho : o.op = .call { callee := .builtin .len, args := #[.tmp k], argTypes := #[t] }) (hx : a.eval (.tmp k) = .slice A n c) (h : ∀ ty, (invoke (.builtin .len #[t] ty #[false]) #[.slice A n c]).run P w = .ok (.value (.int .i64 (n : Int))) w) : (execOp a.eval o).run P w = .ok (.value (.int .i64 (n : Int))) w := by
  unfold execOp; simp only [ho, resolve, Sem.run_bind, Sem.run_pure, Result.andThen_ok, List.map_toArray, List.map_cons, List.map_nil, hx, h]
theorem ldDiskS {w : World} {g : Nat} {c0 c1 c2 c3 c4 : Value} (h : Blk w g 27 [c0, c1, c2, c3, c4]) : (Instr.loadAt 27 (.pointer (some ⟨g, 0, none⟩))).run Tryd.prog w = .ok (.agg #[c0, c1, c2, c3, c4]) w := by
  have k0 : w.cell? ⟨g, 0, none⟩ = some c0 := h.cell 0
  have k1 : w.cell? ⟨g, 1, none⟩ = some c1 := h.cell 1
  have k2 : w.cell? ⟨g, 2, none⟩ = some c2 := h.cell 2
  have k3 : w.cell? ⟨g, 3, none⟩ = some c3 := h.cell 3
  have k4 : w.cell? ⟨g, 4, none⟩ = some c4 := h.cell 4
  go_simp
theorem addII {a b : Int} (hw : IntKind.i64.wrap (a + b) = a + b) (x y : Operand) (w : World) : (do eqGuard .add 3 x y (.int .i64 a) (.int .i64 b); binOp .add 3 (.int .i64 a) (.int .i64 b) : Sem Value).run Tryd.prog w = .ok (.int .i64 (a + b)) w := by go_simp
theorem gtrII (a b : Int) (x y : Operand) (w : World) : (do eqGuard .gtr 3 x y (.int .i64 a) (.int .i64 b); binOp .gtr 3 (.int .i64 a) (.int .i64 b) : Sem Value).run Tryd.prog w = .ok (.bool (decide (b < a))) w := by go_simp
theorem gtrFF {a b : Int} (h : a ≤ b) (x y : Operand) (w : World) : (do eqGuard .gtr 3 x y (.int .i64 a) (.int .i64 b); binOp .gtr 3 (.int .i64 a) (.int .i64 b) : Sem Value).run Tryd.prog w = .ok (.bool false) w := by
  have := gtrII a b x y w
  rw [decide_eq_false (Int.not_lt.2 h)] at this
  exact this
theorem Out4.base0 {X : Nat → Prop} {w : World} {A : Option Addr} {n c : Nat} {v1 v2 v3 : Value} {d : DiskT} (h : Out4 X w (.slice A n c) v1 v2 v3 d) {i : Nat} (hi : i < d.1.length) : ∃ g, A = some ⟨g, 0, none⟩ ∧ X g := by
  obtain ⟨g, e, hg, -⟩ := h.setSafe hi (s := 0) rfl
  exact ⟨g, e, hg⟩
set_option maxHeartbeats 8000000 in
set_option maxRecDepth 100000 in
theorem l1One_v {w : World} {X : Nat → Prop} {v0 v1 v2 v3 : Value} {d : DiskT} {N : Nat} (h : Out4 X w v0 v1 v2 v3 d) (hI : DInv N d) (hN : N ≤ 90000) {kd : Int} {nm tn dat : Bytes} {Ad : Option Addr} {dc : Nat} {B : Nat → Prop} (hk : IntKind.i64.wrap kd = kd) (hnm : nm.length ≤ 9223372036854775807) (htn : tn.length ≤ 9223372036854775807) (hrow : Row Ty.byte w B Ad dat.length dat) (hB : ∀ k, B k → k < w.heap.size ∧ ¬ X k) (hdat : dat.length ≤ 1048576) :
    Calls Tryd.prog 55 #[.agg #[v0, v1, v2, v3, .int .i64 d.2.2.2.2], .agg #[.int .i64 kd, .string ⟨nm.toArray⟩, .string ⟨tn.toArray⟩, .slice Ad dat.length dc]] w (RetOne X v0 v1 v2 v3 w (oneL d (kd, nm, tn, dat))) := by
  have HE := Sec.mk (oneL_eq d kd nm tn dat)
  generalize hres : oneL d (kd, nm, tn, dat) = res at *
  clear hres
  have HI := Sec.mk hI
  have hn := hI.names
  have hp := hI.pend
  have hnn := hI.nodes
  clear hI
  have HRD := Sec.mk h.rd
  have HQW : Sec (IntKind.i64.wrap d.2.2.2.2 = d.2.2.2.2) := ⟨by obtain ⟨F0, F1, F2, F3, o0, o1, o2, o3, hd, hX, hq⟩ := h; exact hq⟩
  obtain ⟨A0, c0, A1, c1, A2, c2, A3, c3, rfl, rfl, rfl, rfl, b0, b1, b2, b3⟩ := h.forms
  have HWK := Sec.mk (And.intro hk (And.intro hnm htn))
  have HBD := Sec.mk (((Blk.new w 27 [.slice A0 d.1.length c0, .slice A1 d.2.1.length c1, .slice A2 d.2.2.1.length c2, .slice A3 d.2.2.2.1.length c3, .int .i64 d.2.2.2.2]).alloc (.cells #[.int .i64 kd, .string ⟨nm.toArray⟩, .string ⟨tn.toArray⟩, .slice Ad dat.length dc] 55)).alloc (.cells zDisk.toArray 27))
  have HBO' := (Blk.new (w.alloc (.cells #[.slice A0 d.1.length c0, .slice A1 d.2.1.length c1, .slice A2 d.2.2.1.length c2, .slice A3 d.2.2.2.1.length c3, .int .i64 d.2.2.2.2] 27)) 55 [.int .i64 kd, .string ⟨nm.toArray⟩, .string ⟨tn.toArray⟩, .slice Ad dat.length dc]).alloc (.cells zDisk.toArray 27)
  have HBR' := Blk.new ((w.alloc (.cells #[.slice A0 d.1.length c0, .slice A1 d.2.1.length c1, .slice A2 d.2.2.1.length c2, .slice A3 d.2.2.2.1.length c3, .int .i64 d.2.2.2.2] 27)).alloc (.cells #[.int .i64 kd, .string ⟨nm.toArray⟩, .string ⟨tn.toArray⟩, .slice Ad dat.length dc] 55)) 27 zDisk
  have HM0 := Sec.mk ((((Mod.refl (fun _ => False) w).alloc (.cells #[.slice A0 d.1.length c0, .slice A1 d.2.1.length c1, .slice A2 d.2.2.1.length c2, .slice A3 d.2.2.2.1.length c3, .int .i64 d.2.2.2.2] 27)).alloc (.cells #[.int .i64 kd, .string ⟨nm.toArray⟩, .string ⟨tn.toArray⟩, .slice Ad dat.length dc] 55)).alloc (.cells zDisk.toArray 27))
  have hsz : ((((w.alloc (.cells #[.slice A0 d.1.length c0, .slice A1 d.2.1.length c1, .slice A2 d.2.2.1.length c2, .slice A3 d.2.2.2.1.length c3, .int .i64 d.2.2.2.2] 27)).alloc (.cells #[.int .i64 kd, .string ⟨nm.toArray⟩, .string ⟨tn.toArray⟩, .slice Ad dat.length dc] 55)).alloc (.cells zDisk.toArray 27))).heap.size = w.heap.size + 3 := by simp
  rw [show (w.alloc (.cells #[.slice A0 d.1.length c0, .slice A1 d.2.1.length c1, .slice A2 d.2.2.1.length c2, .slice A3 d.2.2.2.1.length c3, .int .i64 d.2.2.2.2] 27)).heap.size = w.heap.size + 1 by simp] at HBO'
  rw [show ((w.alloc (.cells #[.slice A0 d.1.length c0, .slice A1 d.2.1.length c1, .slice A2 d.2.2.1.length c2, .slice A3 d.2.2.2.1.length c3, .int .i64 d.2.2.2.2] 27)).alloc (.cells #[.int .i64 kd, .string ⟨nm.toArray⟩, .string ⟨tn.toArray⟩, .slice Ad dat.length dc] 55)).heap.size = w.heap.size + 1 + 1 by simp] at HBR'
  have HBO := Sec.mk HBO'
  have HBR := Sec.mk HBR'
  have HO := Sec.mk ((h.wide (X' := fun k => X k ∧ k < w.heap.size) (fun k h1 h2 => ⟨h2, h1⟩)).new HM0.out)
  have hrowN : Row dEntry w (· < w.heap.size) A1 d.2.1.length d.2.1 := by
    obtain ⟨F0, F1, F2, F3, o0, o1, -⟩ := h
    exact (o1.row rfl).mod (fun k hk => o1.lt k hk) (fun _ _ => rfl)
  have hrowD : Row dNode w (· < w.heap.size) A0 d.1.length d.1 := by
    obtain ⟨F0, F1, F2, F3, o0, o1, -⟩ := h
    exact (o0.row rfl).mod (fun k hk => o0.lt k hk) (fun _ _ => rfl)
  have HRN := Sec.mk hrowN
  have HRA := Sec.mk hrowD
  have HRO := Sec.mk hrow
  have HBB := Sec.mk hB
  have HOR := Sec.mk HI.out.ord
  have HSZ := Sec.mk hsz
  clear h hrow hrowN hrowD hB HBO' HBR' hk hnm htn hsz
  have hlt0 : w.heap.size < ((((w.alloc (.cells #[.slice A0 d.1.length c0, .slice A1 d.2.1.length c1, .slice A2 d.2.2.1.length c2, .slice A3 d.2.2.2.1.length c3, .int .i64 d.2.2.2.2] 27)).alloc (.cells #[.int .i64 kd, .string ⟨nm.toArray⟩, .string ⟨tn.toArray⟩, .slice Ad dat.length dc] 55)).alloc (.cells zDisk.toArray 27))).heap.size := by have := HSZ.out; omega
  go_enter Tryd.func55, Tryd.ntmps55
  go_upto_region 1 with (fail)
  generalize (((w.alloc (.cells #[.slice A0 d.1.length c0, .slice A1 d.2.1.length c1, .slice A2 d.2.2.1.length c2, .slice A3 d.2.2.2.1.length c3, .int .i64 d.2.2.2.2] 27)).alloc (.cells #[.int .i64 kd, .string ⟨nm.toArray⟩, .string ⟨tn.toArray⟩, .slice Ad dat.length dc] 55)).alloc (.cells zDisk.toArray 27)) = wz at *
  have hwz : w.heap.size + 3 ≤ wz.heap.size := by have := HSZ.out; omega
  have hwz2 : w.heap.size + 1 < wz.heap.size := by omega
  have hwz3 : w.heap.size + 1 + 1 < wz.heap.size := by omega
  have o0 : wz.cell? ⟨w.heap.size + 1, 0, none⟩ = some (.int .i64 kd) := HBO.out.cell 0
  have o1 : wz.cell? ⟨w.heap.size + 1, 1, none⟩ = some (.string ⟨nm.toArray⟩) := HBO.out.cell 1
  have o2 : wz.cell? ⟨w.heap.size + 1, 2, none⟩ = some (.string ⟨tn.toArray⟩) := HBO.out.cell 2
  have o3 : wz.cell? ⟨w.heap.size + 1, 3, none⟩ = some (.slice Ad dat.length dc) := HBO.out.cell 3
  have zd0 : wz.cell? ⟨w.heap.size, 0, none⟩ = some (.slice A0 d.1.length c0) := HBD.out.cell 0
  have zd1 : wz.cell? ⟨w.heap.size, 1, none⟩ = some (.slice A1 d.2.1.length c1) := HBD.out.cell 1
  have zd2 : wz.cell? ⟨w.heap.size, 2, none⟩ = some (.slice A2 d.2.2.1.length c2) := HBD.out.cell 2
  have zd3 : wz.cell? ⟨w.heap.size, 3, none⟩ = some (.slice A3 d.2.2.2.1.length c3) := HBD.out.cell 3
  have zd4 : wz.cell? ⟨w.heap.size, 4, none⟩ = some (.int .i64 d.2.2.2.2) := HBD.out.cell 4
  have zr0 : wz.cell? ⟨w.heap.size + 1 + 1, 0, none⟩ = some (.slice none 0 0) := HBR.out.cell 0
  have zf0 : wz.frozen? ⟨w.heap.size + 1 + 1, 0, none⟩ = false := HBR.out.frozen 0
  have zr1 : wz.cell? ⟨w.heap.size + 1 + 1, 1, none⟩ = some (.slice none 0 0) := HBR.out.cell 1
  have zf1 : wz.frozen? ⟨w.heap.size + 1 + 1, 1, none⟩ = false := HBR.out.frozen 1
  have zr2 : wz.cell? ⟨w.heap.size + 1 + 1, 2, none⟩ = some (.slice none 0 0) := HBR.out.cell 2
  have zf2 : wz.frozen? ⟨w.heap.size + 1 + 1, 2, none⟩ = false := HBR.out.frozen 2
  have zr3 : wz.cell? ⟨w.heap.size + 1 + 1, 3, none⟩ = some (.slice none 0 0) := HBR.out.cell 3
  have zf3 : wz.frozen? ⟨w.heap.size + 1 + 1, 3, none⟩ = false := HBR.out.frozen 3
  have zr4 : wz.cell? ⟨w.heap.size + 1 + 1, 4, none⟩ = some (.int .i64 0) := HBR.out.cell 4
  have zf4 : wz.frozen? ⟨w.heap.size + 1 + 1, 4, none⟩ = false := HBR.out.frozen 4
  by_cases hkr : kd < 1 ∨ 6 < kd
  · have HF : Sec (res = (d, 2)) := ⟨HE.out.trans (if_pos hkr)⟩
    rcases hkr with hkr | hkr
    · have HFB := Sec.mk (set5_blk HBR.out (.slice A0 d.1.length c0) (.slice A1 d.2.1.length c1) (.slice A2 d.2.2.1.length c2) (.slice A3 d.2.2.2.1.length c3) (.int .i64 d.2.2.2.2))
      have HFM := set5_mod wz (w.heap.size + 1 + 1) (.slice A0 d.1.length c0) (.slice A1 d.2.1.length c1) (.slice A2 d.2.2.1.length c2) (.slice A3 d.2.2.2.1.length c3) (.int .i64 d.2.2.2.2)
      have H4 := Sec.mk (HO.out.keep HFM (fun k h e => by omega))
      have HMG := Sec.mk ((HM0.out.mono (T := X) (fun i hlt h => h.elim)).trans HFM (fun i hi hlt => by omega))
      clear HFM
      go_wp2
      refine bodyPost_ret (results_blk2 rfl rfl rfl HFB.out Tryd.underlying27 (by kernel_rfl)) rfl ?_
      rw [HF.out]
      exact ⟨_, _, _, _, rfl, H4.out.wide (fun k _ h => Or.inl h.1), HMG.out, fun _ => ⟨rfl, rfl, rfl, rfl⟩⟩
    · have hk1 : ¬ kd < 1 := by omega
      have HFB := Sec.mk (set5_blk HBR.out (.slice A0 d.1.length c0) (.slice A1 d.2.1.length c1) (.slice A2 d.2.2.1.length c2) (.slice A3 d.2.2.2.1.length c3) (.int .i64 d.2.2.2.2))
      have HFM := set5_mod wz (w.heap.size + 1 + 1) (.slice A0 d.1.length c0) (.slice A1 d.2.1.length c1) (.slice A2 d.2.2.1.length c2) (.slice A3 d.2.2.2.1.length c3) (.int .i64 d.2.2.2.2)
      have H4 := Sec.mk (HO.out.keep HFM (fun k h e => by omega))
      have HMG := Sec.mk ((HM0.out.mono (T := X) (fun i hlt h => h.elim)).trans HFM (fun i hi hlt => by omega))
      clear HFM
      go_wp2
      refine bodyPost_ret (results_blk2 rfl rfl rfl HFB.out Tryd.underlying27 (by kernel_rfl)) rfl ?_
      rw [HF.out]
      exact ⟨_, _, _, _, rfl, H4.out.wide (fun k _ h => Or.inl h.1), HMG.out, fun _ => ⟨rfl, rfl, rfl, rfl⟩⟩
  have HE1 : Sec (res = if kd = 6 then (settleL d, 0)
    else if goodL nm = false ∨ (kd = 4 ∧ goodL tn = false) then (d, 3)
    else if kd = 1 then
      (if 600 ≤ d.1.length ∨ 1000 ≤ d.2.2.2.1.length ∨ (hasE d.2.1 nm = false ∧ 300 ≤ d.2.1.length) then (d, 6)
       else (dirL (d.1 ++ [([], 0)], d.2) (1, nm, [], (d.1.length : Int)), 0))
    else if hasE d.2.1 nm = false then (d, 4)
    else if kd = 2 then
      (if d.2.2.2.2 < (usedL d : Int) + (dat.length : Int) then (d, 5)
       else if 40000 < (nodeAt d (nodeOf d nm)).1.length + dat.length ∨ 200000 < sumD d.1 + dat.length then (d, 6)
       else (withNode d (nodeOf d nm) ((nodeAt d (nodeOf d nm)).1 ++ dat, (nodeAt d (nodeOf d nm)).2), 0))
    else if kd = 3 then (withNode d (nodeOf d nm) ((nodeAt d (nodeOf d nm)).1, ((nodeAt d (nodeOf d nm)).1.length : Int)), 0)
    else if kd = 4 ∧ tn = nm then (d, 0)
    else if 1000 ≤ d.2.2.2.1.length then (d, 6)
    else (dirL d (kd, nm, if kd = 4 then tn else [], 0), 0)) := ⟨HE.out.trans (if_neg hkr)⟩
  have hk1 : ¬ kd < 1 := by omega
  have hk2 : ¬ 6 < kd := by omega
  clear HE hkr
  by_cases hk6 : kd = 6
  · subst hk6
    have HF : Sec (res = (settleL d, 0)) := ⟨HE1.out.trans (if_pos rfl)⟩
    go_wp2_with fail
    refine (l1Settle_v (HRD.out.step HM0.out) HI.out (by omega)).mono ?_
    rintro e w2 ⟨u0, u1, u2, u3, rfl, ho2, hm2⟩
    obtain ⟨E0, g0, E1, g1, E2, g2, E3, g3, rfl, rfl, rfl, rfl, -⟩ := ho2.forms
    have HO2 := Sec.mk ho2
    have HBR2 := Sec.mk (HBR.out.mod hm2 id)
    have HM2 := Sec.mk (HM0.out.transN hm2)
    have hs2 := hm2.size
    clear ho2 hm2 zr0 zr1 zr2 zr3 zr4 zf0 zf1 zf2 zf3 zf4
    have yr0 : w2.cell? ⟨w.heap.size + 1 + 1, 0, none⟩ = some (.slice none 0 0) := HBR2.out.cell 0
    have yf0 : w2.frozen? ⟨w.heap.size + 1 + 1, 0, none⟩ = false := HBR2.out.frozen 0
    have yr1 : w2.cell? ⟨w.heap.size + 1 + 1, 1, none⟩ = some (.slice none 0 0) := HBR2.out.cell 1
    have yf1 : w2.frozen? ⟨w.heap.size + 1 + 1, 1, none⟩ = false := HBR2.out.frozen 1
    have yr2 : w2.cell? ⟨w.heap.size + 1 + 1, 2, none⟩ = some (.slice none 0 0) := HBR2.out.cell 2
    have yf2 : w2.frozen? ⟨w.heap.size + 1 + 1, 2, none⟩ = false := HBR2.out.frozen 2
    have yr3 : w2.cell? ⟨w.heap.size + 1 + 1, 3, none⟩ = some (.slice none 0 0) := HBR2.out.cell 3
    have yf3 : w2.frozen? ⟨w.heap.size + 1 + 1, 3, none⟩ = false := HBR2.out.frozen 3
    have yr4 : w2.cell? ⟨w.heap.size + 1 + 1, 4, none⟩ = some (.int .i64 0) := HBR2.out.cell 4
    have yf4 : w2.frozen? ⟨w.heap.size + 1 + 1, 4, none⟩ = false := HBR2.out.frozen 4
    have hwy : w.heap.size + 1 + 1 < w2.heap.size := by omega
    have HFB := Sec.mk (set5_blk HBR2.out (.slice E0 (settleL d).1.length g0) (.slice E1 (settleL d).2.1.length g1) (.slice E2 (settleL d).2.2.1.length g2) (.slice E3 (settleL d).2.2.2.1.length g3) (.int .i64 (settleL d).2.2.2.2))
    have HFM := set5_mod w2 (w.heap.size + 1 + 1) (.slice E0 (settleL d).1.length g0) (.slice E1 (settleL d).2.1.length g1) (.slice E2 (settleL d).2.2.1.length g2) (.slice E3 (settleL d).2.2.2.1.length g3) (.int .i64 (settleL d).2.2.2.2)
    have H4 := Sec.mk (HO2.out.keep HFM (fun k h e => by omega))
    have HMG := Sec.mk ((HM2.out.mono (T := X) (fun i hlt h => h.elim)).trans HFM (fun i hi hlt => by omega))
    clear HFM
    go_wp2
    refine bodyPost_ret (results_blk2 rfl rfl rfl HFB.out Tryd.underlying27 (by kernel_rfl)) rfl ?_
    rw [HF.out]
    exact ⟨_, _, _, _, rfl, H4.out.wide (fun k _ h => Or.inr (by omega)), HMG.out, fun h => absurd rfl h⟩
  have HE2 : Sec (res = if goodL nm = false ∨ (kd = 4 ∧ goodL tn = false) then (d, 3)
    else if kd = 1 then
      (if 600 ≤ d.1.length ∨ 1000 ≤ d.2.2.2.1.length ∨ (hasE d.2.1 nm = false ∧ 300 ≤ d.2.1.length) then (d, 6)
       else (dirL (d.1 ++ [([], 0)], d.2) (1, nm, [], (d.1.length : Int)), 0))
    else if hasE d.2.1 nm = false then (d, 4)
    else if kd = 2 then
      (if d.2.2.2.2 < (usedL d : Int) + (dat.length : Int) then (d, 5)
       else if 40000 < (nodeAt d (nodeOf d nm)).1.length + dat.length ∨ 200000 < sumD d.1 + dat.length then (d, 6)
       else (withNode d (nodeOf d nm) ((nodeAt d (nodeOf d nm)).1 ++ dat, (nodeAt d (nodeOf d nm)).2), 0))
    else if kd = 3 then (withNode d (nodeOf d nm) ((nodeAt d (nodeOf d nm)).1, ((nodeAt d (nodeOf d nm)).1.length : Int)), 0)
    else if kd = 4 ∧ tn = nm then (d, 0)
    else if 1000 ≤ d.2.2.2.1.length then (d, 6)
    else (dirL d (kd, nm, if kd = 4 then tn else [], 0), 0)) := ⟨HE1.out.trans (if_neg hk6)⟩
  have hk6b : (kd == 6) = false := by simp only [beq_eq_false_iff_ne]; exact hk6
  clear HE1
  go_upto_region 5 with (fail)
  go_cut [38] (fun b wx => b = .bool (!goodL nm || (decide (kd = 4) && !goodL tn)) ∧ wx = wz)
  case first =>
    go_wp2_with fail
    refine (goodS_calls nm HWK.out.2.1 wz).mono ?_
    rintro e w2 ⟨rfl, rfl⟩
    cases hg : goodL nm
    · go_wp2
      go_meet
      exact ⟨by simp [hg], rfl⟩
    by_cases h4 : kd = 4
    · subst h4
      go_wp2_with fail
      refine (goodS_calls tn HWK.out.2.2 w2).mono ?_
      rintro e w3 ⟨rfl, rfl⟩
      cases hgt : goodL tn
      · go_wp2
        go_meet
        exact ⟨by simp [hg, hgt], rfl⟩
      · go_wp2
        go_meet
        exact ⟨by simp [hg, hgt], rfl⟩
    · have hk4b : (kd == 4) = false := by simp only [beq_eq_false_iff_ne]; exact h4
      go_wp2
      go_meet
      exact ⟨by simp [hg, h4], rfl⟩
  case rest =>
    obtain ⟨rfl, hwx⟩ := hcut
    obtain rfl : wz = wc := hwx.symm
    cases hbad : (!goodL nm || (decide (kd = 4) && !goodL tn))
    rotate_left
    · have HF : Sec (res = (d, 3)) := ⟨HE2.out.trans (if_pos (by simpa using hbad))⟩
      have HFB := Sec.mk (set5_blk HBR.out (.slice A0 d.1.length c0) (.slice A1 d.2.1.length c1) (.slice A2 d.2.2.1.length c2) (.slice A3 d.2.2.2.1.length c3) (.int .i64 d.2.2.2.2))
      have HFM := set5_mod wz (w.heap.size + 1 + 1) (.slice A0 d.1.length c0) (.slice A1 d.2.1.length c1) (.slice A2 d.2.2.1.length c2) (.slice A3 d.2.2.2.1.length c3) (.int .i64 d.2.2.2.2)
      have H4 := Sec.mk (HO.out.keep HFM (fun k h e => by omega))
      have HMG := Sec.mk ((HM0.out.mono (T := X) (fun i hlt h => h.elim)).trans HFM (fun i hi hlt => by omega))
      clear HFM
      go_wp2
      refine bodyPost_ret (results_blk2 rfl rfl rfl HFB.out Tryd.underlying27 (by kernel_rfl)) rfl ?_
      rw [HF.out]
      exact ⟨_, _, _, _, rfl, H4.out.wide (fun k _ h => Or.inl h.1), HMG.out, fun _ => ⟨rfl, rfl, rfl, rfl⟩⟩
    have HE3 : Sec (res = if kd = 1 then
        (if 600 ≤ d.1.length ∨ 1000 ≤ d.2.2.2.1.length ∨ (hasE d.2.1 nm = false ∧ 300 ≤ d.2.1.length) then (d, 6)
         else (dirL (d.1 ++ [([], 0)], d.2) (1, nm, [], (d.1.length : Int)), 0))
      else if hasE d.2.1 nm = false then (d, 4)
      else if kd = 2 then
        (if d.2.2.2.2 < (usedL d : Int) + (dat.length : Int) then (d, 5)
         else if 40000 < (nodeAt d (nodeOf d nm)).1.length + dat.length ∨ 200000 < sumD d.1 + dat.length then (d, 6)
         else (withNode d (nodeOf d nm) ((nodeAt d (nodeOf d nm)).1 ++ dat, (nodeAt d (nodeOf d nm)).2), 0))
      else if kd = 3 then (withNode d (nodeOf d nm) ((nodeAt d (nodeOf d nm)).1, ((nodeAt d (nodeOf d nm)).1.length : Int)), 0)
      else if kd = 4 ∧ tn = nm then (d, 0)
      else if 1000 ≤ d.2.2.2.1.length then (d, 6)
      else (dirL d (kd, nm, if kd = 4 then tn else [], 0), 0)) := ⟨HE2.out.trans (if_neg (by intro h; rw [show (!goodL nm || (decide (kd = 4) && !goodL tn)) = true by simpa using h] at hbad; cases hbad))⟩
    clear HE2 hbad
    go_wp2_with fail
    refine (l1Find_calls (HRN.out.mod (w' := wz) (fun _ h => h) (fun k hk => HM0.out.block k hk id)) nm).mono ?_
    rintro e w2 ⟨rfl, hw2⟩
    obtain rfl : wz = w2 := hw2.symm
    have HAT : Sec ((hasE d.2.1 nm = false ∧ findE d.2.1 nm = -1) ∨ (hasE d.2.1 nm = true ∧ findE d.2.1 nm = (placeE d.2.1 nm : Int))) := ⟨by
      cases hh : hasE d.2.1 nm
      · exact Or.inl ⟨rfl, find_neg HOR.out hh⟩
      · exact Or.inr ⟨rfl, find_pos HOR.out hh⟩⟩
    generalize findE d.2.1 nm = at' at *
    by_cases hkk1 : kd = 1
    · subst hkk1
      have HE4 : Sec (res = if 600 ≤ d.1.length ∨ 1000 ≤ d.2.2.2.1.length ∨ (hasE d.2.1 nm = false ∧ 300 ≤ d.2.1.length) then (d, 6)
         else (dirL (d.1 ++ [([], 0)], d.2) (1, nm, [], (d.1.length : Int)), 0)) := ⟨HE3.out.trans (if_pos rfl)⟩
      clear HE3
      go_upto_region 9 with (fail)
      go_cut [67] (fun b wx => b = .bool (decide (600 ≤ d.1.length ∨ 1000 ≤ d.2.2.2.1.length ∨ (hasE d.2.1 nm = false ∧ 300 ≤ d.2.1.length))) ∧ wx = wz)
      case first =>
        by_cases h600 : 600 ≤ d.1.length
        · have h600i : (600 : Int) ≤ (d.1.length : Int) := by omega
          go_wp2
          go_meet
          exact ⟨by simp [h600], rfl⟩
        have h600i : ¬ (600 : Int) ≤ (d.1.length : Int) := by omega
        by_cases h1000 : 1000 ≤ d.2.2.2.1.length
        · have h1000i : (1000 : Int) ≤ (d.2.2.2.1.length : Int) := by omega
          go_wp2
          go_meet
          exact ⟨by simp [h1000], rfl⟩
        have h1000i : ¬ (1000 : Int) ≤ (d.2.2.2.1.length : Int) := by omega
        rcases HAT.out with ⟨hh, hat⟩ | ⟨hh, hat⟩
        · have hati : at' < 0 := by omega
          by_cases h300 : 300 ≤ d.2.1.length
          · have h300i : (300 : Int) ≤ (d.2.1.length : Int) := by omega
            clear hat
            go_wp2
            go_meet
            exact ⟨by simp [h300, hh], rfl⟩
          · have h300i : ¬ (300 : Int) ≤ (d.2.1.length : Int) := by omega
            clear hat
            go_wp2
            go_meet
            exact ⟨by simp [h300, h600, h1000], rfl⟩
        · have hati : ¬ at' < 0 := by omega
          clear hat
          go_wp2
          go_meet
          exact ⟨by simp [hh, h600, h1000], rfl⟩
      case rest =>
        obtain ⟨rfl, hwx⟩ := hcut
        obtain rfl : wz = wc := hwx.symm
        by_cases hfull : (600 ≤ d.1.length ∨ 1000 ≤ d.2.2.2.1.length ∨ (hasE d.2.1 nm = false ∧ 300 ≤ d.2.1.length))
        · have HF : Sec (res = (d, 6)) := ⟨HE4.out.trans (if_pos hfull)⟩
          rw [decide_eq_true hfull]
          clear hfull
          have HFB := Sec.mk (set5_blk HBR.out (.slice A0 d.1.length c0) (.slice A1 d.2.1.length c1) (.slice A2 d.2.2.1.length c2) (.slice A3 d.2.2.2.1.length c3) (.int .i64 d.2.2.2.2))
          have HFM := set5_mod wz (w.heap.size + 1 + 1) (.slice A0 d.1.length c0) (.slice A1 d.2.1.length c1) (.slice A2 d.2.2.1.length c2) (.slice A3 d.2.2.2.1.length c3) (.int .i64 d.2.2.2.2)
          have H4 := Sec.mk (HO.out.keep HFM (fun k h e => by omega))
          have HMG := Sec.mk ((HM0.out.mono (T := X) (fun i hlt h => h.elim)).trans HFM (fun i hi hlt => by omega))
          clear HFM
          go_wp2
          refine bodyPost_ret (results_blk2 rfl rfl rfl HFB.out Tryd.underlying27 (by kernel_rfl)) rfl ?_
          rw [HF.out]
          exact ⟨_, _, _, _, rfl, H4.out.wide (fun k _ h => Or.inl h.1), HMG.out, fun _ => ⟨rfl, rfl, rfl, rfl⟩⟩
        have HF : Sec (res = (dirL (d.1 ++ [([], 0)], d.2) (1, nm, [], (d.1.length : Int)), 0)) := ⟨HE4.out.trans (if_neg hfull)⟩
        rw [decide_eq_false hfull]
        have hn6 : d.1.length < 600 := by omega
        clear hfull
        have HZM : Sec (∀ W, dNode.M W [] (([], 0) : NodeT) [.slice none 0 0, .int .i64 0]) := ⟨fun W => zmNode W⟩
        go_wp2_with (at_builtin; go_loud (refine Out4.list0 (X := fun k => (X k ∧ k < w.heap.size) ∨ w.heap.size + 3 ≤ k) (y := ([], 0)) (G := []) _ rfl (.tmp 70) (.tmp 72) _ rfl Tryd.underlying23 rfl rfl (HO.out.new ((Mod.refl _ _).alloc _)) (HZM.out _) (by simp) (lit_cells _ _ _ rfl) (fun k hk => Or.inl hk) (fun k hk => by simp at hk; exact Or.inr (by omega)) (by omega) ?_; intro A5 n5 c5 w5 h5 hm5; have HO5 := Sec.mk h5; have HM5 := Sec.mk (((HM0.out.alloc _).mono (T := X) (fun i hlt h => h.elim)).trans hm5 (fun i hi hlt => hi.1)); have HBD5 := Sec.mk ((HBD.out.alloc _).mod hm5 (by omega)); have HBO5 := Sec.mk ((HBO.out.alloc _).mod hm5 (by omega)); have HBR5 := Sec.mk ((HBR.out.alloc _).mod hm5 (by omega)); have hw5 : w.heap.size + 3 ≤ w5.heap.size := (by have := hm5.size; simp at this; omega); clear h5 hm5; have e0 : w5.cell? ⟨w.heap.size, 0, none⟩ = some (.slice A0 d.1.length c0) := HBD5.out.cell 0; have ef0 : w5.frozen? ⟨w.heap.size, 0, none⟩ = false := HBD5.out.frozen 0; have e1 : w5.cell? ⟨w.heap.size, 1, none⟩ = some (.slice A1 d.2.1.length c1) := HBD5.out.cell 1; have e2 : w5.cell? ⟨w.heap.size, 2, none⟩ = some (.slice A2 d.2.2.1.length c2) := HBD5.out.cell 2; have e3 : w5.cell? ⟨w.heap.size, 3, none⟩ = some (.slice A3 d.2.2.2.1.length c3) := HBD5.out.cell 3; have e4 : w5.cell? ⟨w.heap.size, 4, none⟩ = some (.int .i64 d.2.2.2.2) := HBD5.out.cell 4; have eo0 : w5.cell? ⟨w.heap.size + 1, 0, none⟩ = some (.int .i64 1) := HBO5.out.cell 0; have eo1 : w5.cell? ⟨w.heap.size + 1, 1, none⟩ = some (.string ⟨nm.toArray⟩) := HBO5.out.cell 1; have hwa : w.heap.size < w5.heap.size := (by omega); have hwb : w.heap.size + 1 < w5.heap.size := (by omega); have hwc : w.heap.size + 1 + 1 < w5.heap.size := (by omega))
          )
        have hn5 : n5 = d.1.length + 1 := by
          obtain ⟨_, _, _, _, _, _, _, _, e, -⟩ := HO5.out.forms
          cases e; simp
        subst hn5
        have hm6 : Mod (fun k => k = w.heap.size) w5 (w5.setCell ⟨w.heap.size, 0, none⟩ (.slice A5 (d.1.length + 1) c5)) := (Mod.refl (fun k => k = w.heap.size) w5).setCell (p := ⟨w.heap.size, 0, none⟩) (fun _ => rfl) _
        have HO6 := Sec.mk (HO5.out.keep hm6 (fun k h e => by omega))
        have HM6 := Sec.mk (HM5.out.trans hm6 (fun i hi hlt => by omega))
        have HBR6 := Sec.mk (HBR5.out.mod hm6 (by omega))
        have hs6 : w5.heap.size ≤ (w5.setCell ⟨w.heap.size, 0, none⟩ (.slice A5 (d.1.length + 1) c5)).heap.size := hm6.size
        clear hm6
        generalize w5.setCell ⟨w.heap.size, 0, none⟩ (.slice A5 (d.1.length + 1) c5) = w6 at *
        have hi6 := HI.out.push hn6
        have hw1 : wrap64 (((d.1.length + 1 : Nat) : Int) - 1) = (d.1.length : Int) := by rw [show ((d.1.length + 1 : Nat) : Int) - 1 = (d.1.length : Int) by omega]; unfold wrap64; omega
        have hwr : IntKind.i64.wrap (d.1.length : Int) = (d.1.length : Int) := by rw [IntKind.wrap_i64]; omega
        rw [hw1]
        refine (l1Dir_v (d := (d.1 ++ [([], 0)], d.2)) HO6.out hi6 (by omega) (1, nm, [], (d.1.length : Int)) (show IntKind.i64.wrap 1 = 1 by decide) HWK.out.2.1 (by simp) hwr).mono ?_
        clear hi6 hw1 hwr
        generalize dirL (d.1 ++ [([], 0)], d.2) (1, nm, [], (d.1.length : Int)) = dd at *
        rintro e w7 ⟨u0, u1, u2, u3, rfl, ho7, hm7⟩
        obtain ⟨E0, g0, E1, g1, E2, g2, E3, g3, rfl, rfl, rfl, rfl, -⟩ := ho7.forms
        have HO2 := Sec.mk ho7
        have HBR2 := Sec.mk (HBR6.out.mod hm7 (by omega))
        have HM2 := Sec.mk (HM6.out.trans hm7 (fun i hi hlt => by rcases hi with hi | hi <;> first | exact hi.1 | exact absurd hlt (by omega)))
        have hs2 := hm7.size
        clear ho7 hm7
        have yr0 : w7.cell? ⟨w.heap.size + 1 + 1, 0, none⟩ = some (.slice none 0 0) := HBR2.out.cell 0
        have yf0 : w7.frozen? ⟨w.heap.size + 1 + 1, 0, none⟩ = false := HBR2.out.frozen 0
        have yr1 : w7.cell? ⟨w.heap.size + 1 + 1, 1, none⟩ = some (.slice none 0 0) := HBR2.out.cell 1
        have yf1 : w7.frozen? ⟨w.heap.size + 1 + 1, 1, none⟩ = false := HBR2.out.frozen 1
        have yr2 : w7.cell? ⟨w.heap.size + 1 + 1, 2, none⟩ = some (.slice none 0 0) := HBR2.out.cell 2
        have yf2 : w7.frozen? ⟨w.heap.size + 1 + 1, 2, none⟩ = false := HBR2.out.frozen 2
        have yr3 : w7.cell? ⟨w.heap.size + 1 + 1, 3, none⟩ = some (.slice none 0 0) := HBR2.out.cell 3
        have yf3 : w7.frozen? ⟨w.heap.size + 1 + 1, 3, none⟩ = false := HBR2.out.frozen 3
        have yr4 : w7.cell? ⟨w.heap.size + 1 + 1, 4, none⟩ = some (.int .i64 0) := HBR2.out.cell 4
        have yf4 : w7.frozen? ⟨w.heap.size + 1 + 1, 4, none⟩ = false := HBR2.out.frozen 4
        have hwy : w.heap.size + 1 + 1 < w7.heap.size := by omega
        have HFB := Sec.mk (set5_blk HBR2.out (.slice E0 dd.1.length g0) (.slice E1 dd.2.1.length g1) (.slice E2 dd.2.2.1.length g2) (.slice E3 dd.2.2.2.1.length g3) (.int .i64 dd.2.2.2.2))
        have HFM := set5_mod w7 (w.heap.size + 1 + 1) (.slice E0 dd.1.length g0) (.slice E1 dd.2.1.length g1) (.slice E2 dd.2.2.1.length g2) (.slice E3 dd.2.2.2.1.length g3) (.int .i64 dd.2.2.2.2)
        have H4 := Sec.mk (HO2.out.keep HFM (fun k h e => by omega))
        have HMG := Sec.mk (HM2.out.trans HFM (fun i hi hlt => by omega))
        clear HFM
        go_wp2
        refine bodyPost_ret (results_blk2 rfl rfl rfl HFB.out Tryd.underlying27 (by kernel_rfl)) rfl ?_
        rw [HF.out]
        exact ⟨_, _, _, _, rfl, H4.out.wide (fun k _ h => by rcases h with (h | h) | h <;> first | exact Or.inl h.1 | exact Or.inr (by omega)), HMG.out, fun h => absurd rfl h⟩
    have HE5 : Sec (res = if hasE d.2.1 nm = false then (d, 4)
      else if kd = 2 then
        (if d.2.2.2.2 < (usedL d : Int) + (dat.length : Int) then (d, 5)
         else if 40000 < (nodeAt d (nodeOf d nm)).1.length + dat.length ∨ 200000 < sumD d.1 + dat.length then (d, 6)
         else (withNode d (nodeOf d nm) ((nodeAt d (nodeOf d nm)).1 ++ dat, (nodeAt d (nodeOf d nm)).2), 0))
      else if kd = 3 then (withNode d (nodeOf d nm) ((nodeAt d (nodeOf d nm)).1, ((nodeAt d (nodeOf d nm)).1.length : Int)), 0)
      else if kd = 4 ∧ tn = nm then (d, 0)
      else if 1000 ≤ d.2.2.2.1.length then (d, 6)
      else (dirL d (kd, nm, if kd = 4 then tn else [], 0), 0)) := ⟨HE3.out.trans (if_neg hkk1)⟩
    clear HE3
    rcases HAT.out with ⟨hh, hat⟩ | ⟨hh, hat⟩
    · have hati : at' < 0 := by omega
      have HF : Sec (res = (d, 4)) := ⟨HE5.out.trans (if_pos hh)⟩
      clear hat hh
      have HFB := Sec.mk (set5_blk HBR.out (.slice A0 d.1.length c0) (.slice A1 d.2.1.length c1) (.slice A2 d.2.2.1.length c2) (.slice A3 d.2.2.2.1.length c3) (.int .i64 d.2.2.2.2))
      have HFM := set5_mod wz (w.heap.size + 1 + 1) (.slice A0 d.1.length c0) (.slice A1 d.2.1.length c1) (.slice A2 d.2.2.1.length c2) (.slice A3 d.2.2.2.1.length c3) (.int .i64 d.2.2.2.2)
      have H4 := Sec.mk (HO.out.keep HFM (fun k h e => by omega))
      have HMG := Sec.mk ((HM0.out.mono (T := X) (fun i hlt h => h.elim)).trans HFM (fun i hi hlt => by omega))
      clear HFM
      go_wp2
      refine bodyPost_ret (results_blk2 rfl rfl rfl HFB.out Tryd.underlying27 (by kernel_rfl)) rfl ?_
      rw [HF.out]
      exact ⟨_, _, _, _, rfl, H4.out.wide (fun k _ h => Or.inl h.1), HMG.out, fun _ => ⟨rfl, rfl, rfl, rfl⟩⟩
    have HNO : Sec (nodeOf d nm = (d.2.1[placeE d.2.1 nm]?.getD ([], 0)).2) := ⟨rfl⟩
    have HNA : Sec (∀ i, nodeAt d i = d.1[i.toNat]?.getD ([], 0)) := ⟨fun _ => rfl⟩
    have HE6 : Sec (res = if kd = 2 then
        (if d.2.2.2.2 < (usedL d : Int) + (dat.length : Int) then (d, 5)
         else if 40000 < (nodeAt d (nodeOf d nm)).1.length + dat.length ∨ 200000 < sumD d.1 + dat.length then (d, 6)
         else (withNode d (nodeOf d nm) ((nodeAt d (nodeOf d nm)).1 ++ dat, (nodeAt d (nodeOf d nm)).2), 0))
      else if kd = 3 then (withNode d (nodeOf d nm) ((nodeAt d (nodeOf d nm)).1, ((nodeAt d (nodeOf d nm)).1.length : Int)), 0)
      else if kd = 4 ∧ tn = nm then (d, 0)
      else if 1000 ≤ d.2.2.2.1.length then (d, 6)
      else (dirL d (kd, nm, if kd = 4 then tn else [], 0), 0)) := ⟨HE5.out.trans (if_neg (by rw [hh]; simp))⟩
    clear HE5
    obtain ⟨hplt, hpn⟩ := (place_at HOR.out nm).1.mp hh
    have hnb := HI.out.inr _ (List.getElem_mem hplt)
    obtain ⟨ad, rfl, -, e1, -, -⟩ := ent_at (HRN.out.mod (w' := wz) (fun _ h => h) (fun k hk => HM0.out.block k hk id)) (w' := wz) (fun _ _ => rfl) hplt
    rw [List.getElem?_eq_getElem hplt] at HNO
    have HNO2 : Sec (nodeOf d nm = (d.2.1[placeE d.2.1 nm]'hplt).2) := ⟨HNO.out⟩
    clear HNO HAT hpn hh
    generalize (d.2.1[placeE d.2.1 nm]'hplt).2 = u at *
    generalize placeE d.2.1 nm = pl at *
    obtain ⟨nd, rfl⟩ := Int.eq_ofNat_of_zero_le hnb.1
    have hnl : nd < d.1.length := by have := hnb.2; omega
    have hpi : (pl : Int) < (d.2.1.length : Int) := by omega
    have hni : (nd : Int) < (d.1.length : Int) := by omega
    rw [HNO2.out] at HE6
    have HNX : Sec (nodeAt d (nd : Int) = d.1[nd]) := ⟨by rw [HNA.out]; show d.1[nd]?.getD ([], 0) = _; rw [List.getElem?_eq_getElem hnl]; rfl⟩
    rw [HNX.out] at HE6
    clear HNX HNA HNO2
    obtain ⟨bd, A', c', rfl, n0, n1, hcc, hcm, hrow, hw⟩ := node_at (HRA.out.mod (w' := wz) (fun _ h => h) (fun k hk => HM0.out.block k hk id)) (w' := wz) (fun _ _ => rfl) hnl
    have hdl := HI.out.len _ (List.getElem_mem hnl)
    have HRDA := Sec.mk hrow
    have HSW := Sec.mk hw
    clear hrow hw hnb
    have hatn : ¬ (pl : Int) < 0 := by omega
    subst hat
    have hul2 : usedL d ≤ 40000 * 90000 := by
      have h1 := used_le HI.out d.2.1.length
      rw [List.take_length] at h1
      have h2 : usedL d ≤ 40000 * d.2.1.length := h1
      omega
    go_upto_region 17 with (fail)
    by_cases hkk3 : kd = 3
    · subst hkk3
      have HF : Sec (res = (withNode d (nd : Int) (d.1[nd].1, (d.1[nd].1.length : Int)), 0)) := ⟨(HE6.out.trans (if_neg (by decide))).trans (if_pos rfl)⟩
      clear HE6
      obtain ⟨g, hbg, hXg, ⟨u', hc⟩, hfz, hO7⟩ := HO.out.setSafe hnl (s := (d.1[nd].1.length : Int)) (by rw [IntKind.wrap_i64]; omega)
      have hba : bd.add (nd * 2) = ⟨g, nd * 2, none⟩ := by
        obtain rfl : bd = ⟨g, 0, none⟩ := by simpa using hbg
        by_cases hk : nd = 0
        · subst hk; rfl
        · simp [Addr.add]; omega
      have nf1 : wz.frozen? ⟨(bd.add (nd * 2)).block, (bd.add (nd * 2)).off + 1, none⟩ = false := by rw [hba]; exact hfz
      have HBA := Sec.mk hba
      have HBG := Sec.mk hbg
      have HXG := Sec.mk hXg
      have HO7 := Sec.mk hO7
      clear hba hbg hXg hc hfz hO7 n0
      go_upto_region 27 with (fail)
      rw [HBA.out]
      dsimp only
      obtain rfl : bd = ⟨g, 0, none⟩ := by simpa using HBG.out
      clear HBA HBG nf1 n1 e1
      have hm7 : Mod (fun k => k = g) wz (wz.setCell ⟨g, nd * 2 + 1, none⟩ (.int .i64 (d.1[nd].1.length : Int))) := (Mod.refl (fun k => k = g) wz).setCell (p := ⟨g, nd * 2 + 1, none⟩) (fun _ => rfl) _
      have HO2' : Sec (Out4 (fun k => (X k ∧ k < w.heap.size) ∨ w.heap.size + 3 ≤ k) (wz.setCell ⟨g, nd * 2 + 1, none⟩ (.int .i64 (d.1[nd].1.length : Int))) (.slice (some ⟨g, 0, none⟩) d.1.length c0) (.slice (some ad) d.2.1.length c1) (.slice A2 d.2.2.1.length c2) (.slice A3 d.2.2.2.1.length c3) (withNode d (nd : Int) (d.1[nd].1, (d.1[nd].1.length : Int)))) := ⟨HO7.out.wide (fun k _ h => Or.inl h)⟩
      have HM2' := Sec.mk ((HM0.out.mono (T := X) (fun i hlt h => h.elim)).trans hm7 (fun i hi hlt => hi ▸ HXG.out.1))
      have HBR2' := Sec.mk (HBR.out.mod hm7 (by have := HXG.out.2; omega))
      have HBD2' := Sec.mk (HBD.out.mod hm7 (by have := HXG.out.2; omega))
      have hs2' : wz.heap.size ≤ (wz.setCell ⟨g, nd * 2 + 1, none⟩ (.int .i64 (d.1[nd].1.length : Int))).heap.size := hm7.size
      clear hm7 HO7
      have udd0 : (wz.setCell ⟨g, nd * 2 + 1, none⟩ (.int .i64 (d.1[nd].1.length : Int))).cell? ⟨w.heap.size, 0, none⟩ = some (.slice (some ⟨g, 0, none⟩) d.1.length c0) := HBD2'.out.cell 0
      have udd1 : (wz.setCell ⟨g, nd * 2 + 1, none⟩ (.int .i64 (d.1[nd].1.length : Int))).cell? ⟨w.heap.size, 1, none⟩ = some (.slice (some ad) d.2.1.length c1) := HBD2'.out.cell 1
      have udd2 : (wz.setCell ⟨g, nd * 2 + 1, none⟩ (.int .i64 (d.1[nd].1.length : Int))).cell? ⟨w.heap.size, 2, none⟩ = some (.slice A2 d.2.2.1.length c2) := HBD2'.out.cell 2
      have udd3 : (wz.setCell ⟨g, nd * 2 + 1, none⟩ (.int .i64 (d.1[nd].1.length : Int))).cell? ⟨w.heap.size, 3, none⟩ = some (.slice A3 d.2.2.2.1.length c3) := HBD2'.out.cell 3
      have udd4 : (wz.setCell ⟨g, nd * 2 + 1, none⟩ (.int .i64 (d.1[nd].1.length : Int))).cell? ⟨w.heap.size, 4, none⟩ = some (.int .i64 d.2.2.2.2) := HBD2'.out.cell 4
      have hwau : w.heap.size < (wz.setCell ⟨g, nd * 2 + 1, none⟩ (.int .i64 (d.1[nd].1.length : Int))).heap.size := by omega
      have yr0 : (wz.setCell ⟨g, nd * 2 + 1, none⟩ (.int .i64 (d.1[nd].1.length : Int))).cell? ⟨w.heap.size + 1 + 1, 0, none⟩ = some (.slice none 0 0) := HBR2'.out.cell 0
      have yf0 : (wz.setCell ⟨g, nd * 2 + 1, none⟩ (.int .i64 (d.1[nd].1.length : Int))).frozen? ⟨w.heap.size + 1 + 1, 0, none⟩ = false := HBR2'.out.frozen 0
      have yr1 : (wz.setCell ⟨g, nd * 2 + 1, none⟩ (.int .i64 (d.1[nd].1.length : Int))).cell? ⟨w.heap.size + 1 + 1, 1, none⟩ = some (.slice none 0 0) := HBR2'.out.cell 1
      have yf1 : (wz.setCell ⟨g, nd * 2 + 1, none⟩ (.int .i64 (d.1[nd].1.length : Int))).frozen? ⟨w.heap.size + 1 + 1, 1, none⟩ = false := HBR2'.out.frozen 1
      have yr2 : (wz.setCell ⟨g, nd * 2 + 1, none⟩ (.int .i64 (d.1[nd].1.length : Int))).cell? ⟨w.heap.size + 1 + 1, 2, none⟩ = some (.slice none 0 0) := HBR2'.out.cell 2
      have yf2 : (wz.setCell ⟨g, nd * 2 + 1, none⟩ (.int .i64 (d.1[nd].1.length : Int))).frozen? ⟨w.heap.size + 1 + 1, 2, none⟩ = false := HBR2'.out.frozen 2
      have yr3 : (wz.setCell ⟨g, nd * 2 + 1, none⟩ (.int .i64 (d.1[nd].1.length : Int))).cell? ⟨w.heap.size + 1 + 1, 3, none⟩ = some (.slice none 0 0) := HBR2'.out.cell 3
      have yf3 : (wz.setCell ⟨g, nd * 2 + 1, none⟩ (.int .i64 (d.1[nd].1.length : Int))).frozen? ⟨w.heap.size + 1 + 1, 3, none⟩ = false := HBR2'.out.frozen 3
      have yr4 : (wz.setCell ⟨g, nd * 2 + 1, none⟩ (.int .i64 (d.1[nd].1.length : Int))).cell? ⟨w.heap.size + 1 + 1, 4, none⟩ = some (.int .i64 0) := HBR2'.out.cell 4
      have yf4 : (wz.setCell ⟨g, nd * 2 + 1, none⟩ (.int .i64 (d.1[nd].1.length : Int))).frozen? ⟨w.heap.size + 1 + 1, 4, none⟩ = false := HBR2'.out.frozen 4
      have hwy : w.heap.size + 1 + 1 < (wz.setCell ⟨g, nd * 2 + 1, none⟩ (.int .i64 (d.1[nd].1.length : Int))).heap.size := by omega
      have HFB := Sec.mk (set5_blk HBR2'.out (.slice (some ⟨g, 0, none⟩) d.1.length c0) (.slice (some ad) d.2.1.length c1) (.slice A2 d.2.2.1.length c2) (.slice A3 d.2.2.2.1.length c3) (.int .i64 d.2.2.2.2))
      have HFM := set5_mod (wz.setCell ⟨g, nd * 2 + 1, none⟩ (.int .i64 (d.1[nd].1.length : Int))) (w.heap.size + 1 + 1) (.slice (some ⟨g, 0, none⟩) d.1.length c0) (.slice (some ad) d.2.1.length c1) (.slice A2 d.2.2.1.length c2) (.slice A3 d.2.2.2.1.length c3) (.int .i64 d.2.2.2.2)
      have H4 := Sec.mk (HO2'.out.keep HFM (fun k h e => by omega))
      have HMG := Sec.mk (HM2'.out.trans HFM (fun i hi hlt => by omega))
      clear HFM
      go_wp2
      refine bodyPost_ret (results_blk2 rfl rfl rfl HFB.out Tryd.underlying27 (by kernel_rfl)) rfl ?_
      rw [HF.out]
      exact ⟨_, _, _, _, rfl, H4.out.wide (fun k _ h => by rcases h with h | h <;> first | exact Or.inl h.1 | exact Or.inr (by omega)), HMG.out, fun h => absurd rfl h⟩
    clear n0 n1 e1
    obtain ⟨g, hbg, hXg⟩ := HO.out.base0 hnl
    obtain rfl : bd = ⟨g, 0, none⟩ := by simpa using hbg
    clear hbg
    have HOZ := Sec.mk HO.out
    by_cases hkk2 : kd = 2
    · subst hkk2
      have HE7 : Sec (res = if d.2.2.2.2 < (usedL d : Int) + (dat.length : Int) then (d, 5)
         else if 40000 < d.1[nd].1.length + dat.length ∨ 200000 < sumD d.1 + dat.length then (d, 6)
         else (withNode d (nd : Int) (d.1[nd].1 ++ dat, d.1[nd].2), 0)) := ⟨HE6.out.trans (if_pos rfl)⟩
      clear HE6
      go_wp2
      go_region_held3 (fun w' => w'.cell? ⟨w.heap.size, 0, none⟩ = some (.slice (some ⟨g, 0, none⟩) d.1.length c0) ∧ w'.cell? ⟨w.heap.size, 1, none⟩ = some (.slice (some ad) d.2.1.length c1) ∧ w'.cell? ⟨w.heap.size, 2, none⟩ = some (.slice A2 d.2.2.1.length c2) ∧ w'.cell? ⟨w.heap.size, 3, none⟩ = some (.slice A3 d.2.2.2.1.length c3) ∧ w'.cell? ⟨w.heap.size, 4, none⟩ = some (.int .i64 d.2.2.2.2) ∧ w'.cell? ⟨w.heap.size + 1, 3, none⟩ = some (.slice Ad dat.length dc))
        (first | go_keep | (refine ⟨hm2.cell_of ?_, hm2.cell_of ?_, hm2.cell_of ?_, hm2.cell_of ?_, hm2.cell_of ?_, hm2.cell_of ?_⟩ <;> assumption) | (go_split_ands; refine ⟨hm2.cell_of ?_, hm2.cell_of ?_, hm2.cell_of ?_, hm2.cell_of ?_, hm2.cell_of ?_, hm2.cell_of ?_⟩ <;> assumption))
        ((go_at_call 87; refine (l1Used_v (HRD.out.step HM0.out.drew) HI.out (by omega)).mono ?_; rintro e w2 ⟨rfl, hm2⟩))
      have hmz : New wz w2 := ((Mod.refl (fun _ => False) wz).drew).transN hm2
      clear hm2
      have HM2 := Sec.mk (HM0.out.transN hmz)
      have HBD2 := Sec.mk (HBD.out.mod hmz id)
      have HBO2 := Sec.mk (HBO.out.mod hmz id)
      have HBR2 := Sec.mk (HBR.out.mod hmz id)
      have HO2 := Sec.mk (HO.out.new hmz)
      have hs2 := hmz.size
      have hwa2 : w.heap.size < w2.heap.size := by omega
      have hwb2 : w.heap.size + 1 < w2.heap.size := by omega
      have hwc2 : w.heap.size + 1 + 1 < w2.heap.size := by omega
      have q20 : w2.cell? ⟨w.heap.size + 1, 0, none⟩ = some (.int .i64 2) := HBO2.out.cell 0
      have q23 : w2.cell? ⟨w.heap.size + 1, 3, none⟩ = some (.slice Ad dat.length dc) := HBO2.out.cell 3
      have x2d0 : w2.cell? ⟨w.heap.size, 0, none⟩ = some (.slice (some ⟨g, 0, none⟩) d.1.length c0) := HBD2.out.cell 0
      have x2d1 : w2.cell? ⟨w.heap.size, 1, none⟩ = some (.slice (some ad) d.2.1.length c1) := HBD2.out.cell 1
      have x2d2 : w2.cell? ⟨w.heap.size, 2, none⟩ = some (.slice A2 d.2.2.1.length c2) := HBD2.out.cell 2
      have x2d3 : w2.cell? ⟨w.heap.size, 3, none⟩ = some (.slice A3 d.2.2.2.1.length c3) := HBD2.out.cell 3
      have x2d4 : w2.cell? ⟨w.heap.size, 4, none⟩ = some (.int .i64 d.2.2.2.2) := HBD2.out.cell 4
      have x2r0 : w2.cell? ⟨w.heap.size + 1 + 1, 0, none⟩ = some (.slice none 0 0) := HBR2.out.cell 0
      have x2f0 : w2.frozen? ⟨w.heap.size + 1 + 1, 0, none⟩ = false := HBR2.out.frozen 0
      have x2r1 : w2.cell? ⟨w.heap.size + 1 + 1, 1, none⟩ = some (.slice none 0 0) := HBR2.out.cell 1
      have x2f1 : w2.frozen? ⟨w.heap.size + 1 + 1, 1, none⟩ = false := HBR2.out.frozen 1
      have x2r2 : w2.cell? ⟨w.heap.size + 1 + 1, 2, none⟩ = some (.slice none 0 0) := HBR2.out.cell 2
      have x2f2 : w2.frozen? ⟨w.heap.size + 1 + 1, 2, none⟩ = false := HBR2.out.frozen 2
      have x2r3 : w2.cell? ⟨w.heap.size + 1 + 1, 3, none⟩ = some (.slice none 0 0) := HBR2.out.cell 3
      have x2f3 : w2.frozen? ⟨w.heap.size + 1 + 1, 3, none⟩ = false := HBR2.out.frozen 3
      have x2r4 : w2.cell? ⟨w.heap.size + 1 + 1, 4, none⟩ = some (.int .i64 0) := HBR2.out.cell 4
      have x2f4 : w2.frozen? ⟨w.heap.size + 1 + 1, 4, none⟩ = false := HBR2.out.frozen 4
      have HZ2 : Sec (New wz w2) := ⟨hmz⟩
      have hwu : IntKind.i64.wrap ((usedL d : Int) + (dat.length : Int)) = (usedL d : Int) + (dat.length : Int) := by rw [IntKind.wrap_i64]; omega
      rw [hwu]
      clear hwu
      by_cases hq : d.2.2.2.2 < (usedL d : Int) + (dat.length : Int)
      · have HF : Sec (res = (d, 5)) := ⟨HE7.out.trans (if_pos hq)⟩
        have HFB := Sec.mk (set5_blk HBR2.out (.slice (some ⟨g, 0, none⟩) d.1.length c0) (.slice (some ad) d.2.1.length c1) (.slice A2 d.2.2.1.length c2) (.slice A3 d.2.2.2.1.length c3) (.int .i64 d.2.2.2.2))
        have HFM := set5_mod w2 (w.heap.size + 1 + 1) (.slice (some ⟨g, 0, none⟩) d.1.length c0) (.slice (some ad) d.2.1.length c1) (.slice A2 d.2.2.1.length c2) (.slice A3 d.2.2.2.1.length c3) (.int .i64 d.2.2.2.2)
        have H4 := Sec.mk (HO2.out.keep HFM (fun k h e => by omega))
        have HMG := Sec.mk ((HM2.out.mono (T := X) (fun i hlt h => h.elim)).trans HFM (fun i hi hlt => by omega))
        clear HFM
        go_wp2
        refine bodyPost_ret (results_blk2 rfl rfl rfl HFB.out Tryd.underlying27 (by kernel_rfl)) rfl ?_
        rw [HF.out]
        exact ⟨_, _, _, _, rfl, H4.out.wide (fun k _ h => Or.inl h.1), HMG.out, fun _ => ⟨rfl, rfl, rfl, rfl⟩⟩
      have HE8 : Sec (res = if 40000 < d.1[nd].1.length + dat.length ∨ 200000 < sumD d.1 + dat.length then (d, 6)
         else (withNode d (nd : Int) (d.1[nd].1 ++ dat, d.1[nd].2), 0)) := ⟨HE7.out.trans (if_neg hq)⟩
      clear HE7
      have hwx : IntKind.i64.wrap ((d.1[nd].1.length : Int) + (dat.length : Int)) = (d.1[nd].1.length : Int) + (dat.length : Int) := by rw [IntKind.wrap_i64]; omega
      by_cases h40 : 40000 < d.1[nd].1.length + dat.length
      · have HF : Sec (res = (d, 6)) := ⟨HE8.out.trans (if_pos (Or.inl h40))⟩
        have h40i : decide ((40000 : Int) < IntKind.i64.wrap ((d.1[nd].1.length : Int) + (dat.length : Int))) = true := by rw [hwx]; simp; omega
        clear hwx
        go_wp2
        refine wp_region_quiet_lit (by kernel_rfl) (by kernel_rfl) ?_
        repeat ((with_reducible refine wpQuiet_step (fun K hK => ?_)); go_simp; first | (refine hK _ ?_; clear hK K) | (apply Exists.intro; refine ⟨fun _ => ?_, hK _ ?_⟩; (fail); clear hK K))
        refine wpQuiet_nil ?_
        intro _ hwq
        obtain ⟨nq, hwqq⟩ := hwq
        subst hwqq
        have hmz : New w2 (w2.drewN nq) := (Mod.refl (fun _ => False) w2).drewN nq
        generalize w2.drewN nq = w3 at *
        have HM3 := Sec.mk (HM2.out.transN hmz)
        have HBD3 := Sec.mk (HBD2.out.mod hmz id)
        have HBO3 := Sec.mk (HBO2.out.mod hmz id)
        have HBR3 := Sec.mk (HBR2.out.mod hmz id)
        have HO3 := Sec.mk (HO2.out.new hmz)
        have hs3 := hmz.size
        have hwa3 : w.heap.size < w3.heap.size := by omega
        have hwb3 : w.heap.size + 1 < w3.heap.size := by omega
        have hwc3 : w.heap.size + 1 + 1 < w3.heap.size := by omega
        have q30 : w3.cell? ⟨w.heap.size + 1, 0, none⟩ = some (.int .i64 2) := HBO3.out.cell 0
        have q33 : w3.cell? ⟨w.heap.size + 1, 3, none⟩ = some (.slice Ad dat.length dc) := HBO3.out.cell 3
        have x3d0 : w3.cell? ⟨w.heap.size, 0, none⟩ = some (.slice (some ⟨g, 0, none⟩) d.1.length c0) := HBD3.out.cell 0
        have x3d1 : w3.cell? ⟨w.heap.size, 1, none⟩ = some (.slice (some ad) d.2.1.length c1) := HBD3.out.cell 1
        have x3d2 : w3.cell? ⟨w.heap.size, 2, none⟩ = some (.slice A2 d.2.2.1.length c2) := HBD3.out.cell 2
        have x3d3 : w3.cell? ⟨w.heap.size, 3, none⟩ = some (.slice A3 d.2.2.2.1.length c3) := HBD3.out.cell 3
        have x3d4 : w3.cell? ⟨w.heap.size, 4, none⟩ = some (.int .i64 d.2.2.2.2) := HBD3.out.cell 4
        have x3r0 : w3.cell? ⟨w.heap.size + 1 + 1, 0, none⟩ = some (.slice none 0 0) := HBR3.out.cell 0
        have x3f0 : w3.frozen? ⟨w.heap.size + 1 + 1, 0, none⟩ = false := HBR3.out.frozen 0
        have x3r1 : w3.cell? ⟨w.heap.size + 1 + 1, 1, none⟩ = some (.slice none 0 0) := HBR3.out.cell 1
        have x3f1 : w3.frozen? ⟨w.heap.size + 1 + 1, 1, none⟩ = false := HBR3.out.frozen 1
        have x3r2 : w3.cell? ⟨w.heap.size + 1 + 1, 2, none⟩ = some (.slice none 0 0) := HBR3.out.cell 2
        have x3f2 : w3.frozen? ⟨w.heap.size + 1 + 1, 2, none⟩ = false := HBR3.out.frozen 2
        have x3r3 : w3.cell? ⟨w.heap.size + 1 + 1, 3, none⟩ = some (.slice none 0 0) := HBR3.out.cell 3
        have x3f3 : w3.frozen? ⟨w.heap.size + 1 + 1, 3, none⟩ = false := HBR3.out.frozen 3
        have x3r4 : w3.cell? ⟨w.heap.size + 1 + 1, 4, none⟩ = some (.int .i64 0) := HBR3.out.cell 4
        have x3f4 : w3.frozen? ⟨w.heap.size + 1 + 1, 4, none⟩ = false := HBR3.out.frozen 4
        have HFB := Sec.mk (set5_blk HBR3.out (.slice (some ⟨g, 0, none⟩) d.1.length c0) (.slice (some ad) d.2.1.length c1) (.slice A2 d.2.2.1.length c2) (.slice A3 d.2.2.2.1.length c3) (.int .i64 d.2.2.2.2))
        have HFM := set5_mod w3 (w.heap.size + 1 + 1) (.slice (some ⟨g, 0, none⟩) d.1.length c0) (.slice (some ad) d.2.1.length c1) (.slice A2 d.2.2.1.length c2) (.slice A3 d.2.2.2.1.length c3) (.int .i64 d.2.2.2.2)
        have H4 := Sec.mk (HO3.out.keep HFM (fun k h e => by omega))
        have HMG := Sec.mk ((HM3.out.mono (T := X) (fun i hlt h => h.elim)).trans HFM (fun i hi hlt => by omega))
        clear HFM
        go_wp2
        refine bodyPost_ret (results_blk2 rfl rfl rfl HFB.out Tryd.underlying27 (by kernel_rfl)) rfl ?_
        rw [HF.out]
        exact ⟨_, _, _, _, rfl, H4.out.wide (fun k _ h => Or.inl h.1), HMG.out, fun _ => ⟨rfl, rfl, rfl, rfl⟩⟩
      have HG4 : Sec ((d.1[nd].1.length : Int) + (dat.length : Int) ≤ 40000) := ⟨by omega⟩
      have HWX := Sec.mk hwx

      have hsl : sumD d.1 ≤ 40000 * 91000 := by have := sumD_le HI.out; omega
      have hwu : IntKind.i64.wrap ((sumD d.1 : Int) + (dat.length : Int)) = (sumD d.1 : Int) + (dat.length : Int) := by rw [IntKind.wrap_i64]; omega
      have HWU := Sec.mk hwu
      clear hwx hwu
      go_wp2
      have HSS : Sec (New w2 w2.drew) := ⟨(Mod.refl _ _).drew⟩
      refine reg_start [] (fun W => Sec (New w2 W)) (by kernel_rfl) ?_
      refine reg_take (.slice A' d.1[nd].1.length c') (i := 0) (n := 115) HSS rfl (by kernel_rfl) (by kernel_rfl) (by kernel_rfl) (by kernel_rfl) (fun _ _ _ h => h) (fun W hW => exec_move rfl rfl) ?_
      simp only [Act.put, List.setIfInBounds_toArray, List.set_cons_zero, List.set_cons_succ]
      refine reg_take (.int .i64 (d.1[nd].1.length : Int)) (i := 1) (n := 116) HSS rfl (by kernel_rfl) (by kernel_rfl) (by kernel_rfl) (by kernel_rfl) (fun _ _ _ h => h) (fun W hW => exec_lenD rfl rfl (lenBD _ _ _ _)) ?_
      simp only [Act.put, List.setIfInBounds_toArray, List.set_cons_zero, List.set_cons_succ]
      refine reg_take (.pointer (some ⟨w.heap.size + 1, 3, none⟩)) (i := 2) (n := 117) HSS rfl (by kernel_rfl) (by kernel_rfl) (by kernel_rfl) (by kernel_rfl) (fun _ _ _ h => h) (fun W hW => exec_field rfl rfl (fptOp3 _ _)) ?_
      simp only [Act.put, List.setIfInBounds_toArray, List.set_cons_zero, List.set_cons_succ]
      refine reg_take (.slice Ad dat.length dc) (i := 3) (n := 118) HSS rfl (by kernel_rfl) (by kernel_rfl) (by kernel_rfl) (by kernel_rfl) (fun _ _ _ h => h) (fun W hW => exec_load rfl rfl (ldBytesD (hW.out.cell_of q23))) ?_
      simp only [Act.put, List.setIfInBounds_toArray, List.set_cons_zero, List.set_cons_succ]
      refine reg_take (.int .i64 (dat.length : Int)) (i := 4) (n := 119) HSS rfl (by kernel_rfl) (by kernel_rfl) (by kernel_rfl) (by kernel_rfl) (fun _ _ _ h => h) (fun W hW => exec_lenD rfl rfl (lenBD _ _ _ _)) ?_
      simp only [Act.put, List.setIfInBounds_toArray, List.set_cons_zero, List.set_cons_succ]
      refine reg_take (.int .i64 ((d.1[nd].1.length : Int) + (dat.length : Int))) (i := 5) (n := 120) HSS rfl (by kernel_rfl) (by kernel_rfl) (by kernel_rfl) (by kernel_rfl) (fun _ _ _ h => h) (fun W hW => exec_bin rfl rfl rfl (addII HWX.out _ _ _)) ?_
      simp only [Act.put, List.setIfInBounds_toArray, List.set_cons_zero, List.set_cons_succ]
      refine reg_take (.bool false) (i := 6) (n := 121) HSS rfl (by kernel_rfl) (by kernel_rfl) (by kernel_rfl) (by kernel_rfl) (fun _ _ _ h => h) (fun W hW => exec_bin rfl rfl rfl (gtrFF HG4.out _ _ _)) ?_
      simp only [Act.put, List.setIfInBounds_toArray, List.set_cons_zero, List.set_cons_succ]
      refine reg_take (.bool false) (i := 7) (n := 122) HSS rfl (by kernel_rfl) (by kernel_rfl) (by kernel_rfl) (by kernel_rfl) (fun _ _ _ h => h) (fun W hW => exec_move rfl rfl) ?_
      simp only [Act.put, List.setIfInBounds_toArray, List.set_cons_zero, List.set_cons_succ]
      refine reg_takeG (.agg #[.slice (some ⟨g, 0, none⟩) d.1.length c0, .slice (some ad) d.2.1.length c1, .slice A2 d.2.2.1.length c2, .slice A3 d.2.2.2.1.length c3, .int .i64 d.2.2.2.2]) (i := 8) (n := 123) HSS rfl (by rfl) (by kernel_rfl) (by kernel_rfl) (by kernel_rfl) (by kernel_rfl) (fun _ _ _ h => h) (fun W hW => exec_load rfl rfl (ldDiskS (HBD2.out.mod hW.out id))) ?_
      simp only [Act.put, List.setIfInBounds_toArray, List.set_cons_zero, List.set_cons_succ]
      refine reg_takeG (.pointer (some ⟨w.heap.size + 1, 3, none⟩)) (i := 10) (n := 125) HSS rfl (by rfl) (by kernel_rfl) (by kernel_rfl) (by kernel_rfl) (by kernel_rfl) (fun _ _ _ h => h) (fun W hW => exec_field rfl rfl (fptOp3 _ _)) ?_
      simp only [Act.put, List.setIfInBounds_toArray, List.set_cons_zero, List.set_cons_succ]
      refine reg_takeG (.slice Ad dat.length dc) (i := 11) (n := 126) HSS rfl (by rfl) (by kernel_rfl) (by kernel_rfl) (by kernel_rfl) (by kernel_rfl) (fun _ _ _ h => h) (fun W hW => exec_load rfl rfl (ldBytesD (hW.out.cell_of q23))) ?_
      simp only [Act.put, List.setIfInBounds_toArray, List.set_cons_zero, List.set_cons_succ]
      refine reg_takeG (.int .i64 (dat.length : Int)) (i := 12) (n := 127) HSS rfl (by rfl) (by kernel_rfl) (by kernel_rfl) (by kernel_rfl) (by kernel_rfl) (fun _ _ _ h => h) (fun W hW => exec_lenD rfl rfl (lenBD _ _ _ _)) ?_
      simp only [Act.put, List.setIfInBounds_toArray, List.set_cons_zero, List.set_cons_succ]
      refine reg_stepG (i := 9) rfl (by rfl) (by kernel_rfl) (fun K hK => ?_)
      refine wp_call (n := 124) (vals := [.agg #[.slice (some ⟨g, 0, none⟩) d.1.length c0, .slice (some ad) d.2.1.length c1, .slice A2 d.2.2.1.length c2, .slice A3 d.2.2.2.1.length c3, .int .i64 d.2.2.2.2]]) rfl rfl rfl (by kernel_rfl) (l1Total_v (HRD.out.step (HM2.out.transN HSS.out)) HI.out (by omega)) ?_
      rintro e w3 ⟨rfl, hm3⟩
      have HSS : Sec (New w2 w3) := ⟨HSS.out.transN hm3⟩
      refine ⟨_, rfl, hK.out _ _ (fun _ => HSS) ?_⟩
      clear hm3
      clear hK K
      simp only [Act.put, List.setIfInBounds_toArray, List.set_cons_zero, List.set_cons_succ]
      refine reg_takeG (.int .i64 ((sumD d.1 : Int) + (dat.length : Int))) (i := 13) (n := 128) HSS rfl (by rfl) (by kernel_rfl) (by kernel_rfl) (by kernel_rfl) (by kernel_rfl) (fun _ _ _ h => h) (fun W hW => exec_bin rfl rfl rfl (addII HWU.out _ _ _)) ?_
      simp only [Act.put, List.setIfInBounds_toArray, List.set_cons_zero, List.set_cons_succ]
      refine reg_takeG (.bool (decide ((200000 : Int) < (sumD d.1 : Int) + (dat.length : Int)))) (i := 14) (n := 129) HSS rfl (by rfl) (by kernel_rfl) (by kernel_rfl) (by kernel_rfl) (by kernel_rfl) (fun _ _ _ h => h) (fun W hW => exec_bin rfl rfl rfl (gtrII _ _ _ _ _)) ?_
      simp only [Act.put, List.setIfInBounds_toArray, List.set_cons_zero, List.set_cons_succ]
      refine reg_take (.bool (decide ((200000 : Int) < (sumD d.1 : Int) + (dat.length : Int)))) (i := 15) (n := 130) HSS rfl (by kernel_rfl) (by kernel_rfl) (by kernel_rfl) (by kernel_rfl) (fun _ _ _ h => h) (fun W hW => exec_pick rfl rfl rfl rfl rfl) ?_
      simp only [Act.put, List.setIfInBounds_toArray, List.set_cons_zero, List.set_cons_succ]
      refine reg_done (by kernel_rfl) ?_ _
      have hmz : New w2 w3 := HSS.out
      clear HSS HWU HWX HG4
      have HM3 := Sec.mk (HM2.out.transN hmz)
      have HBD3 := Sec.mk (HBD2.out.mod hmz id)
      have HBO3 := Sec.mk (HBO2.out.mod hmz id)
      have HBR3 := Sec.mk (HBR2.out.mod hmz id)
      have HO3 := Sec.mk (HO2.out.new hmz)
      have hs3 := hmz.size
      have hwa3 : w.heap.size < w3.heap.size := by omega
      have hwb3 : w.heap.size + 1 < w3.heap.size := by omega
      have hwc3 : w.heap.size + 1 + 1 < w3.heap.size := by omega
      have q30 : w3.cell? ⟨w.heap.size + 1, 0, none⟩ = some (.int .i64 2) := HBO3.out.cell 0
      have q33 : w3.cell? ⟨w.heap.size + 1, 3, none⟩ = some (.slice Ad dat.length dc) := HBO3.out.cell 3
      have x3d0 : w3.cell? ⟨w.heap.size, 0, none⟩ = some (.slice (some ⟨g, 0, none⟩) d.1.length c0) := HBD3.out.cell 0
      have x3d1 : w3.cell? ⟨w.heap.size, 1, none⟩ = some (.slice (some ad) d.2.1.length c1) := HBD3.out.cell 1
      have x3d2 : w3.cell? ⟨w.heap.size, 2, none⟩ = some (.slice A2 d.2.2.1.length c2) := HBD3.out.cell 2
      have x3d3 : w3.cell? ⟨w.heap.size, 3, none⟩ = some (.slice A3 d.2.2.2.1.length c3) := HBD3.out.cell 3
      have x3d4 : w3.cell? ⟨w.heap.size, 4, none⟩ = some (.int .i64 d.2.2.2.2) := HBD3.out.cell 4
      have x3r0 : w3.cell? ⟨w.heap.size + 1 + 1, 0, none⟩ = some (.slice none 0 0) := HBR3.out.cell 0
      have x3f0 : w3.frozen? ⟨w.heap.size + 1 + 1, 0, none⟩ = false := HBR3.out.frozen 0
      have x3r1 : w3.cell? ⟨w.heap.size + 1 + 1, 1, none⟩ = some (.slice none 0 0) := HBR3.out.cell 1
      have x3f1 : w3.frozen? ⟨w.heap.size + 1 + 1, 1, none⟩ = false := HBR3.out.frozen 1
      have x3r2 : w3.cell? ⟨w.heap.size + 1 + 1, 2, none⟩ = some (.slice none 0 0) := HBR3.out.cell 2
      have x3f2 : w3.frozen? ⟨w.heap.size + 1 + 1, 2, none⟩ = false := HBR3.out.frozen 2
      have x3r3 : w3.cell? ⟨w.heap.size + 1 + 1, 3, none⟩ = some (.slice none 0 0) := HBR3.out.cell 3
      have x3f3 : w3.frozen? ⟨w.heap.size + 1 + 1, 3, none⟩ = false := HBR3.out.frozen 3
      have x3r4 : w3.cell? ⟨w.heap.size + 1 + 1, 4, none⟩ = some (.int .i64 0) := HBR3.out.cell 4
      have x3f4 : w3.frozen? ⟨w.heap.size + 1 + 1, 4, none⟩ = false := HBR3.out.frozen 4
      have HZ3 : Sec (New wz w3) := ⟨HZ2.out.transN hmz⟩
      by_cases h200 : 200000 < sumD d.1 + dat.length
      · have HF : Sec (res = (d, 6)) := ⟨HE8.out.trans (if_pos (Or.inr h200))⟩
        have h200i : decide ((200000 : Int) < (sumD d.1 : Int) + (dat.length : Int)) = true := by simp; omega
        rw [h200i]
        clear h200i
        have HFB := Sec.mk (set5_blk HBR3.out (.slice (some ⟨g, 0, none⟩) d.1.length c0) (.slice (some ad) d.2.1.length c1) (.slice A2 d.2.2.1.length c2) (.slice A3 d.2.2.2.1.length c3) (.int .i64 d.2.2.2.2))
        have HFM := set5_mod w3 (w.heap.size + 1 + 1) (.slice (some ⟨g, 0, none⟩) d.1.length c0) (.slice (some ad) d.2.1.length c1) (.slice A2 d.2.2.1.length c2) (.slice A3 d.2.2.2.1.length c3) (.int .i64 d.2.2.2.2)
        have H4 := Sec.mk (HO3.out.keep HFM (fun k h e => by omega))
        have HMG := Sec.mk ((HM3.out.mono (T := X) (fun i hlt h => h.elim)).trans HFM (fun i hi hlt => by omega))
        clear HFM
        go_wp2
        refine bodyPost_ret (results_blk2 rfl rfl rfl HFB.out Tryd.underlying27 (by kernel_rfl)) rfl ?_
        rw [HF.out]
        exact ⟨_, _, _, _, rfl, H4.out.wide (fun k _ h => Or.inl h.1), HMG.out, fun _ => ⟨rfl, rfl, rfl, rfl⟩⟩
      have HF : Sec (res = (withNode d (nd : Int) (d.1[nd].1 ++ dat, d.1[nd].2), 0)) := ⟨HE8.out.trans (if_neg (by omega))⟩
      have h200i : decide ((200000 : Int) < (sumD d.1 : Int) + (dat.length : Int)) = false := by simp; omega
      rw [h200i]
      clear h200i HE8
      have HHR := Sec.mk (HRDA.out.mod (w' := w3) (fun _ h => h) (fun k hk => HZ3.out.block k (by have : k < w.heap.size := hk; omega) id))
      go_wp2
      have HSS : Sec (New w3 w3.drew) := ⟨(Mod.refl _ _).drew⟩
      refine reg_start [10] (fun W => Sec (New w3 W)) (by kernel_rfl) ?_
      refine reg_take (.pointer (some ⟨w.heap.size, 0, none⟩)) (i := 0) (n := 132) HSS rfl (by kernel_rfl) (by kernel_rfl) (by kernel_rfl) (by kernel_rfl) (fun _ _ _ h => h) (fun W hW => exec_field rfl rfl (fptDisk0 _ _)) ?_
      simp only [Act.put, List.setIfInBounds_toArray, List.set_cons_zero, List.set_cons_succ]
      refine reg_take (.slice (some ⟨g, 0, none⟩) d.1.length c0) (i := 1) (n := 133) HSS rfl (by kernel_rfl) (by kernel_rfl) (by kernel_rfl) (by kernel_rfl) (fun _ _ _ h => h) (fun W hW => exec_load rfl rfl (ldNodesD (hW.out.cell_of x3d0))) ?_
      simp only [Act.put, List.setIfInBounds_toArray, List.set_cons_zero, List.set_cons_succ]
      refine reg_take (.int .i64 (nd : Int)) (i := 2) (n := 134) HSS rfl (by kernel_rfl) (by kernel_rfl) (by kernel_rfl) (by kernel_rfl) (fun _ _ _ h => h) (fun W hW => exec_move rfl rfl) ?_
      simp only [Act.put, List.setIfInBounds_toArray, List.set_cons_zero, List.set_cons_succ]
      refine reg_take (.slice A' d.1[nd].1.length c') (i := 3) (n := 135) HSS rfl (by kernel_rfl) (by kernel_rfl) (by kernel_rfl) (by kernel_rfl) (fun _ _ _ h => h) (fun W hW => exec_move rfl rfl) ?_
      simp only [Act.put, List.setIfInBounds_toArray, List.set_cons_zero, List.set_cons_succ]
      refine reg_take (.pointer (some ⟨w.heap.size + 1, 3, none⟩)) (i := 5) (n := 137) HSS rfl (by kernel_rfl) (by kernel_rfl) (by kernel_rfl) (by kernel_rfl) (fun _ _ _ h => h) (fun W hW => exec_field rfl rfl (fptOp3 _ _)) ?_
      simp only [Act.put, List.setIfInBounds_toArray, List.set_cons_zero, List.set_cons_succ]
      refine reg_take (.slice Ad dat.length dc) (i := 6) (n := 138) HSS rfl (by kernel_rfl) (by kernel_rfl) (by kernel_rfl) (by kernel_rfl) (fun _ _ _ h => h) (fun W hW => exec_load rfl rfl (ldBytesD (hW.out.cell_of q33))) ?_
      simp only [Act.put, List.setIfInBounds_toArray, List.set_cons_zero, List.set_cons_succ]
      refine reg_step (i := 4) rfl (by kernel_rfl) (fun K hK => ?_)
      refine wp_call (n := 136) (vals := [.slice A' d.1[nd].1.length c']) rfl rfl rfl (by kernel_rfl) (l1Bytes_calls (HHR.out.mod (w' := w3.drew) (fun _ h => h) (fun k hk => HSS.out.block k (by have : k < w.heap.size := hk; omega) id)) (fun k hk => Nat.lt_of_lt_of_le (by have : k < w.heap.size := hk; omega) HSS.out.size) (by omega)) ?_
      intro e w5 hret
      obtain ⟨A5, c5, rfl, hmine⟩ := hret.mine
      have HMN := Sec.mk (hmine.base HSS.out)
      have HSS : Sec (New w3 w5) := ⟨HSS.out.transN hmine.new⟩
      refine ⟨_, rfl, hK.out _ _ (fun _ => HSS) ?_⟩
      clear hret hmine
      clear hK K
      simp only [Act.put, List.setIfInBounds_toArray, List.set_cons_zero, List.set_cons_succ]
      refine reg_step (i := 7) rfl (by kernel_rfl) (fun K hK => ?_)
      refine wp_appM _ (.tmp 136) (.tmp 138) _ rfl Tryd.underlying32 elt_byte flat_byte rfl rfl HMN.out (HRO.out.mod (w' := w5) (fun _ h => h) (fun k hk => (HM3.out.transN HSS.out).block k (HBB.out k hk).1 id)) (by omega) ?_
      intro A6 n6 c6 w6 hmine
      have HMN := Sec.mk hmine
      have HSS : Sec (New w3 w6) := ⟨hmine.new⟩
      refine hK.out _ _ (fun _ => HSS) ?_
      clear hmine
      clear hK K
      simp only [Act.put, List.setIfInBounds_toArray, List.set_cons_zero, List.set_cons_succ]
      refine reg_step (i := 8) rfl (by kernel_rfl) (fun K hK => ?_)
      refine wp_val (n := 140) (v := .pointer (some ⟨g, nd * 2, none⟩)) (exec_indexAddr rfl rfl rfl (idxNode0 _ _ _ _ hnl _)) rfl (hK.out _ _ (fun _ => HSS) ?_)
      clear hK K
      simp only [Act.put, List.setIfInBounds_toArray, List.set_cons_zero, List.set_cons_succ]
      refine reg_step (i := 9) rfl (by kernel_rfl) (fun K hK => ?_)
      refine wp_val (n := 141) (v := .pointer (some ⟨g, nd * 2, none⟩)) (exec_field rfl rfl (fptNode0D _ _)) rfl (hK.out _ _ (fun _ => HSS) ?_)
      clear hK K
      simp only [Act.put, List.setIfInBounds_toArray, List.set_cons_zero, List.set_cons_succ]
      refine reg_step (i := 10) rfl (by kernel_rfl) (fun K hK => ?_)
      obtain ⟨⟨F, ho, hF⟩, -⟩ := HMN.out
      obtain ⟨g', eg, hXg', ⟨u', hc⟩, hfz, hO7⟩ := (HO3.out.new HSS.out).setData (X := fun k => (X k ∧ k < w.heap.size) ∨ w.heap.size + 3 ≤ k) hnl ho (fun k hk => ⟨by have := hF k hk; omega, Or.inr (by have := hF k hk; omega)⟩) (fun k hk => Or.inl hk)
      obtain rfl : g = g' := by simpa using eg
      refine wp_store rfl rfl rfl rfl (stBytesD hc hfz A6 n6 c6) (hK.out _ _ (fun h => absurd (List.mem_singleton.2 rfl) h) ?_)
      clear hK K
      refine reg_done (by kernel_rfl) ?_ _
      have hm7 : Mod (fun k => k = g) w6 (w6.setCell ⟨g, nd * 2, none⟩ (.slice A6 n6 c6)) := (Mod.refl (fun k => k = g) w6).setCell (p := ⟨g, nd * 2, none⟩) (fun _ => rfl) _
      have HO2' : Sec (Out4 (fun k => (X k ∧ k < w.heap.size) ∨ w.heap.size + 3 ≤ k) (w6.setCell ⟨g, nd * 2, none⟩ (.slice A6 n6 c6)) (.slice (some ⟨g, 0, none⟩) d.1.length c0) (.slice (some ad) d.2.1.length c1) (.slice A2 d.2.2.1.length c2) (.slice A3 d.2.2.2.1.length c3) (withNode d (nd : Int) (d.1[nd].1 ++ dat, d.1[nd].2))) := ⟨hO7⟩
      have HM2' := Sec.mk (((HM3.out.transN HSS.out).mono (T := X) (fun i hlt h => h.elim)).trans hm7 (fun i hi hlt => hi ▸ hXg.1))
      have HBR2' := Sec.mk ((HBR3.out.mod HSS.out id).mod hm7 (by have := hXg.2; omega))
      have HBD2' := Sec.mk ((HBD3.out.mod HSS.out id).mod hm7 (by have := hXg.2; omega))
      have hs2' : w3.heap.size ≤ (w6.setCell ⟨g, nd * 2, none⟩ (.slice A6 n6 c6)).heap.size := Nat.le_trans HSS.out.size hm7.size
      clear hm7 hO7 hc hfz eg HMN HSS ho hF
      have udd0 : (w6.setCell ⟨g, nd * 2, none⟩ (.slice A6 n6 c6)).cell? ⟨w.heap.size, 0, none⟩ = some (.slice (some ⟨g, 0, none⟩) d.1.length c0) := HBD2'.out.cell 0
      have udd1 : (w6.setCell ⟨g, nd * 2, none⟩ (.slice A6 n6 c6)).cell? ⟨w.heap.size, 1, none⟩ = some (.slice (some ad) d.2.1.length c1) := HBD2'.out.cell 1
      have udd2 : (w6.setCell ⟨g, nd * 2, none⟩ (.slice A6 n6 c6)).cell? ⟨w.heap.size, 2, none⟩ = some (.slice A2 d.2.2.1.length c2) := HBD2'.out.cell 2
      have udd3 : (w6.setCell ⟨g, nd * 2, none⟩ (.slice A6 n6 c6)).cell? ⟨w.heap.size, 3, none⟩ = some (.slice A3 d.2.2.2.1.length c3) := HBD2'.out.cell 3
      have udd4 : (w6.setCell ⟨g, nd * 2, none⟩ (.slice A6 n6 c6)).cell? ⟨w.heap.size, 4, none⟩ = some (.int .i64 d.2.2.2.2) := HBD2'.out.cell 4
      have hwau : w.heap.size < (w6.setCell ⟨g, nd * 2, none⟩ (.slice A6 n6 c6)).heap.size := by omega
      have yr0 : (w6.setCell ⟨g, nd * 2, none⟩ (.slice A6 n6 c6)).cell? ⟨w.heap.size + 1 + 1, 0, none⟩ = some (.slice none 0 0) := HBR2'.out.cell 0
      have yf0 : (w6.setCell ⟨g, nd * 2, none⟩ (.slice A6 n6 c6)).frozen? ⟨w.heap.size + 1 + 1, 0, none⟩ = false := HBR2'.out.frozen 0
      have yr1 : (w6.setCell ⟨g, nd * 2, none⟩ (.slice A6 n6 c6)).cell? ⟨w.heap.size + 1 + 1, 1, none⟩ = some (.slice none 0 0) := HBR2'.out.cell 1
      have yf1 : (w6.setCell ⟨g, nd * 2, none⟩ (.slice A6 n6 c6)).frozen? ⟨w.heap.size + 1 + 1, 1, none⟩ = false := HBR2'.out.frozen 1
      have yr2 : (w6.setCell ⟨g, nd * 2, none⟩ (.slice A6 n6 c6)).cell? ⟨w.heap.size + 1 + 1, 2, none⟩ = some (.slice none 0 0) := HBR2'.out.cell 2
      have yf2 : (w6.setCell ⟨g, nd * 2, none⟩ (.slice A6 n6 c6)).frozen? ⟨w.heap.size + 1 + 1, 2, none⟩ = false := HBR2'.out.frozen 2
      have yr3 : (w6.setCell ⟨g, nd * 2, none⟩ (.slice A6 n6 c6)).cell? ⟨w.heap.size + 1 + 1, 3, none⟩ = some (.slice none 0 0) := HBR2'.out.cell 3
      have yf3 : (w6.setCell ⟨g, nd * 2, none⟩ (.slice A6 n6 c6)).frozen? ⟨w.heap.size + 1 + 1, 3, none⟩ = false := HBR2'.out.frozen 3
      have yr4 : (w6.setCell ⟨g, nd * 2, none⟩ (.slice A6 n6 c6)).cell? ⟨w.heap.size + 1 + 1, 4, none⟩ = some (.int .i64 0) := HBR2'.out.cell 4
      have yf4 : (w6.setCell ⟨g, nd * 2, none⟩ (.slice A6 n6 c6)).frozen? ⟨w.heap.size + 1 + 1, 4, none⟩ = false := HBR2'.out.frozen 4
      have hwy : w.heap.size + 1 + 1 < (w6.setCell ⟨g, nd * 2, none⟩ (.slice A6 n6 c6)).heap.size := by omega
      have HFB := Sec.mk (set5_blk HBR2'.out (.slice (some ⟨g, 0, none⟩) d.1.length c0) (.slice (some ad) d.2.1.length c1) (.slice A2 d.2.2.1.length c2) (.slice A3 d.2.2.2.1.length c3) (.int .i64 d.2.2.2.2))
      have HFM := set5_mod (w6.setCell ⟨g, nd * 2, none⟩ (.slice A6 n6 c6)) (w.heap.size + 1 + 1) (.slice (some ⟨g, 0, none⟩) d.1.length c0) (.slice (some ad) d.2.1.length c1) (.slice A2 d.2.2.1.length c2) (.slice A3 d.2.2.2.1.length c3) (.int .i64 d.2.2.2.2)
      have H4 := Sec.mk (HO2'.out.keep HFM (fun k h e => by omega))
      have HMG := Sec.mk (HM2'.out.trans HFM (fun i hi hlt => by omega))
      clear HFM
      go_wp2
      refine bodyPost_ret (results_blk2 rfl rfl rfl HFB.out Tryd.underlying27 (by kernel_rfl)) rfl ?_
      rw [HF.out]
      exact ⟨_, _, _, _, rfl, H4.out.wide (fun k _ h => by rcases h with h | h <;> first | exact Or.inl h.1 | exact Or.inr (by omega)), HMG.out, fun h => absurd rfl h⟩
    have HE7 : Sec (res = if kd = 4 ∧ tn = nm then (d, 0)
      else if 1000 ≤ d.2.2.2.1.length then (d, 6)
      else (dirL d (kd, nm, if kd = 4 then tn else [], 0), 0)) := ⟨(HE6.out.trans (if_neg hkk2)).trans (if_neg hkk3)⟩
    clear HE6 HOZ hXg
    by_cases hkk4 : kd = 4
    · subst hkk4
      by_cases htn : tn = nm
      · have HF : Sec (res = (d, 0)) := ⟨HE7.out.trans (if_pos ⟨rfl, htn⟩)⟩
        have htb : (tn == nm) = true := by simpa using htn
        clear HE7 htn
        have HFB := Sec.mk (set5_blk HBR.out (.slice (some ⟨g, 0, none⟩) d.1.length c0) (.slice (some ad) d.2.1.length c1) (.slice A2 d.2.2.1.length c2) (.slice A3 d.2.2.2.1.length c3) (.int .i64 d.2.2.2.2))
        have HFM := set5_mod wz (w.heap.size + 1 + 1) (.slice (some ⟨g, 0, none⟩) d.1.length c0) (.slice (some ad) d.2.1.length c1) (.slice A2 d.2.2.1.length c2) (.slice A3 d.2.2.2.1.length c3) (.int .i64 d.2.2.2.2)
        have H4 := Sec.mk (HO.out.keep HFM (fun k h e => by omega))
        have HMG := Sec.mk ((HM0.out.mono (T := X) (fun i hlt h => h.elim)).trans HFM (fun i hi hlt => by omega))
        clear HFM
        go_wp2
        refine bodyPost_ret (results_blk2 rfl rfl rfl HFB.out Tryd.underlying27 (by kernel_rfl)) rfl ?_
        rw [HF.out]
        exact ⟨_, _, _, _, rfl, H4.out.wide (fun k _ h => Or.inl h.1), HMG.out, fun _ => ⟨rfl, rfl, rfl, rfl⟩⟩
      have HE8 : Sec (res = if 1000 ≤ d.2.2.2.1.length then (d, 6)
        else (dirL d (4, nm, tn, 0), 0)) := ⟨HE7.out.trans (if_neg (fun h => htn h.2))⟩
      clear HE7
      have htb : (tn == nm) = false := by simpa using htn
      by_cases hp1000 : 1000 ≤ d.2.2.2.1.length
      · have HF : Sec (res = (d, 6)) := ⟨HE8.out.trans (if_pos hp1000)⟩
        have hp1000i : (1000 : Int) ≤ (d.2.2.2.1.length : Int) := by omega
        clear HE8
        have HFB := Sec.mk (set5_blk HBR.out (.slice (some ⟨g, 0, none⟩) d.1.length c0) (.slice (some ad) d.2.1.length c1) (.slice A2 d.2.2.1.length c2) (.slice A3 d.2.2.2.1.length c3) (.int .i64 d.2.2.2.2))
        have HFM := set5_mod wz (w.heap.size + 1 + 1) (.slice (some ⟨g, 0, none⟩) d.1.length c0) (.slice (some ad) d.2.1.length c1) (.slice A2 d.2.2.1.length c2) (.slice A3 d.2.2.2.1.length c3) (.int .i64 d.2.2.2.2)
        have H4 := Sec.mk (HO.out.keep HFM (fun k h e => by omega))
        have HMG := Sec.mk ((HM0.out.mono (T := X) (fun i hlt h => h.elim)).trans HFM (fun i hi hlt => by omega))
        clear HFM
        go_wp2
        refine bodyPost_ret (results_blk2 rfl rfl rfl HFB.out Tryd.underlying27 (by kernel_rfl)) rfl ?_
        rw [HF.out]
        exact ⟨_, _, _, _, rfl, H4.out.wide (fun k _ h => Or.inl h.1), HMG.out, fun _ => ⟨rfl, rfl, rfl, rfl⟩⟩
      have HF : Sec (res = (dirL d (4, nm, tn, 0), 0)) := ⟨HE8.out.trans (if_neg hp1000)⟩
      have hp1000i : ¬ (1000 : Int) ≤ (d.2.2.2.1.length : Int) := by omega
      clear HE8
      go_upto_region 35 with (fail)
      have hmz : New wz (wz.alloc (.cells #[.int .i64 4, .string ⟨nm.toArray⟩, .string ⟨tn.toArray⟩, .int .i64 0] 96)) := (Mod.refl (fun _ => False) wz).alloc _
      have HM6 := Sec.mk (HM0.out.transN hmz)
      have HBD6 := Sec.mk (HBD.out.mod hmz id)
      have HBR6 := Sec.mk (HBR.out.mod hmz id)
      have HO6 := Sec.mk (HO.out.new hmz)
      have HBQ := Sec.mk (Blk.new wz 96 [.int .i64 4, .string ⟨nm.toArray⟩, .string ⟨tn.toArray⟩, .int .i64 0])
      have hs6 : wz.heap.size + 1 ≤ (wz.alloc (.cells #[.int .i64 4, .string ⟨nm.toArray⟩, .string ⟨tn.toArray⟩, .int .i64 0] 96)).heap.size := by simp
      clear hmz
      generalize wz.alloc (.cells #[.int .i64 4, .string ⟨nm.toArray⟩, .string ⟨tn.toArray⟩, .int .i64 0] 96) = w6 at *
      have z0 : w6.cell? ⟨wz.heap.size, 0, none⟩ = some (.int .i64 4) := HBQ.out.cell 0
      have z1 : w6.cell? ⟨wz.heap.size, 1, none⟩ = some (.string ⟨nm.toArray⟩) := HBQ.out.cell 1
      have z2 : w6.cell? ⟨wz.heap.size, 2, none⟩ = some (.string ⟨tn.toArray⟩) := HBQ.out.cell 2
      have z3 : w6.cell? ⟨wz.heap.size, 3, none⟩ = some (.int .i64 0) := HBQ.out.cell 3
      have hzq : wz.heap.size < w6.heap.size := by omega
      have hza : w.heap.size < w6.heap.size := by omega
      have hzb : w.heap.size + 1 + 1 < w6.heap.size := by omega
      have z6d0 : w6.cell? ⟨w.heap.size, 0, none⟩ = some (.slice (some ⟨g, 0, none⟩) d.1.length c0) := HBD6.out.cell 0
      have z6d1 : w6.cell? ⟨w.heap.size, 1, none⟩ = some (.slice (some ad) d.2.1.length c1) := HBD6.out.cell 1
      have z6d2 : w6.cell? ⟨w.heap.size, 2, none⟩ = some (.slice A2 d.2.2.1.length c2) := HBD6.out.cell 2
      have z6d3 : w6.cell? ⟨w.heap.size, 3, none⟩ = some (.slice A3 d.2.2.2.1.length c3) := HBD6.out.cell 3
      have z6d4 : w6.cell? ⟨w.heap.size, 4, none⟩ = some (.int .i64 d.2.2.2.2) := HBD6.out.cell 4
      have z6r0 : w6.cell? ⟨w.heap.size + 1 + 1, 0, none⟩ = some (.slice none 0 0) := HBR6.out.cell 0
      have z6f0 : w6.frozen? ⟨w.heap.size + 1 + 1, 0, none⟩ = false := HBR6.out.frozen 0
      have z6r1 : w6.cell? ⟨w.heap.size + 1 + 1, 1, none⟩ = some (.slice none 0 0) := HBR6.out.cell 1
      have z6f1 : w6.frozen? ⟨w.heap.size + 1 + 1, 1, none⟩ = false := HBR6.out.frozen 1
      have z6r2 : w6.cell? ⟨w.heap.size + 1 + 1, 2, none⟩ = some (.slice none 0 0) := HBR6.out.cell 2
      have z6f2 : w6.frozen? ⟨w.heap.size + 1 + 1, 2, none⟩ = false := HBR6.out.frozen 2
      have z6r3 : w6.cell? ⟨w.heap.size + 1 + 1, 3, none⟩ = some (.slice none 0 0) := HBR6.out.cell 3
      have z6f3 : w6.frozen? ⟨w.heap.size + 1 + 1, 3, none⟩ = false := HBR6.out.frozen 3
      have z6r4 : w6.cell? ⟨w.heap.size + 1 + 1, 4, none⟩ = some (.int .i64 0) := HBR6.out.cell 4
      have z6f4 : w6.frozen? ⟨w.heap.size + 1 + 1, 4, none⟩ = false := HBR6.out.frozen 4
      go_wp2_with fail
      refine (l1Dir_v (d := d) HO6.out HI.out (by omega) (4, nm, tn, 0) (show IntKind.i64.wrap 4 = 4 by decide) HWK.out.2.1 HWK.out.2.2 (show IntKind.i64.wrap 0 = 0 by decide)).mono ?_
      generalize dirL d (4, nm, tn, 0) = dd at *
      rintro e w7 ⟨u0, u1, u2, u3, rfl, ho7, hm7⟩
      obtain ⟨E0, g0, E1, g1, E2, g2, E3, g3, rfl, rfl, rfl, rfl, -⟩ := ho7.forms
      have HO2 := Sec.mk ho7
      have HBR2 := Sec.mk (HBR6.out.mod hm7 (by omega))
      have HM2 := Sec.mk ((HM6.out.mono (T := X) (fun i hlt h => h.elim)).trans hm7 (fun i hi hlt => hi.1))
      have hs2 := hm7.size
      clear ho7 hm7
      have yr0 : w7.cell? ⟨w.heap.size + 1 + 1, 0, none⟩ = some (.slice none 0 0) := HBR2.out.cell 0
      have yf0 : w7.frozen? ⟨w.heap.size + 1 + 1, 0, none⟩ = false := HBR2.out.frozen 0
      have yr1 : w7.cell? ⟨w.heap.size + 1 + 1, 1, none⟩ = some (.slice none 0 0) := HBR2.out.cell 1
      have yf1 : w7.frozen? ⟨w.heap.size + 1 + 1, 1, none⟩ = false := HBR2.out.frozen 1
      have yr2 : w7.cell? ⟨w.heap.size + 1 + 1, 2, none⟩ = some (.slice none 0 0) := HBR2.out.cell 2
      have yf2 : w7.frozen? ⟨w.heap.size + 1 + 1, 2, none⟩ = false := HBR2.out.frozen 2
      have yr3 : w7.cell? ⟨w.heap.size + 1 + 1, 3, none⟩ = some (.slice none 0 0) := HBR2.out.cell 3
      have yf3 : w7.frozen? ⟨w.heap.size + 1 + 1, 3, none⟩ = false := HBR2.out.frozen 3
      have yr4 : w7.cell? ⟨w.heap.size + 1 + 1, 4, none⟩ = some (.int .i64 0) := HBR2.out.cell 4
      have yf4 : w7.frozen? ⟨w.heap.size + 1 + 1, 4, none⟩ = false := HBR2.out.frozen 4
      have hwy : w.heap.size + 1 + 1 < w7.heap.size := by omega
      have HFB := Sec.mk (set5_blk HBR2.out (.slice E0 dd.1.length g0) (.slice E1 dd.2.1.length g1) (.slice E2 dd.2.2.1.length g2) (.slice E3 dd.2.2.2.1.length g3) (.int .i64 dd.2.2.2.2))
      have HFM := set5_mod w7 (w.heap.size + 1 + 1) (.slice E0 dd.1.length g0) (.slice E1 dd.2.1.length g1) (.slice E2 dd.2.2.1.length g2) (.slice E3 dd.2.2.2.1.length g3) (.int .i64 dd.2.2.2.2)
      have H4 := Sec.mk (HO2.out.keep HFM (fun k h e => by omega))
      have HMG := Sec.mk (HM2.out.trans HFM (fun i hi hlt => by omega))
      clear HFM
      go_wp2
      refine bodyPost_ret (results_blk2 rfl rfl rfl HFB.out Tryd.underlying27 (by kernel_rfl)) rfl ?_
      rw [HF.out]
      exact ⟨_, _, _, _, rfl, H4.out.wide (fun k _ h => by rcases h with h | h <;> first | exact Or.inl h.1 | exact Or.inr (by omega)), HMG.out, fun h => absurd rfl h⟩
    have hkk5 : kd = 5 := by omega
    subst hkk5
    have HE8 : Sec (res = if 1000 ≤ d.2.2.2.1.length then (d, 6)
        else (dirL d (5, nm, [], 0), 0)) := ⟨HE7.out.trans (if_neg (fun h => hkk4 h.1))⟩
    clear HE7
    by_cases hp1000 : 1000 ≤ d.2.2.2.1.length
    · have HF : Sec (res = (d, 6)) := ⟨HE8.out.trans (if_pos hp1000)⟩
      have hp1000i : (1000 : Int) ≤ (d.2.2.2.1.length : Int) := by omega
      clear HE8
      have HFB := Sec.mk (set5_blk HBR.out (.slice (some ⟨g, 0, none⟩) d.1.length c0) (.slice (some ad) d.2.1.length c1) (.slice A2 d.2.2.1.length c2) (.slice A3 d.2.2.2.1.length c3) (.int .i64 d.2.2.2.2))
      have HFM := set5_mod wz (w.heap.size + 1 + 1) (.slice (some ⟨g, 0, none⟩) d.1.length c0) (.slice (some ad) d.2.1.length c1) (.slice A2 d.2.2.1.length c2) (.slice A3 d.2.2.2.1.length c3) (.int .i64 d.2.2.2.2)
      have H4 := Sec.mk (HO.out.keep HFM (fun k h e => by omega))
      have HMG := Sec.mk ((HM0.out.mono (T := X) (fun i hlt h => h.elim)).trans HFM (fun i hi hlt => by omega))
      clear HFM
      go_wp2
      refine bodyPost_ret (results_blk2 rfl rfl rfl HFB.out Tryd.underlying27 (by kernel_rfl)) rfl ?_
      rw [HF.out]
      exact ⟨_, _, _, _, rfl, H4.out.wide (fun k _ h => Or.inl h.1), HMG.out, fun _ => ⟨rfl, rfl, rfl, rfl⟩⟩
    have HF : Sec (res = (dirL d (5, nm, [], 0), 0)) := ⟨HE8.out.trans (if_neg hp1000)⟩
    have hp1000i : ¬ (1000 : Int) ≤ (d.2.2.2.1.length : Int) := by omega
    clear HE8
    go_upto_region 35 with (fail)
    have hmz : New wz (wz.alloc (.cells #[.int .i64 5, .string ⟨nm.toArray⟩, .string ⟨#[]⟩, .int .i64 0] 96)) := (Mod.refl (fun _ => False) wz).alloc _
    have HM6 := Sec.mk (HM0.out.transN hmz)
    have HBD6 := Sec.mk (HBD.out.mod hmz id)
    have HBR6 := Sec.mk (HBR.out.mod hmz id)
    have HO6 := Sec.mk (HO.out.new hmz)
    have HBQ := Sec.mk (Blk.new wz 96 [.int .i64 5, .string ⟨nm.toArray⟩, .string ⟨#[]⟩, .int .i64 0])
    have hs6 : wz.heap.size + 1 ≤ (wz.alloc (.cells #[.int .i64 5, .string ⟨nm.toArray⟩, .string ⟨#[]⟩, .int .i64 0] 96)).heap.size := by simp
    clear hmz
    generalize wz.alloc (.cells #[.int .i64 5, .string ⟨nm.toArray⟩, .string ⟨#[]⟩, .int .i64 0] 96) = w6 at *
    have z0 : w6.cell? ⟨wz.heap.size, 0, none⟩ = some (.int .i64 5) := HBQ.out.cell 0
    have z1 : w6.cell? ⟨wz.heap.size, 1, none⟩ = some (.string ⟨nm.toArray⟩) := HBQ.out.cell 1
    have z2 : w6.cell? ⟨wz.heap.size, 2, none⟩ = some (.string ⟨#[]⟩) := HBQ.out.cell 2
    have z3 : w6.cell? ⟨wz.heap.size, 3, none⟩ = some (.int .i64 0) := HBQ.out.cell 3
    have hzq : wz.heap.size < w6.heap.size := by omega
    have hza : w.heap.size < w6.heap.size := by omega
    have hzb : w.heap.size + 1 + 1 < w6.heap.size := by omega
    have z6d0 : w6.cell? ⟨w.heap.size, 0, none⟩ = some (.slice (some ⟨g, 0, none⟩) d.1.length c0) := HBD6.out.cell 0
    have z6d1 : w6.cell? ⟨w.heap.size, 1, none⟩ = some (.slice (some ad) d.2.1.length c1) := HBD6.out.cell 1
    have z6d2 : w6.cell? ⟨w.heap.size, 2, none⟩ = some (.slice A2 d.2.2.1.length c2) := HBD6.out.cell 2
    have z6d3 : w6.cell? ⟨w.heap.size, 3, none⟩ = some (.slice A3 d.2.2.2.1.length c3) := HBD6.out.cell 3
    have z6d4 : w6.cell? ⟨w.heap.size, 4, none⟩ = some (.int .i64 d.2.2.2.2) := HBD6.out.cell 4
    have z6r0 : w6.cell? ⟨w.heap.size + 1 + 1, 0, none⟩ = some (.slice none 0 0) := HBR6.out.cell 0
    have z6f0 : w6.frozen? ⟨w.heap.size + 1 + 1, 0, none⟩ = false := HBR6.out.frozen 0
    have z6r1 : w6.cell? ⟨w.heap.size + 1 + 1, 1, none⟩ = some (.slice none 0 0) := HBR6.out.cell 1
    have z6f1 : w6.frozen? ⟨w.heap.size + 1 + 1, 1, none⟩ = false := HBR6.out.frozen 1
    have z6r2 : w6.cell? ⟨w.heap.size + 1 + 1, 2, none⟩ = some (.slice none 0 0) := HBR6.out.cell 2
    have z6f2 : w6.frozen? ⟨w.heap.size + 1 + 1, 2, none⟩ = false := HBR6.out.frozen 2
    have z6r3 : w6.cell? ⟨w.heap.size + 1 + 1, 3, none⟩ = some (.slice none 0 0) := HBR6.out.cell 3
    have z6f3 : w6.frozen? ⟨w.heap.size + 1 + 1, 3, none⟩ = false := HBR6.out.frozen 3
    have z6r4 : w6.cell? ⟨w.heap.size + 1 + 1, 4, none⟩ = some (.int .i64 0) := HBR6.out.cell 4
    have z6f4 : w6.frozen? ⟨w.heap.size + 1 + 1, 4, none⟩ = false := HBR6.out.frozen 4
    go_wp2_with fail
    refine (l1Dir_v (d := d) HO6.out HI.out (by omega) (5, nm, [], 0) (show IntKind.i64.wrap 5 = 5 by decide) HWK.out.2.1 (by simp) (show IntKind.i64.wrap 0 = 0 by decide)).mono ?_
    generalize dirL d (5, nm, [], 0) = dd at *
    rintro e w7 ⟨u0, u1, u2, u3, rfl, ho7, hm7⟩
    obtain ⟨E0, g0, E1, g1, E2, g2, E3, g3, rfl, rfl, rfl, rfl, -⟩ := ho7.forms
    have HO2 := Sec.mk ho7
    have HBR2 := Sec.mk (HBR6.out.mod hm7 (by omega))
    have HM2 := Sec.mk ((HM6.out.mono (T := X) (fun i hlt h => h.elim)).trans hm7 (fun i hi hlt => hi.1))
    have hs2 := hm7.size
    clear ho7 hm7
    have yr0 : w7.cell? ⟨w.heap.size + 1 + 1, 0, none⟩ = some (.slice none 0 0) := HBR2.out.cell 0
    have yf0 : w7.frozen? ⟨w.heap.size + 1 + 1, 0, none⟩ = false := HBR2.out.frozen 0
    have yr1 : w7.cell? ⟨w.heap.size + 1 + 1, 1, none⟩ = some (.slice none 0 0) := HBR2.out.cell 1
    have yf1 : w7.frozen? ⟨w.heap.size + 1 + 1, 1, none⟩ = false := HBR2.out.frozen 1
    have yr2 : w7.cell? ⟨w.heap.size + 1 + 1, 2, none⟩ = some (.slice none 0 0) := HBR2.out.cell 2
    have yf2 : w7.frozen? ⟨w.heap.size + 1 + 1, 2, none⟩ = false := HBR2.out.frozen 2
    have yr3 : w7.cell? ⟨w.heap.size + 1 + 1, 3, none⟩ = some (.slice none 0 0) := HBR2.out.cell 3
    have yf3 : w7.frozen? ⟨w.heap.size + 1 + 1, 3, none⟩ = false := HBR2.out.frozen 3
    have yr4 : w7.cell? ⟨w.heap.size + 1 + 1, 4, none⟩ = some (.int .i64 0) := HBR2.out.cell 4
    have yf4 : w7.frozen? ⟨w.heap.size + 1 + 1, 4, none⟩ = false := HBR2.out.frozen 4
    have hwy : w.heap.size + 1 + 1 < w7.heap.size := by omega
    have HFB := Sec.mk (set5_blk HBR2.out (.slice E0 dd.1.length g0) (.slice E1 dd.2.1.length g1) (.slice E2 dd.2.2.1.length g2) (.slice E3 dd.2.2.2.1.length g3) (.int .i64 dd.2.2.2.2))
    have HFM := set5_mod w7 (w.heap.size + 1 + 1) (.slice E0 dd.1.length g0) (.slice E1 dd.2.1.length g1) (.slice E2 dd.2.2.1.length g2) (.slice E3 dd.2.2.2.1.length g3) (.int .i64 dd.2.2.2.2)
    have H4 := Sec.mk (HO2.out.keep HFM (fun k h e => by omega))
    have HMG := Sec.mk (HM2.out.trans HFM (fun i hi hlt => by omega))
    clear HFM
    go_wp2
    refine bodyPost_ret (results_blk2 rfl rfl rfl HFB.out Tryd.underlying27 (by kernel_rfl)) rfl ?_
    rw [HF.out]
    exact ⟨_, _, _, _, rfl, H4.out.wide (fun k _ h => by rcases h with h | h <;> first | exact Or.inl h.1 | exact Or.inr (by omega)), HMG.out, fun h => absurd rfl h⟩
end Go.Proofs.YtiaknomadhgckaaDoor
