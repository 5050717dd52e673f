/- The laws' helpers over Disk. A directory's entries in order, in plain lists: found, bound, left, replayed. Strings: read at a place, joined, cut; rows of strings. Names and entries: the small functions, both sides. -/
import Derived.Test.YtkkgighgnbbgiaaGreatDoorPk2
import Derived.Test.YtkkgighgnbbgiaaGreatDoorPk3
import Derived.Test.YtkkgighgnbbgiaaGreatDoorPk1
import Derived.Test.YtkkgighgnbbgiaaGreatDoorProg
import Derived.WalkKit
import Derived.Sort.Walk0
import Derived.BigQuiet
import Derived.OwnWalk
namespace Go.Proofs.YtkkgighgnbbgiaaGreatDoor
open Go.RowKit Mem
set_option linter.unusedVariables false
set_option linter.unusedSimpArgs false
abbrev DiskT := NodeST × (EntryST × (EntryST × (DirOpST × Int)))
abbrev dDisk : Ty DiskT := Ty.pair dNodeS (Ty.pair dEntryS (Ty.pair dEntryS (Ty.pair dDirOpS (Ty.int .i64))))
set_option synthInstance.maxSize 2000
theorem rdDisk {w : World} {v : Value} {x : DiskT} (h : RdV true dDisk w v x) : ∃ v0 v1 v2 v3, v = .agg #[v0, v1, v2, v3, .int .i64 x.2.2.2.2] ∧ RdV false dNodeS w v0 x.1 ∧ RdV false dEntryS w v1 x.2.1 ∧ RdV false dEntryS w v2 x.2.2.1 ∧ RdV false dDirOpS w v3 x.2.2.2.1 := by
  obtain ⟨cs, rfl, c0, r0, rfl, h0, c1, r1, rfl, h1, c2, r2, rfl, h2, c3, c4, rfl, h3, h4⟩ := h
  obtain ⟨A0, cp0, rfl, g0⟩ := h0
  obtain ⟨A1, cp1, rfl, g1⟩ := h1
  obtain ⟨A2, cp2, rfl, g2⟩ := h2
  obtain ⟨A3, cp3, rfl, g3⟩ := h3
  obtain ⟨rfl, g4⟩ := h4
  exact ⟨_, _, _, _, rfl, ⟨_, rfl, A0, cp0, rfl, g0⟩, ⟨_, rfl, A1, cp1, rfl, g1⟩, ⟨_, rfl, A2, cp2, rfl, g2⟩, ⟨_, rfl, A3, cp3, rfl, g3⟩⟩
theorem cellsDisk {w : World} {v : Value} {x : DiskT} (h : RdV true dDisk w v x) : ∃ A0 q0 A1 q1 A2 q2 A3 q3, v = .agg #[.slice A0 x.1.length q0, .slice A1 x.2.1.length q1, .slice A2 x.2.2.1.length q2, .slice A3 x.2.2.2.1.length q3, .int .i64 x.2.2.2.2] := by
  obtain ⟨v0, v1, v2, v3, rfl, k0, k1, k2, k3⟩ := rdDisk h
  obtain ⟨A0, q0, rfl, _⟩ := k0.slice
  obtain ⟨A1, q1, rfl, _⟩ := k1.slice
  obtain ⟨A2, q2, rfl, _⟩ := k2.slice
  obtain ⟨A3, q3, rfl, _⟩ := k3.slice
  exact ⟨A0, q0, A1, q1, A2, q2, A3, q3, rfl⟩
theorem fldDisk0 : Fld dDisk 0 dNodeS (fun x => x.1) (fun x y => (y, x.2)) := (Fld.fst (Fld.one rfl))
theorem fldDisk1 : Fld dDisk 1 dEntryS (fun x => x.2.1) (fun x y => (x.1, y, x.2.2)) := (Fld.snd (Fld.fst (Fld.one rfl)) rfl)
theorem fldDisk2 : Fld dDisk 2 dEntryS (fun x => x.2.2.1) (fun x y => (x.1, x.2.1, y, x.2.2.2)) := (Fld.snd (Fld.snd (Fld.fst (Fld.one rfl)) rfl) rfl)
theorem fldDisk3 : Fld dDisk 3 dDirOpS (fun x => x.2.2.2.1) (fun x y => (x.1, x.2.1, x.2.2.1, y, x.2.2.2.2)) := (Fld.snd (Fld.snd (Fld.snd (Fld.fst (Fld.one rfl)) rfl) rfl) rfl)
theorem fldDisk4 : Fld dDisk 4 (Ty.int .i64) (fun x => x.2.2.2.2) (fun x y => (x.1, x.2.1, x.2.2.1, x.2.2.2.1, y)) := (Fld.snd (Fld.snd (Fld.snd (Fld.snd (Fld.one rfl) rfl) rfl) rfl) rfl)
theorem mDisk {w : World} {x : DiskT} {F0 F1 F2 F3 : List Nat} {v0 v1 v2 v3 : Value} (g4 : IntKind.i64.wrap x.2.2.2.2 = x.2.2.2.2) (o0 : Own dNode 88 w F0 v0 x.1) (o1 : Own dEntry 98 w F1 v1 x.2.1) (o2 : Own dEntry 98 w F2 v2 x.2.2.1) (o3 : Own dDirOp 90 w F3 v3 x.2.2.2.1) (n0 : (F0 ++ (F1 ++ (F2 ++ (F3 ++ ([]))))).Nodup) : dDisk.M w (F0 ++ (F1 ++ (F2 ++ (F3 ++ ([]))))) x [v0, v1, v2, v3, .int .i64 x.2.2.2.2] := by
  have n1 := (List.nodup_append.1 n0).2.1
  have n2 := (List.nodup_append.1 n1).2.1
  have n3 := (List.nodup_append.1 n2).2.1
  have n4 := (List.nodup_append.1 n3).2.1
  exact ⟨_, _, F0, _, rfl, rfl, n0, ⟨_, rfl, o0⟩, ⟨_, _, F1, _, rfl, rfl, n1, ⟨_, rfl, o1⟩, ⟨_, _, F2, _, rfl, rfl, n2, ⟨_, rfl, o2⟩, ⟨_, _, F3, _, rfl, rfl, n3, ⟨_, rfl, o3⟩, ⟨rfl, rfl, g4⟩⟩⟩⟩⟩

set_option maxHeartbeats 1000000 in
set_option maxRecDepth 100000 in
theorem eqDisk_v {w : World} {v v' : Value} {x x' : DiskT} (h : RdV true dDisk w v x) (h' : RdV true dDisk w v' x') : Calls Tryz.prog 11 #[v, v'] w (Ret (.bool (decide (x = x'))) w) := by
  obtain ⟨v0, v1, v2, v3, rfl, k0, k1, k2, k3⟩ := rdDisk h
  obtain ⟨u0, u1, u2, u3, rfl, k0', k1', k2', k3'⟩ := rdDisk h'
  obtain ⟨a0, a1, a2, a3, a4⟩ := x
  obtain ⟨b0, b1, b2, b3, b4⟩ := x'
  simp only at k0 k0' k1 k1' k2 k2' k3 k3' ⊢
  have HB0 := Sec.mk ((Blk.new w 34 [v0, v1, v2, v3, .int .i64 a4]).alloc (.cells #[u0, u1, u2, u3, .int .i64 b4] 34))
  have HB1 := Sec.mk (Blk.new (w.alloc (.cells #[v0, v1, v2, v3, .int .i64 a4] 34)) 34 [u0, u1, u2, u3, .int .i64 b4])
  rw [show (w.alloc (.cells #[v0, v1, v2, v3, .int .i64 a4] 34)).heap.size = w.heap.size + 1 by simp] at HB1
  have HM0 := Sec.mk (((Mod.refl (fun _ => False) w).alloc (.cells #[v0, v1, v2, v3, .int .i64 a4] 34)).alloc (.cells #[u0, u1, u2, u3, .int .i64 b4] 34))
  have H0 := Sec.mk (k0.step HM0.out)
  have H0' := Sec.mk (k0'.step HM0.out)
  have H1 := Sec.mk (k1.step HM0.out)
  have H1' := Sec.mk (k1'.step HM0.out)
  have H2 := Sec.mk (k2.step HM0.out)
  have H2' := Sec.mk (k2'.step HM0.out)
  have H3 := Sec.mk (k3.step HM0.out)
  have H3' := Sec.mk (k3'.step HM0.out)
  clear h h' k0 k0' k1 k1' k2 k2' k3 k3'
  by_cases e0 : a0 = b0
  rotate_left
  · have HE : Sec (decide ((a0, a1, a2, a3, a4) = (b0, b1, b2, b3, b4)) = false) := ⟨by simp [e0]⟩
    have E0 : Sec (decide (a0 = b0) = false) := ⟨by simp [e0]⟩
    clear e0
    go_enter Tryz.func11, Tryz.ntmps11
    go_wp2_with fail
    refine (eqNodeS_v (H0.out) (H0'.out)).mono ?_
    rw [E0.out]
    rintro e w0 ⟨rfl, hm0⟩
    have m0 := Sec.mk hm0
    clear hm0
    go_wp2
    go_ret
    exact ⟨by rw [HE.out]; rfl, HM0.out.transN m0.out⟩
  have E0 : Sec (decide (a0 = b0) = true) := ⟨by simp [e0]⟩
  have S0 := Sec.mk e0
  clear e0
  by_cases e1 : a1 = b1
  rotate_left
  · have HE : Sec (decide ((a0, a1, a2, a3, a4) = (b0, b1, b2, b3, b4)) = false) := ⟨by simp [e1]⟩
    have E1 : Sec (decide (a1 = b1) = false) := ⟨by simp [e1]⟩
    clear e1
    go_enter Tryz.func11, Tryz.ntmps11
    go_wp2_with fail
    refine (eqNodeS_v (H0.out) (H0'.out)).mono ?_
    rw [E0.out]
    rintro e w0 ⟨rfl, hm0⟩
    have m0 := Sec.mk hm0
    have p0_1 : w0.cell? ⟨w.heap.size, 1, none⟩ = some (v1) := (HB0.out.mod m0.out id).cell 1
    have q0_1 : w0.cell? ⟨w.heap.size + 1, 1, none⟩ = some (u1) := (HB1.out.mod m0.out id).cell 1
    clear hm0
    go_wp2_with fail
    refine (eqEntryS_v (H1.out.step m0.out) (H1'.out.step m0.out)).mono ?_
    rw [E1.out]
    rintro e w1 ⟨rfl, hm1⟩
    have m1 := Sec.mk (m0.out.transN hm1)
    clear hm1
    go_wp2
    go_ret
    exact ⟨by rw [HE.out]; rfl, HM0.out.transN m1.out⟩
  have E1 : Sec (decide (a1 = b1) = true) := ⟨by simp [e1]⟩
  have S1 := Sec.mk e1
  clear e1
  by_cases e2 : a2 = b2
  rotate_left
  · have HE : Sec (decide ((a0, a1, a2, a3, a4) = (b0, b1, b2, b3, b4)) = false) := ⟨by simp [e2]⟩
    have E2 : Sec (decide (a2 = b2) = false) := ⟨by simp [e2]⟩
    clear e2
    go_enter Tryz.func11, Tryz.ntmps11
    go_wp2_with fail
    refine (eqNodeS_v (H0.out) (H0'.out)).mono ?_
    rw [E0.out]
    rintro e w0 ⟨rfl, hm0⟩
    have m0 := Sec.mk hm0
    have p0_1 : w0.cell? ⟨w.heap.size, 1, none⟩ = some (v1) := (HB0.out.mod m0.out id).cell 1
    have q0_1 : w0.cell? ⟨w.heap.size + 1, 1, none⟩ = some (u1) := (HB1.out.mod m0.out id).cell 1
    have p0_2 : w0.cell? ⟨w.heap.size, 2, none⟩ = some (v2) := (HB0.out.mod m0.out id).cell 2
    have q0_2 : w0.cell? ⟨w.heap.size + 1, 2, none⟩ = some (u2) := (HB1.out.mod m0.out id).cell 2
    clear hm0
    go_wp2_with fail
    refine (eqEntryS_v (H1.out.step m0.out) (H1'.out.step m0.out)).mono ?_
    rw [E1.out]
    rintro e w1 ⟨rfl, hm1⟩
    have m1 := Sec.mk (m0.out.transN hm1)
    have p1_2 : w1.cell? ⟨w.heap.size, 2, none⟩ = some (v2) := (HB0.out.mod m1.out id).cell 2
    have q1_2 : w1.cell? ⟨w.heap.size + 1, 2, none⟩ = some (u2) := (HB1.out.mod m1.out id).cell 2
    clear hm1
    go_wp2_with fail
    refine (eqEntryS_v (H2.out.step m1.out) (H2'.out.step m1.out)).mono ?_
    rw [E2.out]
    rintro e w2 ⟨rfl, hm2⟩
    have m2 := Sec.mk (m1.out.transN hm2)
    clear hm2
    go_wp2
    go_ret
    exact ⟨by rw [HE.out]; rfl, HM0.out.transN m2.out⟩
  have E2 : Sec (decide (a2 = b2) = true) := ⟨by simp [e2]⟩
  have S2 := Sec.mk e2
  clear e2
  by_cases e3 : a3 = b3
  rotate_left
  · have HE : Sec (decide ((a0, a1, a2, a3, a4) = (b0, b1, b2, b3, b4)) = false) := ⟨by simp [e3]⟩
    have E3 : Sec (decide (a3 = b3) = false) := ⟨by simp [e3]⟩
    clear e3
    go_enter Tryz.func11, Tryz.ntmps11
    go_wp2_with fail
    refine (eqNodeS_v (H0.out) (H0'.out)).mono ?_
    rw [E0.out]
    rintro e w0 ⟨rfl, hm0⟩
    have m0 := Sec.mk hm0
    have p0_1 : w0.cell? ⟨w.heap.size, 1, none⟩ = some (v1) := (HB0.out.mod m0.out id).cell 1
    have q0_1 : w0.cell? ⟨w.heap.size + 1, 1, none⟩ = some (u1) := (HB1.out.mod m0.out id).cell 1
    have p0_2 : w0.cell? ⟨w.heap.size, 2, none⟩ = some (v2) := (HB0.out.mod m0.out id).cell 2
    have q0_2 : w0.cell? ⟨w.heap.size + 1, 2, none⟩ = some (u2) := (HB1.out.mod m0.out id).cell 2
    have p0_3 : w0.cell? ⟨w.heap.size, 3, none⟩ = some (v3) := (HB0.out.mod m0.out id).cell 3
    have q0_3 : w0.cell? ⟨w.heap.size + 1, 3, none⟩ = some (u3) := (HB1.out.mod m0.out id).cell 3
    clear hm0
    go_wp2_with fail
    refine (eqEntryS_v (H1.out.step m0.out) (H1'.out.step m0.out)).mono ?_
    rw [E1.out]
    rintro e w1 ⟨rfl, hm1⟩
    have m1 := Sec.mk (m0.out.transN hm1)
    have p1_2 : w1.cell? ⟨w.heap.size, 2, none⟩ = some (v2) := (HB0.out.mod m1.out id).cell 2
    have q1_2 : w1.cell? ⟨w.heap.size + 1, 2, none⟩ = some (u2) := (HB1.out.mod m1.out id).cell 2
    have p1_3 : w1.cell? ⟨w.heap.size, 3, none⟩ = some (v3) := (HB0.out.mod m1.out id).cell 3
    have q1_3 : w1.cell? ⟨w.heap.size + 1, 3, none⟩ = some (u3) := (HB1.out.mod m1.out id).cell 3
    clear hm1
    go_wp2_with fail
    refine (eqEntryS_v (H2.out.step m1.out) (H2'.out.step m1.out)).mono ?_
    rw [E2.out]
    rintro e w2 ⟨rfl, hm2⟩
    have m2 := Sec.mk (m1.out.transN hm2)
    have p2_3 : w2.cell? ⟨w.heap.size, 3, none⟩ = some (v3) := (HB0.out.mod m2.out id).cell 3
    have q2_3 : w2.cell? ⟨w.heap.size + 1, 3, none⟩ = some (u3) := (HB1.out.mod m2.out id).cell 3
    clear hm2
    go_wp2_with fail
    refine (eqDirOpS_v (H3.out.step m2.out) (H3'.out.step m2.out)).mono ?_
    rw [E3.out]
    rintro e w3 ⟨rfl, hm3⟩
    have m3 := Sec.mk (m2.out.transN hm3)
    clear hm3
    go_wp2
    go_ret
    exact ⟨by rw [HE.out]; rfl, HM0.out.transN m3.out⟩
  have E3 : Sec (decide (a3 = b3) = true) := ⟨by simp [e3]⟩
  have S3 := Sec.mk e3
  clear e3
  by_cases e4 : a4 = b4
  rotate_left
  · have HE : Sec (decide ((a0, a1, a2, a3, a4) = (b0, b1, b2, b3, b4)) = false) := ⟨by simp [e4]⟩
    have hb4 : (a4 != b4) = true := by simpa using e4
    clear e4
    go_enter Tryz.func11, Tryz.ntmps11
    go_wp2_with fail
    refine (eqNodeS_v (H0.out) (H0'.out)).mono ?_
    rw [E0.out]
    rintro e w0 ⟨rfl, hm0⟩
    have m0 := Sec.mk hm0
    have p0_1 : w0.cell? ⟨w.heap.size, 1, none⟩ = some (v1) := (HB0.out.mod m0.out id).cell 1
    have q0_1 : w0.cell? ⟨w.heap.size + 1, 1, none⟩ = some (u1) := (HB1.out.mod m0.out id).cell 1
    have p0_2 : w0.cell? ⟨w.heap.size, 2, none⟩ = some (v2) := (HB0.out.mod m0.out id).cell 2
    have q0_2 : w0.cell? ⟨w.heap.size + 1, 2, none⟩ = some (u2) := (HB1.out.mod m0.out id).cell 2
    have p0_3 : w0.cell? ⟨w.heap.size, 3, none⟩ = some (v3) := (HB0.out.mod m0.out id).cell 3
    have q0_3 : w0.cell? ⟨w.heap.size + 1, 3, none⟩ = some (u3) := (HB1.out.mod m0.out id).cell 3
    have p0_4 : w0.cell? ⟨w.heap.size, 4, none⟩ = some (.int .i64 a4) := (HB0.out.mod m0.out id).cell 4
    have q0_4 : w0.cell? ⟨w.heap.size + 1, 4, none⟩ = some (.int .i64 b4) := (HB1.out.mod m0.out id).cell 4
    clear hm0
    go_wp2_with fail
    refine (eqEntryS_v (H1.out.step m0.out) (H1'.out.step m0.out)).mono ?_
    rw [E1.out]
    rintro e w1 ⟨rfl, hm1⟩
    have m1 := Sec.mk (m0.out.transN hm1)
    have p1_2 : w1.cell? ⟨w.heap.size, 2, none⟩ = some (v2) := (HB0.out.mod m1.out id).cell 2
    have q1_2 : w1.cell? ⟨w.heap.size + 1, 2, none⟩ = some (u2) := (HB1.out.mod m1.out id).cell 2
    have p1_3 : w1.cell? ⟨w.heap.size, 3, none⟩ = some (v3) := (HB0.out.mod m1.out id).cell 3
    have q1_3 : w1.cell? ⟨w.heap.size + 1, 3, none⟩ = some (u3) := (HB1.out.mod m1.out id).cell 3
    have p1_4 : w1.cell? ⟨w.heap.size, 4, none⟩ = some (.int .i64 a4) := (HB0.out.mod m1.out id).cell 4
    have q1_4 : w1.cell? ⟨w.heap.size + 1, 4, none⟩ = some (.int .i64 b4) := (HB1.out.mod m1.out id).cell 4
    clear hm1
    go_wp2_with fail
    refine (eqEntryS_v (H2.out.step m1.out) (H2'.out.step m1.out)).mono ?_
    rw [E2.out]
    rintro e w2 ⟨rfl, hm2⟩
    have m2 := Sec.mk (m1.out.transN hm2)
    have p2_3 : w2.cell? ⟨w.heap.size, 3, none⟩ = some (v3) := (HB0.out.mod m2.out id).cell 3
    have q2_3 : w2.cell? ⟨w.heap.size + 1, 3, none⟩ = some (u3) := (HB1.out.mod m2.out id).cell 3
    have p2_4 : w2.cell? ⟨w.heap.size, 4, none⟩ = some (.int .i64 a4) := (HB0.out.mod m2.out id).cell 4
    have q2_4 : w2.cell? ⟨w.heap.size + 1, 4, none⟩ = some (.int .i64 b4) := (HB1.out.mod m2.out id).cell 4
    clear hm2
    go_wp2_with fail
    refine (eqDirOpS_v (H3.out.step m2.out) (H3'.out.step m2.out)).mono ?_
    rw [E3.out]
    rintro e w3 ⟨rfl, hm3⟩
    have m3 := Sec.mk (m2.out.transN hm3)
    have p3_4 : w3.cell? ⟨w.heap.size, 4, none⟩ = some (.int .i64 a4) := (HB0.out.mod m3.out id).cell 4
    have q3_4 : w3.cell? ⟨w.heap.size + 1, 4, none⟩ = some (.int .i64 b4) := (HB1.out.mod m3.out id).cell 4
    clear hm3
    go_wp2
    go_ret
    exact ⟨by rw [HE.out]; rfl, HM0.out.transN m3.out⟩
  have hb4 : (a4 != b4) = false := by simp [e4]
  have S4 := Sec.mk e4
  clear e4
  have HE : Sec (decide ((a0, a1, a2, a3, a4) = (b0, b1, b2, b3, b4)) = true) := ⟨by simp [S0.out, S1.out, S2.out, S3.out, S4.out]⟩
  go_enter Tryz.func11, Tryz.ntmps11
  go_wp2_with fail
  refine (eqNodeS_v (H0.out) (H0'.out)).mono ?_
  rw [E0.out]
  rintro e w0 ⟨rfl, hm0⟩
  have m0 := Sec.mk hm0
  have p0_1 : w0.cell? ⟨w.heap.size, 1, none⟩ = some (v1) := (HB0.out.mod m0.out id).cell 1
  have q0_1 : w0.cell? ⟨w.heap.size + 1, 1, none⟩ = some (u1) := (HB1.out.mod m0.out id).cell 1
  have p0_2 : w0.cell? ⟨w.heap.size, 2, none⟩ = some (v2) := (HB0.out.mod m0.out id).cell 2
  have q0_2 : w0.cell? ⟨w.heap.size + 1, 2, none⟩ = some (u2) := (HB1.out.mod m0.out id).cell 2
  have p0_3 : w0.cell? ⟨w.heap.size, 3, none⟩ = some (v3) := (HB0.out.mod m0.out id).cell 3
  have q0_3 : w0.cell? ⟨w.heap.size + 1, 3, none⟩ = some (u3) := (HB1.out.mod m0.out id).cell 3
  have p0_4 : w0.cell? ⟨w.heap.size, 4, none⟩ = some (.int .i64 a4) := (HB0.out.mod m0.out id).cell 4
  have q0_4 : w0.cell? ⟨w.heap.size + 1, 4, none⟩ = some (.int .i64 b4) := (HB1.out.mod m0.out id).cell 4
  clear hm0
  go_wp2_with fail
  refine (eqEntryS_v (H1.out.step m0.out) (H1'.out.step m0.out)).mono ?_
  rw [E1.out]
  rintro e w1 ⟨rfl, hm1⟩
  have m1 := Sec.mk (m0.out.transN hm1)
  have p1_2 : w1.cell? ⟨w.heap.size, 2, none⟩ = some (v2) := (HB0.out.mod m1.out id).cell 2
  have q1_2 : w1.cell? ⟨w.heap.size + 1, 2, none⟩ = some (u2) := (HB1.out.mod m1.out id).cell 2
  have p1_3 : w1.cell? ⟨w.heap.size, 3, none⟩ = some (v3) := (HB0.out.mod m1.out id).cell 3
  have q1_3 : w1.cell? ⟨w.heap.size + 1, 3, none⟩ = some (u3) := (HB1.out.mod m1.out id).cell 3
  have p1_4 : w1.cell? ⟨w.heap.size, 4, none⟩ = some (.int .i64 a4) := (HB0.out.mod m1.out id).cell 4
  have q1_4 : w1.cell? ⟨w.heap.size + 1, 4, none⟩ = some (.int .i64 b4) := (HB1.out.mod m1.out id).cell 4
  clear hm1
  go_wp2_with fail
  refine (eqEntryS_v (H2.out.step m1.out) (H2'.out.step m1.out)).mono ?_
  rw [E2.out]
  rintro e w2 ⟨rfl, hm2⟩
  have m2 := Sec.mk (m1.out.transN hm2)
  have p2_3 : w2.cell? ⟨w.heap.size, 3, none⟩ = some (v3) := (HB0.out.mod m2.out id).cell 3
  have q2_3 : w2.cell? ⟨w.heap.size + 1, 3, none⟩ = some (u3) := (HB1.out.mod m2.out id).cell 3
  have p2_4 : w2.cell? ⟨w.heap.size, 4, none⟩ = some (.int .i64 a4) := (HB0.out.mod m2.out id).cell 4
  have q2_4 : w2.cell? ⟨w.heap.size + 1, 4, none⟩ = some (.int .i64 b4) := (HB1.out.mod m2.out id).cell 4
  clear hm2
  go_wp2_with fail
  refine (eqDirOpS_v (H3.out.step m2.out) (H3'.out.step m2.out)).mono ?_
  rw [E3.out]
  rintro e w3 ⟨rfl, hm3⟩
  have m3 := Sec.mk (m2.out.transN hm3)
  have p3_4 : w3.cell? ⟨w.heap.size, 4, none⟩ = some (.int .i64 a4) := (HB0.out.mod m3.out id).cell 4
  have q3_4 : w3.cell? ⟨w.heap.size + 1, 4, none⟩ = some (.int .i64 b4) := (HB1.out.mod m3.out id).cell 4
  clear hm3
  go_wp2
  go_ret
  exact ⟨by rw [HE.out]; rfl, HM0.out.transN m3.out⟩

def mkDisk1 (k : Nat) (x : DiskT) : DiskT := (mkNodeS1 k x.1, mkEntryS1 (k + cntNodeS x.1) x.2.1, mkEntryS1 ((k + cntNodeS x.1) + cntEntryS x.2.1) x.2.2.1, mkDirOpS1 (((k + cntNodeS x.1) + cntEntryS x.2.1) + cntEntryS x.2.2.1) x.2.2.2.1, x.2.2.2.2)
def cntDisk (x : DiskT) : Nat := cntNodeS x.1 + cntEntryS x.2.1 + cntEntryS x.2.2.1 + cntDirOpS x.2.2.2.1
theorem cntDisk_mk (k : Nat) (x : DiskT) : cntDisk (mkDisk1 k x) = cntDisk x := by simp only [cntDisk, mkDisk1, cntDirOpS_mk, cntEntryS_mk, cntNodeS_mk]
theorem mkDisk1_idem (k k' : Nat) (x : DiskT) : mkDisk1 k' (mkDisk1 k x) = mkDisk1 k' x := by simp only [mkDisk1, cntDirOpS_mk, cntEntryS_mk, cntNodeS_mk, mkDirOpS1_idem, mkEntryS1_idem, mkNodeS1_idem]

set_option maxHeartbeats 1000000 in
set_option maxRecDepth 100000 in
theorem markDisk_f {w : World} {F : List Nat} {v : Value} {x : DiskT} (h : OwF true dDisk w F v x) (k : Nat) (hk : k + cntDisk x ≤ 1152921504606846976) :
    Calls Tryz.prog 13 #[v, .int .i64 k] w (Marks true dDisk w F v (k + cntDisk x) (mkDisk1 k x)) := by
  obtain ⟨v0, v1, v2, v3, rfl, -, -, -, -⟩ := rdDisk h.rd
  have HLT := Sec.mk h.lt
  have HB := Sec.mk (Blk.new w 34 [v0, v1, v2, v3, .int .i64 x.2.2.2.2])
  have HX := Sec.mk (h.mv (w' := w.alloc (.cells #[v0, v1, v2, v3, .int .i64 x.2.2.2.2] 34)) fun i hi => Below.heap_alloc _ _ _ (h.lt i hi))
  have HM : Sec (Mod (· ∈ F) w (w.alloc (.cells #[v0, v1, v2, v3, .int .i64 x.2.2.2.2] 34))) := ⟨(Mod.refl _ _).alloc _⟩
  have HF : Sec (∀ i, i ∈ F → i ∈ F) := ⟨fun _ h => h⟩
  have HCN : Sec (cntDisk x = cntNodeS x.1 + cntEntryS x.2.1 + cntEntryS x.2.2.1 + cntDirOpS x.2.2.2.1) := ⟨rfl⟩
  have hcn := HCN.out
  clear h
  go_enter Tryz.func13, Tryz.ntmps13
  obtain ⟨G0, ho0, hG0, hst0⟩ := fldDisk0.lead1 (vi := v0) rfl HX.out
  have HV0 := Sec.mk ho0
  have HG0 := Sec.mk hG0
  have HT0 := Sec.mk hst0
  clear ho0 hG0 hst0
  go_wp2_with fail
  refine Calls.mono (markNodeS_i HV0.out _ k ?_ ?_) ?_
  · first | rfl | omega
  · (try dsimp only at hcn ⊢); omega
  rintro e w0 ⟨rfl, ⟨F0, ho0, hF0⟩, hm0⟩
  obtain ⟨G0', ho, hG0'⟩ := HT0.out w0 _ F0 hm0 ho0 hF0
  have HX0 := Sec.mk ho
  have HF0 := Sec.mk (fun i hi => HF.out i (hG0' i hi))
  have HM0 : Sec (Mod (· ∈ F) w w0) := ⟨HM.out.trans hm0 fun i hi _ => HF.out i (HG0.out i hi)⟩
  have HB0 := Sec.mk (HB.out.mod hm0 (fun h => absurd (HLT.out _ (HF.out _ (HG0.out _ h))) (Nat.lt_irrefl _)))
  have p0_1 : w0.cell? ⟨w.heap.size, 1, none⟩ = some v1 := HB0.out.cell 1
  have p0_2 : w0.cell? ⟨w.heap.size, 2, none⟩ = some v2 := HB0.out.cell 2
  have p0_3 : w0.cell? ⟨w.heap.size, 3, none⟩ = some v3 := HB0.out.cell 3
  clear ho0 hF0 hm0 ho hG0' HT0 HV0 HG0
  obtain ⟨s0, hs0⟩ : ∃ t, t = k + cntNodeS x.1 := ⟨_, rfl⟩
  try dsimp only at HX0
  rw [← hs0]
  have HS0 := Sec.mk hs0
  clear hs0
  obtain ⟨G1, ho1, hG1, hst1⟩ := fldDisk1.lead1 (vi := v1) rfl HX0.out
  have HV1 := Sec.mk ho1
  have HG1 := Sec.mk hG1
  have HT1 := Sec.mk hst1
  clear ho1 hG1 hst1
  go_wp2_with fail
  refine Calls.mono (markEntryS_i HV1.out _ s0 ?_ ?_) ?_
  · first | rfl | omega
  · have := HS0.out; (try dsimp only at hcn ⊢); omega
  rintro e w1 ⟨rfl, ⟨F1, ho1, hF1⟩, hm1⟩
  obtain ⟨G1', ho, hG1'⟩ := HT1.out w1 _ F1 hm1 ho1 hF1
  have HX1 := Sec.mk ho
  have HF1 := Sec.mk (fun i hi => HF0.out i (hG1' i hi))
  have HM1 : Sec (Mod (· ∈ F) w w1) := ⟨HM0.out.trans hm1 fun i hi _ => HF0.out i (HG1.out i hi)⟩
  have HB1 := Sec.mk (HB0.out.mod hm1 (fun h => absurd (HLT.out _ (HF0.out _ (HG1.out _ h))) (Nat.lt_irrefl _)))
  have p1_2 : w1.cell? ⟨w.heap.size, 2, none⟩ = some v2 := HB1.out.cell 2
  have p1_3 : w1.cell? ⟨w.heap.size, 3, none⟩ = some v3 := HB1.out.cell 3
  clear ho1 hF1 hm1 ho hG1' HT1 HV1 HG1
  obtain ⟨s1, hs1⟩ : ∃ t, t = s0 + cntEntryS x.2.1 := ⟨_, rfl⟩
  try dsimp only at HX1
  rw [← hs1]
  have HS1 := Sec.mk hs1
  clear hs1
  obtain ⟨G2, ho2, hG2, hst2⟩ := fldDisk2.lead1 (vi := v2) rfl HX1.out
  have HV2 := Sec.mk ho2
  have HG2 := Sec.mk hG2
  have HT2 := Sec.mk hst2
  clear ho2 hG2 hst2
  go_wp2_with fail
  refine Calls.mono (markEntryS_i HV2.out _ s1 ?_ ?_) ?_
  · first | rfl | omega
  · have := HS0.out; have := HS1.out; (try dsimp only at hcn ⊢); omega
  rintro e w2 ⟨rfl, ⟨F2, ho2, hF2⟩, hm2⟩
  obtain ⟨G2', ho, hG2'⟩ := HT2.out w2 _ F2 hm2 ho2 hF2
  have HX2 := Sec.mk ho
  have HF2 := Sec.mk (fun i hi => HF1.out i (hG2' i hi))
  have HM2 : Sec (Mod (· ∈ F) w w2) := ⟨HM1.out.trans hm2 fun i hi _ => HF1.out i (HG2.out i hi)⟩
  have HB2 := Sec.mk (HB1.out.mod hm2 (fun h => absurd (HLT.out _ (HF1.out _ (HG2.out _ h))) (Nat.lt_irrefl _)))
  have p2_3 : w2.cell? ⟨w.heap.size, 3, none⟩ = some v3 := HB2.out.cell 3
  clear ho2 hF2 hm2 ho hG2' HT2 HV2 HG2
  obtain ⟨s2, hs2⟩ : ∃ t, t = s1 + cntEntryS x.2.2.1 := ⟨_, rfl⟩
  try dsimp only at HX2
  rw [← hs2]
  have HS2 := Sec.mk hs2
  clear hs2
  obtain ⟨G3, ho3, hG3, hst3⟩ := fldDisk3.lead1 (vi := v3) rfl HX2.out
  have HV3 := Sec.mk ho3
  have HG3 := Sec.mk hG3
  have HT3 := Sec.mk hst3
  clear ho3 hG3 hst3
  go_wp2_with fail
  refine Calls.mono (markDirOpS_i HV3.out _ s2 ?_ ?_) ?_
  · first | rfl | omega
  · have := HS0.out; have := HS1.out; have := HS2.out; (try dsimp only at hcn ⊢); omega
  rintro e w3 ⟨rfl, ⟨F3, ho3, hF3⟩, hm3⟩
  obtain ⟨G3', ho, hG3'⟩ := HT3.out w3 _ F3 hm3 ho3 hF3
  have HX3 := Sec.mk ho
  have HF3 := Sec.mk (fun i hi => HF2.out i (hG3' i hi))
  have HM3 : Sec (Mod (· ∈ F) w w3) := ⟨HM2.out.trans hm3 fun i hi _ => HF2.out i (HG3.out i hi)⟩
  have HB3 := Sec.mk (HB2.out.mod hm3 (fun h => absurd (HLT.out _ (HF2.out _ (HG3.out _ h))) (Nat.lt_irrefl _)))
  clear ho3 hF3 hm3 ho hG3' HT3 HV3 HG3
  obtain ⟨s3, hs3⟩ : ∃ t, t = s2 + cntDirOpS x.2.2.2.1 := ⟨_, rfl⟩
  try dsimp only at HX3
  rw [← hs3]
  have HS3 := Sec.mk hs3
  clear hs3
  have HFIN : Sec (s3 = k + cntDisk x) := ⟨by rw [HCN.out]; have := HS0.out; have := HS1.out; have := HS2.out; have := HS3.out; omega⟩
  have HEQ : Sec ((mkNodeS1 k x.1, mkEntryS1 s0 x.2.1, mkEntryS1 s1 x.2.2.1, mkDirOpS1 s2 x.2.2.2.1, x.2.2.2.2) = mkDisk1 k x) := ⟨by have h0 := HS0.out; subst h0; have h1 := HS1.out; subst h1; have h2 := HS2.out; subst h2; have h3 := HS3.out; subst h3; rfl⟩
  try rw [← HFIN.out]
  go_wp2
  go_ret
  exact ⟨by first | rfl | (rw [← HFIN.out]; rfl), ⟨G3', by first | exact HX3.out | (rw [← HEQ.out]; exact HX3.out), HF3.out⟩, HM3.out⟩
theorem markDisk_v {w : World} {lo hi : Nat} {v : Value} {x : DiskT} (h : OwV true dDisk w lo hi v x) (k : Nat) (hk : k + cntDisk x ≤ 1152921504606846976) :
    Calls Tryz.prog 13 #[v, .int .i64 k] w fun e w' => e = .returned (.int .i64 ((k + cntDisk x : Nat) : Int)) ∧ OwV true dDisk w' lo hi v (mkDisk1 k x) ∧ Mod (fun i => lo ≤ i ∧ i < hi) w w' :=
  h.mark fun F hF => markDisk_f hF k hk


set_option maxHeartbeats 1000000 in
set_option maxRecDepth 100000 in
theorem heldDisk_v {w : World} {v : Value} {x : DiskT} (h : RdV true dDisk w v x) (k : Nat) (hx : x = mkDisk1 k x) (hk : k + cntDisk x ≤ 1152921504606846976) :
    Calls Tryz.prog 41 #[v, .int .i64 k] w (Ret (.int .i64 ((k + cntDisk x : Nat) : Int)) w) := by
  obtain ⟨v0, v1, v2, v3, rfl, k0, k1, k2, k3⟩ := rdDisk h
  have HZ := Sec.mk hx
  have HB := Sec.mk (Blk.new w 34 [v0, v1, v2, v3, .int .i64 x.2.2.2.2])
  have HM : Sec (New w (w.alloc (.cells #[v0, v1, v2, v3, .int .i64 x.2.2.2.2] 34))) := ⟨(Mod.refl _ _).alloc _⟩
  have HK0 := Sec.mk k0
  have HK1 := Sec.mk k1
  have HK2 := Sec.mk k2
  have HK3 := Sec.mk k3
  have HCN : Sec (cntDisk x = cntNodeS x.1 + cntEntryS x.2.1 + cntEntryS x.2.2.1 + cntDirOpS x.2.2.2.1) := ⟨rfl⟩
  have hcn := HCN.out
  clear h hx k0 k1 k2 k3
  go_enter Tryz.func41, Tryz.ntmps41
  have HRD0 := Sec.mk (HK0.out.step HM.out)
  have z0 : x.1 = mkNodeS1 k x.1 := by have h := congrArg (fun x : DiskT => x.1) HZ.out; (try simp only [mkDisk1] at h); exact h
  have HZ0 := Sec.mk z0
  clear z0
  go_wp2_with fail
  refine Calls.mono (heldNodeS_i HRD0.out _ k ?_ HZ0.out ?_) ?_
  · first | rfl | omega
  · (try dsimp only at hcn ⊢); omega
  rintro e w0 ⟨rfl, hm0⟩
  have HM0 := Sec.mk (HM.out.transN hm0)
  have HB0 := Sec.mk (HB.out.mod hm0 id)
  have p0_1 : w0.cell? ⟨w.heap.size, 1, none⟩ = some v1 := HB0.out.cell 1
  have p0_2 : w0.cell? ⟨w.heap.size, 2, none⟩ = some v2 := HB0.out.cell 2
  have p0_3 : w0.cell? ⟨w.heap.size, 3, none⟩ = some v3 := HB0.out.cell 3
  clear hm0
  obtain ⟨s0, hs0⟩ : ∃ t, t = k + cntNodeS x.1 := ⟨_, rfl⟩
  rw [← hs0]
  have HS0 := Sec.mk hs0
  clear hs0
  have HRD1 := Sec.mk (HK1.out.step HM0.out)
  have z1 : x.2.1 = mkEntryS1 s0 x.2.1 := by have h := congrArg (fun x : DiskT => x.2.1) HZ.out; have h0 := HS0.out; subst h0; (try simp only [mkDisk1] at h); exact h
  have HZ1 := Sec.mk z1
  clear z1
  go_wp2_with fail
  refine Calls.mono (heldEntryS_i HRD1.out _ s0 ?_ HZ1.out ?_) ?_
  · first | rfl | omega
  · have := HS0.out; (try dsimp only at hcn ⊢); omega
  rintro e w1 ⟨rfl, hm1⟩
  have HM1 := Sec.mk (HM0.out.transN hm1)
  have HB1 := Sec.mk (HB0.out.mod hm1 id)
  have p1_2 : w1.cell? ⟨w.heap.size, 2, none⟩ = some v2 := HB1.out.cell 2
  have p1_3 : w1.cell? ⟨w.heap.size, 3, none⟩ = some v3 := HB1.out.cell 3
  clear hm1
  obtain ⟨s1, hs1⟩ : ∃ t, t = s0 + cntEntryS x.2.1 := ⟨_, rfl⟩
  rw [← hs1]
  have HS1 := Sec.mk hs1
  clear hs1
  have HRD2 := Sec.mk (HK2.out.step HM1.out)
  have z2 : x.2.2.1 = mkEntryS1 s1 x.2.2.1 := by have h := congrArg (fun x : DiskT => x.2.2.1) HZ.out; have h0 := HS0.out; subst h0; have h1 := HS1.out; subst h1; (try simp only [mkDisk1] at h); exact h
  have HZ2 := Sec.mk z2
  clear z2
  go_wp2_with fail
  refine Calls.mono (heldEntryS_i HRD2.out _ s1 ?_ HZ2.out ?_) ?_
  · first | rfl | omega
  · have := HS0.out; have := HS1.out; (try dsimp only at hcn ⊢); omega
  rintro e w2 ⟨rfl, hm2⟩
  have HM2 := Sec.mk (HM1.out.transN hm2)
  have HB2 := Sec.mk (HB1.out.mod hm2 id)
  have p2_3 : w2.cell? ⟨w.heap.size, 3, none⟩ = some v3 := HB2.out.cell 3
  clear hm2
  obtain ⟨s2, hs2⟩ : ∃ t, t = s1 + cntEntryS x.2.2.1 := ⟨_, rfl⟩
  rw [← hs2]
  have HS2 := Sec.mk hs2
  clear hs2
  have HRD3 := Sec.mk (HK3.out.step HM2.out)
  have z3 : x.2.2.2.1 = mkDirOpS1 s2 x.2.2.2.1 := by have h := congrArg (fun x : DiskT => x.2.2.2.1) HZ.out; have h0 := HS0.out; subst h0; have h1 := HS1.out; subst h1; have h2 := HS2.out; subst h2; (try simp only [mkDisk1] at h); exact h
  have HZ3 := Sec.mk z3
  clear z3
  go_wp2_with fail
  refine Calls.mono (heldDirOpS_i HRD3.out _ s2 ?_ HZ3.out ?_) ?_
  · first | rfl | omega
  · have := HS0.out; have := HS1.out; have := HS2.out; (try dsimp only at hcn ⊢); omega
  rintro e w3 ⟨rfl, hm3⟩
  have HM3 := Sec.mk (HM2.out.transN hm3)
  have HB3 := Sec.mk (HB2.out.mod hm3 id)
  clear hm3
  obtain ⟨s3, hs3⟩ : ∃ t, t = s2 + cntDirOpS x.2.2.2.1 := ⟨_, rfl⟩
  rw [← hs3]
  have HS3 := Sec.mk hs3
  clear hs3
  have HFIN : Sec (s3 = k + cntDisk x) := ⟨by rw [HCN.out]; have := HS0.out; have := HS1.out; have := HS2.out; have := HS3.out; omega⟩
  try rw [← HFIN.out]
  go_wp2
  go_ret
  exact ⟨by first | rfl | (rw [← HFIN.out]; rfl), HM3.out⟩

end Go.Proofs.YtkkgighgnbbgiaaGreatDoor

namespace Go.Proofs.YtkkgighgnbbgiaaGreatDoor
set_option linter.unusedVariables false
abbrev LB := List UInt8
abbrev EntL := LB × Int
abbrev DopL := Int × LB × LB × Int
abbrev NodL := LB × Int
theorem bl_eq (x y : LB) : Op.bytesLess x y = decide (x < y) := bytesLess_eq x y
theorem lb_irr (a : LB) : ¬ a < a := List.lt_irrefl a
theorem lb_trans {a b c : LB} (h : a < b) (k : b < c) : a < c := List.lt_trans h k
theorem lb_tri {a b : LB} (h : ¬ a < b) (k : ¬ b < a) : a = b := List.le_antisymm (List.not_lt.1 k) (List.not_lt.1 h)
theorem lb_asym {a b : LB} (h : a < b) : ¬ b < a := fun k => lb_irr a (lb_trans h k)
def goodL (s : LB) : Bool := decide (1 ≤ s.length) && decide (s.length ≤ 80) && s.all (fun b => decide (33 ≤ b.toNat ∧ b.toNat ≤ 126))
/-- in the order of their names -/
def Ord (l : List EntL) : Prop := l.Pairwise (fun a b => a.1 < b.1)
def lowE (l : List EntL) (n : LB) : List EntL := l.filter (fun e => decide (e.1 < n))
def highE (l : List EntL) (n : LB) : List EntL := l.filter (fun e => decide (n < e.1))
def withE (l : List EntL) (n : LB) (k : Int) : List EntL := lowE l n ++ (n, k) :: highE l n
def outE (l : List EntL) (n : LB) : List EntL := l.filter (fun e => decide (e.1 ≠ n))
/-- the first place of a name -/
def findG (n : LB) : List EntL → Nat → Int
  | [], _ => -1
  | e :: r, i => if e.1 = n then (i : Int) else findG n r (i + 1)
def findE (l : List EntL) (n : LB) : Int := findG n l 0
/-- how many names stand below -/
def placeE (l : List EntL) (n : LB) : Nat := l.countP (fun e => decide (e.1 < n))
def hasE (l : List EntL) (n : LB) : Bool := l.any (fun e => decide (e.1 = n))
def hasNode (l : List EntL) (k : Int) : Bool := l.any (fun e => decide (e.2 = k))
theorem outE_split {l : List EntL} (h : Ord l) (n : LB) : outE l n = lowE l n ++ highE l n := by
  induction l with
  | nil => rfl
  | cons e r ih =>
    have hr := (List.pairwise_cons.1 h).2
    have he := (List.pairwise_cons.1 h).1
    have ih := ih hr
    unfold outE lowE highE at ih ⊢
    by_cases h1 : e.1 < n
    · rw [List.filter_cons_of_pos (by simp; intro hh; rw [hh] at h1; exact lb_irr _ h1), List.filter_cons_of_pos (by simpa using h1), List.filter_cons_of_neg (by simpa using lb_asym h1), ih]; rfl
    · have hlow : r.filter (fun e => decide (e.1 < n)) = [] := by
        rw [List.filter_eq_nil_iff]; intro x hx; simp only [decide_eq_true_eq]; intro hh; exact h1 (lb_trans (he x hx) hh)
      rw [hlow, List.nil_append] at ih
      by_cases h2 : n < e.1
      · rw [List.filter_cons_of_pos (by simp; intro hh; rw [hh] at h2; exact lb_irr _ h2), List.filter_cons_of_neg (by simpa using h1), List.filter_cons_of_pos (by simpa using h2), hlow, ih]; rfl
      · rw [List.filter_cons_of_neg (by simp; exact lb_tri h1 h2), List.filter_cons_of_neg (by simpa using h1), List.filter_cons_of_neg (by simpa using h2), hlow, ih]; rfl
/-- below its place stand the lower names, from it on the others -/
theorem place_take {l : List EntL} (h : Ord l) (n : LB) : l.take (placeE l n) = lowE l n ∧ l.drop (placeE l n) = l.filter (fun e => decide (¬ e.1 < n)) := by
  induction l with
  | nil => exact ⟨rfl, rfl⟩
  | cons e r ih =>
    have hr := (List.pairwise_cons.1 h).2
    have he := (List.pairwise_cons.1 h).1
    have ih := ih hr
    unfold placeE lowE at ih ⊢
    by_cases h1 : e.1 < n
    · rw [List.countP_cons_of_pos (by simpa using h1), List.filter_cons_of_pos (by simpa using h1), List.filter_cons_of_neg (by simpa using h1)]
      exact ⟨by rw [List.take_succ_cons, ih.1], by rw [List.drop_succ_cons, ih.2]⟩
    · have hno : ∀ x ∈ r, ¬ x.1 < n := fun x hx hh => h1 (lb_trans (he x hx) hh)
      have hc : r.countP (fun e => decide (e.1 < n)) = 0 := by rw [List.countP_eq_zero]; intro x hx; simpa using hno x hx
      have hlow : r.filter (fun e => decide (e.1 < n)) = [] := by rw [List.filter_eq_nil_iff]; intro x hx; simpa using hno x hx
      have hhi : r.filter (fun e => decide (¬ e.1 < n)) = r := by rw [List.filter_eq_self]; intro x hx; simpa using hno x hx
      rw [List.countP_cons_of_neg (by simpa using h1), List.filter_cons_of_neg (by simpa using h1), List.filter_cons_of_pos (by simpa using h1), hc, hlow, hhi]
      exact ⟨rfl, rfl⟩
theorem placeE_le (l : List EntL) (n : LB) : placeE l n ≤ l.length := List.countP_le_length
/-- at its place stands the name, or a higher one -/
theorem place_at {l : List EntL} (h : Ord l) (n : LB) : (hasE l n = true ↔ ∃ hl : placeE l n < l.length, l[placeE l n].1 = n) ∧ (hasE l n = true → l.drop (placeE l n + 1) = highE l n) ∧ (hasE l n = false → l.drop (placeE l n) = highE l n) := by
  induction l with
  | nil => exact ⟨by simp [hasE], by simp [hasE], by simp [highE]⟩
  | cons e r ih =>
    have hr := (List.pairwise_cons.1 h).2
    have he := (List.pairwise_cons.1 h).1
    obtain ⟨i1, i2, i3⟩ := ih hr
    by_cases h1 : e.1 < n
    · have hp : placeE (e :: r) n = placeE r n + 1 := by unfold placeE; rw [List.countP_cons_of_pos (by simpa using h1)]
      have hh : hasE (e :: r) n = hasE r n := by
        unfold hasE
        rw [List.any_cons, show decide (e.1 = n) = false from by simp; intro hh; rw [hh] at h1; exact lb_irr _ h1, Bool.false_or]
      have hhi : highE (e :: r) n = highE r n := by unfold highE; rw [List.filter_cons_of_neg (by simpa using lb_asym h1)]
      rw [hp, hh, hhi]
      refine ⟨?_, by rw [List.drop_succ_cons]; exact i2, by rw [List.drop_succ_cons]; exact i3⟩
      rw [i1]
      constructor
      · rintro ⟨hl, hx⟩; exact ⟨by simp; omega, by simpa using hx⟩
      · rintro ⟨hl, hx⟩; exact ⟨by simp at hl; omega, by simpa using hx⟩
    · have hno : ∀ x ∈ r, ¬ x.1 < n := fun x hx hh => h1 (lb_trans (he x hx) hh)
      have hp : placeE (e :: r) n = 0 := by
        unfold placeE; rw [List.countP_cons_of_neg (by simpa using h1), List.countP_eq_zero]; intro x hx; simpa using hno x hx
      by_cases h2 : e.1 = n
      · have hall : highE (e :: r) n = r := by
          unfold highE
          rw [List.filter_cons_of_neg (by simp [h2, lb_irr]), List.filter_eq_self]
          intro x hx; have := he x hx; rw [h2] at this; simpa using this
        have hh : hasE (e :: r) n = true := by unfold hasE; simp [h2]
        rw [hp, hh, hall]
        exact ⟨⟨fun _ => ⟨by simp, h2⟩, fun _ => rfl⟩, fun _ => rfl, fun hf => (by cases hf)⟩
      · have hlt : n < e.1 := by
          rcases Decidable.em (n < e.1) with h | h
          · exact h
          · exact absurd (lb_tri h1 h) h2
        have hhi : ∀ x ∈ r, n < x.1 := fun x hx => lb_trans hlt (he x hx)
        have hall : highE (e :: r) n = e :: r := by
          unfold highE
          rw [List.filter_eq_self]
          intro x hx
          rcases List.mem_cons.1 hx with rfl | hx
          · simpa using hlt
          · simpa using hhi x hx
        have hh : hasE (e :: r) n = false := by
          unfold hasE
          rw [List.any_eq_false]
          intro x hx
          rcases List.mem_cons.1 hx with rfl | hx
          · simpa using h2
          · simp only [decide_eq_true_eq]; intro hh; have := hhi x hx; rw [hh] at this; exact lb_irr _ this
        rw [hp, hh, hall]
        refine ⟨⟨fun hf => (by cases hf), ?_⟩, fun hf => (by cases hf), fun _ => rfl⟩
        rintro ⟨hl, hx⟩
        exact absurd hx h2
theorem find_has (n : LB) : ∀ (l : List EntL) (i : Nat), (findG n l i = -1 ∧ hasE l n = false) ∨ (∃ j, j < l.length ∧ findG n l i = ((i + j : Nat) : Int) ∧ hasE l n = true ∧ ∃ e, l[j]? = some e ∧ e.1 = n)
  | [], i => .inl ⟨rfl, rfl⟩
  | e :: r, i => by
    by_cases h : e.1 = n
    · exact .inr ⟨0, by simp, by simp [findG, h], by simp [hasE, h], e, rfl, h⟩
    · have e1 : findG n (e :: r) i = findG n r (i + 1) := by simp [findG, h]
      have e2 : hasE (e :: r) n = hasE r n := by simp [hasE, h]
      rcases find_has n r (i + 1) with ⟨h1, h2⟩ | ⟨j, hj, h1, h2, x, hx, hxn⟩
      · exact .inl ⟨by rw [e1, h1], by rw [e2, h2]⟩
      · exact .inr ⟨j + 1, by simp; omega, by rw [e1, h1]; omega, by rw [e2, h2], x, by simpa using hx, hxn⟩
/-- where a list is in order, the first place of a name is its place -/
theorem find_place {l : List EntL} (h : Ord l) (n : LB) : findE l n = if hasE l n then (placeE l n : Int) else -1 := by
  rcases find_has n l 0 with ⟨h1, h2⟩ | ⟨j, hj, h1, h2, x, hx, hxn⟩
  · unfold findE; rw [h1, h2]; rfl
  · unfold findE; rw [h1, h2, if_pos rfl]
    obtain ⟨hp, hpe⟩ := (place_at h n).1.mp h2
    have hx' : l[j].1 = n := by
      have := (List.getElem?_eq_some_iff.1 hx).2; rw [this]; exact hxn
    have hpw := List.pairwise_iff_getElem.1 h
    rcases Nat.lt_trichotomy j (placeE l n) with hlt | heq | hgt
    · have := hpw j _ hj hp hlt; rw [hx', hpe] at this; exact absurd this (lb_irr _)
    · rw [heq]; simp
    · have := hpw _ j hp hj hgt; rw [hx', hpe] at this; exact absurd this (lb_irr _)
/-- the specification's way of binding: ahead of the first higher name -/
def withG (n : LB) (k : Int) : List EntL → Bool → List EntL
  | [], done => if done then [] else [(n, k)]
  | e :: r, done => if done = false ∧ n < e.1 then (n, k) :: e :: withG n k r true else e :: withG n k r done
theorem withG_true (n : LB) (k : Int) : ∀ l, withG n k l true = l
  | [] => rfl
  | e :: r => by unfold withG; rw [if_neg (by simp), withG_true n k r]
theorem withG_is {l : List EntL} (h : Ord l) (n : LB) (k : Int) (hno : hasE l n = false) : withG n k l false = withE l n k := by
  induction l with
  | nil => rfl
  | cons e r ih =>
    have hr := (List.pairwise_cons.1 h).2
    have he := (List.pairwise_cons.1 h).1
    have hne : e.1 ≠ n := by unfold hasE at hno; rw [List.any_cons, Bool.or_eq_false_iff] at hno; simpa using hno.1
    have hno2 : hasE r n = false := by unfold hasE at hno; rw [List.any_cons, Bool.or_eq_false_iff] at hno; exact hno.2
    have ih := ih hr hno2
    unfold withG
    by_cases h1 : n < e.1
    · rw [if_pos ⟨rfl, h1⟩, withG_true]
      unfold withE lowE highE
      have hlow : (e :: r).filter (fun x => decide (x.1 < n)) = [] := by
        rw [List.filter_eq_nil_iff]; intro x hx; simp only [decide_eq_true_eq]
        rcases List.mem_cons.1 hx with rfl | hx
        · exact lb_asym h1
        · exact lb_asym (lb_trans h1 (he x hx))
      have hhi : (e :: r).filter (fun x => decide (n < x.1)) = e :: r := by
        rw [List.filter_eq_self]; intro x hx
        rcases List.mem_cons.1 hx with rfl | hx
        · simpa using h1
        · simpa using lb_trans h1 (he x hx)
      rw [hlow, hhi]; rfl
    · have hlt : e.1 < n := by
        rcases Decidable.em (e.1 < n) with h | h
        · exact h
        · exact absurd (lb_tri h h1) hne
      rw [if_neg (fun hh => h1 hh.2), ih]
      unfold withE lowE highE
      rw [List.filter_cons_of_pos (by simpa using hlt), List.filter_cons_of_neg (by simpa using h1)]; rfl
theorem ord_sub {l m : List EntL} (h : Ord l) (hs : m.Sublist l) : Ord m := List.Pairwise.sublist hs h
theorem ord_out {l : List EntL} (h : Ord l) (n : LB) : Ord (outE l n) := ord_sub h List.filter_sublist
theorem ord_low {l : List EntL} (h : Ord l) (n : LB) : Ord (lowE l n) := ord_sub h List.filter_sublist
theorem ord_high {l : List EntL} (h : Ord l) (n : LB) : Ord (highE l n) := ord_sub h List.filter_sublist
theorem ord_with {l : List EntL} (h : Ord l) (n : LB) (k : Int) : Ord (withE l n k) := by
  unfold withE Ord
  rw [List.pairwise_append]
  have hl : ∀ x ∈ lowE l n, x.1 < n := fun x hx => by simpa using (List.mem_filter.1 hx).2
  have hh : ∀ x ∈ highE l n, n < x.1 := fun x hx => by simpa using (List.mem_filter.1 hx).2
  refine ⟨ord_low h n, List.pairwise_cons.2 ⟨fun x hx => hh x hx, ord_high h n⟩, fun a ha b hb => ?_⟩
  rcases List.mem_cons.1 hb with rfl | hb
  · exact hl a ha
  · exact lb_trans (hl a ha) (hh b hb)
theorem outE_has (l : List EntL) (n : LB) : hasE (outE l n) n = false := by
  unfold hasE outE
  rw [List.any_eq_false]
  intro x hx
  have := (List.mem_filter.1 hx).2
  simpa using this
theorem low_out (l : List EntL) (n : LB) : lowE (outE l n) n = lowE l n := by
  unfold lowE outE; rw [List.filter_filter]
  congr 1; funext e
  by_cases h : e.1 < n
  · have : e.1 ≠ n := fun hh => by rw [hh] at h; exact lb_irr _ h
    simp [h, this]
  · simp [h]
theorem high_out (l : List EntL) (n : LB) : highE (outE l n) n = highE l n := by
  unfold highE outE; rw [List.filter_filter]
  congr 1; funext e
  by_cases h : n < e.1
  · have : e.1 ≠ n := fun hh => by rw [hh] at h; exact lb_irr _ h
    simp [h, this]
  · simp [h]
/-- the specification's binding -/
theorem withS_is {l : List EntL} (h : Ord l) (n : LB) (k : Int) : withG n k (outE l n) false = withE l n k := by
  rw [withG_is (ord_out h n) n k (outE_has l n)]
  unfold withE; rw [low_out, high_out]
/-- the program's: over the name that is there, or between -/
theorem bind_there {l : List EntL} (h : Ord l) (n : LB) (k : Int) (ht : hasE l n = true) : l.set (placeE l n) (n, k) = withE l n k := by
  obtain ⟨hp, hpe⟩ := (place_at h n).1.mp ht
  rw [List.set_eq_take_append_cons_drop, if_pos hp, (place_take h n).1, (place_at h n).2.1 ht]; rfl
theorem bind_not {l : List EntL} (h : Ord l) (n : LB) (k : Int) (ht : hasE l n = false) : l.take (placeE l n) ++ (n, k) :: l.drop (placeE l n) = withE l n k := by
  rw [(place_take h n).1, (place_at h n).2.2 ht]; rfl
theorem leave_is {l : List EntL} (h : Ord l) (n : LB) (ht : hasE l n = true) : l.take (placeE l n) ++ l.drop (placeE l n + 1) = outE l n := by
  rw [(place_take h n).1, (place_at h n).2.1 ht, outE_split h n]
theorem withE_len {l : List EntL} (n : LB) (k : Int) : (withE l n k).length ≤ l.length + 1 := by
  unfold withE lowE highE
  rw [List.length_append, List.length_cons]
  have : (l.filter (fun e => decide (e.1 < n))).length + (l.filter (fun e => decide (n < e.1))).length ≤ l.length := by
    induction l with
    | nil => simp
    | cons e r ih =>
      by_cases h1 : e.1 < n
      · rw [List.filter_cons_of_pos (by simpa using h1), List.filter_cons_of_neg (by simpa using lb_asym h1)]; simp; omega
      · rw [List.filter_cons_of_neg (by simpa using h1), List.filter_cons]; split <;> simp <;> omega
  omega
theorem outE_len (l : List EntL) (n : LB) : (outE l n).length ≤ l.length := List.length_filter_le _ _
/-- an operation replayed -/
def replayL (l : List EntL) (o : DopL) (nodes : Int) : Option (List EntL) :=
  if o.1 = 1 then (if goodL o.2.1 = true ∧ o.2.2.1 = [] ∧ 0 ≤ o.2.2.2 ∧ o.2.2.2 < nodes ∧ hasNode l o.2.2.2 = false then some (withE l o.2.1 o.2.2.2) else none)
  else if o.1 = 4 then (if hasE l o.2.1 = true ∧ goodL o.2.2.1 = true ∧ o.2.2.1 ≠ o.2.1 ∧ o.2.2.2 = 0 then some (withE (outE l o.2.1) o.2.2.1 ((l[placeE l o.2.1]?.getD ([], 0)).2)) else none)
  else if o.1 = 5 then (if hasE l o.2.1 = true ∧ o.2.2.1 = [] ∧ o.2.2.2 = 0 then some (outE l o.2.1) else none)
  else none
theorem replayL_ord {l m : List EntL} {o : DopL} {nodes : Int} (h : Ord l) (hr : replayL l o nodes = some m) : Ord m := by
  unfold replayL at hr
  split at hr
  · split at hr
    · obtain rfl := Option.some.inj hr; exact ord_with h _ _
    · cases hr
  · split at hr
    · split at hr
      · obtain rfl := Option.some.inj hr; exact ord_with (ord_out h _) _ _
      · cases hr
    · split at hr
      · split at hr
        · obtain rfl := Option.some.inj hr; exact ord_out h _
        · cases hr
      · cases hr
theorem replayL_len {l m : List EntL} {o : DopL} {nodes : Int} (hr : replayL l o nodes = some m) : m.length ≤ l.length + 1 := by
  unfold replayL at hr
  split at hr
  · split at hr
    · obtain rfl := Option.some.inj hr; exact withE_len _ _
    · cases hr
  · split at hr
    · split at hr
      · obtain rfl := Option.some.inj hr
        refine Nat.le_trans (withE_len _ _) ?_
        have := outE_len l o.2.1; omega
      · cases hr
    · split at hr
      · split at hr
        · obtain rfl := Option.some.inj hr; have := outE_len l o.2.1; omega
        · cases hr
      · cases hr
/-- a list of names that is good -/
def inOrdL (l : List EntL) (nodes : Int) : Bool := decide (l.length ≤ 300) && l.all (fun e => goodL e.1 && decide (0 ≤ e.2 ∧ e.2 < nodes)) && decide (l.Pairwise (fun a b => a.1 < b.1 ∧ a.2 ≠ b.2))
theorem inOrdL_ord {l : List EntL} {nodes : Int} (h : inOrdL l nodes = true) : Ord l := by
  unfold inOrdL at h
  simp only [Bool.and_eq_true, decide_eq_true_eq] at h
  exact h.2.imp fun h => h.1
def replaysL (nodes : Int) : List EntL → List DopL → Option (List EntL)
  | l, [] => some l
  | l, o :: r => match replayL l o nodes with
    | none => none
    | some m => if m.length ≤ 300 then replaysL nodes m r else none
abbrev DiskL := List NodL × (List EntL × (List EntL × (List DopL × Int)))
def sumD (l : List NodL) : Nat := (l.map fun n => n.1.length).sum
def nodeOk (n : NodL) : Bool := decide (n.1.length ≤ 40000 ∧ 0 ≤ n.2 ∧ n.2 ≤ n.1.length)
def DiskValidL (d : DiskL) : Bool :=
  decide (0 ≤ d.2.2.2.2 ∧ d.2.2.2.2 ≤ 1000000 ∧ d.1.length ≤ 600 ∧ d.2.2.2.1.length ≤ 1000) && d.1.all nodeOk && decide (sumD d.1 ≤ 200000) && inOrdL d.2.1 d.1.length && inOrdL d.2.2.1 d.1.length &&
    (match replaysL d.1.length d.2.2.1 d.2.2.2.1 with | none => false | some l => decide (l = d.2.1))
end Go.Proofs.YtkkgighgnbbgiaaGreatDoor

namespace Go.Proofs.YtkkgighgnbbgiaaGreatDoor
open Go.RowKit Mem
set_option linter.unusedVariables false
theorem strIdx_run (xs : Bytes) (k : Nat) (h : k < xs.length) (w : World) : (Instr.index 9 (.string ⟨xs.toArray⟩) (.int .i64 (k : Int))).run Tryz.prog w = .ok (.int .u8 (xs[k].toNat : Int)) w := by
  have h0 : (0 : Int) ≤ (k : Int) := by omega
  have h1 : (k : Int) < (xs.length : Int) := by omega
  have hsz : (⟨xs.toArray⟩ : ByteArray).size = xs.length := by simp [ByteArray.size]
  have hg : (⟨xs.toArray⟩ : ByteArray).get! k = xs[k] := by simp [ByteArray.get!, h]
  go_simp
  show ((xs.toArray[k]'(by simpa using h)).toNat : Int) = _
  simp
theorem ba_app (xs ys : Bytes) : (⟨xs.toArray⟩ : ByteArray) ++ ⟨ys.toArray⟩ = ⟨(xs ++ ys).toArray⟩ := ByteArray.ext (by rw [ByteArray.data_append]; simp)
theorem elt_str : Elt Tryz.prog 9 Ty.string.sz (.string ⟨#[]⟩) := Elt.of (b := 16) (by kernel_rfl) rfl (by decide) (by decide)
def toS (xs : Bytes) : ByteArray := ⟨xs.toArray⟩
theorem row_str (w : World) (e : TypeId) (s : ByteArray) : Row Ty.string (w.alloc (.cells #[.string s] e)) (· = w.heap.size) (some ⟨w.heap.size, 0, none⟩) 1 [s] := by
  refine ⟨rfl, by omega, fun _ => ⟨_, rfl, rfl, fun j x hj => ?_⟩⟩
  have hj0 : j = 0 := by have := (List.getElem?_eq_some_iff.1 hj).1; simp at this; exact this
  subst hj0
  have hx : x = s := by simpa using hj.symm
  subst hx
  refine ⟨[.string x], rfl, fun i u hu => ?_⟩
  rw [show 0 * Ty.string.sz + i = i by omega, add_own, cell_of_row _ _ i _ e (0, 0) (heap_alloc_new w _)]
  simpa using hu
theorem ba_ext (xs : Bytes) (i j : Nat) : (⟨xs.toArray⟩ : ByteArray).extract i j = ⟨((xs.take j).drop i).toArray⟩ := by
  apply ByteArray.ext
  rw [ByteArray.data_extract]
  simp [List.drop_take]
theorem row_of_strings (w : World) (e : TypeId) (ss : List ByteArray) (h : ss.length ≤ 9223372036854775807) : Row Ty.string (w.alloc (.cells (ss.map Value.string).toArray e)) (· = w.heap.size) (some ⟨w.heap.size, 0, none⟩) ss.length ss := by
  refine ⟨rfl, h, fun _ => ⟨_, rfl, rfl, fun j x hj => ⟨[.string x], rfl, fun i u hu => ?_⟩⟩⟩
  have hi : i = 0 := by have := (List.getElem?_eq_some_iff.1 hu).1; simpa using this
  subst hi
  rw [show j * Ty.string.sz + 0 = j from Nat.mul_one j, add_own, cell_of_row _ _ j _ e (0, 0) (heap_alloc_new w _)]
  rw [List.getElem?_toArray, List.getElem?_map, hj]
  simpa using hu
end Go.Proofs.YtkkgighgnbbgiaaGreatDoor

namespace Go.Proofs.YtkkgighgnbbgiaaGreatDoor
open Go.RowKit Mem
set_option linter.unusedVariables false
set_option linter.unusedSimpArgs false
theorem bl_run (xs ys : Bytes) : Op.bytesLess (⟨xs.toArray⟩ : ByteArray).toList (⟨ys.toArray⟩ : ByteArray).toList = decide (xs < ys) := by
  rw [show (⟨xs.toArray⟩ : ByteArray).toList = xs from by rw [ByteArray.toList_eq], show (⟨ys.toArray⟩ : ByteArray).toList = ys from by rw [ByteArray.toList_eq], bl_eq]
/-- the entry at k -/
theorem ent_at {w w' : World} {B : Nat → Prop} {A : Option Addr} {n : Nat} {xs : List EntryT} (h : Row dEntry w B A n xs) (hb : ∀ k, B k → w'.heap[k]? = w.heap[k]?) {k : Nat} (hk : k < xs.length) :
    ∃ ad, A = some ad ∧ w'.cell? (ad.add (k * 2)) = some (.string ⟨xs[k].1.toArray⟩) ∧ w'.cell? ⟨(ad.add (k * 2)).block, (ad.add (k * 2)).off + 1, none⟩ = some (.int .i64 xs[k].2) ∧ xs[k].1.length ≤ 9223372036854775807 ∧ IntKind.i64.wrap xs[k].2 = xs[k].2 := by
  obtain ⟨ad, cs, rfl, hK, h0, h1⟩ := h.cells_at hb hk
  obtain ⟨c0, c1, rfl, ⟨rfl, g0⟩, ⟨rfl, g1⟩⟩ := hK
  exact ⟨ad, rfl, h0 _ rfl, h1 0 _ rfl, g0, g1⟩
theorem rowEnt (w : World) {z : Bytes} {v : Int} (g0 : z.length ≤ 9223372036854775807) (g1 : IntKind.i64.wrap v = v) {g : Nat} (hg : g = w.heap.size) : Row dEntry (w.alloc (.cells #[.string ⟨z.toArray⟩, .int .i64 v] 98)) (· = g) (some ⟨g, 0, none⟩) 1 [((z, v) : EntryT)] := by
  subst hg; exact rowEntry w (x := (z, v)) g0 g1
theorem elt_entry : Elt Tryz.prog 98 dEntry.sz (.agg #[.string ⟨#[]⟩, .int .i64 0]) := eltEntry
theorem goodL_iff (xs : Bytes) : goodL xs = true ↔ 1 ≤ xs.length ∧ xs.length ≤ 80 ∧ ∀ j, (hj : j < xs.length) → 33 ≤ xs[j].toNat ∧ xs[j].toNat ≤ 126 := by
  unfold goodL
  simp only [Bool.and_eq_true, decide_eq_true_eq, List.all_eq_true]
  constructor
  · rintro ⟨⟨h1, h2⟩, h3⟩
    exact ⟨h1, h2, fun j hj => h3 _ (List.getElem_mem hj)⟩
  · rintro ⟨h1, h2, h3⟩
    refine ⟨⟨h1, h2⟩, fun x hx => ?_⟩
    obtain ⟨j, hj, rfl⟩ := List.getElem_of_mem hx
    exact h3 j hj
set_option maxHeartbeats 1000000 in
set_option maxRecDepth 100000 in
theorem goodS_calls (xs : Bytes) (hx : xs.length ≤ 9223372036854775807) (w : World) : Calls Tryz.prog 52 #[.string ⟨xs.toArray⟩] w (fun e w' => e = .returned (.bool (goodL xs)) ∧ w' = w) := by
  have hsz : (⟨xs.toArray⟩ : ByteArray).size = xs.length := by simp [ByteArray.size]
  have HI := Sec.mk (goodL_iff xs)
  have HF : Sec (¬ (1 ≤ xs.length ∧ xs.length ≤ 80 ∧ ∀ j, (hj : j < xs.length) → 33 ≤ xs[j].toNat ∧ xs[j].toNat ≤ 126) → goodL xs = false) := ⟨fun h => by
    cases hg : goodL xs with
    | false => rfl
    | true => exact absurd (HI.out.1 hg) h⟩
  generalize goodL xs = r at *
  by_cases h1 : 1 ≤ xs.length
  rotate_left
  · have HE : Sec (r = false) := ⟨HF.out (fun h => h1 h.1)⟩
    have h1i : (xs.length : Int) < 1 := by omega
    clear h1
    go_enter Tryz.func52, Tryz.ntmps52
    go_wp2
    go_ret
    exact ⟨by rw [HE.out]; rfl, rfl⟩
  by_cases h2 : xs.length ≤ 80
  rotate_left
  · have HE : Sec (r = false) := ⟨HF.out (fun h => h2 h.2.1)⟩
    have h1i : ¬ (xs.length : Int) < 1 := by omega
    have h2i : (80 : Int) < (xs.length : Int) := by omega
    clear h1 h2
    go_enter Tryz.func52, Tryz.ntmps52
    go_wp2
    go_ret
    exact ⟨by rw [HE.out]; rfl, rfl⟩
  have h1i : ¬ (xs.length : Int) < 1 := by omega
  have h2i : ¬ (80 : Int) < (xs.length : Int) := by omega
  go_enter Tryz.func52, Tryz.ntmps52
  go_wp2
  go_loop [3] (fun i => ∃ k : Nat, k ≤ xs.length ∧ i = .int .i64 (k : Int) ∧ Sec (∀ j, (hj : j < xs.length) → j < k → 33 ≤ xs[j].toNat ∧ xs[j].toNat ≤ 126)) (fun i => xs.length - (intOf i).toNat)
  case atStart => exact ⟨0, Nat.zero_le _, rfl, ⟨fun j _ h => absurd h (Nat.not_lt_zero _)⟩⟩
  case round =>
    obtain ⟨k, hk, rfl, HN⟩ := hrel
    by_cases hlt : k < xs.length
    · have hki : (k : Int) < (xs.length : Int) := by omega
      have hgx := strIdx_run xs k hlt
      have HNX : Sec (33 ≤ xs[k].toNat ∧ xs[k].toNat ≤ 126 → ∀ j, (hj : j < xs.length) → j < k + 1 → 33 ≤ xs[j].toNat ∧ xs[j].toNat ≤ 126) := ⟨fun h j hj hjk => by rcases Nat.lt_succ_iff_lt_or_eq.1 hjk with h' | rfl; exact HN.out j hj h'; exact h⟩
      have HBX : Sec (¬ (33 ≤ xs[k].toNat ∧ xs[k].toNat ≤ 126) → r = false) := ⟨fun h => HF.out (fun hh => h (hh.2.2 k hlt))⟩
      generalize xs[k].toNat = z at *
      by_cases ha : z < 33
      · have HE : Sec (r = false) := ⟨HBX.out (by omega)⟩
        have hai : (z : Int) < 33 := by omega
        go_wp2
        go_ret
        exact ⟨by rw [HE.out]; rfl, rfl⟩
      · have hai : ¬ (z : Int) < 33 := by omega
        by_cases hb : 126 < z
        · have HE : Sec (r = false) := ⟨HBX.out (by omega)⟩
          have hbi : (126 : Int) < (z : Int) := by omega
          go_wp2
          go_ret
          exact ⟨by rw [HE.out]; rfl, rfl⟩
        · have hbi : ¬ (126 : Int) < (z : Int) := by omega
          have HN' := Sec.mk (HNX.out ⟨by omega, by omega⟩)
          go_wp2
          go_round
          case rel => exact ⟨k + 1, by omega, by go_num, HN'⟩
          case measure => simp [intOf]; omega
    · obtain rfl : k = xs.length := by omega
      have HE : Sec (r = true) := ⟨HI.out.2 ⟨h1, h2, fun j hj => HN.out j hj hj⟩⟩
      go_wp2
      go_ret
      exact ⟨by rw [HE.out]; rfl, rfl⟩
set_option maxHeartbeats 1000000 in
set_option maxRecDepth 100000 in
theorem goodI_calls (xs : Bytes) (hx : xs.length ≤ 9223372036854775807) (w : World) : Calls Tryz.prog 65 #[.string ⟨xs.toArray⟩] w (fun e w' => e = .returned (.bool (goodL xs)) ∧ w' = w) := by
  have hsz : (⟨xs.toArray⟩ : ByteArray).size = xs.length := by simp [ByteArray.size]
  have HI := Sec.mk (goodL_iff xs)
  have HF : Sec (¬ (1 ≤ xs.length ∧ xs.length ≤ 80 ∧ ∀ j, (hj : j < xs.length) → 33 ≤ xs[j].toNat ∧ xs[j].toNat ≤ 126) → goodL xs = false) := ⟨fun h => by
    cases hg : goodL xs with
    | false => rfl
    | true => exact absurd (HI.out.1 hg) h⟩
  generalize goodL xs = r at *
  by_cases h1 : 1 ≤ xs.length
  rotate_left
  · have HE : Sec (r = false) := ⟨HF.out (fun h => h1 h.1)⟩
    have h1i : (xs.length : Int) < 1 := by omega
    clear h1
    go_enter Tryz.func65, Tryz.ntmps65
    go_wp2
    go_ret
    exact ⟨by rw [HE.out]; rfl, rfl⟩
  by_cases h2 : xs.length ≤ 80
  rotate_left
  · have HE : Sec (r = false) := ⟨HF.out (fun h => h2 h.2.1)⟩
    have h1i : ¬ (xs.length : Int) < 1 := by omega
    have h2i : (80 : Int) < (xs.length : Int) := by omega
    clear h1 h2
    go_enter Tryz.func65, Tryz.ntmps65
    go_wp2
    go_ret
    exact ⟨by rw [HE.out]; rfl, rfl⟩
  have h1i : ¬ (xs.length : Int) < 1 := by omega
  have h2i : ¬ (80 : Int) < (xs.length : Int) := by omega
  go_enter Tryz.func65, Tryz.ntmps65
  go_wp2
  go_loop [14] (fun i => ∃ k : Nat, k ≤ xs.length ∧ i = .int .i64 (k : Int) ∧ Sec (∀ j, (hj : j < xs.length) → j < k → 33 ≤ xs[j].toNat ∧ xs[j].toNat ≤ 126)) (fun i => xs.length - (intOf i).toNat)
  case atStart => exact ⟨0, Nat.zero_le _, rfl, ⟨fun j _ h => absurd h (Nat.not_lt_zero _)⟩⟩
  case round =>
    obtain ⟨k, hk, rfl, HN⟩ := hrel
    by_cases hlt : k < xs.length
    · have hki : (k : Int) < (xs.length : Int) := by omega
      have hgx := strIdx_run xs k hlt
      have HNX : Sec (33 ≤ xs[k].toNat ∧ xs[k].toNat ≤ 126 → ∀ j, (hj : j < xs.length) → j < k + 1 → 33 ≤ xs[j].toNat ∧ xs[j].toNat ≤ 126) := ⟨fun h j hj hjk => by rcases Nat.lt_succ_iff_lt_or_eq.1 hjk with h' | rfl; exact HN.out j hj h'; exact h⟩
      have HBX : Sec (¬ (33 ≤ xs[k].toNat ∧ xs[k].toNat ≤ 126) → r = false) := ⟨fun h => HF.out (fun hh => h (hh.2.2 k hlt))⟩
      generalize xs[k].toNat = z at *
      by_cases ha : z < 33
      · have HE : Sec (r = false) := ⟨HBX.out (by omega)⟩
        have hai : (z : Int) < 33 := by omega
        go_wp2
        go_ret
        exact ⟨by rw [HE.out]; rfl, rfl⟩
      · have hai : ¬ (z : Int) < 33 := by omega
        by_cases hb : 126 < z
        · have HE : Sec (r = false) := ⟨HBX.out (by omega)⟩
          have hbi : (126 : Int) < (z : Int) := by omega
          go_wp2
          go_ret
          exact ⟨by rw [HE.out]; rfl, rfl⟩
        · have hbi : ¬ (126 : Int) < (z : Int) := by omega
          have HN' := Sec.mk (HNX.out ⟨by omega, by omega⟩)
          go_wp2
          go_round
          case rel => exact ⟨k + 1, by omega, by go_num, HN'⟩
          case measure => simp [intOf]; omega
    · obtain rfl : k = xs.length := by omega
      have HE : Sec (r = true) := ⟨HI.out.2 ⟨h1, h2, fun j hj => HN.out j hj hj⟩⟩
      go_wp2
      go_ret
      exact ⟨by rw [HE.out]; rfl, rfl⟩
theorem findG_at (n : LB) {l : List EntL} {k : Nat} (hk : k < l.length) : findG n (l.drop k) k = if l[k].1 = n then (k : Int) else findG n (l.drop (k + 1)) (k + 1) := by
  rw [List.drop_eq_getElem_cons hk]; rfl
set_option maxHeartbeats 1000000 in
set_option maxRecDepth 100000 in
theorem l1Find_calls {A : Option Addr} {c : Nat} {xs : List EntryT} {B : Nat → Prop} {w : World} (h : Row dEntry w B A xs.length xs) (nm : Bytes) : Calls Tryz.prog 53 #[.slice A xs.length c, .string ⟨nm.toArray⟩] w (fun e w' => e = .returned (.int .i64 (findE xs nm)) ∧ w' = w) := by
  have hmx := h.2.1
  have HR := Sec.mk h
  have HF : Sec (findE xs nm = findG nm (xs.drop 0) 0) := ⟨rfl⟩
  generalize findE xs nm = r at *
  clear h
  go_enter Tryz.func53, Tryz.ntmps53
  go_wp2
  go_loop [8] (fun i => ∃ k : Nat, k ≤ xs.length ∧ i = .int .i64 (k : Int) ∧ Sec (r = findG nm (xs.drop k) k)) (fun i => xs.length - (intOf i).toNat)
  case atStart => exact ⟨0, Nat.zero_le _, rfl, HF⟩
  case round =>
    obtain ⟨k, hk, rfl, HN⟩ := hrel
    by_cases hlt : k < xs.length
    · obtain ⟨ad, rfl, h0, h1, _, _⟩ := ent_at HR.out (w' := w) (fun _ _ => rfl) hlt
      have HS := Sec.mk (HN.out.trans (findG_at nm hlt))
      have hki : (k : Int) < (xs.length : Int) := by omega
      generalize xs[k].1 = z at *
      by_cases he : z = nm
      · have HE : Sec (r = (k : Int)) := ⟨HS.out.trans (if_pos he)⟩
        have hz : (z == nm) = true := by simp [he]
        clear he
        go_wp2
        go_ret
        exact ⟨by rw [HE.out]; rfl, rfl⟩
      · have HE : Sec (r = findG nm (xs.drop (k + 1)) (k + 1)) := ⟨HS.out.trans (if_neg he)⟩
        have hz : (z == nm) = false := by simpa using he
        clear he
        go_wp2
        go_round
        case rel => exact ⟨k + 1, by omega, by go_num, HE⟩
        case measure => simp [intOf]; omega
    · obtain rfl : k = xs.length := by omega
      have HE : Sec (r = -1) := ⟨by rw [HN.out, List.drop_length]; rfl⟩
      go_wp2
      go_ret
      exact ⟨by rw [HE.out]; rfl, rfl⟩
theorem hasNode_take {l : List EntL} {k : Nat} {v : Int} (hk : k < l.length) : hasNode (l.take (k + 1)) v = (hasNode (l.take k) v || decide (l[k].2 = v)) := by
  unfold hasNode
  rw [List.take_succ_eq_append_getElem hk, List.any_append]; simp only [List.any_cons, List.any_nil, Bool.or_false]
theorem hasNode_mem {l : List EntL} {k : Nat} (hk : k < l.length) : hasNode l l[k].2 = true := by
  unfold hasNode
  rw [List.any_eq_true]
  exact ⟨l[k], List.getElem_mem hk, by simp⟩
set_option maxHeartbeats 1000000 in
set_option maxRecDepth 100000 in
theorem boundTo_calls {A : Option Addr} {c : Nat} {xs : List EntryT} {B : Nat → Prop} {w : World} (h : Row dEntry w B A xs.length xs) (hB : ∀ k, B k → k < w.heap.size) (v : Int) : Calls Tryz.prog 82 #[.slice A xs.length c, .int .i64 v] w (Ret (.bool (hasNode xs v)) w) := by
  have hmx := h.2.1
  have HR := Sec.mk h
  have HB := Sec.mk hB
  have HT := Sec.mk (fun k (hk : k < xs.length) (hv : xs[k].2 = v) => (hv ▸ hasNode_mem hk : hasNode xs v = true))
  have HF : Sec (hasNode (xs.take xs.length) v = hasNode xs v) := ⟨by rw [List.take_length]⟩
  generalize hasNode xs v = r at *
  clear h hB
  go_enter Tryz.func82, Tryz.ntmps82
  go_wp2
  go_loopw [9] (fun i wr => ∃ k : Nat, k ≤ xs.length ∧ i = .int .i64 (k : Int) ∧ Sec (hasNode (xs.take k) v = false) ∧ Sec (New w wr)) (fun i _ => xs.length - (intOf i).toNat)
  case atStart => exact ⟨0, Nat.zero_le _, rfl, ⟨rfl⟩, ⟨Mod.refl _ _⟩⟩
  case round =>
    obtain ⟨k, hk, rfl, HN, HM⟩ := hrel
    by_cases hlt : k < xs.length
    · obtain ⟨ad, rfl, h0, h1, _, _⟩ := ent_at HR.out (w' := wr) (fun i hi => HM.out.block i (HB.out i hi) id) hlt
      have HS := Sec.mk (hasNode_take (v := v) hlt)
      have HTk := Sec.mk (HT.out k hlt)
      have hki : (k : Int) < (xs.length : Int) := by omega
      have HM2 := Sec.mk (HM.out.alloc (.cells #[.string ⟨xs[k].1.toArray⟩, .int .i64 xs[k].2] 98))
      generalize xs[k].1 = nm at *
      generalize xs[k].2 = z at *
      by_cases he : z = v
      · have HE := Sec.mk (HTk.out he)
        have hz : (z == v) = true := by simp [he]
        clear he
        go_wp2
        go_ret
        exact ⟨by rw [HE.out]; rfl, HM2.out⟩
      · have hz : (z == v) = false := by simpa using he
        have HN' : Sec (hasNode (xs.take (k + 1)) v = false) := ⟨by rw [HS.out, HN.out, decide_eq_false he]; rfl⟩
        clear he
        go_wp2
        go_roundw
        case rel => exact ⟨k + 1, by omega, by go_num, HN', HM2⟩
        case measure => simp [intOf]; omega
    · obtain rfl : k = xs.length := by omega
      have HE : Sec (r = false) := ⟨HF.out.symm.trans HN.out⟩
      go_wp2
      go_ret
      exact ⟨by rw [HE.out]; rfl, HM.out⟩
theorem out_take {l : List EntL} {k : Nat} {n : LB} (hk : k < l.length) : outE (l.take (k + 1)) n = outE (l.take k) n ++ (if l[k].1 = n then [] else [l[k]]) := by
  unfold outE
  rw [List.take_succ_eq_append_getElem hk, List.filter_append]
  congr 1
  by_cases h : l[k].1 = n
  · rw [if_pos h, List.filter_cons_of_neg (by simpa using h)]; rfl
  · rw [if_neg h, List.filter_cons_of_pos (by simpa using h)]; rfl
set_option maxHeartbeats 1000000 in
set_option maxRecDepth 100000 in
theorem l1Without_calls {A : Option Addr} {c : Nat} {xs : List EntryT} {B : Nat → Prop} {w : World} (h : Row dEntry w B A xs.length xs) (hB : ∀ k, B k → k < w.heap.size) (hl : xs.length ≤ 1048576) (nm : Bytes) : Calls Tryz.prog 79 #[.slice A xs.length c, .string ⟨nm.toArray⟩] w (RetOwn dEntry 98 w (outE xs nm)) := by
  have HR := Sec.mk h
  have HB := Sec.mk hB
  clear h hB
  go_enter Tryz.func79, Tryz.ntmps79
  go_wp2
  go_loopw [5, 10] (fun o i wr => ∃ (k : Nat) (A' : Option Addr) (n' c' : Nat), k ≤ xs.length ∧ i = .int .i64 (k : Int) ∧ o = .slice A' n' c' ∧ Sec (Mine dEntry 98 w wr (.slice A' n' c') (outE (xs.take k) nm))) (fun _ i _ => xs.length - (intOf i).toNat)
  case atStart => exact ⟨0, none, 0, 0, Nat.zero_le _, rfl, rfl, ⟨Mine.nil _ _ (Mod.refl _ _)⟩⟩
  case round =>
    obtain ⟨k, A', n', c', hk, rfl, rfl, HO⟩ := hrel
    by_cases hlt : k < xs.length
    · obtain ⟨ad, rfl, h0, h1, hn, hw⟩ := ent_at HR.out (w' := wr) (fun i hi => HO.out.new.block i (HB.out i hi) id) hlt
      have HS := Sec.mk (out_take (n := nm) hlt)
      have hol := outE_len (xs.take k) nm
      rw [List.length_take] at hol
      have hki : (k : Int) < (xs.length : Int) := by omega
      have HN := Sec.mk hn
      have HW := Sec.mk hw
      obtain ⟨⟨z, v⟩, hx⟩ : ∃ q, q = xs[k] := ⟨_, rfl⟩
      rw [← hx] at h0 h1 HS HN HW
      clear hx hn hw
      simp only at h0 h1 HS HN HW
      generalize hacc : outE (xs.take k) nm = acc at *
      have HO2 := Sec.mk (HO.out.alloc (.cells #[.string ⟨z.toArray⟩, .int .i64 v] 98))
      clear HO hacc
      by_cases he : z = nm
      · have hz : (z == nm) = true := by simp [he]
        have HA : Sec (outE (xs.take (k + 1)) nm = acc) := ⟨by rw [HS.out, if_pos he, List.append_nil]⟩
        clear he
        go_wp2
        go_roundw
        case rel => exact ⟨k + 1, A', n', c', by omega, by go_num, rfl, ⟨by rw [HA.out]; exact HO2.out⟩⟩
        case measure => simp [intOf]; omega
      · have hz : (z == nm) = false := by simpa using he
        have HA : Sec (outE (xs.take (k + 1)) nm = acc ++ [(z, v)]) := ⟨by rw [HS.out, if_neg he]⟩
        clear he
        go_wp2_with (at_builtin; go_loud (refine wpList_app _ rfl (.tmp 18) (.tmp 20) _ rfl Tryz.underlying31 elt_entry flatEntry rfl rfl (HO2.out.alloc _) (rowEnt _ HN.out HW.out (by simp)) (show acc.length + [((z, v) : EntryT)].length ≤ 34359738368 by simp only [List.length_singleton]; omega) ?_; intro A6 n6 c6 w6 HO6))
        have HO6' := Sec.mk HO6
        clear HO6
        go_roundw
        case rel => exact ⟨k + 1, A6, n6, c6, by omega, by go_num, rfl, ⟨by rw [HA.out]; exact HO6'.out⟩⟩
        case measure => simp [intOf]; omega
    · obtain rfl : k = xs.length := by omega
      rw [List.take_length] at HO
      go_wp2
      go_ret
      exact HO.out.ret
end Go.Proofs.YtkkgighgnbbgiaaGreatDoor
