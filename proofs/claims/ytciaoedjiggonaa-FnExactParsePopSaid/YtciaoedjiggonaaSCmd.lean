/- The laws' helpers over Cmd. -/
import Derived.Test.YtciaoedjiggonaaSPair
import Derived.Test.YtciaoedjiggonaaFld
import Derived.Test.YtciaoedjiggonaaVal
import Derived.Test.YtciaoedjiggonaaMarkL
import Derived.Test.YtciaoedjiggonaaReg
import Derived.Test.YtciaoedjiggonaaMarkI
import Derived.Test.YtciaoedjiggonaaProg
import Derived.WalkKit
namespace Go.Proofs.Ytciaoedjiggonaa
open Go.RowKit Mem
set_option linter.unusedVariables false
set_option linter.unusedSimpArgs false
abbrev CmdT := Int × (Bytes × (Int × (Bool × (PairST × (Int × (Int × (Int × Bytes)))))))
abbrev dCmd : Ty CmdT := Ty.pair (Ty.int .i64) (Ty.pair Ty.str (Ty.pair (Ty.int .u32) (Ty.pair Ty.bool (Ty.pair dPairS (Ty.pair (Ty.int .i64) (Ty.pair (Ty.int .i64) (Ty.pair (Ty.int .u32) dBS)))))))
set_option synthInstance.maxSize 2000
theorem rdCmd {w : World} {v : Value} {x : CmdT} (h : RdV true dCmd w v x) : ∃ v4 v8, v = .agg #[.int .i64 x.1, .string ⟨(x.2.1).toArray⟩, .int .u32 x.2.2.1, .bool x.2.2.2.1, v4, .int .i64 x.2.2.2.2.2.1, .int .i64 x.2.2.2.2.2.2.1, .int .u32 x.2.2.2.2.2.2.2.1, v8] ∧ RdV false dPairS w v4 x.2.2.2.2.1 ∧ RdV false dBS w v8 x.2.2.2.2.2.2.2.2 := by
  obtain ⟨cs, rfl, c0, r0, rfl, h0, c1, r1, rfl, h1, c2, r2, rfl, h2, c3, r3, rfl, h3, c4, r4, rfl, h4, c5, r5, rfl, h5, c6, r6, rfl, h6, c7, c8, rfl, h7, h8⟩ := h
  obtain ⟨rfl, g0⟩ := h0
  obtain rfl := h1
  obtain ⟨rfl, g2⟩ := h2
  obtain rfl := h3
  obtain ⟨A4, cp4, rfl, g4⟩ := h4
  obtain ⟨rfl, g5⟩ := h5
  obtain ⟨rfl, g6⟩ := h6
  obtain ⟨rfl, g7⟩ := h7
  obtain ⟨A8, cp8, rfl, g8⟩ := h8
  exact ⟨_, _, rfl, ⟨_, rfl, A4, cp4, rfl, g4⟩, ⟨_, rfl, A8, cp8, rfl, g8⟩⟩
theorem cellsCmd {w : World} {v : Value} {x : CmdT} (h : RdV true dCmd w v x) : ∃ A4 q4 A8 q8, v = .agg #[.int .i64 x.1, .string ⟨(x.2.1).toArray⟩, .int .u32 x.2.2.1, .bool x.2.2.2.1, .slice A4 x.2.2.2.2.1.length q4, .int .i64 x.2.2.2.2.2.1, .int .i64 x.2.2.2.2.2.2.1, .int .u32 x.2.2.2.2.2.2.2.1, .slice A8 x.2.2.2.2.2.2.2.2.length q8] := by
  obtain ⟨v4, v8, rfl, k4, k8⟩ := rdCmd h
  obtain ⟨A4, q4, rfl, _⟩ := k4.slice
  obtain ⟨A8, q8, rfl, _⟩ := k8.slice
  exact ⟨A4, q4, A8, q8, rfl⟩
theorem fldCmd0 : Fld dCmd 0 (Ty.int .i64) (fun x => x.1) (fun x y => (y, x.2)) := (Fld.fst (Fld.one rfl))
theorem fldCmd1 : Fld dCmd 1 Ty.str (fun x => x.2.1) (fun x y => (x.1, y, x.2.2)) := (Fld.snd (Fld.fst (Fld.one rfl)) rfl)
theorem fldCmd2 : Fld dCmd 2 (Ty.int .u32) (fun x => x.2.2.1) (fun x y => (x.1, x.2.1, y, x.2.2.2)) := (Fld.snd (Fld.snd (Fld.fst (Fld.one rfl)) rfl) rfl)
theorem fldCmd3 : Fld dCmd 3 Ty.bool (fun x => x.2.2.2.1) (fun x y => (x.1, x.2.1, x.2.2.1, y, x.2.2.2.2)) := (Fld.snd (Fld.snd (Fld.snd (Fld.fst (Fld.one rfl)) rfl) rfl) rfl)
theorem fldCmd4 : Fld dCmd 4 dPairS (fun x => x.2.2.2.2.1) (fun x y => (x.1, x.2.1, x.2.2.1, x.2.2.2.1, y, x.2.2.2.2.2)) := (Fld.snd (Fld.snd (Fld.snd (Fld.snd (Fld.fst (Fld.one rfl)) rfl) rfl) rfl) rfl)
theorem fldCmd5 : Fld dCmd 5 (Ty.int .i64) (fun x => x.2.2.2.2.2.1) (fun x y => (x.1, x.2.1, x.2.2.1, x.2.2.2.1, x.2.2.2.2.1, y, x.2.2.2.2.2.2)) := (Fld.snd (Fld.snd (Fld.snd (Fld.snd (Fld.snd (Fld.fst (Fld.one rfl)) rfl) rfl) rfl) rfl) rfl)
theorem fldCmd6 : Fld dCmd 6 (Ty.int .i64) (fun x => x.2.2.2.2.2.2.1) (fun x y => (x.1, x.2.1, x.2.2.1, x.2.2.2.1, x.2.2.2.2.1, x.2.2.2.2.2.1, y, x.2.2.2.2.2.2.2)) := (Fld.snd (Fld.snd (Fld.snd (Fld.snd (Fld.snd (Fld.snd (Fld.fst (Fld.one rfl)) rfl) rfl) rfl) rfl) rfl) rfl)
theorem fldCmd7 : Fld dCmd 7 (Ty.int .u32) (fun x => x.2.2.2.2.2.2.2.1) (fun x y => (x.1, x.2.1, x.2.2.1, x.2.2.2.1, x.2.2.2.2.1, x.2.2.2.2.2.1, x.2.2.2.2.2.2.1, y, x.2.2.2.2.2.2.2.2)) := (Fld.snd (Fld.snd (Fld.snd (Fld.snd (Fld.snd (Fld.snd (Fld.snd (Fld.fst (Fld.one rfl)) rfl) rfl) rfl) rfl) rfl) rfl) rfl)
theorem fldCmd8 : Fld dCmd 8 dBS (fun x => x.2.2.2.2.2.2.2.2) (fun x y => (x.1, x.2.1, x.2.2.1, x.2.2.2.1, x.2.2.2.2.1, x.2.2.2.2.2.1, x.2.2.2.2.2.2.1, x.2.2.2.2.2.2.2.1, y)) := (Fld.snd (Fld.snd (Fld.snd (Fld.snd (Fld.snd (Fld.snd (Fld.snd (Fld.snd (Fld.one rfl) rfl) rfl) rfl) rfl) rfl) rfl) rfl) rfl)
theorem mCmd {w : World} {x : CmdT} {F4 F8 : List Nat} {v4 v8 : Value} (g0 : IntKind.i64.wrap x.1 = x.1) (g2 : IntKind.u32.wrap x.2.2.1 = x.2.2.1) (g5 : IntKind.i64.wrap x.2.2.2.2.2.1 = x.2.2.2.2.2.1) (g6 : IntKind.i64.wrap x.2.2.2.2.2.2.1 = x.2.2.2.2.2.2.1) (g7 : IntKind.u32.wrap x.2.2.2.2.2.2.2.1 = x.2.2.2.2.2.2.2.1) (o4 : Own dPair 106 w F4 v4 x.2.2.2.2.1) (o8 : Own Ty.byte 5 w F8 v8 x.2.2.2.2.2.2.2.2) (hd : ∀ k, k ∈ F4 → k ∉ F8) : dCmd.M w (F4 ++ (F8)) x [.int .i64 x.1, .string ⟨(x.2.1).toArray⟩, .int .u32 x.2.2.1, .bool x.2.2.2.1, v4, .int .i64 x.2.2.2.2.2.1, .int .i64 x.2.2.2.2.2.2.1, .int .u32 x.2.2.2.2.2.2.2.1, v8] := by
  have n5 : (F8).Nodup := by simpa using o8.nd
  have n0' : (F4 ++ (F8)).Nodup := List.nodup_append.2 ⟨o4.nd, n5, fun p hp q hq e => by subst e; exact hd p hp (by simpa using hq)⟩
  have n1 : (F4 ++ (F8)).Nodup := n0'
  have n2 : (F4 ++ (F8)).Nodup := n0'
  have n3 : (F4 ++ (F8)).Nodup := n0'
  have n4 : (F4 ++ (F8)).Nodup := n0'
  exact ⟨_, _, [], _, rfl, rfl, n1, ⟨rfl, rfl, g0⟩, ⟨_, _, [], _, rfl, rfl, n2, ⟨rfl, rfl⟩, ⟨_, _, [], _, rfl, rfl, n3, ⟨rfl, rfl, g2⟩, ⟨_, _, [], _, rfl, rfl, n4, ⟨rfl, rfl⟩, ⟨_, _, F4, _, rfl, rfl, (List.nodup_append.2 ⟨o4.nd, n5, fun p hp q hq e => by subst e; exact hd p hp (by simpa using hq)⟩), ⟨_, rfl, o4⟩, ⟨_, _, [], _, rfl, rfl, (by simpa using o8.nd), ⟨rfl, rfl, g5⟩, ⟨_, _, [], _, rfl, rfl, (by simpa using o8.nd), ⟨rfl, rfl, g6⟩, ⟨_, _, [], _, rfl, rfl, (by simpa using o8.nd), ⟨rfl, rfl, g7⟩, ⟨_, rfl, o8⟩⟩⟩⟩⟩⟩⟩⟩⟩
set_option maxHeartbeats 1000000 in
set_option maxRecDepth 100000 in
theorem eqCmd_v {w : World} {v v' : Value} {x x' : CmdT} (h : RdV true dCmd w v x) (h' : RdV true dCmd w v' x') : Calls Try.prog 33 #[v, v'] w (Ret (.bool (decide (x = x'))) w) := by
  obtain ⟨v4, v8, rfl, k4, k8⟩ := rdCmd h
  obtain ⟨u4, u8, rfl, k4', k8'⟩ := rdCmd h'
  obtain ⟨a0, a1, a2, a3, a4, a5, a6, a7, a8⟩ := x
  obtain ⟨b0, b1, b2, b3, b4, b5, b6, b7, b8⟩ := x'
  simp only at k4 k4' k8 k8' ⊢
  have HB0 := Sec.mk ((Blk.new w 48 [.int .i64 a0, .string ⟨(a1).toArray⟩, .int .u32 a2, .bool a3, v4, .int .i64 a5, .int .i64 a6, .int .u32 a7, v8]).alloc (.cells #[.int .i64 b0, .string ⟨(b1).toArray⟩, .int .u32 b2, .bool b3, u4, .int .i64 b5, .int .i64 b6, .int .u32 b7, u8] 48))
  have HB1 := Sec.mk (Blk.new (w.alloc (.cells #[.int .i64 a0, .string ⟨(a1).toArray⟩, .int .u32 a2, .bool a3, v4, .int .i64 a5, .int .i64 a6, .int .u32 a7, v8] 48)) 48 [.int .i64 b0, .string ⟨(b1).toArray⟩, .int .u32 b2, .bool b3, u4, .int .i64 b5, .int .i64 b6, .int .u32 b7, u8])
  rw [show (w.alloc (.cells #[.int .i64 a0, .string ⟨(a1).toArray⟩, .int .u32 a2, .bool a3, v4, .int .i64 a5, .int .i64 a6, .int .u32 a7, v8] 48)).heap.size = w.heap.size + 1 by simp] at HB1
  have HM0 := Sec.mk (((Mod.refl (fun _ => False) w).alloc (.cells #[.int .i64 a0, .string ⟨(a1).toArray⟩, .int .u32 a2, .bool a3, v4, .int .i64 a5, .int .i64 a6, .int .u32 a7, v8] 48)).alloc (.cells #[.int .i64 b0, .string ⟨(b1).toArray⟩, .int .u32 b2, .bool b3, u4, .int .i64 b5, .int .i64 b6, .int .u32 b7, u8] 48))
  have H4 := Sec.mk (k4.step HM0.out)
  have H4' := Sec.mk (k4'.step HM0.out)
  have H8 := Sec.mk (k8.step HM0.out)
  have H8' := Sec.mk (k8'.step HM0.out)
  clear h h' k4 k4' k8 k8'
  by_cases e0 : a0 = b0
  rotate_left
  · have HE : Sec (decide ((a0, a1, a2, a3, a4, a5, a6, a7, a8) = (b0, b1, b2, b3, b4, b5, b6, b7, b8)) = false) := ⟨by simp [e0]⟩
    have hb0 : (a0 != b0) = true := by simpa using e0
    clear e0
    go_enter Try.func33, Try.ntmps33
    go_wp2
    go_ret
    exact ⟨by rw [HE.out]; rfl, HM0.out⟩
  have hb0 : (a0 != b0) = false := by simp [e0]
  have S0 := Sec.mk e0
  clear e0
  by_cases e1 : a1 = b1
  rotate_left
  · have HE : Sec (decide ((a0, a1, a2, a3, a4, a5, a6, a7, a8) = (b0, b1, b2, b3, b4, b5, b6, b7, b8)) = false) := ⟨by simp [e1]⟩
    have hb1 : (a1 == b1) = false := by simpa using e1
    clear e1
    go_enter Try.func33, Try.ntmps33
    go_wp2
    go_ret
    exact ⟨by rw [HE.out]; rfl, HM0.out⟩
  have hb1 : (a1 == b1) = true := by simp [e1]
  have S1 := Sec.mk e1
  clear e1
  by_cases e2 : a2 = b2
  rotate_left
  · have HE : Sec (decide ((a0, a1, a2, a3, a4, a5, a6, a7, a8) = (b0, b1, b2, b3, b4, b5, b6, b7, b8)) = false) := ⟨by simp [e2]⟩
    have hb2 : (a2 != b2) = true := by simpa using e2
    clear e2
    go_enter Try.func33, Try.ntmps33
    go_wp2
    go_ret
    exact ⟨by rw [HE.out]; rfl, HM0.out⟩
  have hb2 : (a2 != b2) = false := by simp [e2]
  have S2 := Sec.mk e2
  clear e2
  by_cases e3 : a3 = b3
  rotate_left
  · have HE : Sec (decide ((a0, a1, a2, a3, a4, a5, a6, a7, a8) = (b0, b1, b2, b3, b4, b5, b6, b7, b8)) = false) := ⟨by simp [e3]⟩
    have hb3 : (a3 == b3) = false := by simpa using e3
    clear e3
    go_enter Try.func33, Try.ntmps33
    go_wp2
    go_ret
    exact ⟨by rw [HE.out]; rfl, HM0.out⟩
  have hb3 : (a3 == b3) = true := by simp [e3]
  have S3 := Sec.mk e3
  clear e3
  by_cases e4 : a4 = b4
  rotate_left
  · have HE : Sec (decide ((a0, a1, a2, a3, a4, a5, a6, a7, a8) = (b0, b1, b2, b3, b4, b5, b6, b7, b8)) = false) := ⟨by simp [e4]⟩
    have E4 : Sec (decide (a4 = b4) = false) := ⟨by simp [e4]⟩
    clear e4
    go_enter Try.func33, Try.ntmps33
    go_wp2_with fail
    refine (eqPairS_v (H4.out) (H4'.out)).mono ?_
    rw [E4.out]
    rintro e w4 ⟨rfl, hm4⟩
    have m4 := Sec.mk hm4
    clear hm4
    go_wp2
    go_ret
    exact ⟨by rw [HE.out]; rfl, HM0.out.transN m4.out⟩
  have E4 : Sec (decide (a4 = b4) = true) := ⟨by simp [e4]⟩
  have S4 := Sec.mk e4
  clear e4
  by_cases e5 : a5 = b5
  rotate_left
  · have HE : Sec (decide ((a0, a1, a2, a3, a4, a5, a6, a7, a8) = (b0, b1, b2, b3, b4, b5, b6, b7, b8)) = false) := ⟨by simp [e5]⟩
    have hb5 : (a5 != b5) = true := by simpa using e5
    clear e5
    go_enter Try.func33, Try.ntmps33
    go_wp2_with fail
    refine (eqPairS_v (H4.out) (H4'.out)).mono ?_
    rw [E4.out]
    rintro e w4 ⟨rfl, hm4⟩
    have m4 := Sec.mk hm4
    have p4_5 : w4.cell? ⟨w.heap.size, 5, none⟩ = some (.int .i64 a5) := (HB0.out.mod m4.out id).cell 5
    have q4_5 : w4.cell? ⟨w.heap.size + 1, 5, none⟩ = some (.int .i64 b5) := (HB1.out.mod m4.out id).cell 5
    clear hm4
    go_wp2
    go_ret
    exact ⟨by rw [HE.out]; rfl, HM0.out.transN m4.out⟩
  have hb5 : (a5 != b5) = false := by simp [e5]
  have S5 := Sec.mk e5
  clear e5
  by_cases e6 : a6 = b6
  rotate_left
  · have HE : Sec (decide ((a0, a1, a2, a3, a4, a5, a6, a7, a8) = (b0, b1, b2, b3, b4, b5, b6, b7, b8)) = false) := ⟨by simp [e6]⟩
    have hb6 : (a6 != b6) = true := by simpa using e6
    clear e6
    go_enter Try.func33, Try.ntmps33
    go_wp2_with fail
    refine (eqPairS_v (H4.out) (H4'.out)).mono ?_
    rw [E4.out]
    rintro e w4 ⟨rfl, hm4⟩
    have m4 := Sec.mk hm4
    have p4_5 : w4.cell? ⟨w.heap.size, 5, none⟩ = some (.int .i64 a5) := (HB0.out.mod m4.out id).cell 5
    have q4_5 : w4.cell? ⟨w.heap.size + 1, 5, none⟩ = some (.int .i64 b5) := (HB1.out.mod m4.out id).cell 5
    have p4_6 : w4.cell? ⟨w.heap.size, 6, none⟩ = some (.int .i64 a6) := (HB0.out.mod m4.out id).cell 6
    have q4_6 : w4.cell? ⟨w.heap.size + 1, 6, none⟩ = some (.int .i64 b6) := (HB1.out.mod m4.out id).cell 6
    clear hm4
    go_wp2
    go_ret
    exact ⟨by rw [HE.out]; rfl, HM0.out.transN m4.out⟩
  have hb6 : (a6 != b6) = false := by simp [e6]
  have S6 := Sec.mk e6
  clear e6
  by_cases e7 : a7 = b7
  rotate_left
  · have HE : Sec (decide ((a0, a1, a2, a3, a4, a5, a6, a7, a8) = (b0, b1, b2, b3, b4, b5, b6, b7, b8)) = false) := ⟨by simp [e7]⟩
    have hb7 : (a7 != b7) = true := by simpa using e7
    clear e7
    go_enter Try.func33, Try.ntmps33
    go_wp2_with fail
    refine (eqPairS_v (H4.out) (H4'.out)).mono ?_
    rw [E4.out]
    rintro e w4 ⟨rfl, hm4⟩
    have m4 := Sec.mk hm4
    have p4_5 : w4.cell? ⟨w.heap.size, 5, none⟩ = some (.int .i64 a5) := (HB0.out.mod m4.out id).cell 5
    have q4_5 : w4.cell? ⟨w.heap.size + 1, 5, none⟩ = some (.int .i64 b5) := (HB1.out.mod m4.out id).cell 5
    have p4_6 : w4.cell? ⟨w.heap.size, 6, none⟩ = some (.int .i64 a6) := (HB0.out.mod m4.out id).cell 6
    have q4_6 : w4.cell? ⟨w.heap.size + 1, 6, none⟩ = some (.int .i64 b6) := (HB1.out.mod m4.out id).cell 6
    have p4_7 : w4.cell? ⟨w.heap.size, 7, none⟩ = some (.int .u32 a7) := (HB0.out.mod m4.out id).cell 7
    have q4_7 : w4.cell? ⟨w.heap.size + 1, 7, none⟩ = some (.int .u32 b7) := (HB1.out.mod m4.out id).cell 7
    clear hm4
    go_wp2
    go_ret
    exact ⟨by rw [HE.out]; rfl, HM0.out.transN m4.out⟩
  have hb7 : (a7 != b7) = false := by simp [e7]
  have S7 := Sec.mk e7
  clear e7
  by_cases e8 : a8 = b8
  rotate_left
  · have HE : Sec (decide ((a0, a1, a2, a3, a4, a5, a6, a7, a8) = (b0, b1, b2, b3, b4, b5, b6, b7, b8)) = false) := ⟨by simp [e8]⟩
    have E8 : Sec (decide (a8 = b8) = false) := ⟨by simp [e8]⟩
    clear e8
    go_enter Try.func33, Try.ntmps33
    go_wp2_with fail
    refine (eqPairS_v (H4.out) (H4'.out)).mono ?_
    rw [E4.out]
    rintro e w4 ⟨rfl, hm4⟩
    have m4 := Sec.mk hm4
    have p4_5 : w4.cell? ⟨w.heap.size, 5, none⟩ = some (.int .i64 a5) := (HB0.out.mod m4.out id).cell 5
    have q4_5 : w4.cell? ⟨w.heap.size + 1, 5, none⟩ = some (.int .i64 b5) := (HB1.out.mod m4.out id).cell 5
    have p4_6 : w4.cell? ⟨w.heap.size, 6, none⟩ = some (.int .i64 a6) := (HB0.out.mod m4.out id).cell 6
    have q4_6 : w4.cell? ⟨w.heap.size + 1, 6, none⟩ = some (.int .i64 b6) := (HB1.out.mod m4.out id).cell 6
    have p4_7 : w4.cell? ⟨w.heap.size, 7, none⟩ = some (.int .u32 a7) := (HB0.out.mod m4.out id).cell 7
    have q4_7 : w4.cell? ⟨w.heap.size + 1, 7, none⟩ = some (.int .u32 b7) := (HB1.out.mod m4.out id).cell 7
    have p4_8 : w4.cell? ⟨w.heap.size, 8, none⟩ = some (v8) := (HB0.out.mod m4.out id).cell 8
    have q4_8 : w4.cell? ⟨w.heap.size + 1, 8, none⟩ = some (u8) := (HB1.out.mod m4.out id).cell 8
    clear hm4
    go_wp2_with fail
    refine (eqByteS_v (H8.out.step m4.out) (H8'.out.step m4.out)).mono ?_
    rw [E8.out]
    rintro e w8 ⟨rfl, hm8⟩
    have m8 := Sec.mk (m4.out.transN hm8)
    clear hm8
    go_wp2
    go_ret
    exact ⟨by rw [HE.out]; rfl, HM0.out.transN m8.out⟩
  have E8 : Sec (decide (a8 = b8) = true) := ⟨by simp [e8]⟩
  have S8 := Sec.mk e8
  clear e8
  have HE : Sec (decide ((a0, a1, a2, a3, a4, a5, a6, a7, a8) = (b0, b1, b2, b3, b4, b5, b6, b7, b8)) = true) := ⟨by simp [S0.out, S1.out, S2.out, S3.out, S4.out, S5.out, S6.out, S7.out, S8.out]⟩
  go_enter Try.func33, Try.ntmps33
  go_wp2_with fail
  refine (eqPairS_v (H4.out) (H4'.out)).mono ?_
  rw [E4.out]
  rintro e w4 ⟨rfl, hm4⟩
  have m4 := Sec.mk hm4
  have p4_5 : w4.cell? ⟨w.heap.size, 5, none⟩ = some (.int .i64 a5) := (HB0.out.mod m4.out id).cell 5
  have q4_5 : w4.cell? ⟨w.heap.size + 1, 5, none⟩ = some (.int .i64 b5) := (HB1.out.mod m4.out id).cell 5
  have p4_6 : w4.cell? ⟨w.heap.size, 6, none⟩ = some (.int .i64 a6) := (HB0.out.mod m4.out id).cell 6
  have q4_6 : w4.cell? ⟨w.heap.size + 1, 6, none⟩ = some (.int .i64 b6) := (HB1.out.mod m4.out id).cell 6
  have p4_7 : w4.cell? ⟨w.heap.size, 7, none⟩ = some (.int .u32 a7) := (HB0.out.mod m4.out id).cell 7
  have q4_7 : w4.cell? ⟨w.heap.size + 1, 7, none⟩ = some (.int .u32 b7) := (HB1.out.mod m4.out id).cell 7
  have p4_8 : w4.cell? ⟨w.heap.size, 8, none⟩ = some (v8) := (HB0.out.mod m4.out id).cell 8
  have q4_8 : w4.cell? ⟨w.heap.size + 1, 8, none⟩ = some (u8) := (HB1.out.mod m4.out id).cell 8
  clear hm4
  go_wp2_with fail
  refine (eqByteS_v (H8.out.step m4.out) (H8'.out.step m4.out)).mono ?_
  rw [E8.out]
  rintro e w8 ⟨rfl, hm8⟩
  have m8 := Sec.mk (m4.out.transN hm8)
  clear hm8
  go_wp2
  go_ret
  exact ⟨by rw [HE.out]; rfl, HM0.out.transN m8.out⟩
def mkCmd1 (k : Nat) (x : CmdT) : CmdT := (x.1, x.2.1, x.2.2.1, x.2.2.2.1, mkPairS1 k x.2.2.2.2.1, x.2.2.2.2.2.1, x.2.2.2.2.2.2.1, x.2.2.2.2.2.2.2.1, mkBS1 (k + cntPairS x.2.2.2.2.1) x.2.2.2.2.2.2.2.2)
def cntCmd (x : CmdT) : Nat := cntPairS x.2.2.2.2.1 + cntBS x.2.2.2.2.2.2.2.2
theorem cntCmd_mk (k : Nat) (x : CmdT) : cntCmd (mkCmd1 k x) = cntCmd x := by simp only [cntCmd, mkCmd1, cntBS_mk, cntPairS_mk]
theorem mkCmd1_idem (k k' : Nat) (x : CmdT) : mkCmd1 k' (mkCmd1 k x) = mkCmd1 k' x := by simp only [mkCmd1, cntBS_mk, cntPairS_mk, mkBS1_idem, mkPairS1_idem]
set_option maxHeartbeats 1000000 in
set_option maxRecDepth 100000 in
theorem markCmd_f {w : World} {F : List Nat} {v : Value} {x : CmdT} (h : OwF true dCmd w F v x) (k : Nat) (hk : k + cntCmd x ≤ 1152921504606846976) :
    Calls Try.prog 34 #[v, .int .i64 k] w (Marks true dCmd w F v (k + cntCmd x) (mkCmd1 k x)) := by
  obtain ⟨v4, v8, rfl, -, -⟩ := rdCmd h.rd
  have HLT := Sec.mk h.lt
  have HB := Sec.mk (Blk.new w 48 [.int .i64 x.1, .string ⟨(x.2.1).toArray⟩, .int .u32 x.2.2.1, .bool x.2.2.2.1, v4, .int .i64 x.2.2.2.2.2.1, .int .i64 x.2.2.2.2.2.2.1, .int .u32 x.2.2.2.2.2.2.2.1, v8])
  have HX := Sec.mk (h.mv (w' := w.alloc (.cells #[.int .i64 x.1, .string ⟨(x.2.1).toArray⟩, .int .u32 x.2.2.1, .bool x.2.2.2.1, v4, .int .i64 x.2.2.2.2.2.1, .int .i64 x.2.2.2.2.2.2.1, .int .u32 x.2.2.2.2.2.2.2.1, v8] 48)) fun i hi => Below.heap_alloc _ _ _ (h.lt i hi))
  have HM : Sec (Mod (· ∈ F) w (w.alloc (.cells #[.int .i64 x.1, .string ⟨(x.2.1).toArray⟩, .int .u32 x.2.2.1, .bool x.2.2.2.1, v4, .int .i64 x.2.2.2.2.2.1, .int .i64 x.2.2.2.2.2.2.1, .int .u32 x.2.2.2.2.2.2.2.1, v8] 48))) := ⟨(Mod.refl _ _).alloc _⟩
  have HF : Sec (∀ i, i ∈ F → i ∈ F) := ⟨fun _ h => h⟩
  have HCN : Sec (cntCmd x = cntPairS x.2.2.2.2.1 + cntBS x.2.2.2.2.2.2.2.2) := ⟨rfl⟩
  have hcn := HCN.out
  clear h
  go_enter Try.func34, Try.ntmps34
  obtain ⟨G4, ho4, hG4, hst4⟩ := fldCmd4.lead1 (vi := v4) rfl HX.out
  have HV4 := Sec.mk ho4
  have HG4 := Sec.mk hG4
  have HT4 := Sec.mk hst4
  clear ho4 hG4 hst4
  go_wp2_with fail
  refine Calls.mono (markPairS_i HV4.out _ k ?_ ?_) ?_
  · first | rfl | omega
  · (try dsimp only at hcn ⊢); omega
  rintro e w4 ⟨rfl, ⟨F4, ho4, hF4⟩, hm4⟩
  obtain ⟨G4', ho, hG4'⟩ := HT4.out w4 _ F4 hm4 ho4 hF4
  have HX4 := Sec.mk ho
  have HF4 := Sec.mk (fun i hi => HF.out i (hG4' i hi))
  have HM4 : Sec (Mod (· ∈ F) w w4) := ⟨HM.out.trans hm4 fun i hi _ => HF.out i (HG4.out i hi)⟩
  have HB4 := Sec.mk (HB.out.mod hm4 (fun h => absurd (HLT.out _ (HF.out _ (HG4.out _ h))) (Nat.lt_irrefl _)))
  have p4_8 : w4.cell? ⟨w.heap.size, 8, none⟩ = some v8 := HB4.out.cell 8
  clear ho4 hF4 hm4 ho hG4' HT4 HV4 HG4
  obtain ⟨s4, hs4⟩ : ∃ t, t = k + cntPairS x.2.2.2.2.1 := ⟨_, rfl⟩
  try dsimp only at HX4
  rw [← hs4]
  have HS4 := Sec.mk hs4
  clear hs4
  obtain ⟨G8, ho8, hG8, hst8⟩ := fldCmd8.lead1 (vi := v8) rfl HX4.out
  have HV8 := Sec.mk ho8
  have HG8 := Sec.mk hG8
  have HT8 := Sec.mk hst8
  clear ho8 hG8 hst8
  go_wp2_with fail
  refine Calls.mono (markByteS_i HV8.out _ s4 ?_ ?_) ?_
  · first | rfl | omega
  · have := HS4.out; (try dsimp only at hcn ⊢); omega
  rintro e w8 ⟨rfl, ⟨F8, ho8, hF8⟩, hm8⟩
  obtain ⟨G8', ho, hG8'⟩ := HT8.out w8 _ F8 hm8 ho8 hF8
  have HX8 := Sec.mk ho
  have HF8 := Sec.mk (fun i hi => HF4.out i (hG8' i hi))
  have HM8 : Sec (Mod (· ∈ F) w w8) := ⟨HM4.out.trans hm8 fun i hi _ => HF4.out i (HG8.out i hi)⟩
  have HB8 := Sec.mk (HB4.out.mod hm8 (fun h => absurd (HLT.out _ (HF4.out _ (HG8.out _ h))) (Nat.lt_irrefl _)))
  clear ho8 hF8 hm8 ho hG8' HT8 HV8 HG8
  obtain ⟨s8, hs8⟩ : ∃ t, t = s4 + cntBS x.2.2.2.2.2.2.2.2 := ⟨_, rfl⟩
  try dsimp only at HX8
  rw [← hs8]
  have HS8 := Sec.mk hs8
  clear hs8
  have HFIN : Sec (s8 = k + cntCmd x) := ⟨by rw [HCN.out]; have := HS4.out; have := HS8.out; omega⟩
  have HEQ : Sec ((x.1, x.2.1, x.2.2.1, x.2.2.2.1, mkPairS1 k x.2.2.2.2.1, x.2.2.2.2.2.1, x.2.2.2.2.2.2.1, x.2.2.2.2.2.2.2.1, mkBS1 s4 x.2.2.2.2.2.2.2.2) = mkCmd1 k x) := ⟨by have h4 := HS4.out; subst h4; have h8 := HS8.out; subst h8; rfl⟩
  try rw [← HFIN.out]
  go_wp2
  go_ret
  exact ⟨by first | rfl | (rw [← HFIN.out]; rfl), ⟨G8', by first | exact HX8.out | (rw [← HEQ.out]; exact HX8.out), HF8.out⟩, HM8.out⟩
theorem markCmd_v {w : World} {lo hi : Nat} {v : Value} {x : CmdT} (h : OwV true dCmd w lo hi v x) (k : Nat) (hk : k + cntCmd x ≤ 1152921504606846976) :
    Calls Try.prog 34 #[v, .int .i64 k] w fun e w' => e = .returned (.int .i64 ((k + cntCmd x : Nat) : Int)) ∧ OwV true dCmd w' lo hi v (mkCmd1 k x) ∧ Mod (fun i => lo ≤ i ∧ i < hi) w w' :=
  h.mark fun F hF => markCmd_f hF k hk
set_option maxHeartbeats 1000000 in
set_option maxRecDepth 100000 in
theorem heldCmd_v {w : World} {v : Value} {x : CmdT} (h : RdV true dCmd w v x) (k : Nat) (hx : x = mkCmd1 k x) (hk : k + cntCmd x ≤ 1152921504606846976) :
    Calls Try.prog 35 #[v, .int .i64 k] w (Ret (.int .i64 ((k + cntCmd x : Nat) : Int)) w) := by
  obtain ⟨v4, v8, rfl, k4, k8⟩ := rdCmd h
  have HZ := Sec.mk hx
  have HB := Sec.mk (Blk.new w 48 [.int .i64 x.1, .string ⟨(x.2.1).toArray⟩, .int .u32 x.2.2.1, .bool x.2.2.2.1, v4, .int .i64 x.2.2.2.2.2.1, .int .i64 x.2.2.2.2.2.2.1, .int .u32 x.2.2.2.2.2.2.2.1, v8])
  have HM : Sec (New w (w.alloc (.cells #[.int .i64 x.1, .string ⟨(x.2.1).toArray⟩, .int .u32 x.2.2.1, .bool x.2.2.2.1, v4, .int .i64 x.2.2.2.2.2.1, .int .i64 x.2.2.2.2.2.2.1, .int .u32 x.2.2.2.2.2.2.2.1, v8] 48))) := ⟨(Mod.refl _ _).alloc _⟩
  have HK4 := Sec.mk k4
  have HK8 := Sec.mk k8
  have HCN : Sec (cntCmd x = cntPairS x.2.2.2.2.1 + cntBS x.2.2.2.2.2.2.2.2) := ⟨rfl⟩
  have hcn := HCN.out
  clear h hx k4 k8
  go_enter Try.func35, Try.ntmps35
  have HRD4 := Sec.mk (HK4.out.step HM.out)
  have z4 : x.2.2.2.2.1 = mkPairS1 k x.2.2.2.2.1 := by have h := congrArg (fun x : CmdT => x.2.2.2.2.1) HZ.out; (try simp only [mkCmd1] at h); exact h
  have HZ4 := Sec.mk z4
  clear z4
  go_wp2_with fail
  refine Calls.mono (heldPairS_i HRD4.out _ k ?_ HZ4.out ?_) ?_
  · first | rfl | omega
  · (try dsimp only at hcn ⊢); omega
  rintro e w4 ⟨rfl, hm4⟩
  have HM4 := Sec.mk (HM.out.transN hm4)
  have HB4 := Sec.mk (HB.out.mod hm4 id)
  have p4_8 : w4.cell? ⟨w.heap.size, 8, none⟩ = some v8 := HB4.out.cell 8
  clear hm4
  obtain ⟨s4, hs4⟩ : ∃ t, t = k + cntPairS x.2.2.2.2.1 := ⟨_, rfl⟩
  rw [← hs4]
  have HS4 := Sec.mk hs4
  clear hs4
  have HRD8 := Sec.mk (HK8.out.step HM4.out)
  have z8 : x.2.2.2.2.2.2.2.2 = mkBS1 s4 x.2.2.2.2.2.2.2.2 := by have h := congrArg (fun x : CmdT => x.2.2.2.2.2.2.2.2) HZ.out; have h4 := HS4.out; subst h4; (try simp only [mkCmd1] at h); exact h
  have HZ8 := Sec.mk z8
  clear z8
  go_wp2_with fail
  refine Calls.mono (heldByteS_i HRD8.out _ s4 ?_ HZ8.out ?_) ?_
  · first | rfl | omega
  · have := HS4.out; (try dsimp only at hcn ⊢); omega
  rintro e w8 ⟨rfl, hm8⟩
  have HM8 := Sec.mk (HM4.out.transN hm8)
  have HB8 := Sec.mk (HB4.out.mod hm8 id)
  clear hm8
  obtain ⟨s8, hs8⟩ : ∃ t, t = s4 + cntBS x.2.2.2.2.2.2.2.2 := ⟨_, rfl⟩
  rw [← hs8]
  have HS8 := Sec.mk hs8
  clear hs8
  have HFIN : Sec (s8 = k + cntCmd x) := ⟨by rw [HCN.out]; have := HS4.out; have := HS8.out; omega⟩
  try rw [← HFIN.out]
  go_wp2
  go_ret
  exact ⟨by first | rfl | (rw [← HFIN.out]; rfl), HM8.out⟩
end Go.Proofs.Ytciaoedjiggonaa
