/- The laws' helpers over Node and over slices of it. -/
import Derived.Test.YtinfibggdbakoaaFld
import Derived.Test.YtinfibggdbakoaaVal
import Derived.Test.YtinfibggdbakoaaMarkL
import Derived.Test.YtinfibggdbakoaaReg
import Derived.Test.YtinfibggdbakoaaMarkI
import Derived.Test.YtinfibggdbakoaaProg
import Derived.WalkKit
namespace Go.Proofs.Ytinfibggdbakoaa
open Go.RowKit Mem
set_option linter.unusedVariables false
set_option linter.unusedSimpArgs false
abbrev NodeT := Bytes × Int
abbrev dNode : Ty NodeT := Ty.pair dBS (Ty.int .i64)
set_option synthInstance.maxSize 2000
theorem rdNode {w : World} {v : Value} {x : NodeT} (h : RdV true dNode w v x) : ∃ v0, v = .agg #[v0, .int .i64 x.2] ∧ RdV false dBS w v0 x.1 := by
  obtain ⟨cs, rfl, c0, c1, rfl, h0, h1⟩ := h
  obtain ⟨A0, cp0, rfl, g0⟩ := h0
  obtain ⟨rfl, g1⟩ := h1
  exact ⟨_, rfl, ⟨_, rfl, A0, cp0, rfl, g0⟩⟩
theorem cellsNode {w : World} {v : Value} {x : NodeT} (h : RdV true dNode w v x) : ∃ A0 q0, v = .agg #[.slice A0 x.1.length q0, .int .i64 x.2] := by
  obtain ⟨v0, rfl, k0⟩ := rdNode h
  obtain ⟨A0, q0, rfl, _⟩ := k0.slice
  exact ⟨A0, q0, rfl⟩
theorem fldNode0 : Fld dNode 0 dBS (fun x => x.1) (fun x y => (y, x.2)) := (Fld.fst (Fld.one rfl))
theorem fldNode1 : Fld dNode 1 (Ty.int .i64) (fun x => x.2) (fun x y => (x.1, y)) := (Fld.snd (Fld.one rfl) rfl)
theorem eltNode : Elt Try.prog 55 dNode.sz (.agg #[.slice none 0 0, .int .i64 0]) := Elt.of (b := 32) (by kernel_rfl) rfl (by decide) (by decide)
theorem mNode {w : World} {x : NodeT} {F0 : List Nat} {v0 : Value} (g1 : IntKind.i64.wrap x.2 = x.2) (o0 : Own Ty.byte 5 w F0 v0 x.1) : dNode.M w (F0 ++ ([])) x [v0, .int .i64 x.2] :=
  ⟨_, _, F0, _, rfl, rfl, (by simpa using o0.nd), ⟨_, rfl, o0⟩, ⟨rfl, rfl, g1⟩⟩
theorem ofNode {w : World} {lo hi : Nat} {x : NodeT} {v0 : Value} (g1 : IntKind.i64.wrap x.2 = x.2) (h : OwI Ty.byte 5 w lo hi v0 x.1) : OwV true dNode w lo hi (.agg #[v0, .int .i64 x.2]) x := by
  obtain ⟨F, ho, hF⟩ := h
  exact ⟨_, _, rfl, mNode g1 ho, by simpa using hF⟩
set_option maxHeartbeats 1000000 in
set_option maxRecDepth 100000 in
theorem eqNode_v {w : World} {v v' : Value} {x x' : NodeT} (h : RdV true dNode w v x) (h' : RdV true dNode w v' x') : Calls Try.prog 66 #[v, v'] w (Ret (.bool (decide (x = x'))) w) := by
  obtain ⟨v0, rfl, k0⟩ := rdNode h
  obtain ⟨u0, rfl, k0'⟩ := rdNode h'
  obtain ⟨a0, a1⟩ := x
  obtain ⟨b0, b1⟩ := x'
  simp only at k0 k0' ⊢
  have HB0 := Sec.mk ((Blk.new w 55 [v0, .int .i64 a1]).alloc (.cells #[u0, .int .i64 b1] 55))
  have HB1 := Sec.mk (Blk.new (w.alloc (.cells #[v0, .int .i64 a1] 55)) 55 [u0, .int .i64 b1])
  rw [show (w.alloc (.cells #[v0, .int .i64 a1] 55)).heap.size = w.heap.size + 1 by simp] at HB1
  have HM0 := Sec.mk (((Mod.refl (fun _ => False) w).alloc (.cells #[v0, .int .i64 a1] 55)).alloc (.cells #[u0, .int .i64 b1] 55))
  have H0 := Sec.mk (k0.step HM0.out)
  have H0' := Sec.mk (k0'.step HM0.out)
  clear h h' k0 k0'
  by_cases e0 : a0 = b0
  rotate_left
  · have HE : Sec (decide ((a0, a1) = (b0, b1)) = false) := ⟨by simp [e0]⟩
    have E0 : Sec (decide (a0 = b0) = false) := ⟨by simp [e0]⟩
    clear e0
    go_enter Try.func66, Try.ntmps66
    go_wp2_with fail
    refine (eqByteS_v (H0.out) (H0'.out)).mono ?_
    rw [E0.out]
    rintro e w0 ⟨rfl, hm0⟩
    have m0 := Sec.mk hm0
    clear hm0
    go_wp2
    go_ret
    exact ⟨by rw [HE.out]; rfl, HM0.out.transN m0.out⟩
  have E0 : Sec (decide (a0 = b0) = true) := ⟨by simp [e0]⟩
  have S0 := Sec.mk e0
  clear e0
  by_cases e1 : a1 = b1
  rotate_left
  · have HE : Sec (decide ((a0, a1) = (b0, b1)) = false) := ⟨by simp [e1]⟩
    have hb1 : (a1 != b1) = true := by simpa using e1
    clear e1
    go_enter Try.func66, Try.ntmps66
    go_wp2_with fail
    refine (eqByteS_v (H0.out) (H0'.out)).mono ?_
    rw [E0.out]
    rintro e w0 ⟨rfl, hm0⟩
    have m0 := Sec.mk hm0
    have p0_1 : w0.cell? ⟨w.heap.size, 1, none⟩ = some (.int .i64 a1) := (HB0.out.mod m0.out id).cell 1
    have q0_1 : w0.cell? ⟨w.heap.size + 1, 1, none⟩ = some (.int .i64 b1) := (HB1.out.mod m0.out id).cell 1
    clear hm0
    go_wp2
    go_ret
    exact ⟨by rw [HE.out]; rfl, HM0.out.transN m0.out⟩
  have hb1 : (a1 != b1) = false := by simp [e1]
  have S1 := Sec.mk e1
  clear e1
  have HE : Sec (decide ((a0, a1) = (b0, b1)) = true) := ⟨by simp [S0.out, S1.out]⟩
  go_enter Try.func66, Try.ntmps66
  go_wp2_with fail
  refine (eqByteS_v (H0.out) (H0'.out)).mono ?_
  rw [E0.out]
  rintro e w0 ⟨rfl, hm0⟩
  have m0 := Sec.mk hm0
  have p0_1 : w0.cell? ⟨w.heap.size, 1, none⟩ = some (.int .i64 a1) := (HB0.out.mod m0.out id).cell 1
  have q0_1 : w0.cell? ⟨w.heap.size + 1, 1, none⟩ = some (.int .i64 b1) := (HB1.out.mod m0.out id).cell 1
  clear hm0
  go_wp2
  go_ret
  exact ⟨by rw [HE.out]; rfl, HM0.out.transN m0.out⟩
def mkNode1 (k : Nat) (x : NodeT) : NodeT := (mkBS1 k x.1, (((k + cntBS x.1) : Nat) : Int))
def cntNode (x : NodeT) : Nat := cntBS x.1 + 1
theorem cntNode_mk (k : Nat) (x : NodeT) : cntNode (mkNode1 k x) = cntNode x := by simp only [cntNode, mkNode1, cntBS_mk]
theorem mkNode1_idem (k k' : Nat) (x : NodeT) : mkNode1 k' (mkNode1 k x) = mkNode1 k' x := by simp only [mkNode1, cntBS_mk, mkBS1_idem]
abbrev NodeST := List NodeT
abbrev dNodeS : Ty NodeST := Ty.slice 55 dNode
def cntNodeS (xs : NodeST) : Nat := preS cntNode xs xs.length
def mkNodeS1 (k : Nat) (xs : NodeST) : NodeST := markL mkNode1 cntNode k xs
theorem cntNodeS_mk (k : Nat) (xs : NodeST) : cntNodeS (mkNodeS1 k xs) = cntNodeS xs := by unfold cntNodeS mkNodeS1; rw [preS_mark _ _ cntNode_mk, markL_len]
theorem mkNodeS1_idem (k k' : Nat) (xs : NodeST) : mkNodeS1 k' (mkNodeS1 k xs) = mkNodeS1 k' xs := markL_idem _ _ cntNode_mk mkNode1_idem k k' xs
theorem idxNodeS (ad : Addr) (m c k : Nat) (h : k < m) (w : World) : (Instr.indexAt 29 (.slice (some ad) m c) (.int .i64 (k : Int))).run Try.prog w = .ok (.pointer (some (ad.add (k * 2)))) w := by
  have h0 : (0 : Int) ≤ (k : Int) := by omega
  have h1 : (k : Int) < (m : Int) := by omega
  go_simp
set_option maxHeartbeats 1000000 in
set_option maxRecDepth 100000 in
theorem eqNodeS_v {w : World} {v v' : Value} {xs ys : NodeST} (h : RdV false dNodeS w v xs) (h' : RdV false dNodeS w v' ys) : Calls Try.prog 35 #[v, v'] w (Ret (.bool (decide (xs = ys))) w) := by
  obtain ⟨A, c, rfl, -, hr⟩ := h.slice
  obtain ⟨A', c', rfl, -, hr'⟩ := h'.slice
  have hl := hr.2.1
  have HR := Sec.mk hr
  have HR' := Sec.mk hr'
  clear h h' hr hr'
  by_cases hne : xs.length = ys.length
  rotate_left
  · have hnb : ((xs.length : Int) != (ys.length : Int)) = true := by simp; omega
    have HE : Sec (decide (xs = ys) = false) := ⟨by simp [show xs ≠ ys from fun e => hne (by rw [e])]⟩
    clear hne
    go_enter Try.func35, Try.ntmps35
    go_wp2
    go_ret
    exact ⟨by rw [HE.out]; rfl, Mod.refl _ _⟩
  have hnb : ((xs.length : Int) != (ys.length : Int)) = false := by simp [hne]
  have HNE := Sec.mk hne
  clear hne
  go_enter Try.func35, Try.ntmps35
  go_wp2
  go_loopw [5] (fun i wr => ∃ k : Nat, k ≤ xs.length ∧ i = .int .i64 k ∧ Sec (xs.take k = ys.take k) ∧ Sec (New w wr)) (fun i _ => xs.length - (intOf i).toNat)
  case atStart => exact ⟨0, Nat.zero_le _, rfl, Sec.mk (by simp), Sec.mk (Mod.refl _ _)⟩
  case round =>
    obtain ⟨k, hk, rfl, HT, HM⟩ := hrel
    by_cases hlt : k < xs.length
    · have hlt2 : k < ys.length := by rw [← HNE.out]; exact hlt
      obtain ⟨ad, vx, rfl, hx⟩ := HR.out.elem (P := Try.prog) hlt 55 Try.underlying55 rfl (by kernel_rfl)
      obtain ⟨ad', vy, rfl, hy⟩ := HR'.out.elem (P := Try.prog) hlt2 55 Try.underlying55 rfl (by kernel_rfl)
      have HX : Sec (∀ W, New wr W → (Instr.loadAt 55 (.pointer (some (ad.add (k * 2))))).run Try.prog W = .ok vx W ∧ RdV true dNode W vx xs[k]) := ⟨fun W hW => hx W (fun i hi => (hW.block i (Nat.lt_of_lt_of_le hi HM.out.size) id).trans (HM.out.block i hi id)) (fun i hi => Nat.lt_of_lt_of_le hi (Nat.le_trans HM.out.size hW.size))⟩
      have HY : Sec (∀ W, New wr W → (Instr.loadAt 55 (.pointer (some (ad'.add (k * 2))))).run Try.prog W = .ok vy W ∧ RdV true dNode W vy (ys[k]'hlt2)) := ⟨fun W hW => hy W (fun i hi => (hW.block i (Nat.lt_of_lt_of_le hi HM.out.size) id).trans (HM.out.block i hi id)) (fun i hi => Nat.lt_of_lt_of_le hi (Nat.le_trans HM.out.size hW.size))⟩
      have HXY : Sec (xs[k] = ys[k]'hlt2 → xs.take (k + 1) = ys.take (k + 1)) := ⟨fun h => by rw [List.take_succ_eq_append_getElem hlt, List.take_succ_eq_append_getElem hlt2, HT.out, h]⟩
      have HNQ : Sec (xs[k] ≠ ys[k]'hlt2 → decide (xs = ys) = false) := ⟨fun h => by simp only [decide_eq_false_iff_not]; intro e; exact h (by subst e; rfl)⟩
      clear hx hy HT
      generalize xs[k] = x at *
      generalize ys[k]'hlt2 = y at *
      have hki : (k : Int) < (xs.length : Int) := by omega
      have hkj : (k : Int) < (ys.length : Int) := by omega
      go_wp2
      refine reg_start [] (fun W => Sec (New wr W)) (by kernel_rfl) ?_
      have HSS : Sec (New wr wr.drew) := ⟨(Mod.refl _ _).drew⟩
      refine reg_take (.slice (some ad) xs.length c) (i := 0) (n := 17) HSS rfl (by kernel_rfl) (by kernel_rfl) (by kernel_rfl) (by kernel_rfl) (fun _ _ _ h => h) (fun W hW => exec_move rfl rfl) ?_
      simp only [Act.put, List.setIfInBounds_toArray, List.set_cons_zero, List.set_cons_succ]
      refine reg_take (.int .i64 (k : Int)) (i := 1) (n := 18) HSS rfl (by kernel_rfl) (by kernel_rfl) (by kernel_rfl) (by kernel_rfl) (fun _ _ _ h => h) (fun W hW => exec_move rfl rfl) ?_
      simp only [Act.put, List.setIfInBounds_toArray, List.set_cons_zero, List.set_cons_succ]
      refine reg_take (.pointer (some (ad.add (k * 2)))) (i := 2) (n := 19) HSS rfl (by kernel_rfl) (by kernel_rfl) (by kernel_rfl) (by kernel_rfl) (fun _ _ _ h => h) (fun W hW => exec_indexAddr rfl rfl rfl (idxNodeS _ _ _ _ hlt _)) ?_
      simp only [Act.put, List.setIfInBounds_toArray, List.set_cons_zero, List.set_cons_succ]
      refine reg_take (vx) (i := 3) (n := 20) HSS rfl (by kernel_rfl) (by kernel_rfl) (by kernel_rfl) (by kernel_rfl) (fun _ _ _ h => h) (fun W hW => exec_load rfl rfl (HX.out W hW.out).1) ?_
      simp only [Act.put, List.setIfInBounds_toArray, List.set_cons_zero, List.set_cons_succ]
      refine reg_take (.slice (some ad') ys.length c') (i := 4) (n := 21) HSS rfl (by kernel_rfl) (by kernel_rfl) (by kernel_rfl) (by kernel_rfl) (fun _ _ _ h => h) (fun W hW => exec_move rfl rfl) ?_
      simp only [Act.put, List.setIfInBounds_toArray, List.set_cons_zero, List.set_cons_succ]
      refine reg_take (.int .i64 (k : Int)) (i := 5) (n := 22) HSS rfl (by kernel_rfl) (by kernel_rfl) (by kernel_rfl) (by kernel_rfl) (fun _ _ _ h => h) (fun W hW => exec_move rfl rfl) ?_
      simp only [Act.put, List.setIfInBounds_toArray, List.set_cons_zero, List.set_cons_succ]
      refine reg_take (.pointer (some (ad'.add (k * 2)))) (i := 6) (n := 23) HSS rfl (by kernel_rfl) (by kernel_rfl) (by kernel_rfl) (by kernel_rfl) (fun _ _ _ h => h) (fun W hW => exec_indexAddr rfl rfl rfl (idxNodeS _ _ _ _ hlt2 _)) ?_
      simp only [Act.put, List.setIfInBounds_toArray, List.set_cons_zero, List.set_cons_succ]
      refine reg_take (vy) (i := 7) (n := 24) HSS rfl (by kernel_rfl) (by kernel_rfl) (by kernel_rfl) (by kernel_rfl) (fun _ _ _ h => h) (fun W hW => exec_load rfl rfl (HY.out W hW.out).1) ?_
      simp only [Act.put, List.setIfInBounds_toArray, List.set_cons_zero, List.set_cons_succ]
      refine reg_step (i := 8) rfl (by kernel_rfl) (fun K hK => ?_)
      refine wp_call (n := 25) (vals := [vx, vy]) rfl rfl rfl (by kernel_rfl) (eqNode_v (HX.out _ HSS.out).2 (HY.out _ HSS.out).2) ?_
      rintro e w1 ⟨rfl, hm1⟩
      have HS1 : Sec (New wr w1) := ⟨HSS.out.transN hm1⟩
      refine ⟨_, rfl, hK.out _ _ (fun _ => HS1) ?_⟩
      clear hK K hm1
      simp only [Act.put, List.setIfInBounds_toArray, List.set_cons_zero, List.set_cons_succ]
      refine reg_step (i := 9) rfl (by kernel_rfl) (fun K hK => ?_)
      refine wp_val (n := 26) (v := .bool (!decide (x = y))) (exec_un rfl rfl (Mem.not_r _ _)) rfl (hK.out _ _ (fun _ => HS1) ?_)
      clear hK K
      simp only [Act.put, List.setIfInBounds_toArray, List.set_cons_zero, List.set_cons_succ]
      refine reg_done (by kernel_rfl) ?_ _
      have HM' := Sec.mk (HM.out.transN HS1.out)
      by_cases hxy : x = y
      · have HT' := Sec.mk (HXY.out hxy)
        have hd : decide (x = y) = true := by simp [hxy]
        clear hxy HXY HNQ HX HY
        rw [hd]
        go_wp2
        go_roundw
        case rel => exact ⟨k + 1, by omega, by go_num, HT', HM'⟩
        case measure => simp [intOf]; omega
      · have HE := Sec.mk (HNQ.out hxy)
        have hd : decide (x = y) = false := by simp [hxy]
        clear hxy HXY HNQ HX HY
        rw [hd]
        go_wp2
        go_ret
        exact ⟨by rw [HE.out]; rfl, HM'.out⟩
    · have HE : Sec (decide (xs = ys) = true) := ⟨by
        have h1 := HT.out
        rw [List.take_of_length_le (by omega), List.take_of_length_le (by rw [← HNE.out]; omega)] at h1
        simp [h1]⟩
      go_wp2
      go_ret
      exact ⟨by rw [HE.out]; rfl, HM.out⟩
set_option maxHeartbeats 1000000 in
set_option maxRecDepth 100000 in
theorem markNodeS_calls {A : Option Addr} {c : Nat} {xs : NodeST} {F : List Nat} {w : World} (h : Own dNode 55 w F (.slice A xs.length c) xs) (k : Nat) (hk : k + cntNodeS xs ≤ 1152921504606846976) :
    Calls Try.prog 42 #[.slice A xs.length c, .int .i64 k] w fun e w' => e = .returned (.int .i64 ((k + cntNodeS xs : Nat) : Int)) ∧ ∃ F', Own dNode 55 w' F' (.slice A xs.length c) (mkNodeS1 k xs) ∧ (∀ i, i ∈ F' → i ∈ F) ∧ Mod (· ∈ F) w w' := by
  have hlx := h.len_le
  have HO := Sec.mk h
  have HKK : Sec (cntNodeS xs = preS cntNode xs xs.length) := ⟨rfl⟩
  rw [HKK.out] at hk ⊢
  clear h
  go_enter Try.func42, Try.ntmps42
  go_wp2
  go_loopw [1, 5] (fun q i wr => ∃ (j : Nat) (ys : NodeST) (G : List Nat), j ≤ xs.length ∧ i = .int .i64 j ∧ q = .int .i64 ((k + preS cntNode xs j : Nat) : Int) ∧ Sec (ys = (mkNodeS1 k xs).take j ++ xs.drop j) ∧ Sec (Own dNode 55 wr G (.slice A xs.length c) ys) ∧ Sec (∀ k, k ∈ G → k ∈ F) ∧ Sec (Mod (· ∈ F) w wr)) (fun _ i _ => xs.length - (intOf i).toNat)
  case atStart => exact ⟨0, xs, F, Nat.zero_le _, rfl, by rw [preS_zero]; rfl, ⟨by simp⟩, HO, ⟨fun _ h => h⟩, ⟨Mod.refl _ _⟩⟩
  case round =>
    obtain ⟨j, ys, G, hj, rfl, rfl, HY, HO, HF, HM⟩ := hrel
    by_cases hlt : j < xs.length
    · have hyl : ys.length = xs.length := by rw [HY.out]; exact take_drop_len (markL_len _ _ k xs) j
      have hjy : j < ys.length := by omega
      have hyj : ys[j] = xs[j] := by simp only [HY.out]; exact take_drop_at (markL_len _ _ k xs) hlt _
      have hks := preS_succ cntNode xs hlt
      have hkl := preS_le cntNode xs (j + 1)
      have HZ := Sec.mk (markL_at mkNode1 cntNode k xs (i := j) (by rw [markL_len]; exact hlt))
      have HTD : Sec (ys.set j (mkNode1 (k + preS cntNode xs j) xs[j]) = (mkNodeS1 k xs).take (j + 1) ++ xs.drop (j + 1)) := ⟨by rw [← HZ.out, HY.out]; exact take_drop_set (markL_len _ _ k xs) hlt⟩
      have HX : Sec (Own dNode 55 wr G (.slice A xs.length c) (ys.set j xs[j])) := ⟨by rw [← hyj, List.set_getElem_self]; exact HO.out⟩
      obtain ⟨g, rfl, hgG, -, -⟩ := HO.out.cellsAt hjy
      have HgF := Sec.mk (HF.out g hgG)
      have HKS := Sec.mk hks
      have hkb : preS cntNode xs j + cntNode xs[j] ≤ preS cntNode xs xs.length := by omega
      clear hks hkl hyj HZ HO hgG
      have HCN : Sec (cntNode xs[j] = cntBS xs[j].1 + 1) := ⟨rfl⟩
      have hcn := HCN.out
      generalize hps : preS cntNode xs j = s at *
      generalize hxj : xs[j] = x at *
      have HJ := Sec.mk hjy
      obtain ⟨_, hA0, -, hcell0, hfz0⟩ := HX.out.cellsAt (j := j) (by rw [List.length_set]; exact hjy)
      injection hA0 with hA0
      injection hA0 with hA0
      subst hA0
      simp only [show dNode.sz = 2 from rfl] at hcell0
      clear hcell0 hfz0
      obtain ⟨v0, G0, _, hc0, ho0, hG0, hst0⟩ := Own.fsubAt fldNode0 HJ.out HX.out
      simp only [show dNode.sz = 2 from rfl, Nat.add_zero] at hc0
      have HV0 := Sec.mk ho0
      have HG0 := Sec.mk hG0
      have HT0 := Sec.mk hst0
      clear ho0 hG0 hst0
      go_wp2_with fail
      refine Calls.mono (markByteS_i HV0.out _ (k + s) ?_ ?_) ?_
      · first | rfl | omega
      · (try dsimp only at hcn ⊢); omega
      rintro e w0 ⟨rfl, ⟨F0, ho0, hF0⟩, hm0⟩
      obtain ⟨G0', ho, hG0'⟩ := HT0.out w0 _ F0 hm0 ho0 hF0
      have HX0 := Sec.mk ho
      have HF0 := Sec.mk (fun i hi => HF.out i (hG0' i hi))
      have HM0 : Sec (Mod (· ∈ F) w w0) := ⟨HM.out.trans hm0 fun i hi _ => HF.out i (HG0.out i hi)⟩
      clear ho0 hF0 hm0 ho hG0' HT0 HV0 HG0
      obtain ⟨s0, hs0⟩ : ∃ t, t = (k + s) + cntBS x.1 := ⟨_, rfl⟩
      try dsimp only at HX0
      rw [← hs0]
      have HS0 := Sec.mk hs0
      have hbd0 : s0 ≤ 1152921504606846976 := by have := HS0.out; (try dsimp only at hcn); omega
      clear hs0
      obtain ⟨_, hA1, -, hcell1, hfz1⟩ := HX0.out.cellsAt (j := j) (by rw [List.length_set]; exact hjy)
      injection hA1 with hA1
      injection hA1 with hA1
      subst hA1
      simp only [show dNode.sz = 2 from rfl] at hcell1
      obtain ⟨p1, hc1⟩ := hcell1 1 (by decide)
      have hf1 := hfz1 (j * 2 + 1)
      clear hcell1 hfz1
      obtain ⟨hgg, hst⟩ := Own.fstoreAt fldNode1 (fun _ _ _ _ h => h.1) HJ.out HX0.out
      obtain ⟨G1, ho, hG1⟩ := hst (.int .i64 ((s0 : Int))) ((s0 : Int)) (fun _ => ⟨rfl, rfl, by rw [IntKind.wrap_i64]; omega⟩)
      simp only [show dNode.sz = 2 from rfl] at ho
      have HX1 := Sec.mk ho
      have HF1 := Sec.mk (fun i hi => HF0.out i (hG1 i hi))
      have HM1 := Sec.mk (HM0.out.setCell (p := ⟨g, j * 2 + 1, none⟩) (fun _ => HgF.out) (.int .i64 ((s0 : Int))))
      clear hgg hst ho hG1
      have HEQ : Sec (mkNode1 (k + s) x = (mkBS1 (k + s) x.1, ((s0 : Int)))) := ⟨by have h0 := HS0.out; subst h0; simp only [mkNode1, Int.natCast_add]⟩
      rw [HEQ.out] at HTD
      go_wp2
      go_roundw
      case rel => exact ⟨j + 1, _, G1, by omega, by go_num, by rw [HKS.out, HCN.out]; congr 1; try (have := HS0.out; omega), HTD, HX1, HF1, HM1⟩
      case measure => simp [intOf]; omega
    · obtain rfl : j = xs.length := by omega
      go_wp2
      go_ret
      have he : ys = mkNodeS1 k xs := by
        rw [HY.out, List.take_of_length_le (by unfold mkNodeS1; rw [markL_len]; exact Nat.le_refl _)]; simp
      subst he
      exact ⟨by simp, G, HO.out, HF.out, HM.out⟩
theorem markNodeS_f {w : World} {F : List Nat} {v : Value} {x : NodeST} (h : OwF false dNodeS w F v x) (k : Nat) (hk : k + cntNodeS x ≤ 1152921504606846976) :
    Calls Try.prog 42 #[v, .int .i64 k] w (Marks false dNodeS w F v (k + cntNodeS x) (mkNodeS1 k x)) := by
  obtain ⟨A, c, rfl, ho⟩ := h.slice
  refine (markNodeS_calls ho k hk).mono ?_
  rintro e w' ⟨rfl, F', ho', hF', hm⟩
  refine ⟨rfl, ⟨F', ?_, hF'⟩, hm⟩
  have hl : (mkNodeS1 k x).length = x.length := markL_len _ _ k x
  rw [← hl] at ho'
  rw [← hl]
  exact OwF.of_slice ho'
theorem markNodeS_i {w : World} {F : List Nat} {v : Value} {x : NodeST} (h : OwF false dNodeS w F v x) (q : Int) (k : Nat) (hq : q = (k : Int)) (hk : k + cntNodeS x ≤ 1152921504606846976) :
    Calls Try.prog 42 #[v, .int .i64 q] w (Marks false dNodeS w F v (k + cntNodeS x) (mkNodeS1 k x)) := by subst hq; exact markNodeS_f h k hk
theorem markNodeS_v {w : World} {lo hi : Nat} {v : Value} {x : NodeST} (h : OwV false dNodeS w lo hi v x) (k : Nat) (hk : k + cntNodeS x ≤ 1152921504606846976) :
    Calls Try.prog 42 #[v, .int .i64 k] w fun e w' => e = .returned (.int .i64 ((k + cntNodeS x : Nat) : Int)) ∧ OwV false dNodeS w' lo hi v (mkNodeS1 k x) ∧ Mod (fun i => lo ≤ i ∧ i < hi) w w' :=
  h.mark fun F hF => markNodeS_f hF k hk
set_option maxHeartbeats 1000000 in
set_option maxRecDepth 100000 in
theorem heldNodeS_v {w : World} {v : Value} {xs : NodeST} (h : RdV false dNodeS w v xs) (k : Nat) (hx : xs = mkNodeS1 k xs) (hk : k + cntNodeS xs ≤ 1152921504606846976) :
    Calls Try.prog 48 #[v, .int .i64 k] w (Ret (.int .i64 ((k + cntNodeS xs : Nat) : Int)) w) := by
  obtain ⟨A, c, rfl, -, hr⟩ := h.slice
  have hl := hr.2.1
  have HR := Sec.mk hr
  have HX := Sec.mk hx
  have HKK : Sec (cntNodeS xs = preS cntNode xs xs.length) := ⟨rfl⟩
  rw [HKK.out] at hk ⊢
  clear h hr hx
  go_enter Try.func48, Try.ntmps48
  go_wp2
  go_loopw [1, 5] (fun q i wr => ∃ (j : Nat), j ≤ xs.length ∧ i = .int .i64 j ∧ q = .int .i64 ((k + preS cntNode xs j : Nat) : Int) ∧ Sec (New w wr)) (fun _ i _ => xs.length - (intOf i).toNat)
  case atStart => exact ⟨0, Nat.zero_le _, rfl, by rw [preS_zero]; rfl, ⟨Mod.refl _ _⟩⟩
  case round =>
    obtain ⟨j, hj, rfl, rfl, HM⟩ := hrel
    by_cases hlt : j < xs.length
    · have hks := preS_succ cntNode xs hlt
      have hkl := preS_le cntNode xs (j + 1)
      have hkb : preS cntNode xs j + cntNode xs[j] ≤ preS cntNode xs xs.length := by omega
      have HKS := Sec.mk hks
      have hz : xs[j] = mkNode1 (k + preS cntNode xs j) xs[j] := by
        have := markL_at mkNode1 cntNode k xs (i := j) (by rw [markL_len]; exact hlt)
        rw [← this]; congr 1; exact HX.out
      have HZ := Sec.mk hz
      have HCN : Sec (cntNode xs[j] = cntBS xs[j].1 + 1) := ⟨rfl⟩
      have hcn := HCN.out
      clear hks hkl hz
      have HFD : Sec (∀ W, New w W → ∃ ad A0 c0, A = some ad ∧ W.cell? (ad.add (j * 2)) = some (.slice A0 xs[j].1.length c0) ∧ W.cell? ⟨(ad.add (j * 2)).block, (ad.add (j * 2)).off + 1, none⟩ = some (.int .i64 (xs[j].2)) ∧ RdV false dBS W (.slice A0 xs[j].1.length c0) xs[j].1) := ⟨fun W hW => by
        obtain ⟨ad, v0, hA0, hc0, hK0⟩ := HR.out.field fldNode0 (fun q hq => hW.block q hq id) hlt
        obtain ⟨A0, c0, hv0, hl0, hm0, hr0⟩ := hK0
        obtain rfl : v0 = .slice A0 xs[j].1.length c0 := by simpa using hv0
        have hrd0 := RdV.of_row (e := 5) (hr0.mod (w' := W) (fun _ h => Nat.lt_of_lt_of_le h hW.size) (fun _ _ => rfl)) hl0 hm0
        obtain ⟨ad1, v1, hA1, hc1, hK1⟩ := HR.out.field fldNode1 (fun q hq => hW.block q hq id) hlt
        obtain rfl : ad = ad1 := Option.some.inj (hA0.symm.trans hA1)
        obtain rfl : v1 = .int .i64 (xs[j].2) := by have := hK1.1; simpa using this
        exact ⟨ad, A0, c0, hA0, hc0, hc1, hrd0⟩⟩
      generalize hps : preS cntNode xs j = s at *
      generalize hxj : xs[j] = x at *
      obtain ⟨ad, A0, c0, rfl, hc0, -, hrd0⟩ := HFD.out _ HM.out
      have z0 : x.1 = mkBS1 (k + s) x.1 := by have h := congrArg (fun x : NodeT => x.1) HZ.out; (try simp only [mkNode1] at h); exact h
      have HZ0 := Sec.mk z0
      have HRD0 := Sec.mk hrd0
      clear z0 hrd0
      go_wp2_with fail
      refine Calls.mono (heldByteS_i HRD0.out _ (k + s) ?_ HZ0.out ?_) ?_
      · first | rfl | omega
      · (try dsimp only at hcn ⊢); omega
      rintro e w0 ⟨rfl, hm0⟩
      have HM0 := Sec.mk (HM.out.transN hm0)
      clear hm0
      obtain ⟨s0, hs0⟩ : ∃ t, t = (k + s) + cntBS x.1 := ⟨_, rfl⟩
      rw [← hs0]
      have HS0 := Sec.mk hs0
      have hbd0 : s0 ≤ 1152921504606846976 := by have := HS0.out; (try dsimp only at hcn); omega
      clear hs0
      obtain ⟨adq1, A0, c0, hAq1, -, hc1, -⟩ := HFD.out _ HM0.out
      obtain rfl := Option.some.inj hAq1
      have z1 : x.2 = ((s0 : Int)) := by have h := congrArg (fun x : NodeT => x.2) HZ.out; have h0 := HS0.out; subst h0; (try simp only [mkNode1, Int.natCast_add] at h); exact h
      rw [z1] at hc1
      clear z1
      go_wp2
      go_roundw
      case rel => exact ⟨j + 1, by omega, by go_num, by rw [HKS.out, HCN.out]; congr 1; try (have := HS0.out; omega), HM0⟩
      case measure => simp [intOf]; omega
    · obtain rfl : j = xs.length := by omega
      go_wp2
      go_ret
      exact ⟨by simp, HM.out⟩
theorem heldNodeS_i {w : World} {v : Value} {x : NodeST} (h : RdV false dNodeS w v x) (q : Int) (k : Nat) (hq : q = (k : Int)) (hx : x = mkNodeS1 k x) (hk : k + cntNodeS x ≤ 1152921504606846976) :
    Calls Try.prog 48 #[v, .int .i64 q] w (Ret (.int .i64 ((k + cntNodeS x : Nat) : Int)) w) := by subst hq; exact heldNodeS_v h k hx hk
end Go.Proofs.Ytinfibggdbakoaa
