/- The laws' helpers over Span and over slices of it. -/
import Derived.Test.YtciaoedjiggonaaFld
import Derived.Test.YtciaoedjiggonaaVal
import Derived.Test.YtciaoedjiggonaaMarkL
import Derived.Test.YtciaoedjiggonaaReg
import Derived.Test.YtciaoedjiggonaaMarkI
import Derived.Test.YtciaoedjiggonaaProg
import Derived.WalkKit
namespace Go.Proofs.Ytciaoedjiggonaa
open Go.RowKit Mem
set_option linter.unusedVariables false
set_option linter.unusedSimpArgs false
abbrev SpanT := Int × (Int × Bytes)
abbrev dSpan : Ty SpanT := Ty.pair (Ty.int .i64) (Ty.pair (Ty.int .i64) dBS)
theorem rdSpan {w : World} {v : Value} {x : SpanT} (h : RdV true dSpan w v x) : ∃ v2, v = .agg #[.int .i64 x.1, .int .i64 x.2.1, v2] ∧ RdV false dBS w v2 x.2.2 := by
  obtain ⟨cs, rfl, c0, r0, rfl, h0, c1, c2, rfl, h1, h2⟩ := h
  obtain ⟨rfl, g0⟩ := h0
  obtain ⟨rfl, g1⟩ := h1
  obtain ⟨A2, cp2, rfl, g2⟩ := h2
  exact ⟨_, rfl, ⟨_, rfl, A2, cp2, rfl, g2⟩⟩
theorem cellsSpan {w : World} {v : Value} {x : SpanT} (h : RdV true dSpan w v x) : ∃ A2 q2, v = .agg #[.int .i64 x.1, .int .i64 x.2.1, .slice A2 x.2.2.length q2] := by
  obtain ⟨v2, rfl, k2⟩ := rdSpan h
  obtain ⟨A2, q2, rfl, _⟩ := k2.slice
  exact ⟨A2, q2, rfl⟩
theorem fldSpan0 : Fld dSpan 0 (Ty.int .i64) (fun x => x.1) (fun x y => (y, x.2)) := (Fld.fst (Fld.one rfl))
theorem fldSpan1 : Fld dSpan 1 (Ty.int .i64) (fun x => x.2.1) (fun x y => (x.1, y, x.2.2)) := (Fld.snd (Fld.fst (Fld.one rfl)) rfl)
theorem fldSpan2 : Fld dSpan 2 dBS (fun x => x.2.2) (fun x y => (x.1, x.2.1, y)) := (Fld.snd (Fld.snd (Fld.one rfl) rfl) rfl)
theorem eltSpan : Elt Try.prog 32 dSpan.sz (.agg #[.int .i64 0, .int .i64 0, .slice none 0 0]) := Elt.of (b := 40) (by kernel_rfl) rfl (by decide) (by decide)
theorem mSpan {w : World} {x : SpanT} {F2 : List Nat} {v2 : Value} (g0 : IntKind.i64.wrap x.1 = x.1) (g1 : IntKind.i64.wrap x.2.1 = x.2.1) (o2 : Own Ty.byte 5 w F2 v2 x.2.2) : dSpan.M w (F2) x [.int .i64 x.1, .int .i64 x.2.1, v2] :=
  ⟨_, _, [], _, rfl, rfl, (by simpa using o2.nd), ⟨rfl, rfl, g0⟩, ⟨_, _, [], _, rfl, rfl, (by simpa using o2.nd), ⟨rfl, rfl, g1⟩, ⟨_, rfl, o2⟩⟩⟩
theorem ofSpan {w : World} {lo hi : Nat} {x : SpanT} {v2 : Value} (g0 : IntKind.i64.wrap x.1 = x.1) (g1 : IntKind.i64.wrap x.2.1 = x.2.1) (h : OwI Ty.byte 5 w lo hi v2 x.2.2) : OwV true dSpan w lo hi (.agg #[.int .i64 x.1, .int .i64 x.2.1, v2]) x := by
  obtain ⟨F, ho, hF⟩ := h
  exact ⟨_, _, rfl, mSpan g0 g1 ho, hF⟩
set_option maxHeartbeats 1000000 in
set_option maxRecDepth 100000 in
theorem eqSpan_v {w : World} {v v' : Value} {x x' : SpanT} (h : RdV true dSpan w v x) (h' : RdV true dSpan w v' x') : Calls Try.prog 90 #[v, v'] w (Ret (.bool (decide (x = x'))) w) := by
  obtain ⟨v2, rfl, k2⟩ := rdSpan h
  obtain ⟨u2, rfl, k2'⟩ := rdSpan h'
  obtain ⟨a0, a1, a2⟩ := x
  obtain ⟨b0, b1, b2⟩ := x'
  simp only at k2 k2' ⊢
  have HB0 := Sec.mk ((Blk.new w 32 [.int .i64 a0, .int .i64 a1, v2]).alloc (.cells #[.int .i64 b0, .int .i64 b1, u2] 32))
  have HB1 := Sec.mk (Blk.new (w.alloc (.cells #[.int .i64 a0, .int .i64 a1, v2] 32)) 32 [.int .i64 b0, .int .i64 b1, u2])
  rw [show (w.alloc (.cells #[.int .i64 a0, .int .i64 a1, v2] 32)).heap.size = w.heap.size + 1 by simp] at HB1
  have HM0 := Sec.mk (((Mod.refl (fun _ => False) w).alloc (.cells #[.int .i64 a0, .int .i64 a1, v2] 32)).alloc (.cells #[.int .i64 b0, .int .i64 b1, u2] 32))
  have H2 := Sec.mk (k2.step HM0.out)
  have H2' := Sec.mk (k2'.step HM0.out)
  clear h h' k2 k2'
  by_cases e0 : a0 = b0
  rotate_left
  · have HE : Sec (decide ((a0, a1, a2) = (b0, b1, b2)) = false) := ⟨by simp [e0]⟩
    have hb0 : (a0 != b0) = true := by simpa using e0
    clear e0
    go_enter Try.func90, Try.ntmps90
    go_wp2
    go_ret
    exact ⟨by rw [HE.out]; rfl, HM0.out⟩
  have hb0 : (a0 != b0) = false := by simp [e0]
  have S0 := Sec.mk e0
  clear e0
  by_cases e1 : a1 = b1
  rotate_left
  · have HE : Sec (decide ((a0, a1, a2) = (b0, b1, b2)) = false) := ⟨by simp [e1]⟩
    have hb1 : (a1 != b1) = true := by simpa using e1
    clear e1
    go_enter Try.func90, Try.ntmps90
    go_wp2
    go_ret
    exact ⟨by rw [HE.out]; rfl, HM0.out⟩
  have hb1 : (a1 != b1) = false := by simp [e1]
  have S1 := Sec.mk e1
  clear e1
  by_cases e2 : a2 = b2
  rotate_left
  · have HE : Sec (decide ((a0, a1, a2) = (b0, b1, b2)) = false) := ⟨by simp [e2]⟩
    have E2 : Sec (decide (a2 = b2) = false) := ⟨by simp [e2]⟩
    clear e2
    go_enter Try.func90, Try.ntmps90
    go_wp2_with fail
    refine (eqByteS_v (H2.out) (H2'.out)).mono ?_
    rw [E2.out]
    rintro e w2 ⟨rfl, hm2⟩
    have m2 := Sec.mk hm2
    clear hm2
    go_wp2
    go_ret
    exact ⟨by rw [HE.out]; rfl, HM0.out.transN m2.out⟩
  have E2 : Sec (decide (a2 = b2) = true) := ⟨by simp [e2]⟩
  have S2 := Sec.mk e2
  clear e2
  have HE : Sec (decide ((a0, a1, a2) = (b0, b1, b2)) = true) := ⟨by simp [S0.out, S1.out, S2.out]⟩
  go_enter Try.func90, Try.ntmps90
  go_wp2_with fail
  refine (eqByteS_v (H2.out) (H2'.out)).mono ?_
  rw [E2.out]
  rintro e w2 ⟨rfl, hm2⟩
  have m2 := Sec.mk hm2
  clear hm2
  go_wp2
  go_ret
  exact ⟨by rw [HE.out]; rfl, HM0.out.transN m2.out⟩
def mkSpan1 (k : Nat) (x : SpanT) : SpanT := (((k : Nat) : Int), ((k : Nat) : Int) + 1, mkBS1 (k + 2) x.2.2)
def cntSpan (x : SpanT) : Nat := 1 + 1 + cntBS x.2.2
theorem cntSpan_mk (k : Nat) (x : SpanT) : cntSpan (mkSpan1 k x) = cntSpan x := by simp only [cntSpan, mkSpan1, cntBS_mk]
theorem mkSpan1_idem (k k' : Nat) (x : SpanT) : mkSpan1 k' (mkSpan1 k x) = mkSpan1 k' x := by simp only [mkSpan1, cntBS_mk, mkBS1_idem]
abbrev SpanST := List SpanT
abbrev dSpanS : Ty SpanST := Ty.slice 32 dSpan
def cntSpanS (xs : SpanST) : Nat := preS cntSpan xs xs.length
def mkSpanS1 (k : Nat) (xs : SpanST) : SpanST := markL mkSpan1 cntSpan k xs
theorem cntSpanS_mk (k : Nat) (xs : SpanST) : cntSpanS (mkSpanS1 k xs) = cntSpanS xs := by unfold cntSpanS mkSpanS1; rw [preS_mark _ _ cntSpan_mk, markL_len]
theorem mkSpanS1_idem (k k' : Nat) (xs : SpanST) : mkSpanS1 k' (mkSpanS1 k xs) = mkSpanS1 k' xs := markL_idem _ _ cntSpan_mk mkSpan1_idem k k' xs
theorem idxSpanS (ad : Addr) (m c k : Nat) (h : k < m) (w : World) : (Instr.indexAt 27 (.slice (some ad) m c) (.int .i64 (k : Int))).run Try.prog w = .ok (.pointer (some (ad.add (k * 3)))) w := by
  have h0 : (0 : Int) ≤ (k : Int) := by omega
  have h1 : (k : Int) < (m : Int) := by omega
  go_simp
set_option maxHeartbeats 1000000 in
set_option maxRecDepth 100000 in
theorem eqSpanS_v {w : World} {v v' : Value} {xs ys : SpanST} (h : RdV false dSpanS w v xs) (h' : RdV false dSpanS w v' ys) : Calls Try.prog 61 #[v, v'] w (Ret (.bool (decide (xs = ys))) w) := by
  obtain ⟨A, c, rfl, -, hr⟩ := h.slice
  obtain ⟨A', c', rfl, -, hr'⟩ := h'.slice
  have hl := hr.2.1
  have HR := Sec.mk hr
  have HR' := Sec.mk hr'
  clear h h' hr hr'
  by_cases hne : xs.length = ys.length
  rotate_left
  · have hnb : ((xs.length : Int) != (ys.length : Int)) = true := by simp; omega
    have HE : Sec (decide (xs = ys) = false) := ⟨by simp [show xs ≠ ys from fun e => hne (by rw [e])]⟩
    clear hne
    go_enter Try.func61, Try.ntmps61
    go_wp2
    go_ret
    exact ⟨by rw [HE.out]; rfl, Mod.refl _ _⟩
  have hnb : ((xs.length : Int) != (ys.length : Int)) = false := by simp [hne]
  have HNE := Sec.mk hne
  clear hne
  go_enter Try.func61, Try.ntmps61
  go_wp2
  go_loopw [5] (fun i wr => ∃ k : Nat, k ≤ xs.length ∧ i = .int .i64 k ∧ Sec (xs.take k = ys.take k) ∧ Sec (New w wr)) (fun i _ => xs.length - (intOf i).toNat)
  case atStart => exact ⟨0, Nat.zero_le _, rfl, Sec.mk (by simp), Sec.mk (Mod.refl _ _)⟩
  case round =>
    obtain ⟨k, hk, rfl, HT, HM⟩ := hrel
    by_cases hlt : k < xs.length
    · have hlt2 : k < ys.length := by rw [← HNE.out]; exact hlt
      obtain ⟨ad, vx, rfl, hx⟩ := HR.out.elem (P := Try.prog) hlt 32 Try.underlying32 rfl (by kernel_rfl)
      obtain ⟨ad', vy, rfl, hy⟩ := HR'.out.elem (P := Try.prog) hlt2 32 Try.underlying32 rfl (by kernel_rfl)
      have HX : Sec (∀ W, New wr W → (Instr.loadAt 32 (.pointer (some (ad.add (k * 3))))).run Try.prog W = .ok vx W ∧ RdV true dSpan W vx xs[k]) := ⟨fun W hW => hx W (fun i hi => (hW.block i (Nat.lt_of_lt_of_le hi HM.out.size) id).trans (HM.out.block i hi id)) (fun i hi => Nat.lt_of_lt_of_le hi (Nat.le_trans HM.out.size hW.size))⟩
      have HY : Sec (∀ W, New wr W → (Instr.loadAt 32 (.pointer (some (ad'.add (k * 3))))).run Try.prog W = .ok vy W ∧ RdV true dSpan W vy (ys[k]'hlt2)) := ⟨fun W hW => hy W (fun i hi => (hW.block i (Nat.lt_of_lt_of_le hi HM.out.size) id).trans (HM.out.block i hi id)) (fun i hi => Nat.lt_of_lt_of_le hi (Nat.le_trans HM.out.size hW.size))⟩
      have HXY : Sec (xs[k] = ys[k]'hlt2 → xs.take (k + 1) = ys.take (k + 1)) := ⟨fun h => by rw [List.take_succ_eq_append_getElem hlt, List.take_succ_eq_append_getElem hlt2, HT.out, h]⟩
      have HNQ : Sec (xs[k] ≠ ys[k]'hlt2 → decide (xs = ys) = false) := ⟨fun h => by simp only [decide_eq_false_iff_not]; intro e; exact h (by subst e; rfl)⟩
      clear hx hy HT
      generalize xs[k] = x at *
      generalize ys[k]'hlt2 = y at *
      have hki : (k : Int) < (xs.length : Int) := by omega
      have hkj : (k : Int) < (ys.length : Int) := by omega
      go_wp2
      refine reg_start [] (fun W => Sec (New wr W)) (by kernel_rfl) ?_
      have HSS : Sec (New wr wr.drew) := ⟨(Mod.refl _ _).drew⟩
      refine reg_take (.slice (some ad) xs.length c) (i := 0) (n := 17) HSS rfl (by kernel_rfl) (by kernel_rfl) (by kernel_rfl) (by kernel_rfl) (fun _ _ _ h => h) (fun W hW => exec_move rfl rfl) ?_
      simp only [Act.put, List.setIfInBounds_toArray, List.set_cons_zero, List.set_cons_succ]
      refine reg_take (.int .i64 (k : Int)) (i := 1) (n := 18) HSS rfl (by kernel_rfl) (by kernel_rfl) (by kernel_rfl) (by kernel_rfl) (fun _ _ _ h => h) (fun W hW => exec_move rfl rfl) ?_
      simp only [Act.put, List.setIfInBounds_toArray, List.set_cons_zero, List.set_cons_succ]
      refine reg_take (.pointer (some (ad.add (k * 3)))) (i := 2) (n := 19) HSS rfl (by kernel_rfl) (by kernel_rfl) (by kernel_rfl) (by kernel_rfl) (fun _ _ _ h => h) (fun W hW => exec_indexAddr rfl rfl rfl (idxSpanS _ _ _ _ hlt _)) ?_
      simp only [Act.put, List.setIfInBounds_toArray, List.set_cons_zero, List.set_cons_succ]
      refine reg_take (vx) (i := 3) (n := 20) HSS rfl (by kernel_rfl) (by kernel_rfl) (by kernel_rfl) (by kernel_rfl) (fun _ _ _ h => h) (fun W hW => exec_load rfl rfl (HX.out W hW.out).1) ?_
      simp only [Act.put, List.setIfInBounds_toArray, List.set_cons_zero, List.set_cons_succ]
      refine reg_take (.slice (some ad') ys.length c') (i := 4) (n := 21) HSS rfl (by kernel_rfl) (by kernel_rfl) (by kernel_rfl) (by kernel_rfl) (fun _ _ _ h => h) (fun W hW => exec_move rfl rfl) ?_
      simp only [Act.put, List.setIfInBounds_toArray, List.set_cons_zero, List.set_cons_succ]
      refine reg_take (.int .i64 (k : Int)) (i := 5) (n := 22) HSS rfl (by kernel_rfl) (by kernel_rfl) (by kernel_rfl) (by kernel_rfl) (fun _ _ _ h => h) (fun W hW => exec_move rfl rfl) ?_
      simp only [Act.put, List.setIfInBounds_toArray, List.set_cons_zero, List.set_cons_succ]
      refine reg_take (.pointer (some (ad'.add (k * 3)))) (i := 6) (n := 23) HSS rfl (by kernel_rfl) (by kernel_rfl) (by kernel_rfl) (by kernel_rfl) (fun _ _ _ h => h) (fun W hW => exec_indexAddr rfl rfl rfl (idxSpanS _ _ _ _ hlt2 _)) ?_
      simp only [Act.put, List.setIfInBounds_toArray, List.set_cons_zero, List.set_cons_succ]
      refine reg_take (vy) (i := 7) (n := 24) HSS rfl (by kernel_rfl) (by kernel_rfl) (by kernel_rfl) (by kernel_rfl) (fun _ _ _ h => h) (fun W hW => exec_load rfl rfl (HY.out W hW.out).1) ?_
      simp only [Act.put, List.setIfInBounds_toArray, List.set_cons_zero, List.set_cons_succ]
      refine reg_step (i := 8) rfl (by kernel_rfl) (fun K hK => ?_)
      refine wp_call (n := 25) (vals := [vx, vy]) rfl rfl rfl (by kernel_rfl) (eqSpan_v (HX.out _ HSS.out).2 (HY.out _ HSS.out).2) ?_
      rintro e w1 ⟨rfl, hm1⟩
      have HS1 : Sec (New wr w1) := ⟨HSS.out.transN hm1⟩
      refine ⟨_, rfl, hK.out _ _ (fun _ => HS1) ?_⟩
      clear hK K hm1
      simp only [Act.put, List.setIfInBounds_toArray, List.set_cons_zero, List.set_cons_succ]
      refine reg_step (i := 9) rfl (by kernel_rfl) (fun K hK => ?_)
      refine wp_val (n := 26) (v := .bool (!decide (x = y))) (exec_un rfl rfl (Mem.not_r _ _)) rfl (hK.out _ _ (fun _ => HS1) ?_)
      clear hK K
      simp only [Act.put, List.setIfInBounds_toArray, List.set_cons_zero, List.set_cons_succ]
      refine reg_done (by kernel_rfl) ?_ _
      have HM' := Sec.mk (HM.out.transN HS1.out)
      by_cases hxy : x = y
      · have HT' := Sec.mk (HXY.out hxy)
        have hd : decide (x = y) = true := by simp [hxy]
        clear hxy HXY HNQ HX HY
        rw [hd]
        go_wp2
        go_roundw
        case rel => exact ⟨k + 1, by omega, by go_num, HT', HM'⟩
        case measure => simp [intOf]; omega
      · have HE := Sec.mk (HNQ.out hxy)
        have hd : decide (x = y) = false := by simp [hxy]
        clear hxy HXY HNQ HX HY
        rw [hd]
        go_wp2
        go_ret
        exact ⟨by rw [HE.out]; rfl, HM'.out⟩
    · have HE : Sec (decide (xs = ys) = true) := ⟨by
        have h1 := HT.out
        rw [List.take_of_length_le (by omega), List.take_of_length_le (by rw [← HNE.out]; omega)] at h1
        simp [h1]⟩
      go_wp2
      go_ret
      exact ⟨by rw [HE.out]; rfl, HM.out⟩
set_option maxHeartbeats 1000000 in
set_option maxRecDepth 100000 in
theorem markSpanS_calls {A : Option Addr} {c : Nat} {xs : SpanST} {F : List Nat} {w : World} (h : Own dSpan 32 w F (.slice A xs.length c) xs) (k : Nat) (hk : k + cntSpanS xs ≤ 1152921504606846976) :
    Calls Try.prog 62 #[.slice A xs.length c, .int .i64 k] w fun e w' => e = .returned (.int .i64 ((k + cntSpanS xs : Nat) : Int)) ∧ ∃ F', Own dSpan 32 w' F' (.slice A xs.length c) (mkSpanS1 k xs) ∧ (∀ i, i ∈ F' → i ∈ F) ∧ Mod (· ∈ F) w w' := by
  have hlx := h.len_le
  have HO := Sec.mk h
  have HKK : Sec (cntSpanS xs = preS cntSpan xs xs.length) := ⟨rfl⟩
  rw [HKK.out] at hk ⊢
  clear h
  go_enter Try.func62, Try.ntmps62
  go_wp2
  go_loopw [1, 5] (fun q i wr => ∃ (j : Nat) (ys : SpanST) (G : List Nat), j ≤ xs.length ∧ i = .int .i64 j ∧ q = .int .i64 ((k + preS cntSpan xs j : Nat) : Int) ∧ Sec (ys = (mkSpanS1 k xs).take j ++ xs.drop j) ∧ Sec (Own dSpan 32 wr G (.slice A xs.length c) ys) ∧ Sec (∀ k, k ∈ G → k ∈ F) ∧ Sec (Mod (· ∈ F) w wr)) (fun _ i _ => xs.length - (intOf i).toNat)
  case atStart => exact ⟨0, xs, F, Nat.zero_le _, rfl, by rw [preS_zero]; rfl, ⟨by simp⟩, HO, ⟨fun _ h => h⟩, ⟨Mod.refl _ _⟩⟩
  case round =>
    obtain ⟨j, ys, G, hj, rfl, rfl, HY, HO, HF, HM⟩ := hrel
    by_cases hlt : j < xs.length
    · have hyl : ys.length = xs.length := by rw [HY.out]; exact take_drop_len (markL_len _ _ k xs) j
      have hjy : j < ys.length := by omega
      have hyj : ys[j] = xs[j] := by simp only [HY.out]; exact take_drop_at (markL_len _ _ k xs) hlt _
      have hks := preS_succ cntSpan xs hlt
      have hkl := preS_le cntSpan xs (j + 1)
      have HZ := Sec.mk (markL_at mkSpan1 cntSpan k xs (i := j) (by rw [markL_len]; exact hlt))
      have HTD : Sec (ys.set j (mkSpan1 (k + preS cntSpan xs j) xs[j]) = (mkSpanS1 k xs).take (j + 1) ++ xs.drop (j + 1)) := ⟨by rw [← HZ.out, HY.out]; exact take_drop_set (markL_len _ _ k xs) hlt⟩
      have HX : Sec (Own dSpan 32 wr G (.slice A xs.length c) (ys.set j xs[j])) := ⟨by rw [← hyj, List.set_getElem_self]; exact HO.out⟩
      obtain ⟨g, rfl, hgG, -, -⟩ := HO.out.cellsAt hjy
      have HgF := Sec.mk (HF.out g hgG)
      have HKS := Sec.mk hks
      have hkb : preS cntSpan xs j + cntSpan xs[j] ≤ preS cntSpan xs xs.length := by omega
      clear hks hkl hyj HZ HO hgG
      have HCN : Sec (cntSpan xs[j] = 1 + 1 + cntBS xs[j].2.2) := ⟨rfl⟩
      have hcn := HCN.out
      generalize hps : preS cntSpan xs j = s at *
      generalize hxj : xs[j] = x at *
      have HJ := Sec.mk hjy
      obtain ⟨_, hA0, -, hcell0, hfz0⟩ := HX.out.cellsAt (j := j) (by rw [List.length_set]; exact hjy)
      injection hA0 with hA0
      injection hA0 with hA0
      subst hA0
      simp only [show dSpan.sz = 3 from rfl] at hcell0
      obtain ⟨p0, hc0⟩ := hcell0 0 (by decide)
      have hf0 := hfz0 (j * 3 + 0)
      simp only [Nat.add_zero] at hc0 hf0
      obtain ⟨p1, hc1⟩ := hcell0 1 (by decide)
      have hf1 := hfz0 (j * 3 + 1)
      clear hcell0 hfz0
      obtain ⟨hgg, hst⟩ := Own.fstoreAt fldSpan0 (fun _ _ _ _ h => h.1) HJ.out HX.out
      obtain ⟨G0, ho, hG0⟩ := hst (.int .i64 ((k : Int) + (s : Int))) ((k : Int) + (s : Int)) (fun _ => ⟨rfl, rfl, by rw [IntKind.wrap_i64]; omega⟩)
      simp only [show dSpan.sz = 3 from rfl, Nat.add_zero] at ho
      have HX0 := Sec.mk ho
      have HF0 := Sec.mk (fun i hi => HF.out i (hG0 i hi))
      have HM0 := Sec.mk (HM.out.setCell (p := ⟨g, j * 3, none⟩) (fun _ => HgF.out) (.int .i64 ((k : Int) + (s : Int))))
      clear hgg hst ho hG0
      obtain ⟨hgg, hst⟩ := Own.fstoreAt fldSpan1 (fun _ _ _ _ h => h.1) HJ.out HX0.out
      obtain ⟨G1, ho, hG1⟩ := hst (.int .i64 ((k : Int) + (s : Int) + 1)) ((k : Int) + (s : Int) + 1) (fun _ => ⟨rfl, rfl, by rw [IntKind.wrap_i64]; omega⟩)
      simp only [show dSpan.sz = 3 from rfl] at ho
      have HX1 := Sec.mk ho
      have HF1 := Sec.mk (fun i hi => HF0.out i (hG1 i hi))
      have HM1 := Sec.mk (HM0.out.setCell (p := ⟨g, j * 3 + 1, none⟩) (fun _ => HgF.out) (.int .i64 ((k : Int) + (s : Int) + 1)))
      clear hgg hst ho hG1
      obtain ⟨v2, G2, _, hc2, ho2, hG2, hst2⟩ := Own.fsubAt fldSpan2 HJ.out HX1.out
      simp only [show dSpan.sz = 3 from rfl] at hc2
      rw [World.cell?_setCell_other _ _ _ _ (by simp)] at hc2
      rw [World.cell?_setCell_other _ _ _ _ (by simp)] at hc2
      have HV2 := Sec.mk ho2
      have HG2 := Sec.mk hG2
      have HT2 := Sec.mk hst2
      clear ho2 hG2 hst2
      go_wp2_with fail
      refine Calls.mono (markByteS_i HV2.out _ ((k + s) + 2) ?_ ?_) ?_
      · first | rfl | omega
      · (try dsimp only at hcn ⊢); omega
      rintro e w2 ⟨rfl, ⟨F2, ho2, hF2⟩, hm2⟩
      obtain ⟨G2', ho, hG2'⟩ := HT2.out w2 _ F2 hm2 ho2 hF2
      have HX2 := Sec.mk ho
      have HF2 := Sec.mk (fun i hi => HF1.out i (hG2' i hi))
      have HM2 : Sec (Mod (· ∈ F) w w2) := ⟨HM1.out.trans hm2 fun i hi _ => HF1.out i (HG2.out i hi)⟩
      clear ho2 hF2 hm2 ho hG2' HT2 HV2 HG2
      obtain ⟨s2, hs2⟩ : ∃ t, t = ((k + s) + 2) + cntBS x.2.2 := ⟨_, rfl⟩
      try dsimp only at HX2
      rw [← hs2]
      have HS2 := Sec.mk hs2
      have hbd2 : s2 ≤ 1152921504606846976 := by have := HS2.out; (try dsimp only at hcn); omega
      clear hs2
      have HEQ : Sec (mkSpan1 (k + s) x = (((k : Int) + (s : Int)), ((k : Int) + (s : Int) + 1), mkBS1 ((k + s) + 2) x.2.2)) := ⟨by have h2 := HS2.out; subst h2; simp only [mkSpan1, Int.natCast_add]⟩
      rw [HEQ.out] at HTD
      go_wp2
      go_roundw
      case rel => exact ⟨j + 1, _, G2', by omega, by go_num, by rw [HKS.out, HCN.out]; congr 1; try (have := HS2.out; omega), HTD, HX2, HF2, HM2⟩
      case measure => simp [intOf]; omega
    · obtain rfl : j = xs.length := by omega
      go_wp2
      go_ret
      have he : ys = mkSpanS1 k xs := by
        rw [HY.out, List.take_of_length_le (by unfold mkSpanS1; rw [markL_len]; exact Nat.le_refl _)]; simp
      subst he
      exact ⟨by simp, G, HO.out, HF.out, HM.out⟩
theorem markSpanS_f {w : World} {F : List Nat} {v : Value} {x : SpanST} (h : OwF false dSpanS w F v x) (k : Nat) (hk : k + cntSpanS x ≤ 1152921504606846976) :
    Calls Try.prog 62 #[v, .int .i64 k] w (Marks false dSpanS w F v (k + cntSpanS x) (mkSpanS1 k x)) := by
  obtain ⟨A, c, rfl, ho⟩ := h.slice
  refine (markSpanS_calls ho k hk).mono ?_
  rintro e w' ⟨rfl, F', ho', hF', hm⟩
  refine ⟨rfl, ⟨F', ?_, hF'⟩, hm⟩
  have hl : (mkSpanS1 k x).length = x.length := markL_len _ _ k x
  rw [← hl] at ho'
  rw [← hl]
  exact OwF.of_slice ho'
theorem markSpanS_i {w : World} {F : List Nat} {v : Value} {x : SpanST} (h : OwF false dSpanS w F v x) (q : Int) (k : Nat) (hq : q = (k : Int)) (hk : k + cntSpanS x ≤ 1152921504606846976) :
    Calls Try.prog 62 #[v, .int .i64 q] w (Marks false dSpanS w F v (k + cntSpanS x) (mkSpanS1 k x)) := by subst hq; exact markSpanS_f h k hk
theorem markSpanS_v {w : World} {lo hi : Nat} {v : Value} {x : SpanST} (h : OwV false dSpanS w lo hi v x) (k : Nat) (hk : k + cntSpanS x ≤ 1152921504606846976) :
    Calls Try.prog 62 #[v, .int .i64 k] w fun e w' => e = .returned (.int .i64 ((k + cntSpanS x : Nat) : Int)) ∧ OwV false dSpanS w' lo hi v (mkSpanS1 k x) ∧ Mod (fun i => lo ≤ i ∧ i < hi) w w' :=
  h.mark fun F hF => markSpanS_f hF k hk
set_option maxHeartbeats 1000000 in
set_option maxRecDepth 100000 in
theorem heldSpanS_v {w : World} {v : Value} {xs : SpanST} (h : RdV false dSpanS w v xs) (k : Nat) (hx : xs = mkSpanS1 k xs) (hk : k + cntSpanS xs ≤ 1152921504606846976) :
    Calls Try.prog 63 #[v, .int .i64 k] w (Ret (.int .i64 ((k + cntSpanS xs : Nat) : Int)) w) := by
  obtain ⟨A, c, rfl, -, hr⟩ := h.slice
  have hl := hr.2.1
  have HR := Sec.mk hr
  have HX := Sec.mk hx
  have HKK : Sec (cntSpanS xs = preS cntSpan xs xs.length) := ⟨rfl⟩
  rw [HKK.out] at hk ⊢
  clear h hr hx
  go_enter Try.func63, Try.ntmps63
  go_wp2
  go_loopw [1, 5] (fun q i wr => ∃ (j : Nat), j ≤ xs.length ∧ i = .int .i64 j ∧ q = .int .i64 ((k + preS cntSpan xs j : Nat) : Int) ∧ Sec (New w wr)) (fun _ i _ => xs.length - (intOf i).toNat)
  case atStart => exact ⟨0, Nat.zero_le _, rfl, by rw [preS_zero]; rfl, ⟨Mod.refl _ _⟩⟩
  case round =>
    obtain ⟨j, hj, rfl, rfl, HM⟩ := hrel
    by_cases hlt : j < xs.length
    · have hks := preS_succ cntSpan xs hlt
      have hkl := preS_le cntSpan xs (j + 1)
      have hkb : preS cntSpan xs j + cntSpan xs[j] ≤ preS cntSpan xs xs.length := by omega
      have HKS := Sec.mk hks
      have hz : xs[j] = mkSpan1 (k + preS cntSpan xs j) xs[j] := by
        have := markL_at mkSpan1 cntSpan k xs (i := j) (by rw [markL_len]; exact hlt)
        rw [← this]; congr 1; exact HX.out
      have HZ := Sec.mk hz
      have HCN : Sec (cntSpan xs[j] = 1 + 1 + cntBS xs[j].2.2) := ⟨rfl⟩
      have hcn := HCN.out
      clear hks hkl hz
      have HFD : Sec (∀ W, New w W → ∃ ad A2 c2, A = some ad ∧ W.cell? (ad.add (j * 3)) = some (.int .i64 (xs[j].1)) ∧ W.cell? ⟨(ad.add (j * 3)).block, (ad.add (j * 3)).off + 1, none⟩ = some (.int .i64 (xs[j].2.1)) ∧ W.cell? ⟨(ad.add (j * 3)).block, (ad.add (j * 3)).off + 2, none⟩ = some (.slice A2 xs[j].2.2.length c2) ∧ RdV false dBS W (.slice A2 xs[j].2.2.length c2) xs[j].2.2) := ⟨fun W hW => by
        obtain ⟨ad, v0, hA0, hc0, hK0⟩ := HR.out.field fldSpan0 (fun q hq => hW.block q hq id) hlt
        obtain rfl : v0 = .int .i64 (xs[j].1) := by have := hK0.1; simpa using this
        obtain ⟨ad1, v1, hA1, hc1, hK1⟩ := HR.out.field fldSpan1 (fun q hq => hW.block q hq id) hlt
        obtain rfl : ad = ad1 := Option.some.inj (hA0.symm.trans hA1)
        obtain rfl : v1 = .int .i64 (xs[j].2.1) := by have := hK1.1; simpa using this
        obtain ⟨ad2, v2, hA2, hc2, hK2⟩ := HR.out.field fldSpan2 (fun q hq => hW.block q hq id) hlt
        obtain rfl : ad = ad2 := Option.some.inj (hA0.symm.trans hA2)
        obtain ⟨A2, c2, hv2, hl2, hm2, hr2⟩ := hK2
        obtain rfl : v2 = .slice A2 xs[j].2.2.length c2 := by simpa using hv2
        have hrd2 := RdV.of_row (e := 5) (hr2.mod (w' := W) (fun _ h => Nat.lt_of_lt_of_le h hW.size) (fun _ _ => rfl)) hl2 hm2
        exact ⟨ad, A2, c2, hA0, hc0, hc1, hc2, hrd2⟩⟩
      generalize hps : preS cntSpan xs j = s at *
      generalize hxj : xs[j] = x at *
      obtain ⟨ad, A2, c2, rfl, hc0, hc1, hc2, hrd2⟩ := HFD.out _ HM.out
      have z0 : x.1 = ((k : Int) + (s : Int)) := by have h := congrArg (fun x : SpanT => x.1) HZ.out; (try simp only [mkSpan1, Int.natCast_add] at h); exact h
      rw [z0] at hc0
      clear z0
      have z1 : x.2.1 = ((k : Int) + (s : Int) + 1) := by have h := congrArg (fun x : SpanT => x.2.1) HZ.out; (try simp only [mkSpan1, Int.natCast_add] at h); exact h
      rw [z1] at hc1
      clear z1
      have z2 : x.2.2 = mkBS1 ((k + s) + 2) x.2.2 := by have h := congrArg (fun x : SpanT => x.2.2) HZ.out; (try simp only [mkSpan1] at h); exact h
      have HZ2 := Sec.mk z2
      have HRD2 := Sec.mk hrd2
      clear z2 hrd2
      go_wp2_with fail
      refine Calls.mono (heldByteS_i HRD2.out _ ((k + s) + 2) ?_ HZ2.out ?_) ?_
      · first | rfl | omega
      · (try dsimp only at hcn ⊢); omega
      rintro e w2 ⟨rfl, hm2⟩
      have HM2 := Sec.mk (HM.out.transN hm2)
      clear hm2
      obtain ⟨s2, hs2⟩ : ∃ t, t = ((k + s) + 2) + cntBS x.2.2 := ⟨_, rfl⟩
      rw [← hs2]
      have HS2 := Sec.mk hs2
      have hbd2 : s2 ≤ 1152921504606846976 := by have := HS2.out; (try dsimp only at hcn); omega
      clear hs2
      go_wp2
      go_roundw
      case rel => exact ⟨j + 1, by omega, by go_num, by rw [HKS.out, HCN.out]; congr 1; try (have := HS2.out; omega), HM2⟩
      case measure => simp [intOf]; omega
    · obtain rfl : j = xs.length := by omega
      go_wp2
      go_ret
      exact ⟨by simp, HM.out⟩
theorem heldSpanS_i {w : World} {v : Value} {x : SpanST} (h : RdV false dSpanS w v x) (q : Int) (k : Nat) (hq : q = (k : Int)) (hx : x = mkSpanS1 k x) (hk : k + cntSpanS x ≤ 1152921504606846976) :
    Calls Try.prog 63 #[v, .int .i64 q] w (Ret (.int .i64 ((k + cntSpanS x : Nat) : Int)) w) := by subst hq; exact heldSpanS_v h k hx hk
end Go.Proofs.Ytciaoedjiggonaa
