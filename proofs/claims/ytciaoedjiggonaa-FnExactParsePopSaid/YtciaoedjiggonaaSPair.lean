/- The laws' helpers over Pair and over slices of it. -/
import Derived.Test.YtciaoedjiggonaaFld
import Derived.Test.YtciaoedjiggonaaVal
import Derived.Test.YtciaoedjiggonaaMarkL
import Derived.Test.YtciaoedjiggonaaReg
import Derived.Test.YtciaoedjiggonaaProg
import Derived.WalkKit
namespace Go.Proofs.Ytciaoedjiggonaa
open Go.RowKit Mem
set_option linter.unusedVariables false
set_option linter.unusedSimpArgs false
abbrev PairT := Int × Int
abbrev dPair : Ty PairT := Ty.pair (Ty.int .u32) (Ty.int .u32)
theorem rdPair {w : World} {v : Value} {x : PairT} (h : RdV true dPair w v x) : v = .agg #[.int .u32 x.1, .int .u32 x.2] := by
  obtain ⟨cs, rfl, c0, c1, rfl, h0, h1⟩ := h
  obtain ⟨rfl, g0⟩ := h0
  obtain ⟨rfl, g1⟩ := h1
  rfl
theorem cellsPair {w : World} {v : Value} {x : PairT} (h : RdV true dPair w v x) : v = .agg #[.int .u32 x.1, .int .u32 x.2] := by
  exact rdPair h
theorem fldPair0 : Fld dPair 0 (Ty.int .u32) (fun x => x.1) (fun x y => (y, x.2)) := (Fld.fst (Fld.one rfl))
theorem fldPair1 : Fld dPair 1 (Ty.int .u32) (fun x => x.2) (fun x y => (x.1, y)) := (Fld.snd (Fld.one rfl) rfl)
theorem eltPair : Elt Try.prog 106 dPair.sz (.agg #[.int .u32 0, .int .u32 0]) := Elt.of (b := 8) (by kernel_rfl) rfl (by decide) (by decide)
theorem flatPair : Flat dPair := by
  rintro w B x cs ⟨c0, c1, rfl, h0, h1⟩
  exact ⟨_, _, [], [], rfl, rfl, List.nodup_nil, ⟨rfl, h0⟩, ⟨rfl, h1⟩⟩
theorem rowPair (w : World) {x : PairT} (g0 : IntKind.u32.wrap x.1 = x.1) (g1 : IntKind.u32.wrap x.2 = x.2) : Row dPair (w.alloc (.cells #[.int .u32 x.1, .int .u32 x.2] 106)) (· = w.heap.size) (some ⟨w.heap.size, 0, none⟩) 1 [x] := by
  refine ⟨rfl, by omega, fun _ => ⟨_, rfl, rfl, fun j y hj => ?_⟩⟩
  have hj0 : j = 0 := by have := (List.getElem?_eq_some_iff.1 hj).1; simp at this; exact this
  subst hj0
  obtain rfl : y = x := by simpa using hj.symm
  refine ⟨[.int .u32 y.1, .int .u32 y.2], ⟨_, _, rfl, ⟨rfl, g0⟩, ⟨rfl, g1⟩⟩, fun i u hu => ?_⟩
  rw [Nat.zero_mul, Nat.zero_add, add_own, cell_of_row _ _ i _ _ (0, 0) (heap_alloc_new w _)]
  simpa using hu
theorem mPair {w : World} {x : PairT} (g0 : IntKind.u32.wrap x.1 = x.1) (g1 : IntKind.u32.wrap x.2 = x.2) : dPair.M w ([]) x [.int .u32 x.1, .int .u32 x.2] :=
  ⟨_, _, [], _, rfl, rfl, (by simp), ⟨rfl, rfl, g0⟩, ⟨rfl, rfl, g1⟩⟩
set_option maxHeartbeats 1000000 in
set_option maxRecDepth 100000 in
theorem eqPair_v {w : World} {v v' : Value} {x x' : PairT} (h : RdV true dPair w v x) (h' : RdV true dPair w v' x') : Calls Try.prog 94 #[v, v'] w (Ret (.bool (decide (x = x'))) w) := by
  obtain rfl := rdPair h
  obtain rfl := rdPair h'
  obtain ⟨a0, a1⟩ := x
  obtain ⟨b0, b1⟩ := x'
  simp only at ⊢
  have HB0 := Sec.mk ((Blk.new w 106 [.int .u32 a0, .int .u32 a1]).alloc (.cells #[.int .u32 b0, .int .u32 b1] 106))
  have HB1 := Sec.mk (Blk.new (w.alloc (.cells #[.int .u32 a0, .int .u32 a1] 106)) 106 [.int .u32 b0, .int .u32 b1])
  rw [show (w.alloc (.cells #[.int .u32 a0, .int .u32 a1] 106)).heap.size = w.heap.size + 1 by simp] at HB1
  have HM0 := Sec.mk (((Mod.refl (fun _ => False) w).alloc (.cells #[.int .u32 a0, .int .u32 a1] 106)).alloc (.cells #[.int .u32 b0, .int .u32 b1] 106))
  clear h h' 
  by_cases e0 : a0 = b0
  rotate_left
  · have HE : Sec (decide ((a0, a1) = (b0, b1)) = false) := ⟨by simp [e0]⟩
    have hb0 : (a0 != b0) = true := by simpa using e0
    clear e0
    go_enter Try.func94, Try.ntmps94
    go_wp2
    go_ret
    exact ⟨by rw [HE.out]; rfl, HM0.out⟩
  have hb0 : (a0 != b0) = false := by simp [e0]
  have S0 := Sec.mk e0
  clear e0
  by_cases e1 : a1 = b1
  rotate_left
  · have HE : Sec (decide ((a0, a1) = (b0, b1)) = false) := ⟨by simp [e1]⟩
    have hb1 : (a1 != b1) = true := by simpa using e1
    clear e1
    go_enter Try.func94, Try.ntmps94
    go_wp2
    go_ret
    exact ⟨by rw [HE.out]; rfl, HM0.out⟩
  have hb1 : (a1 != b1) = false := by simp [e1]
  have S1 := Sec.mk e1
  clear e1
  have HE : Sec (decide ((a0, a1) = (b0, b1)) = true) := ⟨by simp [S0.out, S1.out]⟩
  go_enter Try.func94, Try.ntmps94
  go_wp2
  go_ret
  exact ⟨by rw [HE.out]; rfl, HM0.out⟩
def mkPair1 (k : Nat) (x : PairT) : PairT := ((((k : Nat) : Int)) % 4294967296, (((k : Nat) : Int) + 1) % 4294967296)
def cntPair (x : PairT) : Nat := 1 + 1
theorem cntPair_mk (k : Nat) (x : PairT) : cntPair (mkPair1 k x) = cntPair x := rfl
theorem mkPair1_idem (k k' : Nat) (x : PairT) : mkPair1 k' (mkPair1 k x) = mkPair1 k' x := rfl
abbrev PairST := List PairT
abbrev dPairS : Ty PairST := Ty.slice 106 dPair
def cntPairS (xs : PairST) : Nat := preS cntPair xs xs.length
def mkPairS1 (k : Nat) (xs : PairST) : PairST := markL mkPair1 cntPair k xs
theorem cntPairS_mk (k : Nat) (xs : PairST) : cntPairS (mkPairS1 k xs) = cntPairS xs := by unfold cntPairS mkPairS1; rw [preS_mark _ _ cntPair_mk, markL_len]
theorem mkPairS1_idem (k k' : Nat) (xs : PairST) : mkPairS1 k' (mkPairS1 k xs) = mkPairS1 k' xs := markL_idem _ _ cntPair_mk mkPair1_idem k k' xs
theorem idxPairS (ad : Addr) (m c k : Nat) (h : k < m) (w : World) : (Instr.indexAt 46 (.slice (some ad) m c) (.int .i64 (k : Int))).run Try.prog w = .ok (.pointer (some (ad.add (k * 2)))) w := by
  have h0 : (0 : Int) ≤ (k : Int) := by omega
  have h1 : (k : Int) < (m : Int) := by omega
  go_simp
set_option maxHeartbeats 1000000 in
set_option maxRecDepth 100000 in
theorem eqPairS_v {w : World} {v v' : Value} {xs ys : PairST} (h : RdV false dPairS w v xs) (h' : RdV false dPairS w v' ys) : Calls Try.prog 71 #[v, v'] w (Ret (.bool (decide (xs = ys))) w) := by
  obtain ⟨A, c, rfl, -, hr⟩ := h.slice
  obtain ⟨A', c', rfl, -, hr'⟩ := h'.slice
  have hl := hr.2.1
  have HR := Sec.mk hr
  have HR' := Sec.mk hr'
  clear h h' hr hr'
  by_cases hne : xs.length = ys.length
  rotate_left
  · have hnb : ((xs.length : Int) != (ys.length : Int)) = true := by simp; omega
    have HE : Sec (decide (xs = ys) = false) := ⟨by simp [show xs ≠ ys from fun e => hne (by rw [e])]⟩
    clear hne
    go_enter Try.func71, Try.ntmps71
    go_wp2
    go_ret
    exact ⟨by rw [HE.out]; rfl, Mod.refl _ _⟩
  have hnb : ((xs.length : Int) != (ys.length : Int)) = false := by simp [hne]
  have HNE := Sec.mk hne
  clear hne
  go_enter Try.func71, Try.ntmps71
  go_wp2
  go_loopw [5] (fun i wr => ∃ k : Nat, k ≤ xs.length ∧ i = .int .i64 k ∧ Sec (xs.take k = ys.take k) ∧ Sec (New w wr)) (fun i _ => xs.length - (intOf i).toNat)
  case atStart => exact ⟨0, Nat.zero_le _, rfl, Sec.mk (by simp), Sec.mk (Mod.refl _ _)⟩
  case round =>
    obtain ⟨k, hk, rfl, HT, HM⟩ := hrel
    by_cases hlt : k < xs.length
    · have hlt2 : k < ys.length := by rw [← HNE.out]; exact hlt
      obtain ⟨ad, vx, rfl, hx⟩ := HR.out.elem (P := Try.prog) hlt 106 Try.underlying106 rfl (by kernel_rfl)
      obtain ⟨ad', vy, rfl, hy⟩ := HR'.out.elem (P := Try.prog) hlt2 106 Try.underlying106 rfl (by kernel_rfl)
      have HX : Sec (∀ W, New wr W → (Instr.loadAt 106 (.pointer (some (ad.add (k * 2))))).run Try.prog W = .ok vx W ∧ RdV true dPair W vx xs[k]) := ⟨fun W hW => hx W (fun i hi => (hW.block i (Nat.lt_of_lt_of_le hi HM.out.size) id).trans (HM.out.block i hi id)) (fun i hi => Nat.lt_of_lt_of_le hi (Nat.le_trans HM.out.size hW.size))⟩
      have HY : Sec (∀ W, New wr W → (Instr.loadAt 106 (.pointer (some (ad'.add (k * 2))))).run Try.prog W = .ok vy W ∧ RdV true dPair W vy (ys[k]'hlt2)) := ⟨fun W hW => hy W (fun i hi => (hW.block i (Nat.lt_of_lt_of_le hi HM.out.size) id).trans (HM.out.block i hi id)) (fun i hi => Nat.lt_of_lt_of_le hi (Nat.le_trans HM.out.size hW.size))⟩
      have HXY : Sec (xs[k] = ys[k]'hlt2 → xs.take (k + 1) = ys.take (k + 1)) := ⟨fun h => by rw [List.take_succ_eq_append_getElem hlt, List.take_succ_eq_append_getElem hlt2, HT.out, h]⟩
      have HNQ : Sec (xs[k] ≠ ys[k]'hlt2 → decide (xs = ys) = false) := ⟨fun h => by simp only [decide_eq_false_iff_not]; intro e; exact h (by subst e; rfl)⟩
      clear hx hy HT
      generalize xs[k] = x at *
      generalize ys[k]'hlt2 = y at *
      have hki : (k : Int) < (xs.length : Int) := by omega
      have hkj : (k : Int) < (ys.length : Int) := by omega
      go_wp2
      refine reg_start [] (fun W => Sec (New wr W)) (by kernel_rfl) ?_
      have HSS : Sec (New wr wr.drew) := ⟨(Mod.refl _ _).drew⟩
      refine reg_take (.slice (some ad) xs.length c) (i := 0) (n := 17) HSS rfl (by kernel_rfl) (by kernel_rfl) (by kernel_rfl) (by kernel_rfl) (fun _ _ _ h => h) (fun W hW => exec_move rfl rfl) ?_
      simp only [Act.put, List.setIfInBounds_toArray, List.set_cons_zero, List.set_cons_succ]
      refine reg_take (.int .i64 (k : Int)) (i := 1) (n := 18) HSS rfl (by kernel_rfl) (by kernel_rfl) (by kernel_rfl) (by kernel_rfl) (fun _ _ _ h => h) (fun W hW => exec_move rfl rfl) ?_
      simp only [Act.put, List.setIfInBounds_toArray, List.set_cons_zero, List.set_cons_succ]
      refine reg_take (.pointer (some (ad.add (k * 2)))) (i := 2) (n := 19) HSS rfl (by kernel_rfl) (by kernel_rfl) (by kernel_rfl) (by kernel_rfl) (fun _ _ _ h => h) (fun W hW => exec_indexAddr rfl rfl rfl (idxPairS _ _ _ _ hlt _)) ?_
      simp only [Act.put, List.setIfInBounds_toArray, List.set_cons_zero, List.set_cons_succ]
      refine reg_take (vx) (i := 3) (n := 20) HSS rfl (by kernel_rfl) (by kernel_rfl) (by kernel_rfl) (by kernel_rfl) (fun _ _ _ h => h) (fun W hW => exec_load rfl rfl (HX.out W hW.out).1) ?_
      simp only [Act.put, List.setIfInBounds_toArray, List.set_cons_zero, List.set_cons_succ]
      refine reg_take (.slice (some ad') ys.length c') (i := 4) (n := 21) HSS rfl (by kernel_rfl) (by kernel_rfl) (by kernel_rfl) (by kernel_rfl) (fun _ _ _ h => h) (fun W hW => exec_move rfl rfl) ?_
      simp only [Act.put, List.setIfInBounds_toArray, List.set_cons_zero, List.set_cons_succ]
      refine reg_take (.int .i64 (k : Int)) (i := 5) (n := 22) HSS rfl (by kernel_rfl) (by kernel_rfl) (by kernel_rfl) (by kernel_rfl) (fun _ _ _ h => h) (fun W hW => exec_move rfl rfl) ?_
      simp only [Act.put, List.setIfInBounds_toArray, List.set_cons_zero, List.set_cons_succ]
      refine reg_take (.pointer (some (ad'.add (k * 2)))) (i := 6) (n := 23) HSS rfl (by kernel_rfl) (by kernel_rfl) (by kernel_rfl) (by kernel_rfl) (fun _ _ _ h => h) (fun W hW => exec_indexAddr rfl rfl rfl (idxPairS _ _ _ _ hlt2 _)) ?_
      simp only [Act.put, List.setIfInBounds_toArray, List.set_cons_zero, List.set_cons_succ]
      refine reg_take (vy) (i := 7) (n := 24) HSS rfl (by kernel_rfl) (by kernel_rfl) (by kernel_rfl) (by kernel_rfl) (fun _ _ _ h => h) (fun W hW => exec_load rfl rfl (HY.out W hW.out).1) ?_
      simp only [Act.put, List.setIfInBounds_toArray, List.set_cons_zero, List.set_cons_succ]
      refine reg_step (i := 8) rfl (by kernel_rfl) (fun K hK => ?_)
      refine wp_call (n := 25) (vals := [vx, vy]) rfl rfl rfl (by kernel_rfl) (eqPair_v (HX.out _ HSS.out).2 (HY.out _ HSS.out).2) ?_
      rintro e w1 ⟨rfl, hm1⟩
      have HS1 : Sec (New wr w1) := ⟨HSS.out.transN hm1⟩
      refine ⟨_, rfl, hK.out _ _ (fun _ => HS1) ?_⟩
      clear hK K hm1
      simp only [Act.put, List.setIfInBounds_toArray, List.set_cons_zero, List.set_cons_succ]
      refine reg_step (i := 9) rfl (by kernel_rfl) (fun K hK => ?_)
      refine wp_val (n := 26) (v := .bool (!decide (x = y))) (exec_un rfl rfl (Mem.not_r _ _)) rfl (hK.out _ _ (fun _ => HS1) ?_)
      clear hK K
      simp only [Act.put, List.setIfInBounds_toArray, List.set_cons_zero, List.set_cons_succ]
      refine reg_done (by kernel_rfl) ?_ _
      have HM' := Sec.mk (HM.out.transN HS1.out)
      by_cases hxy : x = y
      · have HT' := Sec.mk (HXY.out hxy)
        have hd : decide (x = y) = true := by simp [hxy]
        clear hxy HXY HNQ HX HY
        rw [hd]
        go_wp2
        go_roundw
        case rel => exact ⟨k + 1, by omega, by go_num, HT', HM'⟩
        case measure => simp [intOf]; omega
      · have HE := Sec.mk (HNQ.out hxy)
        have hd : decide (x = y) = false := by simp [hxy]
        clear hxy HXY HNQ HX HY
        rw [hd]
        go_wp2
        go_ret
        exact ⟨by rw [HE.out]; rfl, HM'.out⟩
    · have HE : Sec (decide (xs = ys) = true) := ⟨by
        have h1 := HT.out
        rw [List.take_of_length_le (by omega), List.take_of_length_le (by rw [← HNE.out]; omega)] at h1
        simp [h1]⟩
      go_wp2
      go_ret
      exact ⟨by rw [HE.out]; rfl, HM.out⟩
set_option maxHeartbeats 1000000 in
set_option maxRecDepth 100000 in
theorem markPairS_calls {A : Option Addr} {c : Nat} {xs : PairST} {F : List Nat} {w : World} (h : Own dPair 106 w F (.slice A xs.length c) xs) (k : Nat) (hk : k + cntPairS xs ≤ 1152921504606846976) :
    Calls Try.prog 72 #[.slice A xs.length c, .int .i64 k] w fun e w' => e = .returned (.int .i64 ((k + cntPairS xs : Nat) : Int)) ∧ ∃ F', Own dPair 106 w' F' (.slice A xs.length c) (mkPairS1 k xs) ∧ (∀ i, i ∈ F' → i ∈ F) ∧ Mod (· ∈ F) w w' := by
  have hlx := h.len_le
  have HO := Sec.mk h
  have HKK : Sec (cntPairS xs = preS cntPair xs xs.length) := ⟨rfl⟩
  rw [HKK.out] at hk ⊢
  clear h
  go_enter Try.func72, Try.ntmps72
  go_wp2
  go_loopw [1, 5] (fun q i wr => ∃ (j : Nat) (ys : PairST) (G : List Nat), j ≤ xs.length ∧ i = .int .i64 j ∧ q = .int .i64 ((k + preS cntPair xs j : Nat) : Int) ∧ Sec (ys = (mkPairS1 k xs).take j ++ xs.drop j) ∧ Sec (Own dPair 106 wr G (.slice A xs.length c) ys) ∧ Sec (∀ k, k ∈ G → k ∈ F) ∧ Sec (Mod (· ∈ F) w wr)) (fun _ i _ => xs.length - (intOf i).toNat)
  case atStart => exact ⟨0, xs, F, Nat.zero_le _, rfl, by rw [preS_zero]; rfl, ⟨by simp⟩, HO, ⟨fun _ h => h⟩, ⟨Mod.refl _ _⟩⟩
  case round =>
    obtain ⟨j, ys, G, hj, rfl, rfl, HY, HO, HF, HM⟩ := hrel
    by_cases hlt : j < xs.length
    · have hyl : ys.length = xs.length := by rw [HY.out]; exact take_drop_len (markL_len _ _ k xs) j
      have hjy : j < ys.length := by omega
      have hyj : ys[j] = xs[j] := by simp only [HY.out]; exact take_drop_at (markL_len _ _ k xs) hlt _
      have hks := preS_succ cntPair xs hlt
      have hkl := preS_le cntPair xs (j + 1)
      have HZ := Sec.mk (markL_at mkPair1 cntPair k xs (i := j) (by rw [markL_len]; exact hlt))
      have HTD : Sec (ys.set j (mkPair1 (k + preS cntPair xs j) xs[j]) = (mkPairS1 k xs).take (j + 1) ++ xs.drop (j + 1)) := ⟨by rw [← HZ.out, HY.out]; exact take_drop_set (markL_len _ _ k xs) hlt⟩
      have HX : Sec (Own dPair 106 wr G (.slice A xs.length c) (ys.set j xs[j])) := ⟨by rw [← hyj, List.set_getElem_self]; exact HO.out⟩
      obtain ⟨g, rfl, hgG, -, -⟩ := HO.out.cellsAt hjy
      have HgF := Sec.mk (HF.out g hgG)
      have HKS := Sec.mk hks
      have hkb : preS cntPair xs j + cntPair xs[j] ≤ preS cntPair xs xs.length := by omega
      clear hks hkl hyj HZ HO hgG
      have HCN : Sec (cntPair xs[j] = 1 + 1) := ⟨rfl⟩
      have hcn := HCN.out
      generalize hps : preS cntPair xs j = s at *
      generalize hxj : xs[j] = x at *
      have HJ := Sec.mk hjy
      obtain ⟨_, hA0, -, hcell0, hfz0⟩ := HX.out.cellsAt (j := j) (by rw [List.length_set]; exact hjy)
      injection hA0 with hA0
      injection hA0 with hA0
      subst hA0
      simp only [show dPair.sz = 2 from rfl] at hcell0
      obtain ⟨p0, hc0⟩ := hcell0 0 (by decide)
      have hf0 := hfz0 (j * 2 + 0)
      simp only [Nat.add_zero] at hc0 hf0
      obtain ⟨p1, hc1⟩ := hcell0 1 (by decide)
      have hf1 := hfz0 (j * 2 + 1)
      clear hcell0 hfz0
      obtain ⟨hgg, hst⟩ := Own.fstoreAt fldPair0 (fun _ _ _ _ h => h.1) HJ.out HX.out
      obtain ⟨G0, ho, hG0⟩ := hst (.int .u32 (((k : Int) + (s : Int)) % 4294967296)) (((k : Int) + (s : Int)) % 4294967296) (fun _ => ⟨rfl, rfl, by rw [IntKind.wrap_u32]; omega⟩)
      simp only [show dPair.sz = 2 from rfl, Nat.add_zero] at ho
      have HX0 := Sec.mk ho
      have HF0 := Sec.mk (fun i hi => HF.out i (hG0 i hi))
      have HM0 := Sec.mk (HM.out.setCell (p := ⟨g, j * 2, none⟩) (fun _ => HgF.out) (.int .u32 (((k : Int) + (s : Int)) % 4294967296)))
      clear hgg hst ho hG0
      obtain ⟨hgg, hst⟩ := Own.fstoreAt fldPair1 (fun _ _ _ _ h => h.1) HJ.out HX0.out
      obtain ⟨G1, ho, hG1⟩ := hst (.int .u32 (((k : Int) + (s : Int) + 1) % 4294967296)) (((k : Int) + (s : Int) + 1) % 4294967296) (fun _ => ⟨rfl, rfl, by rw [IntKind.wrap_u32]; omega⟩)
      simp only [show dPair.sz = 2 from rfl] at ho
      have HX1 := Sec.mk ho
      have HF1 := Sec.mk (fun i hi => HF0.out i (hG1 i hi))
      have HM1 := Sec.mk (HM0.out.setCell (p := ⟨g, j * 2 + 1, none⟩) (fun _ => HgF.out) (.int .u32 (((k : Int) + (s : Int) + 1) % 4294967296)))
      clear hgg hst ho hG1
      have HEQ : Sec (mkPair1 (k + s) x = ((((k : Int) + (s : Int)) % 4294967296), (((k : Int) + (s : Int) + 1) % 4294967296))) := ⟨by skip; simp only [mkPair1, Int.natCast_add]⟩
      rw [HEQ.out] at HTD
      go_wp2
      go_roundw
      case rel => exact ⟨j + 1, _, G1, by omega, by go_num, by rw [HKS.out, HCN.out]; congr 1; try (omega), HTD, HX1, HF1, HM1⟩
      case measure => simp [intOf]; omega
    · obtain rfl : j = xs.length := by omega
      go_wp2
      go_ret
      have he : ys = mkPairS1 k xs := by
        rw [HY.out, List.take_of_length_le (by unfold mkPairS1; rw [markL_len]; exact Nat.le_refl _)]; simp
      subst he
      exact ⟨by simp, G, HO.out, HF.out, HM.out⟩
theorem markPairS_f {w : World} {F : List Nat} {v : Value} {x : PairST} (h : OwF false dPairS w F v x) (k : Nat) (hk : k + cntPairS x ≤ 1152921504606846976) :
    Calls Try.prog 72 #[v, .int .i64 k] w (Marks false dPairS w F v (k + cntPairS x) (mkPairS1 k x)) := by
  obtain ⟨A, c, rfl, ho⟩ := h.slice
  refine (markPairS_calls ho k hk).mono ?_
  rintro e w' ⟨rfl, F', ho', hF', hm⟩
  refine ⟨rfl, ⟨F', ?_, hF'⟩, hm⟩
  have hl : (mkPairS1 k x).length = x.length := markL_len _ _ k x
  rw [← hl] at ho'
  rw [← hl]
  exact OwF.of_slice ho'
theorem markPairS_i {w : World} {F : List Nat} {v : Value} {x : PairST} (h : OwF false dPairS w F v x) (q : Int) (k : Nat) (hq : q = (k : Int)) (hk : k + cntPairS x ≤ 1152921504606846976) :
    Calls Try.prog 72 #[v, .int .i64 q] w (Marks false dPairS w F v (k + cntPairS x) (mkPairS1 k x)) := by subst hq; exact markPairS_f h k hk
theorem markPairS_v {w : World} {lo hi : Nat} {v : Value} {x : PairST} (h : OwV false dPairS w lo hi v x) (k : Nat) (hk : k + cntPairS x ≤ 1152921504606846976) :
    Calls Try.prog 72 #[v, .int .i64 k] w fun e w' => e = .returned (.int .i64 ((k + cntPairS x : Nat) : Int)) ∧ OwV false dPairS w' lo hi v (mkPairS1 k x) ∧ Mod (fun i => lo ≤ i ∧ i < hi) w w' :=
  h.mark fun F hF => markPairS_f hF k hk
set_option maxHeartbeats 1000000 in
set_option maxRecDepth 100000 in
theorem heldPairS_v {w : World} {v : Value} {xs : PairST} (h : RdV false dPairS w v xs) (k : Nat) (hx : xs = mkPairS1 k xs) (hk : k + cntPairS xs ≤ 1152921504606846976) :
    Calls Try.prog 73 #[v, .int .i64 k] w (Ret (.int .i64 ((k + cntPairS xs : Nat) : Int)) w) := by
  obtain ⟨A, c, rfl, -, hr⟩ := h.slice
  have hl := hr.2.1
  have HR := Sec.mk hr
  have HX := Sec.mk hx
  have HKK : Sec (cntPairS xs = preS cntPair xs xs.length) := ⟨rfl⟩
  rw [HKK.out] at hk ⊢
  clear h hr hx
  go_enter Try.func73, Try.ntmps73
  go_wp2
  go_loopw [1, 5] (fun q i wr => ∃ (j : Nat), j ≤ xs.length ∧ i = .int .i64 j ∧ q = .int .i64 ((k + preS cntPair xs j : Nat) : Int) ∧ Sec (New w wr)) (fun _ i _ => xs.length - (intOf i).toNat)
  case atStart => exact ⟨0, Nat.zero_le _, rfl, by rw [preS_zero]; rfl, ⟨Mod.refl _ _⟩⟩
  case round =>
    obtain ⟨j, hj, rfl, rfl, HM⟩ := hrel
    by_cases hlt : j < xs.length
    · have hks := preS_succ cntPair xs hlt
      have hkl := preS_le cntPair xs (j + 1)
      have hkb : preS cntPair xs j + cntPair xs[j] ≤ preS cntPair xs xs.length := by omega
      have HKS := Sec.mk hks
      have hz : xs[j] = mkPair1 (k + preS cntPair xs j) xs[j] := by
        have := markL_at mkPair1 cntPair k xs (i := j) (by rw [markL_len]; exact hlt)
        rw [← this]; congr 1; exact HX.out
      have HZ := Sec.mk hz
      have HCN : Sec (cntPair xs[j] = 1 + 1) := ⟨rfl⟩
      have hcn := HCN.out
      clear hks hkl hz
      have HFD : Sec (∀ W, New w W → ∃ ad , A = some ad ∧ W.cell? (ad.add (j * 2)) = some (.int .u32 (xs[j].1)) ∧ W.cell? ⟨(ad.add (j * 2)).block, (ad.add (j * 2)).off + 1, none⟩ = some (.int .u32 (xs[j].2))) := ⟨fun W hW => by
        obtain ⟨ad, v0, hA0, hc0, hK0⟩ := HR.out.field fldPair0 (fun q hq => hW.block q hq id) hlt
        obtain rfl : v0 = .int .u32 (xs[j].1) := by have := hK0.1; simpa using this
        obtain ⟨ad1, v1, hA1, hc1, hK1⟩ := HR.out.field fldPair1 (fun q hq => hW.block q hq id) hlt
        obtain rfl : ad = ad1 := Option.some.inj (hA0.symm.trans hA1)
        obtain rfl : v1 = .int .u32 (xs[j].2) := by have := hK1.1; simpa using this
        exact ⟨ad, hA0, hc0, hc1⟩⟩
      generalize hps : preS cntPair xs j = s at *
      generalize hxj : xs[j] = x at *
      obtain ⟨ad, rfl, hc0, hc1⟩ := HFD.out _ HM.out
      have z0 : x.1 = (((k : Int) + (s : Int)) % 4294967296) := by have h := congrArg (fun x : PairT => x.1) HZ.out; (try simp only [mkPair1, Int.natCast_add] at h); exact h
      rw [z0] at hc0
      clear z0
      have z1 : x.2 = (((k : Int) + (s : Int) + 1) % 4294967296) := by have h := congrArg (fun x : PairT => x.2) HZ.out; (try simp only [mkPair1, Int.natCast_add] at h); exact h
      rw [z1] at hc1
      clear z1
      go_wp2
      go_roundw
      case rel => exact ⟨j + 1, by omega, by go_num, by rw [HKS.out, HCN.out]; congr 1; try (omega), HM⟩
      case measure => simp [intOf]; omega
    · obtain rfl : j = xs.length := by omega
      go_wp2
      go_ret
      exact ⟨by simp, HM.out⟩
theorem heldPairS_i {w : World} {v : Value} {x : PairST} (h : RdV false dPairS w v x) (q : Int) (k : Nat) (hq : q = (k : Int)) (hx : x = mkPairS1 k x) (hk : k + cntPairS x ≤ 1152921504606846976) :
    Calls Try.prog 73 #[v, .int .i64 q] w (Ret (.int .i64 ((k + cntPairS x : Nat) : Int)) w) := by subst hq; exact heldPairS_v h k hx hk
end Go.Proofs.Ytciaoedjiggonaa
