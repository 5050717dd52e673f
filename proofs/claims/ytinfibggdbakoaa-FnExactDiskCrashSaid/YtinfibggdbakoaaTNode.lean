/- The laws' copies and sizes of Node. -/
import Derived.Test.YtinfibggdbakoaaSNode
import Derived.Test.YtinfibggdbakoaaSzLib
namespace Go.Proofs.Ytinfibggdbakoaa
open Go.RowKit Mem
set_option linter.unusedVariables false
set_option linter.unusedSimpArgs false
theorem okNode {w : World} {v : Value} {x : NodeT} (h : RdV true dNode w v x) : IntKind.i64.wrap x.2 = x.2 := by
  obtain ⟨cs, rfl, c0, c1, rfl, h0, h1⟩ := h
  exact h1.2
def zNode : NodeT := ([], 0)
theorem zmNode (w : World) : dNode.M w [] zNode [.slice none 0 0, .int .i64 0] := mNode (F0 := []) (show IntKind.i64.wrap 0 = 0 by decide) (Own.nil _ _ _)
theorem cellsNode_M {w : World} {F : List Nat} {x : NodeT} {cs : List Value} (h : dNode.M w F x cs) : ∃ A0 q0, cs = [.slice A0 x.1.length q0, .int .i64 x.2] := by
  obtain ⟨c0, c1, E0, E1, rfl, rfl, nd0, h0, h1⟩ := h
  obtain ⟨v0, rfl, h0'⟩ := h0
  obtain ⟨A0, q0, rfl, _⟩ := h0'.form
  obtain ⟨_, rfl, _⟩ := h1
  exact ⟨_, _, rfl⟩
def szNode (x : NodeT) : Nat := (szBS x.1)
set_option maxHeartbeats 1000000 in
set_option maxRecDepth 100000 in
theorem szNode_v {w : World} {v : Value} {x : NodeT} (h : RdV true dNode w v x) (left : Int) (h0 : 0 ≤ left) (h1 : left ≤ 1048576) : Calls Try.prog 51 #[v, .int .i64 left] w (SzR w left (szNode x)) := by
  obtain ⟨v0, rfl, k0⟩ := rdNode h
  have HB0 := Sec.mk (Blk.new w 81 [v0, .int .i64 x.2])
  have HM0 := Sec.mk ((Mod.refl (fun _ => False) w).alloc (.cells #[v0, .int .i64 x.2] 81))
  have H0 := Sec.mk k0
  have HS : Sec (szNode x = (szBS x.1)) := ⟨rfl⟩
  clear h k0
  generalize hs : szNode x = s at *
  clear hs
  obtain ⟨c0, hc0⟩ : ∃ c, c = szBS x.1 := ⟨_, rfl⟩
  rw [← hc0] at HS
  have HC0 := Sec.mk hc0
  clear hc0
  by_cases g0 : left < (c0 : Int)
  · have hn0 : left - (c0 : Int) < 0 := by omega
    go_enter Try.func51, Try.ntmps51
    go_wp2_with fail
    refine (szByteS_s (H0.out.step HM0.out) (left) (by omega) (by omega)).mono ?_
    rintro e w0 ⟨rfl, hm0⟩
    rw [← HC0.out, if_pos (by omega)]
    have HM0 := Sec.mk (HM0.out.transN hm0)
    have HB1 := Sec.mk (HB0.out.mod hm0 id)
    clear hm0
    go_wp2
    go_ret
    exact ⟨by rw [if_pos (by have := HS.out; omega)]; rfl, HM0.out⟩
  go_enter Try.func51, Try.ntmps51
  go_wp2_with fail
  refine (szByteS_s (H0.out.step HM0.out) (left) (by omega) (by omega)).mono ?_
  rintro e w0 ⟨rfl, hm0⟩
  rw [← HC0.out, if_neg (by omega)]
  have HM0 := Sec.mk (HM0.out.transN hm0)
  have HB1 := Sec.mk (HB0.out.mod hm0 id)
  clear hm0
  have l0 : ¬ left - (c0 : Int) < 0 := by omega
  go_wp2
  go_ret
  exact ⟨by rw [if_neg (by have := HS.out; omega)]; have := HS.out; simp; omega, HM0.out⟩
set_option maxHeartbeats 1000000 in
set_option maxRecDepth 100000 in
theorem toNode_v {w : World} {v : Value} {x : NodeT} (h : RdV true dNode w v x) (hs : szNode x ≤ 1048576) : Calls Try.prog 57 #[v] w (RetV true dNode w x) := by
  obtain ⟨v0, rfl, k0⟩ := rdNode h
  have HG := Sec.mk (okNode h)
  have hsz : (szBS x.1) ≤ 1048576 := hs
  have HX := Sec.mk (((Blk.new w 81 [v0, .int .i64 x.2]).alloc (.cells #[.slice none 0 0, .int .i64 0] 55)).alloc (.cells #[.slice none 0 0, .int .i64 0] 55))
  have HR := Sec.mk ((Blk.new (w.alloc (.cells #[v0, .int .i64 x.2] 81)) 55 [.slice none 0 0, .int .i64 0]).alloc (.cells #[.slice none 0 0, .int .i64 0] 55))
  have HO := Sec.mk (Blk.new ((w.alloc (.cells #[v0, .int .i64 x.2] 81)).alloc (.cells #[.slice none 0 0, .int .i64 0] 55)) 55 [.slice none 0 0, .int .i64 0])
  rw [show (w.alloc (.cells #[v0, .int .i64 x.2] 81)).heap.size = w.heap.size + 1 by simp] at HR
  rw [show ((w.alloc (.cells #[v0, .int .i64 x.2] 81)).alloc (.cells #[.slice none 0 0, .int .i64 0] 55)).heap.size = w.heap.size + 2 by simp] at HO
  have HM := Sec.mk ((((Mod.refl (fun _ => False) w).alloc (.cells #[v0, .int .i64 x.2] 81)).alloc (.cells #[.slice none 0 0, .int .i64 0] 55)).alloc (.cells #[.slice none 0 0, .int .i64 0] 55))
  have H0 := Sec.mk k0
  clear h k0
  go_enter Try.func57, Try.ntmps57
  go_wp2_with fail
  refine (toByteS_v (H0.out.step HM.out) (by omega)).mono ?_
  rintro e w0 ⟨y0, rfl, ho0, hm0⟩
  have HM0 := Sec.mk (HM.out.transN hm0)
  have hs0 := hm0.size
  simp [World.setCell] at hs0
  have HX0 := Sec.mk (HX.out.mod hm0 id)
  have HR0 := Sec.mk (HR.out.mod hm0 id)
  have HO0' := Sec.mk (HO.out.mod hm0 id)
  have hO0 : w0.cell? ⟨w.heap.size + 2, 0, none⟩ = some (.slice none 0 0) := HO0'.out.cell 0
  have hF0 : w0.frozen? ⟨w.heap.size + 2, 0, none⟩ = false := HO0'.out.frozen 0
  have pX0_1 : w0.cell? ⟨w.heap.size, 1, none⟩ = some (.int .i64 x.2) := HX0.out.cell 1
  have hO1 : w0.cell? ⟨w.heap.size + 2, 1, none⟩ = some (.int .i64 0) := HO0'.out.cell 1
  have hF1 : w0.frozen? ⟨w.heap.size + 2, 1, none⟩ = false := HO0'.out.frozen 1
  obtain ⟨aY0, qY0, rfl⟩ := owSl_form ho0
  have HO0 := Sec.mk ((HO0'.out.set_ 0 (.slice aY0 x.1.length qY0)).set_ 1 (.int .i64 x.2))
  simp only [List.set_cons_zero, List.set_cons_succ] at HO0
  have HX0' := Sec.mk ((HX0.out.far (p := ⟨w.heap.size + 2, 0, none⟩) (by simp; try omega) (.slice aY0 x.1.length qY0)).far (p := ⟨w.heap.size + 2, 1, none⟩) (by simp; try omega) (.int .i64 x.2))
  have HR0' := Sec.mk ((HR0.out.far (p := ⟨w.heap.size + 2, 0, none⟩) (by simp; try omega) (.slice aY0 x.1.length qY0)).far (p := ⟨w.heap.size + 2, 1, none⟩) (by simp; try omega) (.int .i64 x.2))
  have HM0' := Sec.mk ((HM0.out.setCell (p := ⟨w.heap.size + 2, 0, none⟩) (fun h => absurd h (by simp; try omega)) (.slice aY0 x.1.length qY0)).setCell (p := ⟨w.heap.size + 2, 1, none⟩) (fun h => absurd h (by simp; try omega)) (.int .i64 x.2))
  have hMo0 := (((Mod.refl (fun k => k = w.heap.size + 2) w0).setCell (p := ⟨w.heap.size + 2, 0, none⟩) (fun _ => rfl) (.slice aY0 x.1.length qY0)).setCell (p := ⟨w.heap.size + 2, 1, none⟩) (fun _ => rfl) (.int .i64 x.2))
  have HW0_0 := Sec.mk (ho0.keep hMo0 (fun k h1 h2 h3 => by simp at h1; omega))
  clear ho0 hm0 hMo0
  have tO0 := HO0.out.cell 0
  have tR0 := HR0'.out.cell 0
  have tF0 := HR0'.out.frozen 0
  have tO1 := HO0.out.cell 1
  have tR1 := HR0'.out.cell 1
  have tF1 := HR0'.out.frozen 1
  simp only [List.getElem?_cons_zero, List.getElem?_cons_succ] at tO0 tR0 tO1 tR1
  skip
  go_wp2
  refine bodyPost_ret (results_blk rfl rfl ((HR0'.out.set_ 0 (.slice aY0 x.1.length qY0)).set_ 1 (.int .i64 x.2)) Try.underlying55 (by kernel_rfl)) rfl ?_
  have hMr := (((Mod.refl (fun k => k = w.heap.size + 1) ((w0.setCell ⟨w.heap.size + 2, 0, none⟩ (.slice aY0 x.1.length qY0)).setCell ⟨w.heap.size + 2, 1, none⟩ (.int .i64 x.2))).setCell (p := ⟨w.heap.size + 1, 0, none⟩) (fun _ => rfl) (.slice aY0 x.1.length qY0)).setCell (p := ⟨w.heap.size + 1, 1, none⟩) (fun _ => rfl) (.int .i64 x.2))
  have z0 := HW0_0.out.keep hMr (fun k h1 h2 h3 => by simp at h1; omega)
  obtain ⟨_, _, F0, _, f0, r0⟩ := OwV.slice z0
  refine ⟨_, rfl, ⟨_, _, rfl, mNode (HG.out) f0, ?_⟩, ((HM0'.out.setCell (fun h => absurd h (by simp; try omega)) _).setCell (fun h => absurd h (by simp; try omega)) _)⟩
  · intro k hk; simp only [List.mem_append, List.mem_nil_iff, or_false, false_or] at hk; have := r0 k hk; simp at this ⊢; omega
def szNodeS (xs : NodeST) : Nat := xs.length + preS szNode xs xs.length
theorem szNodeS_mem {xs : NodeST} {x : NodeT} (h : x ∈ xs) : szNode x ≤ szNodeS xs := by
  obtain ⟨j, hj, rfl⟩ := List.getElem_of_mem h
  have h1 := preS_succ szNode xs hj
  have h2 := preS_le szNode xs (j + 1)
  unfold szNodeS; omega
set_option maxHeartbeats 1000000 in
set_option maxRecDepth 100000 in
theorem szNodeS_s {w : World} {v : Value} {xs : NodeST} (h : RdV false dNodeS w v xs) (left : Int) (h0 : 0 ≤ left) (h1 : left ≤ 1048576) : Calls Try.prog 23 #[v, .int .i64 left] w (SzR w left (szNodeS xs)) := by
  obtain ⟨A, c, rfl, -, hr⟩ := h.slice
  have hl := hr.2.1
  have HR := Sec.mk hr
  have HS : Sec (szNodeS xs = xs.length + preS szNode xs xs.length) := ⟨rfl⟩
  clear h hr
  generalize hs : szNodeS xs = S at *
  clear hs
  by_cases hlt : left < xs.length
  · have hlt0 : left - (xs.length : Int) < 0 := by omega
    go_enter Try.func23, Try.ntmps23
    go_wp2
    go_ret
    exact ⟨by rw [if_pos (by have := HS.out; omega)]; rfl, Mod.refl _ _⟩
  have hlt0 : ¬ left - (xs.length : Int) < 0 := by omega
  go_enter Try.func23, Try.ntmps23
  go_wp2
  go_loopw [1, 5] (fun q i wr => ∃ (k : Nat), k ≤ xs.length ∧ i = .int .i64 k ∧ q = .int .i64 (left - xs.length - (preS szNode xs k : Nat)) ∧ (preS szNode xs k : Int) ≤ left - xs.length ∧ Sec (New w wr)) (fun _ i _ => xs.length - (intOf i).toNat)
  case atStart => exact ⟨0, Nat.zero_le _, rfl, by rw [preS_zero]; simp, by rw [preS_zero]; omega, ⟨Mod.refl _ _⟩⟩
  case round =>
    obtain ⟨k, hk, rfl, rfl, hle, HM⟩ := hrel
    by_cases hkl : k < xs.length
    · obtain ⟨ad, cs, rfl, hx⟩ := HR.out.elemc hkl
      obtain ⟨hx2, hc0, hcs⟩ := hx wr (fun i hi => HM.out.block i hi id) (fun i hi => Nat.lt_of_lt_of_le hi HM.out.size)
      obtain ⟨z0, hv, -⟩ := rdNode hx2
      have hcc : cs = [z0, .int .i64 xs[k].2] := by injection hv with hv; simpa using hv
      subst hcc
      have e0 := hc0 _ rfl
      have e1 := hcs 0 _ rfl
      simp only [show dNode.sz = 2 from rfl] at e0 e1
      have HX2 := Sec.mk hx2
      clear hx hx2 hc0 hcs hv
      have HP := Sec.mk (preS_succ szNode xs hkl)
      have HPL := Sec.mk (preS_le szNode xs (k + 1))
      have HSX : Sec (∃ t, t = szNode xs[k]) := ⟨⟨_, rfl⟩⟩
      obtain ⟨t, ht⟩ := HSX.out
      rw [← ht] at HP
      have HT := Sec.mk ht
      clear ht HSX
      generalize preS szNode xs k = s at *
      have hki : (k : Int) < (xs.length : Int) := by omega
      by_cases hs : left - xs.length - s < t
      · go_wp2_with fail
        refine (szNode_v HX2.out (left - xs.length - s) (by omega) (by omega)).mono ?_
        rintro e w1 ⟨rfl, hm1⟩
        rw [← HT.out, if_pos hs]
        have HM1 := Sec.mk (HM.out.transN hm1)
        clear hm1
        go_wp2
        go_ret
        exact ⟨by rw [if_pos (by have := HS.out; have := HP.out; have := HPL.out; omega)]; rfl, HM1.out⟩
      · go_wp2_with fail
        refine (szNode_v HX2.out (left - xs.length - s) (by omega) (by omega)).mono ?_
        rintro e w1 ⟨rfl, hm1⟩
        rw [← HT.out, if_neg (by omega)]
        have HM1 := Sec.mk (HM.out.transN hm1)
        have hs0 : ¬ left - (xs.length : Int) - (s : Int) - (t : Int) < 0 := by omega
        clear hm1
        go_wp2
        go_roundw
        case rel => exact ⟨k + 1, by omega, by go_num, by rw [HP.out]; congr 1; omega, by rw [HP.out]; omega, HM1⟩
        case measure => simp [intOf]; omega
    · obtain rfl : k = xs.length := by omega
      generalize preS szNode xs xs.length = s at *
      go_wp2
      go_ret
      exact ⟨by rw [if_neg (by have := HS.out; omega)]; have := HS.out; simp; omega, HM.out⟩
set_option maxHeartbeats 1000000 in
set_option maxRecDepth 100000 in
theorem toNodeS_v {w : World} {v : Value} {xs : NodeST} (h : RdV false dNodeS w v xs) (hs : szNodeS xs ≤ 1048576) : Calls Try.prog 29 #[v] w (RetV false dNodeS w xs) := by
  obtain ⟨A, c, rfl, -, hr⟩ := h.slice
  have hl := hr.2.1
  have HR := Sec.mk hr
  have hlen : xs.length ≤ 1048576 := by unfold szNodeS at hs; omega
  have HEL := Sec.mk (fun x (hx : x ∈ xs) => Nat.le_trans (szNodeS_mem hx) hs)
  clear h hr hs
  refine Calls.mono (R := RetOwn dNode 55 w xs) ?_ (fun _ _ h => h.toV)
  go_enter Try.func29, Try.ntmps29
  go_wp2_with (refine wpList_make _ rfl (.tmp 6) _ rfl dNode 55 Try.underlying29 eltNode zNode (fun _ => zmNode _) xs.length rfl (by omega) ?_; intro w1 ho1 hm1; have HO1 := Sec.mk ho1; have HM1 := Sec.mk hm1; clear ho1 hm1)
  go_loopw [4] (fun i wr => ∃ (k : Nat) (ys : NodeST) (F : List Nat), k ≤ xs.length ∧ i = .int .i64 k ∧ Sec (ys.length = xs.length) ∧ Sec (ys.take k = xs.take k) ∧ Sec (Own dNode 55 wr F (.slice (some ⟨w.heap.size, 0, none⟩) xs.length xs.length) ys) ∧ Sec (∀ k, k ∈ F → w.heap.size ≤ k) ∧ Sec (New w wr)) (fun i _ => xs.length - (intOf i).toNat)
  case atStart => exact ⟨0, _, _, Nat.zero_le _, rfl, Sec.mk (by simp), Sec.mk (by simp), HO1, Sec.mk (by simp), HM1⟩
  case round =>
    obtain ⟨k, ys, F, hk, rfl, HL, HT, HO, HF, HM⟩ := hrel
    clear HO1 HM1
    by_cases hlt : k < xs.length
    · obtain ⟨ad, cs, rfl, hx⟩ := HR.out.elemc hlt
      obtain ⟨hx2, hc0, hcs⟩ := hx wr (fun i hi => HM.out.block i hi id) (fun i hi => Nat.lt_of_lt_of_le hi HM.out.size)
      obtain ⟨z0, hv, -⟩ := rdNode hx2
      have hcc : cs = [z0, .int .i64 xs[k].2] := by injection hv with hv; simpa using hv
      subst hcc
      have e0 := hc0 _ rfl
      have e1 := hcs 0 _ rfl
      simp only [show dNode.sz = 2 from rfl] at e0 e1
      have HX2 := Sec.mk hx2
      clear hx hx2 hc0 hcs hv
      have HE := Sec.mk (HEL.out xs[k] (List.getElem_mem _))
      have HPX : Sec (∃ q : NodeT, q = xs[k]) := ⟨⟨_, rfl⟩⟩
      obtain ⟨q, hq⟩ := HPX.out
      rw [← hq] at HX2 HE e1
      have HQ := Sec.mk hq
      clear hq HPX
      have hki : (k : Int) < (xs.length : Int) := by omega
      go_wp2_with fail
      refine (toNode_v HX2.out HE.out).mono ?_
      rintro e w2 ⟨v2, rfl, ⟨cs2, F2, hv2, hM2, hF2⟩, hm2⟩
      have hM2' := hM2
      obtain ⟨a0, b0, hcs2⟩ := cellsNode_M hM2'
      have hv3 : v2 = .agg #[.slice a0 q.1.length b0, .int .i64 q.2] := by rw [hv2, hcs2]; rfl
      subst hcs2
      clear hv2
      subst hv3
      have HM2 := Sec.mk (HM.out.transN hm2)
      have HLT := Sec.mk HO.out.lt
      obtain ⟨g, f, hA, hgF, hgf, hff, hcell, hfz, hst⟩ := (HO.out.new hm2).put (j := k) (by rw [HL.out]; exact hlt)
      have hA' : w.heap.size = g := by injection hA with hA; injection hA
      subst hA'
      obtain ⟨o0, hc0⟩ := hcell 0 (by decide)
      have hf0 := hfz (k * 2)
      obtain ⟨o1, hc1⟩ := hcell 1 (by decide)
      have hf1 := hfz (k * 2 + 1)
      simp only [show dNode.sz = 2 from rfl, Nat.add_zero] at hc0 hc1 hst
      have hs2 := hm2.size
      obtain ⟨F', ho', hg', hF'⟩ := hst [.slice a0 q.1.length b0, .int .i64 q.2] q F2 (dNode.M_mod hM2 fun i hi => putRow_far _ _ _ _ (fun e => by have := hF2 i hi; have := HLT.out _ hgF; omega)) (fun i hi => .inr fun hiF => absurd (HLT.out i hiF) (by have := hF2 i hi; omega))
      have HO' := Sec.mk ho'
      have HF' : Sec (∀ i, i ∈ F' → w.heap.size ≤ i) := ⟨fun i hi => (hF' i hi).elim (HF.out i) (fun h => by have := hF2 i h; have := HM.out.size; omega)⟩
      clear hA hgF hgf hff hcell hfz hst ho' hg' hF' hm2 hM2 hF2 HLT
      go_wp2
      go_roundw
      case rel => exact ⟨k + 1, _, F', by omega, by go_num, ⟨(set_len ys k q).trans HL.out⟩, ⟨by rw [HQ.out]; exact set_prefix xs ys k hlt HL.out HT.out⟩, HO', HF', ⟨putRow_mod (fun h => absurd h (Nat.lt_irrefl _)) [.slice a0 q.1.length b0, .int .i64 q.2] _ 0 HM2.out⟩⟩
      case measure => simp [intOf]; omega
    · go_wp2
      go_ret
      have he : ys = xs := by
        have h1 := HT.out
        rw [List.take_of_length_le (by rw [HL.out]; omega), List.take_of_length_le (by omega)] at h1
        exact h1
      subst he
      exact RetOwn.of HO.out HF.out HM.out
end Go.Proofs.Ytinfibggdbakoaa
