/- The specification's reading of a file. -/
import Derived.Test.YtinfibggdbakoaaValidS
import Derived.Test.YtinfibggdbakoaaSContent
namespace Go.Proofs.Ytinfibggdbakoaa
open Go.RowKit Mem
set_option linter.unusedVariables false
set_option linter.unusedSimpArgs false
/-- what a reading finds -/
def readL (d : DiskT) (nm : Bytes) : ContentT :=
  if DiskValidL d = true ∧ hasE d.2.1 nm = true then (true, (d.1[((d.2.1[placeE d.2.1 nm]?.getD ([], 0)).2).toNat]?.getD ([], 0)).1) else (false, [])
theorem valid_names {d : DiskT} (h : DiskValidL d = true) : Ord d.2.1 ∧ ∀ k, (hk : k < d.2.1.length) → 0 ≤ d.2.1[k].2 ∧ d.2.1[k].2 < d.1.length := by
  have h1 := ((DiskValidL_iff d).1 h).2.2.2.2.2.2.1
  refine ⟨inOrdL_ord h1, fun k hk => ?_⟩
  have h2 := ((inOrdL_iff _ _).1 h1).2 k hk
  exact ⟨h2.2.1, h2.2.2.1⟩
theorem valid_lens {d : DiskT} (h : DiskValidL d = true) : d.1.length ≤ 600 ∧ d.2.1.length ≤ 300 ∧ ∀ k, (hk : k < d.1.length) → d.1[k].1.length ≤ 40000 := by
  have hh := (DiskValidL_iff d).1 h
  refine ⟨hh.2.2.1, ((inOrdL_iff _ _).1 hh.2.2.2.2.2.2.1).1, fun k hk => ?_⟩
  have := hh.2.2.2.2.1 k hk
  unfold nodeOk at this
  exact (of_decide_eq_true this).1
set_option maxHeartbeats 2000000 in
set_option maxRecDepth 100000 in
theorem l1Bytes_calls {A : Option Addr} {c : Nat} {xs : Bytes} {B : Nat → Prop} {w : World} (h : Row Ty.byte w B A xs.length xs) (hB : ∀ k, B k → k < w.heap.size) (hl : xs.length ≤ 1048576) : Calls Try.prog 39 #[.slice A xs.length c] w (RetOwn Ty.byte 5 w xs) := by
  have HR := Sec.mk h
  have HB := Sec.mk hB
  clear h hB
  go_enter Try.func39, Try.ntmps39
  go_wp2_with (first
    | (refine wpList_mk _ rfl (.tmp 5) _ rfl Ty.byte 5 Try.underlying37 elt_byte 0 (fun _ => ⟨rfl, rfl⟩) xs.length rfl (by omega) ?_; intro w1 ho1; have HO1 := Sec.mk ho1; clear ho1)
    | (refine wpList_copyAll _ rfl (.tmp 7) (.tmp 8) _ _ rfl Try.underlying37 elt_byte rfl flat_byte rfl rfl HO1.out (HO1.out.read HR.out HB.out) ?_; intro w2 ho2; have HO2 := Sec.mk ho2; clear ho2))
  go_wp2
  go_ret
  exact HO2.out.ret
theorem fptDisk0 (p : Addr) (w : World) : (Instr.fieldAt 33 (.pointer (some p)) 0).run Try.prog w = .ok (.pointer (some p)) w := by go_simp
theorem fptDisk1 (p : Addr) (w : World) : (Instr.fieldAt 33 (.pointer (some p)) 1).run Try.prog w = .ok (.pointer (some ⟨p.block, p.off + 1, none⟩)) w := by go_simp
theorem fptEntry1D (p : Addr) (w : World) : (Instr.fieldAt 70 (.pointer (some p)) 1).run Try.prog w = .ok (.pointer (some ⟨p.block, p.off + 1, none⟩)) w := by go_simp
theorem fptNode0D (p : Addr) (w : World) : (Instr.fieldAt 55 (.pointer (some p)) 0).run Try.prog w = .ok (.pointer (some p)) w := by go_simp
theorem ldNodesD {w : World} {p : Addr} {v : Value} (h : w.cell? p = some v) : (Instr.loadAt 29 (.pointer (some p))).run Try.prog w = .ok v w := by go_simp
theorem ldEntsD {w : World} {p : Addr} {v : Value} (h : w.cell? p = some v) : (Instr.loadAt 30 (.pointer (some p))).run Try.prog w = .ok v w := by go_simp
theorem ldIntD {w : World} {p : Addr} {v : Value} (h : w.cell? p = some v) : (Instr.loadAt 3 (.pointer (some p))).run Try.prog w = .ok v w := by go_simp
theorem ldBytesD {w : World} {p : Addr} {v : Value} (h : w.cell? p = some v) : (Instr.loadAt 37 (.pointer (some p))).run Try.prog w = .ok v w := by go_simp
theorem stContent {w : World} {g : Nat} {a b : Value} (h : Blk w g 39 [a, b]) (A : Option Addr) (n c : Nat) : (Instr.storeAt 39 (.pointer (some ⟨g, 0, none⟩)) (.agg #[.bool true, .slice A n c])).run Try.prog w = .ok () ((w.setCell ⟨g, 0, none⟩ (.bool true)).setCell ⟨g, 1, none⟩ (.slice A n c)) := by
  have q0 : w.cell? ⟨g, 0, none⟩ = some a := h.cell 0
  have q1 : w.cell? ⟨g, 1, none⟩ = some b := h.cell 1
  have f0 : w.frozen? ⟨g, 0, none⟩ = false := h.frozen 0
  have f1 : w.frozen? ⟨g, 1, none⟩ = false := h.frozen 1
  go_simp
theorem bldContent (A : Option Addr) (n c : Nat) (w : World) : (Instr.build 39 #[(0, .bool true), (1, .slice A n c)]).run Try.prog w = .ok (.agg #[.bool true, .slice A n c]) w := by go_simp
set_option maxHeartbeats 4000000 in
set_option maxRecDepth 100000 in
theorem diskReadS_v {w : World} {v : Value} {x : DiskT} (h : RdV true dDisk w v x) (nm : Bytes) (hn : nm.length ≤ 9223372036854775807) : Calls Try.prog 11 #[v, .string ⟨nm.toArray⟩] w (RetV true dContent w (readL x nm)) := by
  have HX := Sec.mk h
  obtain ⟨v0, v1, v2, v3, rfl, k0, k1, k2, k3⟩ := rdDisk h
  have HV1 := Sec.mk (fun h => valid_names (d := x) h)
  have HV2 := Sec.mk (fun h => valid_lens (d := x) h)
  have HRL : Sec (readL x nm = if DiskValidL x = true ∧ hasE x.2.1 nm = true then (true, (x.1[((x.2.1[placeE x.2.1 nm]?.getD ([], 0)).2).toNat]?.getD ([], 0)).1) else (false, [])) := ⟨rfl⟩
  obtain ⟨A0, c0, rfl, hc0, hr0⟩ := k0.slice
  obtain ⟨A1, c1, rfl, hc1, hr1⟩ := k1.slice
  obtain ⟨A2, c2, rfl, hc2, hr2⟩ := k2.slice
  obtain ⟨A3, c3, rfl, hc3, hr3⟩ := k3.slice
  have HR0 := Sec.mk hr0
  have HR1 := Sec.mk hr1
  have HBX := Sec.mk ((Blk.new w 33 [.slice A0 x.1.length c0, .slice A1 x.2.1.length c1, .slice A2 x.2.2.1.length c2, .slice A3 x.2.2.2.1.length c3, .int .i64 x.2.2.2.2]).alloc (.cells #[.bool false, .slice none 0 0] 39))
  have HBC := Sec.mk (Blk.new (w.alloc (.cells #[.slice A0 x.1.length c0, .slice A1 x.2.1.length c1, .slice A2 x.2.2.1.length c2, .slice A3 x.2.2.2.1.length c3, .int .i64 x.2.2.2.2] 33)) 39 [.bool false, .slice none 0 0])
  have HM0 := Sec.mk (((Mod.refl (fun _ => False) w).alloc (.cells #[.slice A0 x.1.length c0, .slice A1 x.2.1.length c1, .slice A2 x.2.2.1.length c2, .slice A3 x.2.2.2.1.length c3, .int .i64 x.2.2.2.2] 33)).alloc (.cells #[.bool false, .slice none 0 0] 39))
  clear h k0 k1 k2 k3 hr0 hr1 hr2 hr3
  go_enter Try.func11, Try.ntmps11
  go_wp2_with fail
  refine (diskValidS_v (HX.out.step HM0.out)).mono ?_
  rintro e w2 ⟨rfl, hm2⟩
  have HM2 := Sec.mk (HM0.out.transN hm2)
  have HB2 := Sec.mk (HBX.out.mod hm2 id)
  have HC2 : Sec (Blk w2 (w.heap.size + 1) 39 [.bool false, .slice none 0 0]) := ⟨by have := HBC.out.mod hm2 id; simpa using this⟩
  clear hm2 HM0 HBX HBC
  cases hv : DiskValidL x
  · have HE : Sec (readL x nm = (false, [])) := ⟨HRL.out.trans (if_neg (by rw [hv]; simp))⟩
    have q0 : w2.cell? ⟨w.heap.size + 1, 0, none⟩ = some (.bool false) := HC2.out.cell 0
    have q1 : w2.cell? ⟨w.heap.size + 1, 1, none⟩ = some (.slice none 0 0) := HC2.out.cell 1
    have f0 : w2.frozen? ⟨w.heap.size + 1, 0, none⟩ = false := HC2.out.frozen 0
    have f1 : w2.frozen? ⟨w.heap.size + 1, 1, none⟩ = false := HC2.out.frozen 1
    have hlt2 := HC2.out.lt
    have HC3 := Sec.mk ((HC2.out.set_ 0 (.bool false)).set_ 1 (.slice none 0 0))
    have HM3 := Sec.mk ((HM2.out.setCell (p := ⟨w.heap.size + 1, 0, none⟩) (fun h => absurd h (by simp)) (.bool false)).setCell (p := ⟨w.heap.size + 1, 1, none⟩) (fun h => absurd h (by simp)) (.slice none 0 0))
    clear hv
    go_wp2
    refine bodyPost_ret (results_blk rfl rfl HC3.out Try.underlying39 (by kernel_rfl)) rfl ?_
    rw [HE.out]
    exact ⟨_, rfl, ofContent (x := (false, [])) ⟨[], Own.nil _ _ _, by simp⟩, HM3.out⟩
  have HVL := Sec.mk hv
  have p0 : w2.cell? ⟨w.heap.size, 0, none⟩ = some (.slice A0 x.1.length c0) := HB2.out.cell 0
  have p1 : w2.cell? ⟨w.heap.size, 1, none⟩ = some (.slice A1 x.2.1.length c1) := HB2.out.cell 1
  have hlt2 := HC2.out.lt
  have hlt1 := HB2.out.lt
  clear hv
  go_wp2_with fail
  refine (l1Find_calls (HR1.out.mod (w' := w2) (fun _ h => h) (fun k hk => HM2.out.block k hk id)) nm).mono ?_
  rintro e w3 ⟨rfl, rfl⟩
  cases hh : hasE x.2.1 nm
  · have HE : Sec (readL x nm = (false, [])) := ⟨HRL.out.trans (if_neg (by rw [hh]; simp))⟩
    rw [find_neg (HV1.out HVL.out).1 hh]
    have q0 : w3.cell? ⟨w.heap.size + 1, 0, none⟩ = some (.bool false) := HC2.out.cell 0
    have q1 : w3.cell? ⟨w.heap.size + 1, 1, none⟩ = some (.slice none 0 0) := HC2.out.cell 1
    have f0 : w3.frozen? ⟨w.heap.size + 1, 0, none⟩ = false := HC2.out.frozen 0
    have f1 : w3.frozen? ⟨w.heap.size + 1, 1, none⟩ = false := HC2.out.frozen 1
    have HC3 := Sec.mk ((HC2.out.set_ 0 (.bool false)).set_ 1 (.slice none 0 0))
    have HM3 := Sec.mk ((HM2.out.setCell (p := ⟨w.heap.size + 1, 0, none⟩) (fun h => absurd h (by simp)) (.bool false)).setCell (p := ⟨w.heap.size + 1, 1, none⟩) (fun h => absurd h (by simp)) (.slice none 0 0))
    clear hh
    go_wp2
    refine bodyPost_ret (results_blk rfl rfl HC3.out Try.underlying39 (by kernel_rfl)) rfl ?_
    rw [HE.out]
    exact ⟨_, rfl, ofContent (x := (false, [])) ⟨[], Own.nil _ _ _, by simp⟩, HM3.out⟩
  obtain ⟨hplt, hpn⟩ := (place_at (HV1.out HVL.out).1 nm).1.mp hh
  have hnb := (HV1.out HVL.out).2 _ hplt
  have HE0 : Sec (readL x nm = (true, (x.1[((x.2.1[placeE x.2.1 nm]'hplt).2).toNat]?.getD ([], 0)).1)) := ⟨by rw [HRL.out, if_pos ⟨HVL.out, hh⟩, List.getElem?_eq_getElem hplt]; rfl⟩
  rw [find_pos (HV1.out HVL.out).1 hh]
  obtain ⟨ad, rfl, -, e1, -, -⟩ := ent_at (HR1.out.mod (w' := w3) (fun _ h => h) (fun k hk => HM2.out.block k hk id)) (w' := w3) (fun _ _ => rfl) hplt
  generalize (x.2.1[placeE x.2.1 nm]'hplt).2 = u at *
  generalize placeE x.2.1 nm = pl at *
  obtain ⟨nd, rfl⟩ := Int.eq_ofNat_of_zero_le hnb.1
  have hnl : nd < x.1.length := by have := hnb.2; omega
  have HE1 : Sec (readL x nm = (true, x.1[nd].1)) := ⟨by rw [HE0.out]; show (true, (x.1[nd]?.getD ([], 0)).1) = _; rw [List.getElem?_eq_getElem hnl]; rfl⟩
  obtain ⟨bd, A', c', rfl, n0, n1, hcc, hcm, hrow, hw⟩ := node_at (HR0.out.mod (w' := w3) (fun _ h => h) (fun k hk => HM2.out.block k hk id)) (w' := w3) (fun _ _ => rfl) hnl
  have hdl := (valid_lens HVL.out).2.2 nd hnl
  have HRD := Sec.mk hrow
  clear hrow hw HE0 hh hpn hnb
  generalize x.1[nd].1 = dat at *
  have HPF : Sec (∀ W, New w3 W → W.cell? ⟨w.heap.size, 0, none⟩ = some (.slice (some bd) x.1.length c0) ∧ W.cell? ⟨w.heap.size, 1, none⟩ = some (.slice (some ad) x.2.1.length c1) ∧ W.cell? ⟨(ad.add (pl * 2)).block, (ad.add (pl * 2)).off + 1, none⟩ = some (.int .i64 (nd : Int)) ∧ W.cell? (bd.add (nd * 2)) = some (.slice A' dat.length c')) := ⟨fun W h => ⟨h.cell_of p0, h.cell_of p1, h.cell_of e1, h.cell_of n0⟩⟩
  have HBR : Sec (∀ W, New w3 W → Row Ty.byte W (· < w3.heap.size) A' dat.length dat) := ⟨fun W h => HRD.out.mod (fun k hk => Nat.lt_of_lt_of_le hk HM2.out.size) (fun k hk => h.block k (Nat.lt_of_lt_of_le hk HM2.out.size) id)⟩
  have hpi : (pl : Int) < (x.2.1.length : Int) := by omega
  go_wp2
  have HSS : Sec (New w3 w3.drew) := ⟨(Mod.refl _ _).drew⟩
  refine reg_start [13] (fun W => Sec (New w3 W)) (by kernel_rfl) ?_
  refine reg_take (.pointer (some ⟨w.heap.size, 0, none⟩)) (i := 0) (n := 17) HSS rfl (by kernel_rfl) (by kernel_rfl) (by kernel_rfl) (by kernel_rfl) (fun _ _ _ h => h) (fun W hW => exec_field rfl rfl (fptDisk0 _ _)) ?_
  simp only [Act.put, List.setIfInBounds_toArray, List.set_cons_zero, List.set_cons_succ]
  refine reg_take (.slice (some bd) x.1.length c0) (i := 1) (n := 18) HSS rfl (by kernel_rfl) (by kernel_rfl) (by kernel_rfl) (by kernel_rfl) (fun _ _ _ h => h) (fun W hW => exec_load rfl rfl (ldNodesD (HPF.out W hW.out).1)) ?_
  simp only [Act.put, List.setIfInBounds_toArray, List.set_cons_zero, List.set_cons_succ]
  refine reg_take (.pointer (some ⟨w.heap.size, 1, none⟩)) (i := 2) (n := 19) HSS rfl (by kernel_rfl) (by kernel_rfl) (by kernel_rfl) (by kernel_rfl) (fun _ _ _ h => h) (fun W hW => exec_field rfl rfl (fptDisk1 _ _)) ?_
  simp only [Act.put, List.setIfInBounds_toArray, List.set_cons_zero, List.set_cons_succ]
  refine reg_take (.slice (some ad) x.2.1.length c1) (i := 3) (n := 20) HSS rfl (by kernel_rfl) (by kernel_rfl) (by kernel_rfl) (by kernel_rfl) (fun _ _ _ h => h) (fun W hW => exec_load rfl rfl (ldEntsD (HPF.out W hW.out).2.1)) ?_
  simp only [Act.put, List.setIfInBounds_toArray, List.set_cons_zero, List.set_cons_succ]
  refine reg_take (.int .i64 (pl : Int)) (i := 4) (n := 21) HSS rfl (by kernel_rfl) (by kernel_rfl) (by kernel_rfl) (by kernel_rfl) (fun _ _ _ h => h) (fun W hW => exec_move rfl rfl) ?_
  simp only [Act.put, List.setIfInBounds_toArray, List.set_cons_zero, List.set_cons_succ]
  refine reg_take (.pointer (some (ad.add (pl * 2)))) (i := 5) (n := 22) HSS rfl (by kernel_rfl) (by kernel_rfl) (by kernel_rfl) (by kernel_rfl) (fun _ _ _ h => h) (fun W hW => exec_indexAddr rfl rfl rfl (idxEntryS _ _ _ _ hplt _)) ?_
  simp only [Act.put, List.setIfInBounds_toArray, List.set_cons_zero, List.set_cons_succ]
  refine reg_take (.pointer (some ⟨(ad.add (pl * 2)).block, (ad.add (pl * 2)).off + 1, none⟩)) (i := 6) (n := 23) HSS rfl (by kernel_rfl) (by kernel_rfl) (by kernel_rfl) (by kernel_rfl) (fun _ _ _ h => h) (fun W hW => exec_field rfl rfl (fptEntry1D _ _)) ?_
  simp only [Act.put, List.setIfInBounds_toArray, List.set_cons_zero, List.set_cons_succ]
  refine reg_take (.int .i64 (nd : Int)) (i := 7) (n := 24) HSS rfl (by kernel_rfl) (by kernel_rfl) (by kernel_rfl) (by kernel_rfl) (fun _ _ _ h => h) (fun W hW => exec_load rfl rfl (ldIntD (HPF.out W hW.out).2.2.1)) ?_
  simp only [Act.put, List.setIfInBounds_toArray, List.set_cons_zero, List.set_cons_succ]
  refine reg_take (.pointer (some (bd.add (nd * 2)))) (i := 8) (n := 25) HSS rfl (by kernel_rfl) (by kernel_rfl) (by kernel_rfl) (by kernel_rfl) (fun _ _ _ h => h) (fun W hW => exec_indexAddr rfl rfl rfl (idxNodeS _ _ _ _ hnl _)) ?_
  simp only [Act.put, List.setIfInBounds_toArray, List.set_cons_zero, List.set_cons_succ]
  refine reg_take (.pointer (some (bd.add (nd * 2)))) (i := 9) (n := 26) HSS rfl (by kernel_rfl) (by kernel_rfl) (by kernel_rfl) (by kernel_rfl) (fun _ _ _ h => h) (fun W hW => exec_field rfl rfl (fptNode0D _ _)) ?_
  simp only [Act.put, List.setIfInBounds_toArray, List.set_cons_zero, List.set_cons_succ]
  refine reg_take (.slice A' dat.length c') (i := 10) (n := 27) HSS rfl (by kernel_rfl) (by kernel_rfl) (by kernel_rfl) (by kernel_rfl) (fun _ _ _ h => h) (fun W hW => exec_load rfl rfl (ldBytesD (HPF.out W hW.out).2.2.2)) ?_
  simp only [Act.put, List.setIfInBounds_toArray, List.set_cons_zero, List.set_cons_succ]
  refine reg_step (i := 11) rfl (by kernel_rfl) (fun K hK => ?_)
  refine wp_call (n := 28) (vals := [.slice A' dat.length c']) rfl rfl rfl (by kernel_rfl) (l1Bytes_calls (HBR.out _ HSS.out) (fun k hk => Nat.lt_of_lt_of_le hk HSS.out.size) (by omega)) ?_
  intro e w5 hret
  obtain ⟨A5, c5, rfl, hmine⟩ := hret.mine
  have HMN := Sec.mk (hmine.base HSS.out)
  have HSS : Sec (New w3 w5) := ⟨HSS.out.transN hmine.new⟩
  refine ⟨_, rfl, hK.out _ _ (fun _ => HSS) ?_⟩
  clear hret hmine
  clear hK K
  simp only [Act.put, List.setIfInBounds_toArray, List.set_cons_zero, List.set_cons_succ]
  refine reg_take (.agg #[.bool true, .slice A5 dat.length c5]) (i := 12) (n := 29) HSS rfl (by kernel_rfl) (by kernel_rfl) (by kernel_rfl) (by kernel_rfl) (fun _ _ _ h => h) (fun W hW => exec_build (parts := [(0, .const (.bool true)), (1, .tmp 28)]) rfl rfl (bldContent _ _ _ _)) ?_
  simp only [Act.put, List.setIfInBounds_toArray, List.set_cons_zero, List.set_cons_succ]
  refine reg_step (i := 13) rfl (by kernel_rfl) (fun K hK => ?_)
  have HC5 := Sec.mk (HC2.out.mod HSS.out id)
  refine wp_store rfl rfl rfl rfl (stContent HC5.out A5 dat.length c5) (hK.out _ _ (fun h => absurd (List.mem_singleton.2 rfl) h) ?_)
  clear hK K
  refine reg_done (by kernel_rfl) ?_ _
  have HC6 := Sec.mk ((HC5.out.set_ 0 (.bool true)).set_ 1 (.slice A5 dat.length c5))
  have HM6 := Sec.mk (((HM2.out.transN HSS.out).setCell (p := ⟨w.heap.size + 1, 0, none⟩) (fun h => absurd h (by simp)) (.bool true)).setCell (p := ⟨w.heap.size + 1, 1, none⟩) (fun h => absurd h (by simp)) (.slice A5 dat.length c5))
  obtain ⟨⟨F, ho, hF⟩, -⟩ := HMN.out
  have hne : ∀ k, k ∈ F → k ≠ w.heap.size + 1 := fun k hk e => by have := hF k hk; omega
  have HO6 := Sec.mk ((ho.mod (w' := w5.setCell ⟨w.heap.size + 1, 0, none⟩ (.bool true)) (fun k hk => Below.heap_setCell _ _ _ _ (fun h => hne k hk h))).mod (w' := (w5.setCell ⟨w.heap.size + 1, 0, none⟩ (.bool true)).setCell ⟨w.heap.size + 1, 1, none⟩ (.slice A5 dat.length c5)) (fun k hk => Below.heap_setCell _ _ _ _ (fun h => hne k hk h)))
  have HF6 := Sec.mk (fun k hk => (⟨Nat.le_trans HM2.out.size (hF k hk), HO6.out.lt k hk⟩ : w.heap.size ≤ k ∧ _))
  clear ho hF hne
  go_wp2
  refine bodyPost_ret (results_blk rfl rfl HC6.out Try.underlying39 (by kernel_rfl)) rfl ?_
  rw [HE1.out]
  exact ⟨_, rfl, ofContent (x := (true, dat)) ⟨F, HO6.out, HF6.out⟩, HM6.out⟩
end Go.Proofs.Ytinfibggdbakoaa
