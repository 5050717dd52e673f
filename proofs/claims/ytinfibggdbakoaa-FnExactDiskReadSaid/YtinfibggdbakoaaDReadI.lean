/- The program's reading of a file. -/
import Derived.Test.YtinfibggdbakoaaDReadS
import Derived.Test.YtinfibggdbakoaaValidI
namespace Go.Proofs.Ytinfibggdbakoaa
open Go.RowKit Mem
set_option linter.unusedVariables false
set_option linter.unusedSimpArgs false
set_option maxHeartbeats 4000000 in
set_option maxRecDepth 100000 in
theorem find_no {w : World} {g : Nat} {A1 : Option Addr} {c1 : Nat} {v0 v2 v3 v4 : Value} {xs : List EntryT} {B : Nat → Prop} (hb : Blk w g 33 [v0, .slice A1 xs.length c1, v2, v3, v4]) (h : Row dEntry w B A1 xs.length xs) (hB : ∀ k, B k → k < w.heap.size) (hl : xs.length ≤ 1048576) (ho : Ord xs) (nm : Bytes) (hh : hasE xs nm = false) :
    Calls Try.prog 40 #[.pointer (some ⟨g, 0, none⟩), .string ⟨nm.toArray⟩] w (Ret (.tuple #[.pointer none, .bool false]) w) := by
  have HP := Sec.mk (place_calls (c := c1) h hB hl ho nm)
  have p1 : w.cell? ⟨g, 1, none⟩ = some (.slice A1 xs.length c1) := hb.cell 1
  have hlt := hb.lt
  clear h hB hb
  go_enter Try.func40, Try.ntmps40
  go_wp2_with fail
  refine HP.out.mono ?_
  rintro e w1 ⟨rfl, hm1⟩
  have HM1 := Sec.mk hm1
  rw [hh]
  clear hm1
  go_wp2
  go_ret2
  exact ⟨rfl, HM1.out⟩
set_option maxHeartbeats 4000000 in
set_option maxRecDepth 100000 in
theorem find_yes {w : World} {g : Nat} {A0 A1 : Option Addr} {c0 c1 : Nat} {v2 v3 v4 : Value} {ns : List NodeT} {xs : List EntryT} {B0 B : Nat → Prop} (hb : Blk w g 33 [.slice A0 ns.length c0, .slice A1 xs.length c1, v2, v3, v4]) (hn : Row dNode w B0 A0 ns.length ns) (hB0 : ∀ k, B0 k → k < w.heap.size) (h : Row dEntry w B A1 xs.length xs) (hB : ∀ k, B k → k < w.heap.size) (hl : xs.length ≤ 1048576) (ho : Ord xs) (nm : Bytes) (hh : hasE xs nm = true) {nd : Nat} (hnd : (xs[placeE xs nm]?.getD ([], 0)).2 = nd) (hnl : nd < ns.length) :
    Calls Try.prog 40 #[.pointer (some ⟨g, 0, none⟩), .string ⟨nm.toArray⟩] w (fun e W => ∃ bd : Addr, A0 = some bd ∧ Ret (.tuple #[.pointer (some (bd.add (nd * 2))), .bool true]) w e W) := by
  have HP := Sec.mk (place_calls (c := c1) h hB hl ho nm)
  have p0 : w.cell? ⟨g, 0, none⟩ = some (.slice A0 ns.length c0) := hb.cell 0
  have p1 : w.cell? ⟨g, 1, none⟩ = some (.slice A1 xs.length c1) := hb.cell 1
  have hlt := hb.lt
  obtain ⟨hplt, -⟩ := (place_at ho nm).1.mp hh
  rw [List.getElem?_eq_getElem hplt] at hnd
  have HE := Sec.mk h
  have HN := Sec.mk hn
  have HB0 := Sec.mk hB0
  have HB := Sec.mk hB
  have HBl := Sec.mk hb
  have HND := Sec.mk hnd
  clear h hn hB hB0 hb hnd
  go_enter Try.func40, Try.ntmps40
  go_wp2_with fail
  refine HP.out.mono ?_
  rintro e w1 ⟨rfl, hm1⟩
  have HM1 := Sec.mk hm1
  rw [hh]
  have q0 := (HBl.out.mod hm1 id).cell 0
  have q1 := (HBl.out.mod hm1 id).cell 1
  obtain ⟨ad, hA1, -, e1, -, -⟩ := ent_at (HE.out.mod (w' := w1) (fun _ h => h) (fun k hk => hm1.block k (HB.out k hk) id)) (w' := w1) (fun _ _ => rfl) hplt
  obtain ⟨bd, A', c', hA0, n0, n1, hcc, hcm, hrow, hw⟩ := node_at (HN.out.mod (w' := w1) (fun _ h => h) (fun k hk => hm1.block k (HB0.out k hk) id)) (w' := w1) (fun _ _ => rfl) hnl
  clear hrow hw hm1
  subst hA0 hA1
  have hnd := HND.out
  have e1' : w1.cell? ⟨(ad.add (placeE xs nm * 2)).block, (ad.add (placeE xs nm * 2)).off + 1, none⟩ = some (.int .i64 (nd : Int)) := by rw [e1]; exact congrArg (fun z => some (Value.int .i64 z)) hnd
  clear e1 hnd n0 n1
  generalize placeE xs nm = pl at *
  clear hh
  go_wp2
  refine wp_region_quiet_lit (by kernel_rfl) (by kernel_rfl) ?_
  repeat ((with_reducible refine wpQuiet_step (fun K hK => ?_)); go_simp; first | (refine hK _ ?_; clear hK K) | (apply Exists.intro; refine ⟨fun _ => ?_, hK _ ?_⟩; (fail); clear hK K))
  refine wpQuiet_nil ?_
  intro _ hwq
  obtain ⟨nq, hwqq⟩ := hwq
  subst hwqq
  go_wp2
  go_ret2
  exact ⟨_, rfl, rfl, HM1.out.drewN _⟩
set_option maxHeartbeats 4000000 in
set_option maxRecDepth 100000 in
theorem diskReadI_v {w : World} {v : Value} {x : DiskT} (h : RdV true dDisk w v x) (nm : Bytes) (hn : nm.length ≤ 9223372036854775807) : Calls Try.prog 12 #[v, .string ⟨nm.toArray⟩] w (RetV true dContent w (readL x nm)) := by
  have HX := Sec.mk h
  obtain ⟨v0, v1, v2, v3, rfl, k0, k1, k2, k3⟩ := rdDisk h
  have HV1 := Sec.mk (fun h => valid_names (d := x) h)
  have HV2 := Sec.mk (fun h => valid_lens (d := x) h)
  have HRL : Sec (readL x nm = if DiskValidL x = true ∧ hasE x.2.1 nm = true then (true, (x.1[((x.2.1[placeE x.2.1 nm]?.getD ([], 0)).2).toNat]?.getD ([], 0)).1) else (false, [])) := ⟨rfl⟩
  obtain ⟨A0, c0, rfl, hc0, hr0⟩ := k0.slice
  obtain ⟨A1, c1, rfl, hc1, hr1⟩ := k1.slice
  obtain ⟨A2, c2, rfl, hc2, hr2⟩ := k2.slice
  obtain ⟨A3, c3, rfl, hc3, hr3⟩ := k3.slice
  have HR0 := Sec.mk hr0
  have HR1 := Sec.mk hr1
  have HBX := Sec.mk ((Blk.new w 33 [.slice A0 x.1.length c0, .slice A1 x.2.1.length c1, .slice A2 x.2.2.1.length c2, .slice A3 x.2.2.2.1.length c3, .int .i64 x.2.2.2.2]).alloc (.cells #[.bool false, .slice none 0 0] 39))
  have HBC := Sec.mk (Blk.new (w.alloc (.cells #[.slice A0 x.1.length c0, .slice A1 x.2.1.length c1, .slice A2 x.2.2.1.length c2, .slice A3 x.2.2.2.1.length c3, .int .i64 x.2.2.2.2] 33)) 39 [.bool false, .slice none 0 0])
  have HM0 := Sec.mk (((Mod.refl (fun _ => False) w).alloc (.cells #[.slice A0 x.1.length c0, .slice A1 x.2.1.length c1, .slice A2 x.2.2.1.length c2, .slice A3 x.2.2.2.1.length c3, .int .i64 x.2.2.2.2] 33)).alloc (.cells #[.bool false, .slice none 0 0] 39))
  have p0 := HBX.out.cell 0
  have p1 := HBX.out.cell 1
  have p2 := HBX.out.cell 2
  have p3 := HBX.out.cell 3
  have p4 := HBX.out.cell 4
  clear h k0 k1 k2 k3 hr0 hr1 hr2 hr3
  go_enter Try.func12, Try.ntmps12
  go_wp2_with fail
  refine (diskValidI_v (HX.out.step HM0.out)).mono ?_
  rintro e w2 ⟨rfl, hm2⟩
  have HM2 := Sec.mk (HM0.out.transN hm2)
  have HB2 := Sec.mk (HBX.out.mod hm2 id)
  have HC2 : Sec (Blk w2 (w.heap.size + 1) 39 [.bool false, .slice none 0 0]) := ⟨by have := HBC.out.mod hm2 id; simpa using this⟩
  clear hm2 HM0 HBX HBC p0 p1 p2 p3 p4
  cases hv : DiskValidL x
  · have HE : Sec (readL x nm = (false, [])) := ⟨HRL.out.trans (if_neg (by rw [hv]; simp))⟩
    have q0 : w2.cell? ⟨w.heap.size + 1, 0, none⟩ = some (.bool false) := HC2.out.cell 0
    have q1 : w2.cell? ⟨w.heap.size + 1, 1, none⟩ = some (.slice none 0 0) := HC2.out.cell 1
    have f0 : w2.frozen? ⟨w.heap.size + 1, 0, none⟩ = false := HC2.out.frozen 0
    have f1 : w2.frozen? ⟨w.heap.size + 1, 1, none⟩ = false := HC2.out.frozen 1
    have hlt2 := HC2.out.lt
    have HC3 := Sec.mk ((HC2.out.set_ 0 (.bool false)).set_ 1 (.slice none 0 0))
    have HM3 := Sec.mk ((HM2.out.setCell (p := ⟨w.heap.size + 1, 0, none⟩) (fun h => absurd h (by simp)) (.bool false)).setCell (p := ⟨w.heap.size + 1, 1, none⟩) (fun h => absurd h (by simp)) (.slice none 0 0))
    clear hv
    go_wp2
    refine bodyPost_ret (results_blk rfl rfl HC3.out Try.underlying39 (by kernel_rfl)) rfl ?_
    rw [HE.out]
    exact ⟨_, rfl, ofContent (x := (false, [])) ⟨[], Own.nil _ _ _, by simp⟩, HM3.out⟩
  have HVL := Sec.mk hv
  have hlt2 := HC2.out.lt
  have hlt1 := HB2.out.lt
  clear hv
  go_wp2_with fail
  cases hh : hasE x.2.1 nm
  · have HE : Sec (readL x nm = (false, [])) := ⟨HRL.out.trans (if_neg (by rw [hh]; simp))⟩
    refine (find_no HB2.out (HR1.out.mod (w' := w2) (fun _ h => h) (fun k hk => HM2.out.block k hk id)) (fun k hk => Nat.lt_of_lt_of_le hk HM2.out.size) (by have := (HV2.out HVL.out).2.1; omega) (HV1.out HVL.out).1 nm hh).mono ?_
    rintro e w3 ⟨rfl, hm3⟩
    have HM3 := Sec.mk (HM2.out.transN hm3)
    have HC3 := Sec.mk (HC2.out.mod hm3 id)
    clear hm3
    have q0 : w3.cell? ⟨w.heap.size + 1, 0, none⟩ = some (.bool false) := HC3.out.cell 0
    have q1 : w3.cell? ⟨w.heap.size + 1, 1, none⟩ = some (.slice none 0 0) := HC3.out.cell 1
    have f0 : w3.frozen? ⟨w.heap.size + 1, 0, none⟩ = false := HC3.out.frozen 0
    have f1 : w3.frozen? ⟨w.heap.size + 1, 1, none⟩ = false := HC3.out.frozen 1
    have hlt3 := HC3.out.lt
    have HC4 := Sec.mk ((HC3.out.set_ 0 (.bool false)).set_ 1 (.slice none 0 0))
    have HM4 := Sec.mk ((HM3.out.setCell (p := ⟨w.heap.size + 1, 0, none⟩) (fun h => absurd h (by simp)) (.bool false)).setCell (p := ⟨w.heap.size + 1, 1, none⟩) (fun h => absurd h (by simp)) (.slice none 0 0))
    clear hh
    go_wp2
    refine bodyPost_ret (results_blk rfl rfl HC4.out Try.underlying39 (by kernel_rfl)) rfl ?_
    rw [HE.out]
    exact ⟨_, rfl, ofContent (x := (false, [])) ⟨[], Own.nil _ _ _, by simp⟩, HM4.out⟩
  obtain ⟨hplt, hpn⟩ := (place_at (HV1.out HVL.out).1 nm).1.mp hh
  have hnb := (HV1.out HVL.out).2 _ hplt
  obtain ⟨nd, hnd⟩ := Int.eq_ofNat_of_zero_le hnb.1
  have hnl : nd < x.1.length := by have := hnb.2; omega
  have hge : (x.2.1[placeE x.2.1 nm]?.getD ([], 0)).2 = nd := by rw [List.getElem?_eq_getElem hplt]; exact hnd
  have HE1 : Sec (readL x nm = (true, x.1[nd].1)) := ⟨by rw [HRL.out, if_pos ⟨HVL.out, hh⟩, hge]; show (true, (x.1[nd]?.getD ([], 0)).1) = _; rw [List.getElem?_eq_getElem hnl]; rfl⟩
  refine (find_yes HB2.out (HR0.out.mod (w' := w2) (fun _ h => h) (fun k hk => HM2.out.block k hk id)) (fun k hk => Nat.lt_of_lt_of_le hk HM2.out.size) (HR1.out.mod (w' := w2) (fun _ h => h) (fun k hk => HM2.out.block k hk id)) (fun k hk => Nat.lt_of_lt_of_le hk HM2.out.size) (by have := (HV2.out HVL.out).2.1; omega) (HV1.out HVL.out).1 nm hh hge hnl).mono ?_
  rintro e w3 ⟨bd, hA0, rfl, hm3⟩
  have HM3 := Sec.mk (HM2.out.transN hm3)
  have HC3 := Sec.mk (HC2.out.mod hm3 id)
  have HRN := Sec.mk (HR0.out.mod (w' := w3) (fun _ h => h) (fun k hk => HM3.out.block k hk id))
  clear hm3 hge hnd hpn hnb hplt
  obtain ⟨bd', A', c', hA', n0, n1, hcc, hcm, hrow, hw⟩ := node_at HRN.out (w' := w3) (fun _ _ => rfl) hnl
  obtain rfl : bd = bd' := by rw [hA0] at hA'; exact Option.some.inj hA'
  clear hA' hA0 n1 hw
  have hdl := (valid_lens HVL.out).2.2 nd hnl
  have HRD := Sec.mk (hrow.mod (w' := w3) (fun k hk => (Nat.lt_of_lt_of_le hk HM3.out.size : k < w3.heap.size)) (fun k hk => rfl))
  clear hrow hh
  generalize x.1[nd].1 = dat at *
  have HPF : Sec (∀ W, New w3 W → W.cell? (bd.add (nd * 2)) = some (.slice A' dat.length c')) := ⟨fun W h => h.cell_of n0⟩
  have HBR : Sec (∀ W, New w3 W → Row Ty.byte W (· < w3.heap.size) A' dat.length dat) := ⟨fun W h => HRD.out.mod (fun k hk => hk) (fun k hk => h.block k hk id)⟩
  have hlt3 := HC3.out.lt
  generalize bd.add (nd * 2) = pa at *
  have na := HPF.out (w3.alloc (.cells #[] 5)) ((Mod.refl _ _).alloc _)
  have HO1 := Sec.mk (Mine.lit0 (w := w3) 5 (g := w3.heap.size) rfl (Mod.refl _ _))
  clear n0
  go_wp2_with (at_builtin; go_loud (refine wpList_app _ rfl (.tmp 19) (.tmp 23) _ rfl Try.underlying37 elt_byte flat_byte rfl rfl HO1.out (HBR.out _ HO1.out.new) (show ([] : Bytes).length + dat.length ≤ 34359738368 by simp; omega) ?_; intro A4 n4 c4 w4 ho4; have HO4 := Sec.mk ho4; have HC4 := Sec.mk (HC3.out.mod ho4.new id); clear ho4; have q0 : w4.cell? ⟨w.heap.size + 1, 0, none⟩ = some (.bool false) := HC4.out.cell 0; have q1 : w4.cell? ⟨w.heap.size + 1, 1, none⟩ = some (.slice none 0 0) := HC4.out.cell 1; have f0 : w4.frozen? ⟨w.heap.size + 1, 0, none⟩ = false := HC4.out.frozen 0; have f1 : w4.frozen? ⟨w.heap.size + 1, 1, none⟩ = false := HC4.out.frozen 1))
  have hn4 := HO4.out.len.1
  rw [List.nil_append] at hn4
  have HO5 : Sec (Mine Ty.byte 5 w3 w4 (.slice A4 dat.length c4) dat) := ⟨by have := HO4.out; rw [List.nil_append] at this; rw [← hn4]; exact this⟩
  have HC6 := Sec.mk ((HC4.out.set_ 0 (.bool true)).set_ 1 (.slice A4 n4 c4))
  subst hn4
  have HM6 := Sec.mk (((HM3.out.transN HO5.out.new).setCell (p := ⟨w.heap.size + 1, 0, none⟩) (fun h => absurd h (by simp)) (.bool true)).setCell (p := ⟨w.heap.size + 1, 1, none⟩) (fun h => absurd h (by simp)) (.slice A4 dat.length c4))
  obtain ⟨⟨F, ho, hF⟩, -⟩ := HO5.out
  have hne : ∀ k, k ∈ F → k ≠ w.heap.size + 1 := fun k hk e => by have := hF k hk; omega
  have HO6 := Sec.mk ((ho.mod (w' := w4.setCell ⟨w.heap.size + 1, 0, none⟩ (.bool true)) (fun k hk => Below.heap_setCell _ _ _ _ (fun h => hne k hk h))).mod (w' := (w4.setCell ⟨w.heap.size + 1, 0, none⟩ (.bool true)).setCell ⟨w.heap.size + 1, 1, none⟩ (.slice A4 dat.length c4)) (fun k hk => Below.heap_setCell _ _ _ _ (fun h => hne k hk h)))
  have HF6 := Sec.mk (fun k hk => (⟨Nat.le_trans HM3.out.size (hF k hk), HO6.out.lt k hk⟩ : w.heap.size ≤ k ∧ _))
  clear ho hF hne
  refine bodyPost_ret (results_blk rfl rfl HC6.out Try.underlying39 (by kernel_rfl)) rfl ?_
  rw [HE1.out]
  exact ⟨_, rfl, ofContent (x := (true, dat)) ⟨F, HO6.out, HF6.out⟩, HM6.out⟩
end Go.Proofs.Ytinfibggdbakoaa
