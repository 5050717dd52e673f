/- The program's reading of a file. The program's operations on a disk that lies in a cell: found, summed. The program's operations on a disk that lies in a cell: a change of names noted. The program's operations on a disk that lies in a cell: a new node. -/
import Derived.Test.YtkkgighgnbbgiaaDoorPk10
import Derived.Test.YtkkgighgnbbgiaaDoorPk11
import Derived.Test.YtkkgighgnbbgiaaDoorPk7
import Derived.Test.YtkkgighgnbbgiaaDoorPk6
namespace Go.Proofs.YtkkgighgnbbgiaaDoor
open Go.RowKit Mem
set_option linter.unusedVariables false
set_option linter.unusedSimpArgs false
set_option maxHeartbeats 4000000 in
set_option maxRecDepth 100000 in
theorem find_no {w : World} {g : Nat} {A1 : Option Addr} {c1 : Nat} {v0 v2 v3 v4 : Value} {xs : List EntryT} {B : Nat → Prop} (hb : Blk w g 27 [v0, .slice A1 xs.length c1, v2, v3, v4]) (h : Row dEntry w B A1 xs.length xs) (hB : ∀ k, B k → k < w.heap.size) (hl : xs.length ≤ 1048576) (ho : Ord xs) (nm : Bytes) (hh : hasE xs nm = false) :
    Calls Tryd.prog 28 #[.pointer (some ⟨g, 0, none⟩), .string ⟨nm.toArray⟩] w (Ret (.tuple #[.pointer none, .bool false]) w) := by
  have HP := Sec.mk (place_calls (c := c1) h hB hl ho nm)
  have p1 : w.cell? ⟨g, 1, none⟩ = some (.slice A1 xs.length c1) := hb.cell 1
  have hlt := hb.lt
  clear h hB hb
  go_enter Tryd.func28, Tryd.ntmps28
  go_wp2_with fail
  refine HP.out.mono ?_
  rintro e w1 ⟨rfl, hm1⟩
  have HM1 := Sec.mk hm1
  rw [hh]
  clear hm1
  go_wp2
  go_ret2
  exact ⟨rfl, HM1.out⟩
set_option maxHeartbeats 4000000 in
set_option maxRecDepth 100000 in
theorem find_yes {w : World} {g : Nat} {A0 A1 : Option Addr} {c0 c1 : Nat} {v2 v3 v4 : Value} {ns : List NodeT} {xs : List EntryT} {B0 B : Nat → Prop} (hb : Blk w g 27 [.slice A0 ns.length c0, .slice A1 xs.length c1, v2, v3, v4]) (hn : Row dNode w B0 A0 ns.length ns) (hB0 : ∀ k, B0 k → k < w.heap.size) (h : Row dEntry w B A1 xs.length xs) (hB : ∀ k, B k → k < w.heap.size) (hl : xs.length ≤ 1048576) (ho : Ord xs) (nm : Bytes) (hh : hasE xs nm = true) {nd : Nat} (hnd : (xs[placeE xs nm]?.getD ([], 0)).2 = nd) (hnl : nd < ns.length) :
    Calls Tryd.prog 28 #[.pointer (some ⟨g, 0, none⟩), .string ⟨nm.toArray⟩] w (fun e W => ∃ bd : Addr, A0 = some bd ∧ Ret (.tuple #[.pointer (some (bd.add (nd * 2))), .bool true]) w e W) := by
  have HP := Sec.mk (place_calls (c := c1) h hB hl ho nm)
  have p0 : w.cell? ⟨g, 0, none⟩ = some (.slice A0 ns.length c0) := hb.cell 0
  have p1 : w.cell? ⟨g, 1, none⟩ = some (.slice A1 xs.length c1) := hb.cell 1
  have hlt := hb.lt
  obtain ⟨hplt, -⟩ := (place_at ho nm).1.mp hh
  rw [List.getElem?_eq_getElem hplt] at hnd
  have HE := Sec.mk h
  have HN := Sec.mk hn
  have HB0 := Sec.mk hB0
  have HB := Sec.mk hB
  have HBl := Sec.mk hb
  have HND := Sec.mk hnd
  clear h hn hB hB0 hb hnd
  go_enter Tryd.func28, Tryd.ntmps28
  go_wp2_with fail
  refine HP.out.mono ?_
  rintro e w1 ⟨rfl, hm1⟩
  have HM1 := Sec.mk hm1
  rw [hh]
  have q0 := (HBl.out.mod hm1 id).cell 0
  have q1 := (HBl.out.mod hm1 id).cell 1
  obtain ⟨ad, hA1, -, e1, -, -⟩ := ent_at (HE.out.mod (w' := w1) (fun _ h => h) (fun k hk => hm1.block k (HB.out k hk) id)) (w' := w1) (fun _ _ => rfl) hplt
  obtain ⟨bd, A', c', hA0, n0, n1, hcc, hcm, hrow, hw⟩ := node_at (HN.out.mod (w' := w1) (fun _ h => h) (fun k hk => hm1.block k (HB0.out k hk) id)) (w' := w1) (fun _ _ => rfl) hnl
  clear hrow hw hm1
  subst hA0 hA1
  have hnd := HND.out
  have e1' : w1.cell? ⟨(ad.add (placeE xs nm * 2)).block, (ad.add (placeE xs nm * 2)).off + 1, none⟩ = some (.int .i64 (nd : Int)) := by rw [e1]; exact congrArg (fun z => some (Value.int .i64 z)) hnd
  clear e1 hnd n0 n1
  generalize placeE xs nm = pl at *
  clear hh
  go_wp2
  refine wp_region_quiet_lit (by kernel_rfl) (by kernel_rfl) ?_
  repeat ((with_reducible refine wpQuiet_step (fun K hK => ?_)); go_simp; first | (refine hK _ ?_; clear hK K) | (apply Exists.intro; refine ⟨fun _ => ?_, hK _ ?_⟩; (fail); clear hK K))
  refine wpQuiet_nil ?_
  intro _ hwq
  obtain ⟨nq, hwqq⟩ := hwq
  subst hwqq
  go_wp2
  go_ret2
  exact ⟨_, rfl, rfl, HM1.out.drewN _⟩
set_option maxHeartbeats 4000000 in
set_option maxRecDepth 100000 in
theorem diskReadI_v {w : World} {v : Value} {x : DiskT} (h : RdV true dDisk w v x) (nm : Bytes) (hn : nm.length ≤ 9223372036854775807) : Calls Tryd.prog 11 #[v, .string ⟨nm.toArray⟩] w (RetV true dContent w (readL x nm)) := by
  have HX := Sec.mk h
  obtain ⟨v0, v1, v2, v3, rfl, k0, k1, k2, k3⟩ := rdDisk h
  have HV1 := Sec.mk (fun h => valid_names (d := x) h)
  have HV2 := Sec.mk (fun h => valid_lens (d := x) h)
  have HRL : Sec (readL x nm = if DiskValidL x = true ∧ hasE x.2.1 nm = true then (true, (x.1[((x.2.1[placeE x.2.1 nm]?.getD ([], 0)).2).toNat]?.getD ([], 0)).1) else (false, [])) := ⟨rfl⟩
  obtain ⟨A0, c0, rfl, hc0, hr0⟩ := k0.slice
  obtain ⟨A1, c1, rfl, hc1, hr1⟩ := k1.slice
  obtain ⟨A2, c2, rfl, hc2, hr2⟩ := k2.slice
  obtain ⟨A3, c3, rfl, hc3, hr3⟩ := k3.slice
  have HR0 := Sec.mk hr0
  have HR1 := Sec.mk hr1
  have HBX := Sec.mk ((Blk.new w 27 [.slice A0 x.1.length c0, .slice A1 x.2.1.length c1, .slice A2 x.2.2.1.length c2, .slice A3 x.2.2.2.1.length c3, .int .i64 x.2.2.2.2]).alloc (.cells #[.bool false, .slice none 0 0] 45))
  have HBC := Sec.mk (Blk.new (w.alloc (.cells #[.slice A0 x.1.length c0, .slice A1 x.2.1.length c1, .slice A2 x.2.2.1.length c2, .slice A3 x.2.2.2.1.length c3, .int .i64 x.2.2.2.2] 27)) 45 [.bool false, .slice none 0 0])
  have HM0 := Sec.mk (((Mod.refl (fun _ => False) w).alloc (.cells #[.slice A0 x.1.length c0, .slice A1 x.2.1.length c1, .slice A2 x.2.2.1.length c2, .slice A3 x.2.2.2.1.length c3, .int .i64 x.2.2.2.2] 27)).alloc (.cells #[.bool false, .slice none 0 0] 45))
  have p0 := HBX.out.cell 0
  have p1 := HBX.out.cell 1
  have p2 := HBX.out.cell 2
  have p3 := HBX.out.cell 3
  have p4 := HBX.out.cell 4
  clear h k0 k1 k2 k3 hr0 hr1 hr2 hr3
  go_enter Tryd.func11, Tryd.ntmps11
  go_wp2_with fail
  refine (diskValidI_v (HX.out.step HM0.out)).mono ?_
  rintro e w2 ⟨rfl, hm2⟩
  have HM2 := Sec.mk (HM0.out.transN hm2)
  have HB2 := Sec.mk (HBX.out.mod hm2 id)
  have HC2 : Sec (Blk w2 (w.heap.size + 1) 45 [.bool false, .slice none 0 0]) := ⟨by have := HBC.out.mod hm2 id; simpa using this⟩
  clear hm2 HM0 HBX HBC p0 p1 p2 p3 p4
  cases hv : DiskValidL x
  · have HE : Sec (readL x nm = (false, [])) := ⟨HRL.out.trans (if_neg (by rw [hv]; simp))⟩
    have q0 : w2.cell? ⟨w.heap.size + 1, 0, none⟩ = some (.bool false) := HC2.out.cell 0
    have q1 : w2.cell? ⟨w.heap.size + 1, 1, none⟩ = some (.slice none 0 0) := HC2.out.cell 1
    have f0 : w2.frozen? ⟨w.heap.size + 1, 0, none⟩ = false := HC2.out.frozen 0
    have f1 : w2.frozen? ⟨w.heap.size + 1, 1, none⟩ = false := HC2.out.frozen 1
    have hlt2 := HC2.out.lt
    have HC3 := Sec.mk ((HC2.out.set_ 0 (.bool false)).set_ 1 (.slice none 0 0))
    have HM3 := Sec.mk ((HM2.out.setCell (p := ⟨w.heap.size + 1, 0, none⟩) (fun h => absurd h (by simp)) (.bool false)).setCell (p := ⟨w.heap.size + 1, 1, none⟩) (fun h => absurd h (by simp)) (.slice none 0 0))
    clear hv
    go_wp2
    refine bodyPost_ret (results_blk rfl rfl HC3.out Tryd.underlying45 (by kernel_rfl)) rfl ?_
    rw [HE.out]
    exact ⟨_, rfl, ofContent (x := (false, [])) ⟨[], Own.nil _ _ _, by simp⟩, HM3.out⟩
  have HVL := Sec.mk hv
  have hlt2 := HC2.out.lt
  have hlt1 := HB2.out.lt
  clear hv
  go_wp2_with fail
  cases hh : hasE x.2.1 nm
  · have HE : Sec (readL x nm = (false, [])) := ⟨HRL.out.trans (if_neg (by rw [hh]; simp))⟩
    refine (find_no HB2.out (HR1.out.mod (w' := w2) (fun _ h => h) (fun k hk => HM2.out.block k hk id)) (fun k hk => Nat.lt_of_lt_of_le hk HM2.out.size) (by have := (HV2.out HVL.out).2.1; omega) (HV1.out HVL.out).1 nm hh).mono ?_
    rintro e w3 ⟨rfl, hm3⟩
    have HM3 := Sec.mk (HM2.out.transN hm3)
    have HC3 := Sec.mk (HC2.out.mod hm3 id)
    clear hm3
    have q0 : w3.cell? ⟨w.heap.size + 1, 0, none⟩ = some (.bool false) := HC3.out.cell 0
    have q1 : w3.cell? ⟨w.heap.size + 1, 1, none⟩ = some (.slice none 0 0) := HC3.out.cell 1
    have f0 : w3.frozen? ⟨w.heap.size + 1, 0, none⟩ = false := HC3.out.frozen 0
    have f1 : w3.frozen? ⟨w.heap.size + 1, 1, none⟩ = false := HC3.out.frozen 1
    have hlt3 := HC3.out.lt
    have HC4 := Sec.mk ((HC3.out.set_ 0 (.bool false)).set_ 1 (.slice none 0 0))
    have HM4 := Sec.mk ((HM3.out.setCell (p := ⟨w.heap.size + 1, 0, none⟩) (fun h => absurd h (by simp)) (.bool false)).setCell (p := ⟨w.heap.size + 1, 1, none⟩) (fun h => absurd h (by simp)) (.slice none 0 0))
    clear hh
    go_wp2
    refine bodyPost_ret (results_blk rfl rfl HC4.out Tryd.underlying45 (by kernel_rfl)) rfl ?_
    rw [HE.out]
    exact ⟨_, rfl, ofContent (x := (false, [])) ⟨[], Own.nil _ _ _, by simp⟩, HM4.out⟩
  obtain ⟨hplt, hpn⟩ := (place_at (HV1.out HVL.out).1 nm).1.mp hh
  have hnb := (HV1.out HVL.out).2 _ hplt
  obtain ⟨nd, hnd⟩ := Int.eq_ofNat_of_zero_le hnb.1
  have hnl : nd < x.1.length := by have := hnb.2; omega
  have hge : (x.2.1[placeE x.2.1 nm]?.getD ([], 0)).2 = nd := by rw [List.getElem?_eq_getElem hplt]; exact hnd
  have HE1 : Sec (readL x nm = (true, x.1[nd].1)) := ⟨by rw [HRL.out, if_pos ⟨HVL.out, hh⟩, hge]; show (true, (x.1[nd]?.getD ([], 0)).1) = _; rw [List.getElem?_eq_getElem hnl]; rfl⟩
  refine (find_yes HB2.out (HR0.out.mod (w' := w2) (fun _ h => h) (fun k hk => HM2.out.block k hk id)) (fun k hk => Nat.lt_of_lt_of_le hk HM2.out.size) (HR1.out.mod (w' := w2) (fun _ h => h) (fun k hk => HM2.out.block k hk id)) (fun k hk => Nat.lt_of_lt_of_le hk HM2.out.size) (by have := (HV2.out HVL.out).2.1; omega) (HV1.out HVL.out).1 nm hh hge hnl).mono ?_
  rintro e w3 ⟨bd, hA0, rfl, hm3⟩
  have HM3 := Sec.mk (HM2.out.transN hm3)
  have HC3 := Sec.mk (HC2.out.mod hm3 id)
  have HRN := Sec.mk (HR0.out.mod (w' := w3) (fun _ h => h) (fun k hk => HM3.out.block k hk id))
  clear hm3 hge hnd hpn hnb hplt
  obtain ⟨bd', A', c', hA', n0, n1, hcc, hcm, hrow, hw⟩ := node_at HRN.out (w' := w3) (fun _ _ => rfl) hnl
  obtain rfl : bd = bd' := by rw [hA0] at hA'; exact Option.some.inj hA'
  clear hA' hA0 n1 hw
  have hdl := (valid_lens HVL.out).2.2 nd hnl
  have HRD := Sec.mk (hrow.mod (w' := w3) (fun k hk => (Nat.lt_of_lt_of_le hk HM3.out.size : k < w3.heap.size)) (fun k hk => rfl))
  clear hrow hh
  generalize x.1[nd].1 = dat at *
  have HPF : Sec (∀ W, New w3 W → W.cell? (bd.add (nd * 2)) = some (.slice A' dat.length c')) := ⟨fun W h => h.cell_of n0⟩
  have HBR : Sec (∀ W, New w3 W → Row Ty.byte W (· < w3.heap.size) A' dat.length dat) := ⟨fun W h => HRD.out.mod (fun k hk => hk) (fun k hk => h.block k hk id)⟩
  have hlt3 := HC3.out.lt
  generalize bd.add (nd * 2) = pa at *
  have na := HPF.out (w3.alloc (.cells #[] 5)) ((Mod.refl _ _).alloc _)
  have HO1 := Sec.mk (Mine.lit0 (w := w3) 5 (g := w3.heap.size) rfl (Mod.refl _ _))
  clear n0
  go_wp2_with (at_builtin; go_loud (refine wpList_app _ rfl (.tmp 19) (.tmp 23) _ rfl Tryd.underlying22 elt_byte flat_byte rfl rfl HO1.out (HBR.out _ HO1.out.new) (show ([] : Bytes).length + dat.length ≤ 34359738368 by simp; omega) ?_; intro A4 n4 c4 w4 ho4; have HO4 := Sec.mk ho4; have HC4 := Sec.mk (HC3.out.mod ho4.new id); clear ho4; have q0 : w4.cell? ⟨w.heap.size + 1, 0, none⟩ = some (.bool false) := HC4.out.cell 0; have q1 : w4.cell? ⟨w.heap.size + 1, 1, none⟩ = some (.slice none 0 0) := HC4.out.cell 1; have f0 : w4.frozen? ⟨w.heap.size + 1, 0, none⟩ = false := HC4.out.frozen 0; have f1 : w4.frozen? ⟨w.heap.size + 1, 1, none⟩ = false := HC4.out.frozen 1))
  have hn4 := HO4.out.len.1
  rw [List.nil_append] at hn4
  have HO5 : Sec (Mine Ty.byte 5 w3 w4 (.slice A4 dat.length c4) dat) := ⟨by have := HO4.out; rw [List.nil_append] at this; rw [← hn4]; exact this⟩
  have HC6 := Sec.mk ((HC4.out.set_ 0 (.bool true)).set_ 1 (.slice A4 n4 c4))
  subst hn4
  have HM6 := Sec.mk (((HM3.out.transN HO5.out.new).setCell (p := ⟨w.heap.size + 1, 0, none⟩) (fun h => absurd h (by simp)) (.bool true)).setCell (p := ⟨w.heap.size + 1, 1, none⟩) (fun h => absurd h (by simp)) (.slice A4 dat.length c4))
  obtain ⟨⟨F, ho, hF⟩, -⟩ := HO5.out
  have hne : ∀ k, k ∈ F → k ≠ w.heap.size + 1 := fun k hk e => by have := hF k hk; omega
  have HO6 := Sec.mk ((ho.mod (w' := w4.setCell ⟨w.heap.size + 1, 0, none⟩ (.bool true)) (fun k hk => Below.heap_setCell _ _ _ _ (fun h => hne k hk h))).mod (w' := (w4.setCell ⟨w.heap.size + 1, 0, none⟩ (.bool true)).setCell ⟨w.heap.size + 1, 1, none⟩ (.slice A4 dat.length c4)) (fun k hk => Below.heap_setCell _ _ _ _ (fun h => hne k hk h)))
  have HF6 := Sec.mk (fun k hk => (⟨Nat.le_trans HM3.out.size (hF k hk), HO6.out.lt k hk⟩ : w.heap.size ≤ k ∧ _))
  clear ho hF hne
  refine bodyPost_ret (results_blk rfl rfl HC6.out Tryd.underlying45 (by kernel_rfl)) rfl ?_
  rw [HE1.out]
  exact ⟨_, rfl, ofContent (x := (true, dat)) ⟨F, HO6.out, HF6.out⟩, HM6.out⟩
end Go.Proofs.YtkkgighgnbbgiaaDoor

namespace Go.Proofs.YtkkgighgnbbgiaaDoor
open Go.RowKit Mem
set_option linter.unusedVariables false
set_option linter.unusedSimpArgs false
abbrev errT : TypeId := 115
structure ErrEnv (lo : Nat) (w : World) (ea : Nat → Addr) : Prop where
  c2 : w.cell? ⟨0, 0, none⟩ = some (.iface errT (.pointer (some (ea 2))))
  c3 : w.cell? ⟨1, 0, none⟩ = some (.iface errT (.pointer (some (ea 3))))
  c4 : w.cell? ⟨2, 0, none⟩ = some (.iface errT (.pointer (some (ea 4))))
  c5 : w.cell? ⟨3, 0, none⟩ = some (.iface errT (.pointer (some (ea 5))))
  c6 : w.cell? ⟨4, 0, none⟩ = some (.iface errT (.pointer (some (ea 6))))
  row : ∀ i, 2 ≤ i → i ≤ 6 → (ea i).block < lo ∧ ∃ c t, w.heap[(ea i).block]? = some (.cells c t (0, 0))
  ne : ∀ i j, 2 ≤ i → i ≤ 6 → 2 ≤ j → j ≤ 6 → i ≠ j → ea i ≠ ea j
  gl : 0 < lo ∧ 1 < lo ∧ 2 < lo ∧ 3 < lo ∧ 4 < lo
theorem ErrEnv.mod {lo : Nat} {w w' : World} {ea : Nat → Addr} (h : ErrEnv lo w ea) (hm : Mod (fun k => lo ≤ k) w w') : ErrEnv lo w' ea := by
  have key : ∀ (b : Nat) (v : Value), b < lo → w.cell? ⟨b, 0, none⟩ = some v → w'.cell? ⟨b, 0, none⟩ = some v := fun b v hb hc => (hm.cell (World.block_lt_of_cell? w _ hc) (by show ¬ lo ≤ b; omega)).trans hc
  refine ⟨key _ _ h.gl.1 h.c2, key _ _ h.gl.2.1 h.c3, key _ _ h.gl.2.2.1 h.c4, key _ _ h.gl.2.2.2.1 h.c5, key _ _ h.gl.2.2.2.2 h.c6, fun i h1 h2 => ?_, h.ne, h.gl⟩
  obtain ⟨h3, c, t, h4⟩ := h.row i h1 h2
  exact ⟨h3, c, t, (hm.block _ (Array.getElem?_eq_some_iff.1 h4).1 (by show ¬ lo ≤ _; omega)).trans h4⟩
def errV (ea : Nat → Addr) (c : Int) : Value := if c = 0 then .nilIface else .iface errT (.pointer (some (ea c.toNat)))
def DSt (lo g : Nat) (tl : List Value) (w : World) (d : DiskT) : Prop :=
  ∃ t v0 v1 v2 v3, Blk w g t (v0 :: v1 :: v2 :: v3 :: .int .i64 d.2.2.2.2 :: tl) ∧ Out4 (fun k => lo ≤ k ∧ k ≠ g) w v0 v1 v2 v3 d ∧ lo ≤ g
def RetDo (lo g : Nat) (tl : List Value) (ea : Nat → Addr) (w : World) (r : DiskT × Int) (e : Ending) (w' : World) : Prop :=
  e = .returned (errV ea r.2) ∧ DSt lo g tl w' r.1 ∧ Mod (fun k => lo ≤ k) w w'
theorem DSt.new {lo g : Nat} {tl : List Value} {w w' : World} {d : DiskT} (h : DSt lo g tl w d) (hm : New w w') : DSt lo g tl w' d := by
  obtain ⟨t, v0, v1, v2, v3, hb, ho, hg⟩ := h
  exact ⟨t, v0, v1, v2, v3, hb.mod hm id, ho.new hm, hg⟩
theorem DSt.rows {lo g : Nat} {tl : List Value} {w : World} {d : DiskT} (h : DSt lo g tl w d) : ∃ t A0 c0 A1 c1 A2 c2 A3 c3, Blk w g t (.slice A0 d.1.length c0 :: .slice A1 d.2.1.length c1 :: .slice A2 d.2.2.1.length c2 :: .slice A3 d.2.2.2.1.length c3 :: .int .i64 d.2.2.2.2 :: tl) ∧
    Out4 (fun k => lo ≤ k ∧ k ≠ g) w (.slice A0 d.1.length c0) (.slice A1 d.2.1.length c1) (.slice A2 d.2.2.1.length c2) (.slice A3 d.2.2.2.1.length c3) d ∧ lo ≤ g ∧ Row dNode w (· < w.heap.size) A0 d.1.length d.1 ∧ Row dEntry w (· < w.heap.size) A1 d.2.1.length d.2.1 ∧ d.1.length ≤ c0 ∧ d.2.1.length ≤ c1 ∧ d.2.2.1.length ≤ c2 ∧ d.2.2.2.1.length ≤ c3 := by
  obtain ⟨t, v0, v1, v2, v3, hb, ho, hg⟩ := h
  obtain ⟨A0, c0, A1, c1, A2, c2, A3, c3, rfl, rfl, rfl, rfl, b0, b1, b2, b3⟩ := ho.forms
  have ho' := ho
  obtain ⟨F0, F1, F2, F3, o0, o1, -⟩ := ho
  exact ⟨t, A0, c0, A1, c1, A2, c2, A3, c3, hb, ho', hg, (o0.row rfl).mod (fun k hk => o0.lt k hk) (fun _ _ => rfl), (o1.row rfl).mod (fun k hk => o1.lt k hk) (fun _ _ => rfl), b0, b1, b2, b3⟩
set_option maxHeartbeats 4000000 in
set_option maxRecDepth 100000 in
theorem findG_no {w : World} {g : Nat} {A1 : Option Addr} {c1 : Nat} {v0 : Value} {t : TypeId} {tl : List Value} {xs : List EntryT} {B : Nat → Prop} (hb : Blk w g t (v0 :: .slice A1 xs.length c1 :: tl)) (h : Row dEntry w B A1 xs.length xs) (hB : ∀ k, B k → k < w.heap.size) (hl : xs.length ≤ 1048576) (ho : Ord xs) (nm : Bytes) (hh : hasE xs nm = false) :
    Calls Tryd.prog 28 #[.pointer (some ⟨g, 0, none⟩), .string ⟨nm.toArray⟩] w (Ret (.tuple #[.pointer none, .bool false]) w) := by
  have HP := Sec.mk (place_calls (c := c1) h hB hl ho nm)
  have p1 : w.cell? ⟨g, 1, none⟩ = some (.slice A1 xs.length c1) := hb.cell 1
  have hlt := hb.lt
  clear h hB hb
  go_enter Tryd.func28, Tryd.ntmps28
  go_wp2_with fail
  refine HP.out.mono ?_
  rintro e w1 ⟨rfl, hm1⟩
  have HM1 := Sec.mk hm1
  rw [hh]
  clear hm1
  go_wp2
  go_ret2
  exact ⟨rfl, HM1.out⟩
set_option maxHeartbeats 4000000 in
set_option maxRecDepth 100000 in
theorem findG_yes {w : World} {g : Nat} {A0 A1 : Option Addr} {c0 c1 : Nat} {t : TypeId} {tl : List Value} {ns : List NodeT} {xs : List EntryT} {B0 B : Nat → Prop} (hb : Blk w g t (.slice A0 ns.length c0 :: .slice A1 xs.length c1 :: tl)) (hn : Row dNode w B0 A0 ns.length ns) (hB0 : ∀ k, B0 k → k < w.heap.size) (h : Row dEntry w B A1 xs.length xs) (hB : ∀ k, B k → k < w.heap.size) (hl : xs.length ≤ 1048576) (ho : Ord xs) (nm : Bytes) (hh : hasE xs nm = true) {nd : Nat} (hnd : (xs[placeE xs nm]?.getD ([], 0)).2 = nd) (hnl : nd < ns.length) :
    Calls Tryd.prog 28 #[.pointer (some ⟨g, 0, none⟩), .string ⟨nm.toArray⟩] w (fun e W => ∃ bd : Addr, A0 = some bd ∧ Ret (.tuple #[.pointer (some (bd.add (nd * 2))), .bool true]) w e W) := by
  have HP := Sec.mk (place_calls (c := c1) h hB hl ho nm)
  have p0 : w.cell? ⟨g, 0, none⟩ = some (.slice A0 ns.length c0) := hb.cell 0
  have p1 : w.cell? ⟨g, 1, none⟩ = some (.slice A1 xs.length c1) := hb.cell 1
  have hlt := hb.lt
  obtain ⟨hplt, -⟩ := (place_at ho nm).1.mp hh
  rw [List.getElem?_eq_getElem hplt] at hnd
  have HE := Sec.mk h
  have HN := Sec.mk hn
  have HB0 := Sec.mk hB0
  have HB := Sec.mk hB
  have HBl := Sec.mk hb
  have HND := Sec.mk hnd
  clear h hn hB hB0 hb hnd
  go_enter Tryd.func28, Tryd.ntmps28
  go_wp2_with fail
  refine HP.out.mono ?_
  rintro e w1 ⟨rfl, hm1⟩
  have HM1 := Sec.mk hm1
  rw [hh]
  have q0 := (HBl.out.mod hm1 id).cell 0
  have q1 := (HBl.out.mod hm1 id).cell 1
  obtain ⟨ad, hA1, -, e1, -, -⟩ := ent_at (HE.out.mod (w' := w1) (fun _ h => h) (fun k hk => hm1.block k (HB.out k hk) id)) (w' := w1) (fun _ _ => rfl) hplt
  obtain ⟨bd, A', c', hA0, n0, n1, hcc, hcm, hrow, hw⟩ := node_at (HN.out.mod (w' := w1) (fun _ h => h) (fun k hk => hm1.block k (HB0.out k hk) id)) (w' := w1) (fun _ _ => rfl) hnl
  clear hrow hw hm1
  subst hA0 hA1
  have hnd := HND.out
  have e1' : w1.cell? ⟨(ad.add (placeE xs nm * 2)).block, (ad.add (placeE xs nm * 2)).off + 1, none⟩ = some (.int .i64 (nd : Int)) := by rw [e1]; exact congrArg (fun z => some (Value.int .i64 z)) hnd
  clear e1 hnd n0 n1
  generalize placeE xs nm = pl at *
  clear hh
  go_wp2
  refine wp_region_quiet_lit (by kernel_rfl) (by kernel_rfl) ?_
  repeat ((with_reducible refine wpQuiet_step (fun K hK => ?_)); go_simp; first | (refine hK _ ?_; clear hK K) | (apply Exists.intro; refine ⟨fun _ => ?_, hK _ ?_⟩; (fail); clear hK K))
  refine wpQuiet_nil ?_
  intro _ hwq
  obtain ⟨nq, hwqq⟩ := hwq
  subst hwqq
  go_wp2
  go_ret2
  exact ⟨_, rfl, rfl, HM1.out.drewN _⟩
set_option maxHeartbeats 4000000 in
set_option maxRecDepth 100000 in
theorem usedI_calls {lo g : Nat} {tl : List Value} {w : World} {d : DiskT} {N : Nat} (h : DSt lo g tl w d) (hI : DInv N d) (hN : N ≤ 100000) : Calls Tryd.prog 57 #[.pointer (some ⟨g, 0, none⟩)] w (Ret (.int .i64 ((usedL d : Nat) : Int)) w) := by
  have HS := Sec.mk (used_le hI)
  have HL := Sec.mk (nodeAt_len hI)
  have HQ := Sec.mk hI.inr
  have hn := hI.names
  have HUT := Sec.mk (fun k (hk : k < d.2.1.length) => used_take hk)
  have HUL : Sec (usedL d = ((d.2.1.take d.2.1.length).map fun e => (nodeAt d e.2).1.length).sum) := ⟨by rw [List.take_length]; rfl⟩
  have HNA : Sec (∀ (nd : Nat) (hnl : nd < d.1.length), nodeAt d (nd : Int) = d.1[nd]) := ⟨fun nd hnl => by unfold nodeAt; rw [Int.toNat_natCast, List.getElem?_eq_getElem hnl]; rfl⟩
  clear hI
  obtain ⟨t, A0, c0, A1, c1, A2, c2, A3, c3, hb, -, -, hr0, hr1, -, -, -, -⟩ := h.rows
  have HR0 := Sec.mk hr0
  have HR1 := Sec.mk hr1
  have HBX := Sec.mk hb
  have x1 : w.cell? ⟨g, 1, none⟩ = some (.slice A1 d.2.1.length c1) := hb.cell 1
  clear h hr0 hr1 hb
  go_enter Tryd.func57, Tryd.ntmps57
  go_wp2
  go_loopw [3, 11] (fun t i wr => ∃ k : Nat, k ≤ d.2.1.length ∧ i = .int .i64 (k : Int) ∧ t = .int .i64 ((((d.2.1.take k).map fun e => (nodeAt d e.2).1.length).sum : Nat) : Int) ∧ Sec (New w wr)) (fun _ i _ => d.2.1.length - (intOf i).toNat)
  case atStart => exact ⟨0, Nat.zero_le _, rfl, by simp, ⟨Mod.refl _ _⟩⟩
  case round =>
    obtain ⟨k, hk, rfl, rfl, HM⟩ := hrel
    by_cases hlt : k < d.2.1.length
    · obtain ⟨ae, rfl, d0, d1, g0, g1⟩ := ent_at (HR1.out.mod (w' := wr) (fun _ h => h) (fun k hk => HM.out.block k hk id)) (w' := wr) (fun _ _ => rfl) hlt
      have hki : (k : Int) < (d.2.1.length : Int) := by omega
      have HT := Sec.mk (HUT.out k hlt)
      have hs := HS.out k
      have hin := HQ.out _ (List.getElem_mem hlt)
      have HPX : Sec (∃ q : EntryT, q = d.2.1[k]) := ⟨⟨_, rfl⟩⟩
      obtain ⟨q, hq⟩ := HPX.out
      rw [← hq] at d0 d1 g0 g1 HT hin
      clear hq HPX
      obtain ⟨nm, u⟩ := q
      simp only at d0 d1 g0 g1 hin HT
      obtain ⟨nd, hnd⟩ := Int.eq_ofNat_of_zero_le hin.1
      subst hnd
      have hnl : nd < d.1.length := by omega
      rw [HNA.out nd hnl] at HT
      have HBA := Sec.mk (HBX.out.mod (HM.out.alloc (.cells #[.string ⟨nm.toArray⟩, .int .i64 (nd : Int)] 37)) id)
      have hl := HL.out (nd : Int)
      rw [HNA.out nd hnl] at hl
      have HMA := Sec.mk (HM.out.alloc (.cells #[.string ⟨nm.toArray⟩, .int .i64 (nd : Int)] 37))
      obtain ⟨bd, An, cn, rfl, n0, n1, hcc, hcm, hrow, hw⟩ := node_at (HR0.out.mod (w' := wr.alloc (.cells #[.string ⟨nm.toArray⟩, .int .i64 (nd : Int)] 37)) (fun _ h => h) (fun k hk => HMA.out.block k hk id)) (w' := wr.alloc (.cells #[.string ⟨nm.toArray⟩, .int .i64 (nd : Int)] 37)) (fun _ _ => rfl) hnl
      have HEB := Sec.mk (Blk.new wr 37 [.string ⟨nm.toArray⟩, .int .i64 (nd : Int)])
      clear hrow hw n1
      have hndi : (nd : Int) < (d.1.length : Int) := by omega
      generalize d.1[nd].1 = dat at *
      generalize ((d.2.1.take k).map fun e => (nodeAt d e.2).1.length).sum = s at *
      clear hin x1
      have hwu : IntKind.i64.wrap ((s : Int) + (dat.length : Int)) = (s : Int) + (dat.length : Int) := by rw [IntKind.wrap_i64]; omega
      go_upto_region 5 with (fail)
      generalize wr.alloc (.cells #[.string ⟨nm.toArray⟩, .int .i64 (nd : Int)] 37) = wz at *
      have z0 : wz.cell? ⟨g, 0, none⟩ = some (.slice (some bd) d.1.length c0) := HBA.out.cell 0
      have z1 : wz.cell? ⟨wr.heap.size, 1, none⟩ = some (.int .i64 (nd : Int)) := HEB.out.cell 1
      refine wp_region_quiet_lit (by kernel_rfl) (by kernel_rfl) ?_
      repeat ((with_reducible refine wpQuiet_step (fun K hK => ?_)); go_simp; first | (refine hK _ ?_; clear hK K) | (apply Exists.intro; refine ⟨fun _ => ?_, hK _ ?_⟩; (fail); clear hK K))
      refine wpQuiet_nil ?_
      intro _ hwq
      obtain ⟨nq, hwqq⟩ := hwq
      subst hwqq
      go_wp2
      go_roundw
      case rel => exact ⟨k + 1, by omega, by go_num, by rw [HT.out]; first | go_num | (rw [hwu]; go_num), by first | exact HMA | exact ⟨HMA.out.drew⟩ | exact ⟨HMA.out.drewN _⟩⟩
      case measure => simp [intOf]; omega
    · obtain rfl : k = d.2.1.length := by omega
      go_wp2
      go_ret
      exact ⟨by rw [HUL.out]; rfl, HM.out⟩
end Go.Proofs.YtkkgighgnbbgiaaDoor

namespace Go.Proofs.YtkkgighgnbbgiaaDoor
open Go.RowKit Mem
set_option linter.unusedVariables false
set_option linter.unusedSimpArgs false
section
variable {P : Program} {o : Oper} {a : Act} {w : World} {v : Value}
theorem exec_extractD {x : Operand} {i : Nat} (ho : o.op = .extract x i) {vx : Value} (hx : a.eval x = vx) (h : (Instr.extract vx i).run P w = .ok v w) : (execOp a.eval o).run P w = .ok (.value v) w := by
  unfold execOp; simp only [ho, hx, Sem.run_bind, h, Result.andThen_ok, Sem.run_pure]
end
theorem ext2_0 (a b : Value) (w : World) : (Instr.extract (.tuple #[a, b]) 0).run Tryd.prog w = .ok a w := by go_simp
theorem ext2_1 (a b : Value) (w : World) : (Instr.extract (.tuple #[a, b]) 1).run Tryd.prog w = .ok b w := by go_simp
theorem ldDirOpI {w : World} {g : Nat} {c0 c1 c2 c3 : Value} (h : Blk w g 66 [c0, c1, c2, c3]) : (Instr.loadAt 66 (.pointer (some ⟨g, 0, none⟩))).run Tryd.prog w = .ok (.agg #[c0, c1, c2, c3]) w := by
  have h0 : w.cell? ⟨g, 0, none⟩ = some c0 := h.cell 0
  have h1 : w.cell? ⟨g, 1, none⟩ = some c1 := h.cell 1
  have h2 : w.cell? ⟨g, 2, none⟩ = some c2 := h.cell 2
  have h3 : w.cell? ⟨g, 3, none⟩ = some c3 := h.cell 3
  go_simp
theorem lenNI (A : Option Addr) (n c : Nat) (w : World) : ∀ ty, (invoke (.builtin .len #[23] ty #[false]) #[.slice A n c]).run Tryd.prog w = .ok (.value (.int .i64 (n : Int))) w := by intro ty; go_simp
theorem stEntsI {w : World} {p : Addr} {u : Value} (h : w.cell? p = some u) (hf : w.frozen? p = false) (A : Option Addr) (n c : Nat) : (Instr.storeAt 24 (.pointer (some p)) (.slice A n c)).run Tryd.prog w = .ok () (w.setCell p (.slice A n c)) := by go_simp
theorem stDopsI {w : World} {p : Addr} {u : Value} (h : w.cell? p = some u) (hf : w.frozen? p = false) (A : Option Addr) (n c : Nat) : (Instr.storeAt 25 (.pointer (some p)) (.slice A n c)).run Tryd.prog w = .ok () (w.setCell p (.slice A n c)) := by go_simp
theorem ldDopsI {w : World} {p : Addr} {v : Value} (h : w.cell? p = some v) : (Instr.loadAt 25 (.pointer (some p))).run Tryd.prog w = .ok v w := by go_simp
theorem fptDisk3I (p : Addr) (w : World) : (Instr.fieldAt 27 (.pointer (some p)) 3).run Tryd.prog w = .ok (.pointer (some ⟨p.block, p.off + 3, none⟩)) w := by go_simp
theorem bldDopI (kd nd : Int) (x y : ByteArray) (w : World) : (Instr.buildSlice 25 1 #[(0, .agg #[.int .i64 kd, .string x, .string y, .int .i64 nd])]).run Tryd.prog w = .ok (.slice (some ⟨w.heap.size, 0, none⟩) 1 1) (w.alloc (.cells #[.int .i64 kd, .string x, .string y, .int .i64 nd] 66)) := by go_simp
set_option maxHeartbeats 8000000 in
set_option maxRecDepth 100000 in
theorem pendI_calls {lo g : Nat} {tl : List Value} {w : World} {d : DiskT} {ea : Nat → Addr} {N : Nat} (h : DSt lo g tl w d) (hE : ErrEnv lo w ea) (hI : DInv N d) (hN : N ≤ 100000) (q : DirOpT) (hq0 : IntKind.i64.wrap q.1 = q.1) (hq1 : q.2.1.length ≤ 9223372036854775807) (hq2 : q.2.2.1.length ≤ 9223372036854775807) (hq3 : IntKind.i64.wrap q.2.2.2 = q.2.2.2) :
    Calls Tryd.prog 48 #[.pointer (some ⟨g, 0, none⟩), .agg #[.int .i64 q.1, .string ⟨q.2.1.toArray⟩, .string ⟨q.2.2.1.toArray⟩, .int .i64 q.2.2.2]] w (RetDo lo g tl ea w (if 1000 ≤ d.2.2.2.1.length then (d, 6) else (dirL d q, 0))) := by
  have HE : Sec (dirL d q = (d.1, (replayL d.2.1 q d.1.length).getD [], d.2.2.1, d.2.2.2.1 ++ [q], d.2.2.2.2)) := ⟨rfl⟩
  have hn := hI.names
  have hp := hI.pend
  have hnn := hI.nodes
  have HOR := Sec.mk hI.ord
  have HLM : Sec (((replayL d.2.1 q d.1.length).getD []).length ≤ N + 1) := ⟨by
    cases hr : replayL d.2.1 q d.1.length with
    | none => simp
    | some m => have := replayL_len hr; simp only [Option.getD_some]; omega⟩
  clear hI
  obtain ⟨t, A0, c0, A1, c1, A2, c2, A3, c3, hb, ho, hlg, hr0, hr1, b0, b1, b2, b3⟩ := h.rows
  have HENV := Sec.mk hE
  have hgw : g < w.heap.size := hb.lt
  have hlw : lo ≤ w.heap.size := by omega
  obtain ⟨kd, nm, tn, nd⟩ := q
  simp only at hq0 hq1 hq2 hq3 HE HLM ⊢
  have HW := Sec.mk (And.intro hq0 (And.intro hq1 (And.intro hq2 hq3)))
  have hma := (Mod.refl (fun _ => False) w).alloc (.cells #[.int .i64 kd, .string ⟨nm.toArray⟩, .string ⟨tn.toArray⟩, .int .i64 nd] 66)
  have HN1 := Sec.mk hma
  have HD1 := Sec.mk (h.new hma)
  have HBQ := Sec.mk (Blk.new w 66 [.int .i64 kd, .string ⟨nm.toArray⟩, .string ⟨tn.toArray⟩, .int .i64 nd])
  have hsz : (w.alloc (.cells #[.int .i64 kd, .string ⟨nm.toArray⟩, .string ⟨tn.toArray⟩, .int .i64 nd] 66)).heap.size = w.heap.size + 1 := by simp
  have HB := Sec.mk (hb.mod hma id)
  have HO := Sec.mk ((ho.wide (X' := fun k => (lo ≤ k ∧ k ≠ g ∧ k ≠ w.heap.size)) (fun k h1 h2 => ⟨h2.1, h2.2, by omega⟩)).new hma)
  have HR1 := Sec.mk (hr1.mod (w' := w.alloc (.cells #[.int .i64 kd, .string ⟨nm.toArray⟩, .string ⟨tn.toArray⟩, .int .i64 nd] 66)) (fun _ h => h) (fun k hk => hma.block k hk id))
  clear h hE hma hq0 hq1 hq2 hq3 hb ho hr0 hr1
  go_enter Tryd.func48, Tryd.ntmps48
  go_upto_region 1 with (fail)
  generalize w.alloc (.cells #[.int .i64 kd, .string ⟨nm.toArray⟩, .string ⟨tn.toArray⟩, .int .i64 nd] 66) = w1 at *
  have hgl : g < w1.heap.size := by omega
  have x3 : w1.cell? ⟨g, 3, none⟩ = some (.slice A3 d.2.2.2.1.length c3) := HB.out.cell 3
  by_cases hfull : 1000 ≤ d.2.2.2.1.length
  · have hfi : (1000 : Int) ≤ (d.2.2.2.1.length : Int) := by omega
    have e6 := (HENV.out.mod (HN1.out.mono (T := fun k => lo ≤ k) (fun i hi h => h.elim))).c6
    rw [if_pos hfull]
    go_wp2
    go_ret
    exact ⟨rfl, HD1.out, HN1.out.mono (fun i hi h => h.elim)⟩
  have hfi : ¬ (1000 : Int) ≤ (d.2.2.2.1.length : Int) := by omega
  rw [if_neg hfull]
  go_upto_region 3 with (fail)
  obtain ⟨list, hlist⟩ : ∃ l, l = (replayL d.2.1 (kd, nm, tn, nd) d.1.length).getD [] := ⟨_, rfl⟩
  rw [← hlist] at HE HLM
  have HLS := Sec.mk hlist
  clear hlist
  go_cut [28] (fun v wx => v = .pointer (some ⟨g, 1, none⟩) ∧ ∃ (B : Option Addr) (cB : Nat), Sec (Blk wx g t (.slice A0 d.1.length c0 :: .slice B list.length cB :: .slice A2 d.2.2.1.length c2 :: .slice A3 d.2.2.2.1.length c3 :: .int .i64 d.2.2.2.2 :: tl)) ∧ Sec (Out4 (fun k => lo ≤ k ∧ k ≠ g ∧ k ≠ w.heap.size) wx (.slice A0 d.1.length c0) (.slice B list.length cB) (.slice A2 d.2.2.1.length c2) (.slice A3 d.2.2.2.1.length c3) (d.1, list, d.2.2.1, d.2.2.2.1, d.2.2.2.2)) ∧ Sec (Blk wx w.heap.size 66 [.int .i64 kd, .string ⟨nm.toArray⟩, .string ⟨tn.toArray⟩, .int .i64 nd]) ∧ Sec (Mod (fun k => lo ≤ k) w wx) ∧ w1.heap.size ≤ wx.heap.size)
  case first =>
    refine reg_start [] (fun W => Sec (W.cell? ⟨g, 0, none⟩ = some (.slice A0 d.1.length c0) ∧ Blk W w.heap.size 66 [.int .i64 kd, .string ⟨nm.toArray⟩, .string ⟨tn.toArray⟩, .int .i64 nd])) (by kernel_rfl) ?_
    have HSS : Sec (w1.drew.cell? ⟨g, 0, none⟩ = some (.slice A0 d.1.length c0) ∧ Blk w1.drew w.heap.size 66 [.int .i64 kd, .string ⟨nm.toArray⟩, .string ⟨tn.toArray⟩, .int .i64 nd]) := ⟨HB.out.cell 0, HBQ.out.drew⟩
    have HND : Sec (New w1 w1.drew) := ⟨(Mod.refl _ _).drew⟩
    refine reg_take (.pointer (some ⟨g, 0, none⟩)) (i := 0) (n := 13) HSS rfl (by kernel_rfl) (by kernel_rfl) (by kernel_rfl) (by kernel_rfl) (fun _ _ _ h => h) (fun W hW => exec_move rfl rfl) ?_
    simp only [Act.put, List.setIfInBounds_toArray, List.set_cons_zero, List.set_cons_succ]
    refine reg_take (.pointer (some ⟨g, 0, none⟩)) (i := 1) (n := 14) HSS rfl (by kernel_rfl) (by kernel_rfl) (by kernel_rfl) (by kernel_rfl) (fun _ _ _ h => h) (fun W hW => exec_move rfl rfl) ?_
    simp only [Act.put, List.setIfInBounds_toArray, List.set_cons_zero, List.set_cons_succ]
    refine reg_take (.pointer (some ⟨g, 0, none⟩)) (i := 2) (n := 15) HSS rfl (by kernel_rfl) (by kernel_rfl) (by kernel_rfl) (by kernel_rfl) (fun _ _ _ h => h) (fun W hW => exec_nil rfl rfl) ?_
    simp only [Act.put, List.setIfInBounds_toArray, List.set_cons_zero, List.set_cons_succ]
    refine reg_take (.pointer (some ⟨g, 1, none⟩)) (i := 3) (n := 16) HSS rfl (by kernel_rfl) (by kernel_rfl) (by kernel_rfl) (by kernel_rfl) (fun _ _ _ h => h) (fun W hW => exec_field rfl rfl (fptDisk1 _ _)) ?_
    simp only [Act.put, List.setIfInBounds_toArray, List.set_cons_zero, List.set_cons_succ]
    refine reg_take (.agg #[.int .i64 kd, .string ⟨nm.toArray⟩, .string ⟨tn.toArray⟩, .int .i64 nd]) (i := 5) (n := 18) HSS rfl (by kernel_rfl) (by kernel_rfl) (by kernel_rfl) (by kernel_rfl) (fun _ _ _ h => h) (fun W hW => exec_load rfl rfl (ldDirOpI hW.out.2)) ?_
    simp only [Act.put, List.setIfInBounds_toArray, List.set_cons_zero, List.set_cons_succ]
    refine reg_take (.pointer (some ⟨g, 0, none⟩)) (i := 6) (n := 19) HSS rfl (by kernel_rfl) (by kernel_rfl) (by kernel_rfl) (by kernel_rfl) (fun _ _ _ h => h) (fun W hW => exec_move rfl rfl) ?_
    simp only [Act.put, List.setIfInBounds_toArray, List.set_cons_zero, List.set_cons_succ]
    refine reg_take (.pointer (some ⟨g, 0, none⟩)) (i := 7) (n := 20) HSS rfl (by kernel_rfl) (by kernel_rfl) (by kernel_rfl) (by kernel_rfl) (fun _ _ _ h => h) (fun W hW => exec_nil rfl rfl) ?_
    simp only [Act.put, List.setIfInBounds_toArray, List.set_cons_zero, List.set_cons_succ]
    refine reg_take (.pointer (some ⟨g, 0, none⟩)) (i := 8) (n := 21) HSS rfl (by kernel_rfl) (by kernel_rfl) (by kernel_rfl) (by kernel_rfl) (fun _ _ _ h => h) (fun W hW => exec_field rfl rfl (fptDisk0 _ _)) ?_
    simp only [Act.put, List.setIfInBounds_toArray, List.set_cons_zero, List.set_cons_succ]
    refine reg_take (.slice A0 d.1.length c0) (i := 9) (n := 22) HSS rfl (by kernel_rfl) (by kernel_rfl) (by kernel_rfl) (by kernel_rfl) (fun _ _ _ h => h) (fun W hW => exec_load rfl rfl (ldNodesD hW.out.1)) ?_
    simp only [Act.put, List.setIfInBounds_toArray, List.set_cons_zero, List.set_cons_succ]
    refine reg_take (.int .i64 (d.1.length : Int)) (i := 10) (n := 23) HSS rfl (by kernel_rfl) (by kernel_rfl) (by kernel_rfl) (by kernel_rfl) (fun _ _ _ h => h) (fun W hW => exec_lenD rfl rfl (lenNI _ _ _ _)) ?_
    simp only [Act.put, List.setIfInBounds_toArray, List.set_cons_zero, List.set_cons_succ]
    refine reg_step (i := 4) rfl (by kernel_rfl) (fun K hK => ?_)
    refine wp_val (v := .slice A1 d.2.1.length c1) (exec_load rfl rfl (ldEntsD ((HB.out.mod HND.out id).cell 1))) rfl (hK.out _ _ (fun _ => HSS) ?_)
    clear hK K
    simp only [Act.put, List.setIfInBounds_toArray, List.set_cons_zero, List.set_cons_succ]
    refine reg_step (i := 11) rfl (by kernel_rfl) (fun K hK => ?_)
    refine wp_call (n := 24) (vals := [.slice A1 d.2.1.length c1, .agg #[.int .i64 kd, .string ⟨nm.toArray⟩, .string ⟨tn.toArray⟩, .int .i64 nd], .int .i64 (d.1.length : Int)]) rfl rfl rfl (by kernel_rfl) (replay_calls (HR1.out.mod (w' := w1.drew) (fun _ h => h) (fun k hk => rfl)) (fun k hk => by have h1 : k < w.heap.size := hk; show k < w1.heap.size; omega) b1 (by omega) HOR.out (kd, nm, tn, nd) HW.out.2.1 HW.out.2.2.1 HW.out.2.2.2 (d.1.length : Int)) ?_
    intro e w3 hr
    have hr' : ∃ A c b, e = .returned (.tuple #[.slice A list.length c, .bool b]) ∧ Mine dEntry 37 w1.drew w3 (.slice A list.length c) list := by rw [HLS.out]; exact hr.own
    clear hr
    obtain ⟨B, cB, bb, rfl, hmine⟩ := hr'
    have HN3 : Sec (New w1 w3) := ⟨HND.out.transN hmine.new⟩
    have HSS : Sec (w3.cell? ⟨g, 0, none⟩ = some (.slice A0 d.1.length c0) ∧ Blk w3 w.heap.size 66 [.int .i64 kd, .string ⟨nm.toArray⟩, .string ⟨tn.toArray⟩, .int .i64 nd]) := ⟨(HB.out.mod HN3.out id).cell 0, HBQ.out.mod HN3.out id⟩
    refine ⟨_, rfl, hK.out _ _ (fun _ => HSS) ?_⟩
    clear hK K
    simp only [Act.put, List.setIfInBounds_toArray, List.set_cons_zero, List.set_cons_succ]
    refine reg_take (.tuple #[.slice B list.length cB, .bool bb]) (i := 12) (n := 12) HSS rfl (by kernel_rfl) (by kernel_rfl) (by kernel_rfl) (by kernel_rfl) (fun _ _ _ h => h) (fun W hW => exec_move rfl rfl) ?_
    simp only [Act.put, List.setIfInBounds_toArray, List.set_cons_zero, List.set_cons_succ]
    refine reg_take (.slice B list.length cB) (i := 13) (n := 25) HSS rfl (by kernel_rfl) (by kernel_rfl) (by kernel_rfl) (by kernel_rfl) (fun _ _ _ h => h) (fun W hW => exec_extractD rfl rfl (ext2_0 _ _ _)) ?_
    simp only [Act.put, List.setIfInBounds_toArray, List.set_cons_zero, List.set_cons_succ]
    have HM3 := Sec.mk hmine
    clear hmine
    refine reg_take (.pointer (some ⟨g, 0, none⟩)) (i := 15) (n := 27) HSS rfl (by kernel_rfl) (by kernel_rfl) (by kernel_rfl) (by kernel_rfl) (fun _ _ _ h => h) (fun W hW => exec_nil rfl rfl) ?_
    simp only [Act.put, List.setIfInBounds_toArray, List.set_cons_zero, List.set_cons_succ]
    refine reg_take (.pointer (some ⟨g, 1, none⟩)) (i := 16) (n := 28) HSS rfl (by kernel_rfl) (by kernel_rfl) (by kernel_rfl) (by kernel_rfl) (fun _ _ _ h => h) (fun W hW => exec_field rfl rfl (fptDisk1 _ _)) ?_
    simp only [Act.put, List.setIfInBounds_toArray, List.set_cons_zero, List.set_cons_succ]
    have HB3 := Sec.mk (HB.out.mod HN3.out id)
    obtain ⟨⟨F, hoF, hF⟩, hmn⟩ := HM3.out
    have hs3 : w1.heap.size ≤ w3.heap.size := HN3.out.size
    have hdr : w1.drew.heap.size = w1.heap.size := rfl
    have HO3 := Sec.mk (((HO.out.wide (X' := fun k => (lo ≤ k ∧ k ≠ g ∧ k ≠ w.heap.size) ∧ k < w1.heap.size) (fun k h1 h2 => ⟨h2, h1⟩)).new HN3.out).put1 (X := fun k => lo ≤ k ∧ k ≠ g ∧ k ≠ w.heap.size) hoF (fun k hk => by have := hF k hk; exact ⟨fun h => by omega, by omega⟩) (fun k hk => hk.1))
    have hmc : Mod (fun k => k = g) w3 (w3.setCell ⟨g, 1, none⟩ (.slice B list.length cB)) := (Mod.refl (fun k => k = g) w3).setCell (p := ⟨g, 1, none⟩) (fun _ => rfl) _
    have HB4 := Sec.mk (HB3.out.set_ 1 (.slice B list.length cB))
    simp only [List.set_cons_zero, List.set_cons_succ] at HB4
    have HO4 := Sec.mk (HO3.out.keep hmc (fun k h e => h.2.1 e))
    have HBQ4 := Sec.mk ((HBQ.out.mod HN3.out id).mod hmc (by omega))
    have HM4 := Sec.mk (((HN1.out.transN HN3.out).mono (T := fun k => lo ≤ k) (fun i hi h => h.elim)).trans hmc (fun i hi _ => by omega))
    have hs4 : w1.heap.size ≤ (w3.setCell ⟨g, 1, none⟩ (.slice B list.length cB)).heap.size := by have := hmc.size; omega
    clear hoF hF hmn hmc HM3 HO3 hs3 hdr
    have HSS4 : Sec ((w3.setCell ⟨g, 1, none⟩ (.slice B list.length cB)).cell? ⟨g, 0, none⟩ = some (.slice A0 d.1.length c0) ∧ Blk (w3.setCell ⟨g, 1, none⟩ (.slice B list.length cB)) w.heap.size 66 [.int .i64 kd, .string ⟨nm.toArray⟩, .string ⟨tn.toArray⟩, .int .i64 nd]) := ⟨HB4.out.cell 0, HBQ4.out⟩
    refine reg_step2 (i := 14) (j := 17) rfl rfl (by kernel_rfl) (fun K hK => ?_) (fun K hK => ?_)
    · refine wp_val (v := .bool bb) (exec_extractD rfl rfl (ext2_1 _ _ _)) rfl (hK.out _ _ (fun _ => HSS) ?_)
      clear hK K
      simp only [Act.put, List.setIfInBounds_toArray, List.set_cons_zero, List.set_cons_succ]
      refine reg_step (i := 17) rfl (by kernel_rfl) (fun K hK => ?_)
      refine wp_store rfl rfl rfl rfl (stEntsI (HB3.out.cell 1) (HB3.out.frozen 1) B list.length cB) (hK.out _ _ (fun _ => HSS4) ?_)
      clear hK K
      refine reg_done (by kernel_rfl) ?_ _
      go_wp2
      go_meet
      exact ⟨rfl, B, cB, HB4, HO4, HBQ4, HM4, hs4⟩
    · refine wp_store rfl rfl rfl rfl (stEntsI (HB3.out.cell 1) (HB3.out.frozen 1) B list.length cB) (hK.out _ _ (fun _ => HSS4) ?_)
      clear hK K
      refine reg_step (i := 14) rfl (by kernel_rfl) (fun K hK => ?_)
      refine wp_val (v := .bool bb) (exec_extractD rfl rfl (ext2_1 _ _ _)) rfl (hK.out _ _ (fun _ => HSS4) ?_)
      clear hK K
      refine reg_done (by kernel_rfl) ?_ _
      go_wp2
      go_meet
      exact ⟨rfl, B, cB, HB4, HO4, HBQ4, HM4, hs4⟩
  case rest =>
  rename World => w4
  obtain ⟨rfl, B, cB, HB4, HO4, HBQ4, HM4, hs4⟩ := hcut
  clear HB HO HBQ HR1 x3
  go_upto_region 4 with (fail)
  refine reg_start [10] (fun W => Sec (Blk W g t (.slice A0 d.1.length c0 :: .slice B list.length cB :: .slice A2 d.2.2.1.length c2 :: .slice A3 d.2.2.2.1.length c3 :: .int .i64 d.2.2.2.2 :: tl) ∧ Blk W w.heap.size 66 [.int .i64 kd, .string ⟨nm.toArray⟩, .string ⟨tn.toArray⟩, .int .i64 nd])) (by kernel_rfl) ?_
  have HSS : Sec (Blk w4.drew g t (.slice A0 d.1.length c0 :: .slice B list.length cB :: .slice A2 d.2.2.1.length c2 :: .slice A3 d.2.2.2.1.length c3 :: .int .i64 d.2.2.2.2 :: tl) ∧ Blk w4.drew w.heap.size 66 [.int .i64 kd, .string ⟨nm.toArray⟩, .string ⟨tn.toArray⟩, .int .i64 nd]) := ⟨HB4.out.drew, HBQ4.out.drew⟩
  refine reg_take (.pointer (some ⟨g, 0, none⟩)) (i := 0) (n := 29) HSS rfl (by kernel_rfl) (by kernel_rfl) (by kernel_rfl) (by kernel_rfl) (fun _ _ _ h => h) (fun W hW => exec_move rfl rfl) ?_
  simp only [Act.put, List.setIfInBounds_toArray, List.set_cons_zero, List.set_cons_succ]
  refine reg_take (.pointer (some ⟨g, 0, none⟩)) (i := 1) (n := 30) HSS rfl (by kernel_rfl) (by kernel_rfl) (by kernel_rfl) (by kernel_rfl) (fun _ _ _ h => h) (fun W hW => exec_move rfl rfl) ?_
  simp only [Act.put, List.setIfInBounds_toArray, List.set_cons_zero, List.set_cons_succ]
  refine reg_take (.pointer (some ⟨g, 0, none⟩)) (i := 2) (n := 31) HSS rfl (by kernel_rfl) (by kernel_rfl) (by kernel_rfl) (by kernel_rfl) (fun _ _ _ h => h) (fun W hW => exec_nil rfl rfl) ?_
  simp only [Act.put, List.setIfInBounds_toArray, List.set_cons_zero, List.set_cons_succ]
  refine reg_take (.pointer (some ⟨g, 3, none⟩)) (i := 3) (n := 32) HSS rfl (by kernel_rfl) (by kernel_rfl) (by kernel_rfl) (by kernel_rfl) (fun _ _ _ h => h) (fun W hW => exec_field rfl rfl (fptDisk3I _ _)) ?_
  simp only [Act.put, List.setIfInBounds_toArray, List.set_cons_zero, List.set_cons_succ]
  refine reg_take (.slice A3 d.2.2.2.1.length c3) (i := 4) (n := 33) HSS rfl (by kernel_rfl) (by kernel_rfl) (by kernel_rfl) (by kernel_rfl) (fun _ _ _ h => h) (fun W hW => exec_load rfl rfl (ldDopsI (hW.out.1.cell 3))) ?_
  simp only [Act.put, List.setIfInBounds_toArray, List.set_cons_zero, List.set_cons_succ]
  refine reg_take (.agg #[.int .i64 kd, .string ⟨nm.toArray⟩, .string ⟨tn.toArray⟩, .int .i64 nd]) (i := 5) (n := 34) HSS rfl (by kernel_rfl) (by kernel_rfl) (by kernel_rfl) (by kernel_rfl) (fun _ _ _ h => h) (fun W hW => exec_load rfl rfl (ldDirOpI hW.out.2)) ?_
  simp only [Act.put, List.setIfInBounds_toArray, List.set_cons_zero, List.set_cons_succ]
  refine reg_step (i := 6) rfl (by kernel_rfl) (fun K hK => ?_)
  have hma := (Mod.refl (fun _ => False) w4.drew).alloc (.cells #[.int .i64 kd, .string ⟨nm.toArray⟩, .string ⟨tn.toArray⟩, .int .i64 nd] 66)
  have HROW := Sec.mk (rowDirOp w4.drew (x := (kd, nm, tn, nd)) HW.out.1 HW.out.2.1 HW.out.2.2.1 HW.out.2.2.2)
  have HNN : Sec (New w4 (w4.drew.alloc (.cells #[.int .i64 kd, .string ⟨nm.toArray⟩, .string ⟨tn.toArray⟩, .int .i64 nd] 66))) := ⟨(Mod.refl _ _).drew.transN hma⟩
  have HSS : Sec (Blk (w4.drew.alloc (.cells #[.int .i64 kd, .string ⟨nm.toArray⟩, .string ⟨tn.toArray⟩, .int .i64 nd] 66)) g t (.slice A0 d.1.length c0 :: .slice B list.length cB :: .slice A2 d.2.2.1.length c2 :: .slice A3 d.2.2.2.1.length c3 :: .int .i64 d.2.2.2.2 :: tl) ∧ Blk (w4.drew.alloc (.cells #[.int .i64 kd, .string ⟨nm.toArray⟩, .string ⟨tn.toArray⟩, .int .i64 nd] 66)) w.heap.size 66 [.int .i64 kd, .string ⟨nm.toArray⟩, .string ⟨tn.toArray⟩, .int .i64 nd]) := ⟨HB4.out.mod HNN.out id, HBQ4.out.mod HNN.out id⟩
  refine wp_valw (n := 35) (v := .slice (some ⟨w4.drew.heap.size, 0, none⟩) 1 1) (w' := w4.drew.alloc (.cells #[.int .i64 kd, .string ⟨nm.toArray⟩, .string ⟨tn.toArray⟩, .int .i64 nd] 66)) (exec_buildSlice (parts := [(0, .tmp 34)]) (vs := [(0, .agg #[.int .i64 kd, .string ⟨nm.toArray⟩, .string ⟨tn.toArray⟩, .int .i64 nd])]) rfl rfl (bldDopI _ _ _ _ _)) rfl ?_
  refine hK.out _ _ (fun _ => HSS) ?_
  clear hma
  clear hK K
  simp only [Act.put, List.setIfInBounds_toArray, List.set_cons_zero, List.set_cons_succ]
  generalize w4.drew.alloc (.cells #[.int .i64 kd, .string ⟨nm.toArray⟩, .string ⟨tn.toArray⟩, .int .i64 nd] 66) = w5 at *
  generalize w4.drew.heap.size = g5 at *
  refine reg_step (i := 7) rfl (by kernel_rfl) (fun K hK => ?_)
  have hs5 := HNN.out.size
  refine Out4.wp3 (ys := [(kd, nm, tn, nd)]) _ (.tmp 33) (.tmp 35) _ rfl Tryd.underlying25 rfl rfl (HO4.out.new HNN.out) HROW.out (fun k hk => by omega) (show d.2.2.2.1.length + 1 ≤ 34359738368 by omega) ?_
  intro A6 n6 c6 w6 ho6 hm6
  have HB6 := Sec.mk ((HB4.out.mod HNN.out id).mod hm6 (fun h => h.2.1 rfl))
  have HO6 := Sec.mk ho6
  have HM6 := Sec.mk ((HM4.out.transN HNN.out).trans hm6 (fun i hi _ => hi.1))
  have HSS : Sec (Blk w6 g t (.slice A0 d.1.length c0 :: .slice B list.length cB :: .slice A2 d.2.2.1.length c2 :: .slice A3 d.2.2.2.1.length c3 :: .int .i64 d.2.2.2.2 :: tl) ∧ Blk w6 w.heap.size 66 [.int .i64 kd, .string ⟨nm.toArray⟩, .string ⟨tn.toArray⟩, .int .i64 nd]) := ⟨HB6.out, (HBQ4.out.mod HNN.out id).mod hm6 (fun h => h.2.2 rfl)⟩
  refine hK.out _ _ (fun _ => HSS) ?_
  clear ho6 hm6
  clear hK K
  simp only [Act.put, List.setIfInBounds_toArray, List.set_cons_zero, List.set_cons_succ]
  refine reg_step (i := 8) rfl (by kernel_rfl) (fun K hK => ?_)
  refine wp_val (v := .pointer (some ⟨g, 0, none⟩)) (exec_nil rfl rfl) rfl (hK.out _ _ (fun _ => HSS) ?_)
  clear hK K
  simp only [Act.put, List.setIfInBounds_toArray, List.set_cons_zero, List.set_cons_succ]
  refine reg_step (i := 9) rfl (by kernel_rfl) (fun K hK => ?_)
  refine wp_val (v := .pointer (some ⟨g, 3, none⟩)) (exec_field rfl rfl (fptDisk3I _ _)) rfl (hK.out _ _ (fun _ => HSS) ?_)
  clear hK K
  simp only [Act.put, List.setIfInBounds_toArray, List.set_cons_zero, List.set_cons_succ]
  refine reg_step (i := 10) rfl (by kernel_rfl) (fun K hK => ?_)
  have hmc : Mod (fun k => k = g) w6 (w6.setCell ⟨g, 3, none⟩ (.slice A6 n6 c6)) := (Mod.refl (fun k => k = g) w6).setCell (p := ⟨g, 3, none⟩) (fun _ => rfl) _
  have HB7 := Sec.mk (HB6.out.set_ 3 (.slice A6 n6 c6))
  simp only [List.set_cons_zero, List.set_cons_succ] at HB7
  have HO7 := Sec.mk (HO6.out.keep hmc (fun k h e => h.2.1 e))
  have HM7 := Sec.mk (HM6.out.trans hmc (fun i hi _ => by omega))
  refine wp_store rfl rfl rfl rfl (stDopsI (HB6.out.cell 3) (HB6.out.frozen 3) A6 n6 c6) (hK.out _ _ (fun h => absurd (List.mem_singleton.2 rfl) h) ?_)
  clear hK K
  refine reg_done (by kernel_rfl) ?_ _
  go_wp2
  go_ret
  refine ⟨rfl, ?_, HM7.out⟩
  show DSt lo g tl _ (dirL d (kd, nm, tn, nd))
  rw [HE.out]
  exact ⟨t, _, _, _, _, HB7.out, HO7.out.wide (fun k _ h => ⟨h.1, h.2.1⟩), hlg⟩
end Go.Proofs.YtkkgighgnbbgiaaDoor

namespace Go.Proofs.YtkkgighgnbbgiaaDoor
open Go.RowKit Mem
set_option linter.unusedVariables false
set_option linter.unusedSimpArgs false
theorem node_of {N : Nat} {d : DiskL} (hI : DInv N d) (nm : LB) (hh : hasE d.2.1 nm = true) : ∃ nd : Nat, (d.2.1[placeE d.2.1 nm]?.getD ([], 0)).2 = (nd : Int) ∧ nd < d.1.length := by
  obtain ⟨hl, -⟩ := (place_at hI.ord nm).1.mp hh
  rw [List.getElem?_eq_getElem hl]
  have h1 := hI.inr _ (List.getElem_mem hl)
  refine ⟨(d.2.1[placeE d.2.1 nm].2).toNat, ?_, ?_⟩
  · simp only [Option.getD_some]; omega
  · omega
theorem findI_any {lo g : Nat} {tl : List Value} {w : World} {d : DiskT} {N : Nat} (h : DSt lo g tl w d) (hI : DInv N d) (hN : N ≤ 100000) (nm : Bytes) :
    Calls Tryd.prog 28 #[.pointer (some ⟨g, 0, none⟩), .string ⟨nm.toArray⟩] w (fun e W => ∃ p, e = .returned (.tuple #[p, .bool (hasE d.2.1 nm)]) ∧ Mod (fun _ => False) w W) := by
  obtain ⟨t, A0, c0, A1, c1, A2, c2, A3, c3, hb, ho, hlg, hr0, hr1, b0, b1, b2, b3⟩ := h.rows
  have hn := hI.names
  cases hh : hasE d.2.1 nm
  · refine (findG_no hb hr1 (fun k h => h) (by omega) hI.ord nm hh).mono ?_
    rintro e W ⟨rfl, hm⟩
    exact ⟨_, rfl, hm⟩
  · obtain ⟨nd, h1, h2⟩ := node_of hI nm hh
    refine (findG_yes hb hr0 (fun k h => h) hr1 (fun k h => h) (by omega) hI.ord nm hh h1 h2).mono ?_
    rintro e W ⟨bd, -, rfl, hm⟩
    exact ⟨_, rfl, hm⟩
theorem i64_nat (n : Nat) (h : n ≤ 1048576) : IntKind.i64.wrap (n : Int) = (n : Int) := IntWalk.i64_in (n : Int) (by omega)
theorem i64_one : IntKind.i64.wrap 1 = 1 := by decide
theorem zNodeM (w : World) : dNode.M w [] (([], 0) : NodeT) [.slice none 0 0, .int .i64 0] := by
  have := mNode (w := w) (x := (([], 0) : NodeT)) (F0 := []) (v0 := .slice none 0 0) (by decide) (Own.nil _ _ _)
  simpa using this
set_option maxHeartbeats 8000000 in
set_option maxRecDepth 100000 in
theorem createI_calls {lo g : Nat} {tl : List Value} {w : World} {d : DiskT} {ea : Nat → Addr} {N : Nat} (h : DSt lo g tl w d) (hE : ErrEnv lo w ea) (hI : DInv N d) (hN : N ≤ 50000) (nm : Bytes) (hnm : nm.length ≤ 9223372036854775807) :
    Calls Tryd.prog 46 #[.pointer (some ⟨g, 0, none⟩), .string ⟨nm.toArray⟩] w (RetDo lo g tl ea w (if 600 ≤ d.1.length ∨ 1000 ≤ d.2.2.2.1.length ∨ (hasE d.2.1 nm = false ∧ 300 ≤ d.2.1.length) then (d, 6) else (dirL (d.1 ++ [([], 0)], d.2) (1, nm, [], (d.1.length : Int)), 0))) := by
  have hn := hI.names
  have hp := hI.pend
  have hnn := hI.nodes
  have HR0 : Sec ((600 ≤ d.1.length ∨ 1000 ≤ d.2.2.2.1.length ∨ (hasE d.2.1 nm = false ∧ 300 ≤ d.2.1.length)) → (if 600 ≤ d.1.length ∨ 1000 ≤ d.2.2.2.1.length ∨ (hasE d.2.1 nm = false ∧ 300 ≤ d.2.1.length) then (d, (6 : Int)) else (dirL (d.1 ++ [([], 0)], d.2) (1, nm, [], (d.1.length : Int)), 0)) = (d, 6)) := ⟨fun h => if_pos h⟩
  have HR1 : Sec (¬ (600 ≤ d.1.length ∨ 1000 ≤ d.2.2.2.1.length ∨ (hasE d.2.1 nm = false ∧ 300 ≤ d.2.1.length)) → (if 600 ≤ d.1.length ∨ 1000 ≤ d.2.2.2.1.length ∨ (hasE d.2.1 nm = false ∧ 300 ≤ d.2.1.length) then (d, (6 : Int)) else (dirL (d.1 ++ [([], 0)], d.2) (1, nm, [], (d.1.length : Int)), 0)) = (dirL (d.1 ++ [([], 0)], d.2) (1, nm, [], (d.1.length : Int)), 0)) := ⟨fun h => if_neg h⟩
  generalize (if 600 ≤ d.1.length ∨ 1000 ≤ d.2.2.2.1.length ∨ (hasE d.2.1 nm = false ∧ 300 ≤ d.2.1.length) then (d, (6 : Int)) else (dirL (d.1 ++ [([], 0)], d.2) (1, nm, [], (d.1.length : Int)), 0)) = res at *
  have HI := Sec.mk hI
  have HDS := Sec.mk h
  have HENV := Sec.mk hE
  have hgw : g < w.heap.size := by obtain ⟨t', v0', v1', v2', v3', hb', -, hg'⟩ := h; exact hb'.lt
  have hlg : lo ≤ g := by obtain ⟨t', v0', v1', v2', v3', hb', -, hg'⟩ := h; exact hg'
  clear h hE hI
  go_enter Tryd.func46, Tryd.ntmps46
  go_wp2_with fail
  refine (findI_any HDS.out HI.out (by omega) nm).mono ?_
  rintro e w1 ⟨p, rfl, hm1⟩
  have HN1 := Sec.mk hm1
  obtain ⟨t, A0, c0, A1, c1, A2, c2, A3, c3, hb, ho, -, hr0, hr1, b0, b1, b2, b3⟩ := (HDS.out.new hm1).rows
  have HB := Sec.mk hb
  have HO := Sec.mk ho
  have hs1 := hm1.size
  clear hb ho hr0 hr1 hm1
  have x0 : w1.cell? ⟨g, 0, none⟩ = some (.slice A0 d.1.length c0) := HB.out.cell 0
  have x1 : w1.cell? ⟨g, 1, none⟩ = some (.slice A1 d.2.1.length c1) := HB.out.cell 1
  have x3 : w1.cell? ⟨g, 3, none⟩ = some (.slice A3 d.2.2.2.1.length c3) := HB.out.cell 3
  have e6 := (HENV.out.mod (HN1.out.mono (T := fun k => lo ≤ k) (fun i hi h => h.elim))).c6
  have HFULL : Sec (RetDo lo g tl ea w (d, 6) (.returned (.iface errT (.pointer (some (ea 6))))) w1) := ⟨rfl, HDS.out.new HN1.out, HN1.out.mono (fun i hi h => h.elim)⟩
  by_cases h600 : 600 ≤ d.1.length
  · have hi : (600 : Int) ≤ (d.1.length : Int) := by omega
    rw [← HR0.out (Or.inl h600)] at HFULL
    go_wp2
    go_ret
    exact HFULL.out
  have h600i : ¬ (600 : Int) ≤ (d.1.length : Int) := by omega
  by_cases h1000 : 1000 ≤ d.2.2.2.1.length
  · have hi : (1000 : Int) ≤ (d.2.2.2.1.length : Int) := by omega
    rw [← HR0.out (Or.inr (Or.inl h1000))] at HFULL
    go_wp2
    go_ret
    exact HFULL.out
  have h1000i : ¬ (1000 : Int) ≤ (d.2.2.2.1.length : Int) := by omega
  have hthere : (hasE d.2.1 nm = false ∧ 300 ≤ d.2.1.length) ∨ hasE d.2.1 nm = true ∨ (hasE d.2.1 nm = false ∧ ¬ 300 ≤ d.2.1.length) := by
    cases hasE d.2.1 nm
    · by_cases h3 : 300 ≤ d.2.1.length
      · exact .inl ⟨rfl, h3⟩
      · exact .inr (.inr ⟨rfl, h3⟩)
    · exact .inr (.inl rfl)
  have hnot : hasE d.2.1 nm = true ∨ (hasE d.2.1 nm = false ∧ ¬ 300 ≤ d.2.1.length) → ¬ (600 ≤ d.1.length ∨ 1000 ≤ d.2.2.2.1.length ∨ (hasE d.2.1 nm = false ∧ 300 ≤ d.2.1.length)) := by
    rintro (h | h)
    · rintro (h1 | h1 | ⟨h1, h2⟩)
      · omega
      · omega
      · rw [h] at h1; cases h1
    · rintro (h1 | h1 | ⟨h1, h2⟩)
      · omega
      · omega
      · exact h.2 h2
  rcases hthere with ⟨hf, h3⟩ | hgo
  · have hi : (300 : Int) ≤ (d.2.1.length : Int) := by omega
    rw [← HR0.out (Or.inr (Or.inr ⟨hf, h3⟩))] at HFULL
    clear hnot
    rw [hf]
    clear hf
    go_wp2
    go_ret
    exact HFULL.out
  have HRES := Sec.mk (HR1.out (hnot hgo))
  clear hnot HFULL e6 HR0 HR1
  have HZM : Sec (∀ W, dNode.M W [] (([], 0) : NodeT) [.slice none 0 0, .int .i64 0]) := ⟨fun W => zNodeM W⟩
  have HMODL := Sec.mk (HN1.out.mono (T := fun k => lo ≤ k) (fun i hi h => h.elim))
  generalize hasE d.2.1 nm = b at *
  have hgl : g < w1.heap.size := by omega
  have hlen : d.1.length + 1 ≤ 34359738368 := by omega
  rcases hgo with rfl | ⟨rfl, h3⟩
  all_goals
    (try have h3i : ¬ (300 : Int) ≤ (d.2.1.length : Int) := by omega)
    go_wp2_with (at_builtin; go_loud (refine Out4.list0 (X := fun k => lo ≤ k ∧ k ≠ g) (y := ([], 0)) (G := []) _ rfl (.tmp 44) (.tmp 46) _ rfl Tryd.underlying23 rfl rfl (HO.out.new ((Mod.refl _ _).alloc _)) (HZM.out _) (by simp) (lit_cells _ _ _ rfl) (fun k hk => hk) (fun k hk => by simp at hk; omega) hlen ?_; intro A5 n5 c5 w5 h5 hm5; have hn5 : n5 = d.1.length + 1 := (by obtain ⟨A5', c5', -, -, -, -, -, -, e5, -⟩ := h5.forms; injection e5 with _ e5 _; simpa using e5); subst hn5; have hw1 : wrap64 (((d.1.length + 1 : Nat) : Int) - 1) = (d.1.length : Int) := (by rw [show ((d.1.length + 1 : Nat) : Int) - 1 = (d.1.length : Int) by omega]; unfold wrap64; omega); have HO5 := Sec.mk h5; have HB5 := Sec.mk ((HB.out.alloc _).mod hm5 (fun h => h.2 rfl)); have HM5 := Sec.mk ((HMODL.out.alloc _).trans hm5 (fun i hi _ => hi.1)); clear h5 hm5; have y0 : w5.cell? ⟨g, 0, none⟩ = some (.slice A0 d.1.length c0) := HB5.out.cell 0; have f0 : w5.frozen? ⟨g, 0, none⟩ = false := HB5.out.frozen 0; have hg5 : g < w5.heap.size := HB5.out.lt))
    have hmc : Mod (fun k => k = g) w5 (w5.setCell ⟨g, 0, none⟩ (.slice A5 (d.1.length + 1) c5)) := (Mod.refl (fun k => k = g) w5).setCell (p := ⟨g, 0, none⟩) (fun _ => rfl) _
    have HB6 := Sec.mk (HB5.out.set_ 0 (.slice A5 (d.1.length + 1) c5))
    simp only [List.set_cons_zero] at HB6
    have HD6 : DSt lo g tl (w5.setCell ⟨g, 0, none⟩ (.slice A5 (d.1.length + 1) c5)) (d.1 ++ [([], 0)], d.2) := ⟨t, _, _, _, _, HB6.out, HO5.out.keep hmc (fun k h e => h.2 e), hlg⟩
    have HM6 := Sec.mk (HM5.out.trans hmc (fun i hi _ => by omega))
    refine (pendI_calls (N := N) HD6 (HENV.out.mod HM6.out) (HI.out.push (by omega)) (by omega) (1, nm, [], (d.1.length : Int)) i64_one hnm (Nat.zero_le _) (i64_nat d.1.length (by omega))).mono ?_
    rintro e w7 ⟨rfl, hd7, hm7⟩
    have HD7 := Sec.mk hd7
    have HM7 := Sec.mk (HM6.out.trans hm7 (fun i hi _ => hi))
    have hne : ¬ 1000 ≤ (d.1 ++ [(([], 0) : NodeT)], d.2).2.2.2.1.length := h1000
    rw [if_neg hne] at HD7 ⊢
    clear hd7 hm7 hmc HD6 HM6
    go_wp2
    go_ret
    rw [HRES.out]
    exact ⟨rfl, HD7.out, HM7.out⟩
end Go.Proofs.YtkkgighgnbbgiaaDoor
