/- A drawn disk, spoilt in one place: that it comes to an end. The laws' helpers over slices of ints. Drawn operations behind a drawn disk, and drawn picks: that they come to an end. -/
import Derived.Test.YtkkgighgnbbgiaaDoorPk8
import Derived.StillTailTactics
import Derived.Deep.DeepCutAuto
import Derived.Deep.Cut
import Derived.Deep.CutBlock
import Derived.Test.YtkkgighgnbbgiaaDoorPk2
import Derived.Test.YtkkgighgnbbgiaaDoorPk1
import Derived.Test.YtkkgighgnbbgiaaDoorPk6
namespace Go.Proofs.YtkkgighgnbbgiaaDoor
open Go.RowKit Mem
set_option linter.unusedVariables false
set_option linter.unusedSimpArgs false
structure Sp (w0 w : World) (g b : Nat) (wr : World) : Prop where
  blk : ∃ (A0 A1 A2 A3 : Option Addr) (n0 n1 n2 n3 c0 c1 c2 c3 : Nat) (q : Int), Blk wr b 27 [.slice A0 n0 c0, .slice A1 n1 c1, .slice A2 n2 c2, .slice A3 n3 c3, .int .i64 q]
  rd : RD w0 g wr
  mod : Mod (· = g) w wr
  res : Blk wr (b + 1) 27 [.slice none 0 0, .slice none 0 0, .slice none 0 0, .slice none 0 0, .int .i64 0]
  gb : g < w.heap.size ∧ w.heap.size ≤ b
  base : g < w0.heap.size ∧ w0.heap.size ≤ w.heap.size
theorem Sp.high {w0 w wr wy : World} {g b : Nat} (h : Sp w0 w g b wr) (hm : Mod (fun k => b + 1 < k) wr wy) : Sp w0 w g b wy := by
  obtain ⟨A0, A1, A2, A3, n0, n1, n2, n3, c0, c1, c2, c3, q, hb⟩ := h.blk
  have h1 := h.gb
  have h2 := h.base
  exact ⟨⟨A0, A1, A2, A3, n0, n1, n2, n3, c0, c1, c2, c3, q, hb.mod hm (by omega)⟩, h.rd.mod hm (fun k hk => by omega) (by omega), h.mod.trans hm (fun i hi hlt => by omega), h.res.mod hm (by omega), h.gb, h.base⟩
theorem Sp.own {w0 w wr wy : World} {g b : Nat} (h : Sp w0 w g b wr) (hm : Mod (fun k => k = b) wr wy) (hb : ∃ (A0 A1 A2 A3 : Option Addr) (n0 n1 n2 n3 c0 c1 c2 c3 : Nat) (q : Int), Blk wy b 27 [.slice A0 n0 c0, .slice A1 n1 c1, .slice A2 n2 c2, .slice A3 n3 c3, .int .i64 q]) : Sp w0 w g b wy := by
  have h1 := h.gb
  have h2 := h.base
  exact ⟨hb, h.rd.mod hm (fun k hk => by omega) (by omega), h.mod.trans hm (fun i hi hlt => by omega), h.res.mod hm (by omega), h.gb, h.base⟩
theorem Sp.put {w0 w wr : World} {g b k i : Nat} (h : Sp w0 w g b wr) (hk : b + 1 < k) (v : Value) : Sp w0 w g b (wr.setCell ⟨k, i, none⟩ v) := h.high ((Mod.refl (fun k => b + 1 < k) wr).setCell (p := ⟨k, i, none⟩) (fun _ => hk) v)
theorem node0 {w : World} {F : List Nat} {A : Option Addr} {n c : Nat} {ns : NodeST} (h : Own dNode 49 w F (.slice A n c) ns) (hl : 0 < ns.length) (hn : ∀ n, n ∈ ns → n.1.length ≤ 40000) : ∃ gA Ad nd cd s, A = some ⟨gA, 0, none⟩ ∧ gA ∈ F ∧ w.cell? ⟨gA, 0, none⟩ = some (.slice Ad nd cd) ∧ nd ≤ 40000 ∧ w.cell? ⟨gA, 1, none⟩ = some (.int .i64 s) ∧ w.frozen? ⟨gA, 1, none⟩ = false := by
  obtain ⟨g, cs, f, rfl, hg, hgf, hfF, hM, hcl, hcell, hfz, -⟩ := h.elem hl
  obtain ⟨v', rfl, ho', hw⟩ := node_inv hM
  obtain ⟨Ad, cd, rfl, -⟩ := ho'.form
  exact ⟨g, Ad, _, cd, ns[0].2, rfl, hg, hcell 0 (by decide), hn _ (List.getElem_mem hl), hcell 1 (by decide), hfz _⟩
theorem ent2 {w : World} {F : List Nat} {A : Option Addr} {n c : Nat} {es : EntryST} (h : Own dEntry 37 w F (.slice A n c) es) (hl : 1 < es.length) : ∃ gA X Y i j, A = some ⟨gA, 0, none⟩ ∧ gA ∈ F ∧ w.cell? ⟨gA, 0, none⟩ = some (.string X) ∧ w.cell? ⟨gA, 1, none⟩ = some (.int .i64 i) ∧ w.cell? ⟨gA, 2, none⟩ = some (.string Y) ∧ w.cell? ⟨gA, 3, none⟩ = some (.int .i64 j) ∧ ∀ k, w.frozen? ⟨gA, k, none⟩ = false := by
  obtain ⟨g, cs, f, rfl, hg, hgf, hfF, hM, hcl, hcell, hfz, -⟩ := h.elem (j := 0) (by omega)
  obtain ⟨g', cs', f', e', hg', hgf', hfF', hM', hcl', hcell', hfz', -⟩ := h.elem hl
  have hn := h.row rfl
  obtain ⟨ad, c0, e0, ⟨_, _, rfl, ⟨rfl, _⟩, ⟨rfl, _⟩⟩, h0, h1⟩ := hn.cells_at (w' := w) (fun _ _ => rfl) (k := 0) (by omega)
  obtain ⟨ad', c1, e1, ⟨_, _, rfl, ⟨rfl, _⟩, ⟨rfl, _⟩⟩, k0, k1⟩ := hn.cells_at (w' := w) (fun _ _ => rfl) hl
  obtain rfl := Option.some.inj e0
  obtain rfl := Option.some.inj e1
  exact ⟨g, _, _, _, _, rfl, hg, h0 _ rfl, h1 0 _ rfl, k0 _ rfl, k1 0 _ rfl, hfz⟩
theorem dop0 {w : World} {F : List Nat} {A : Option Addr} {n c : Nat} {ds : DirOpST} (h : Own dDirOp 66 w F (.slice A n c) ds) (hl : 0 < ds.length) : ∃ gA X, A = some ⟨gA, 0, none⟩ ∧ gA ∈ F ∧ w.cell? ⟨gA, 2, none⟩ = some (.string X) ∧ w.frozen? ⟨gA, 2, none⟩ = false := by
  obtain ⟨g, cs, f, rfl, hg, hgf, hfF, hM, hcl, hcell, hfz, -⟩ := h.elem hl
  obtain ⟨ad, e0, h0, h1, h2, h3, -⟩ := dop_at (w' := w) (h.row rfl) (fun _ _ => rfl) hl
  obtain rfl := Option.some.inj e0
  exact ⟨g, _, rfl, hg, h2, hfz _⟩
theorem idxNX (g m c : Nat) (h : 0 < m) (w : World) : (Instr.indexAt 23 (.slice (some ⟨g, 0, none⟩) m c) (.int .i64 0)).run Tryd.prog w = .ok (.pointer (some ⟨g, 0, none⟩)) w := by
  have h' : (0 : Int) < (m : Int) := by omega
  go_simp
theorem idxE0X (g m c : Nat) (h : 1 < m) (w : World) : (Instr.indexAt 24 (.slice (some ⟨g, 0, none⟩) m c) (.int .i64 0)).run Tryd.prog w = .ok (.pointer (some ⟨g, 0, none⟩)) w := by
  have h' : (0 : Int) < (m : Int) := by omega
  have h0 : 0 < m := by omega
  clear h
  go_simp
theorem idxE1X (g m c : Nat) (h : 1 < m) (w : World) : (Instr.indexAt 24 (.slice (some ⟨g, 0, none⟩) m c) (.int .i64 1)).run Tryd.prog w = .ok (.pointer (some ⟨g, 2, none⟩)) w := by
  have h' : (1 : Int) < (m : Int) := by omega
  go_simp
theorem fptN1X (p : Addr) (w : World) : (Instr.fieldAt 49 (.pointer (some p)) 1).run Tryd.prog w = .ok (.pointer (some ⟨p.block, p.off + 1, none⟩)) w := by go_simp
theorem stIntX {w : World} {p : Addr} {u : Value} (h : w.cell? p = some u) (hf : w.frozen? p = false) (v : Int) : (Instr.storeAt 3 (.pointer (some p)) (.int .i64 v)).run Tryd.prog w = .ok () (w.setCell p (.int .i64 v)) := by go_simp
theorem ldEntX {w : World} {g k : Nat} {X : ByteArray} {i : Int} (h0 : w.cell? ⟨g, k, none⟩ = some (.string X)) (h1 : w.cell? ⟨g, k + 1, none⟩ = some (.int .i64 i)) : (Instr.loadAt 37 (.pointer (some ⟨g, k, none⟩))).run Tryd.prog w = .ok (.agg #[.string X, .int .i64 i]) w := by go_simp
theorem stEntX {w : World} {g : Nat} {u0 u1 : Value} (h0 : w.cell? ⟨g, 0, none⟩ = some u0) (h1 : w.cell? ⟨g, 1, none⟩ = some u1) (f0 : w.frozen? ⟨g, 0, none⟩ = false) (f1 : w.frozen? ⟨g, 1, none⟩ = false) (X : ByteArray) (i : Int) : (Instr.storeAt 37 (.pointer (some ⟨g, 0, none⟩)) (.agg #[.string X, .int .i64 i])).run Tryd.prog w = .ok () ((w.setCell ⟨g, 0, none⟩ (.string X)).setCell ⟨g, 1, none⟩ (.int .i64 i)) := by go_simp
theorem fptD2X (p : Addr) (w : World) : (Instr.fieldAt 27 (.pointer (some p)) 2).run Tryd.prog w = .ok (.pointer (some ⟨p.block, p.off + 2, none⟩)) w := by go_simp
def SpR (w0 w : World) (g : Nat) (e : Ending) (w' : World) : Prop :=
  ∃ (A0 A1 A2 A3 : Option Addr) (n0 n1 n2 n3 c0 c1 c2 c3 : Nat) (q : Int), e = .returned (.agg #[.slice A0 n0 c0, .slice A1 n1 c1, .slice A2 n2 c2, .slice A3 n3 c3, .int .i64 q]) ∧ Sec (RD w0 g w') ∧ Sec (Mod (· = g) w w')
set_option maxHeartbeats 8000000 in
set_option maxRecDepth 100000 in
theorem l1Spoilt_calls {w0 w : World} {g : Nat} (h : Sec (RD w0 g w)) (hg0 : g < w0.heap.size) {d : DiskT} {A0 A1 A2 A3 : Option Addr} {c0 c1 c2 c3 : Nat} (hd : Sec (Out4 (fun k => k ≠ g) w (.slice A0 d.1.length c0) (.slice A1 d.2.1.length c1) (.slice A2 d.2.2.1.length c2) (.slice A3 d.2.2.2.1.length c3) d)) (hI : Sec (DInv 400 d)) (hk : Sec (d.2.2.1.length ≤ 400)) :
    Calls Tryd.prog 13 #[.pointer (some ⟨g, 0, none⟩), .agg #[.slice A0 d.1.length c0, .slice A1 d.2.1.length c1, .slice A2 d.2.2.1.length c2, .slice A3 d.2.2.2.1.length c3, .int .i64 d.2.2.2.2]] w (SpR w0 w g) := by
  have hg := h.out.lt
  have hbase := h.out.size
  have hn0 : New w ((w.alloc (.cells #[.slice A0 d.1.length c0, .slice A1 d.2.1.length c1, .slice A2 d.2.2.1.length c2, .slice A3 d.2.2.2.1.length c3, .int .i64 d.2.2.2.2] 27)).alloc (.cells #[.slice none 0 0, .slice none 0 0, .slice none 0 0, .slice none 0 0, .int .i64 0] 27)) := ((Mod.refl _ _).alloc _).alloc _
  have HBX := Sec.mk ((Blk.new w 27 [.slice A0 d.1.length c0, .slice A1 d.2.1.length c1, .slice A2 d.2.2.1.length c2, .slice A3 d.2.2.2.1.length c3, .int .i64 d.2.2.2.2]).alloc (.cells #[.slice none 0 0, .slice none 0 0, .slice none 0 0, .slice none 0 0, .int .i64 0] 27))
  have HBR : Sec (Blk ((w.alloc (.cells #[.slice A0 d.1.length c0, .slice A1 d.2.1.length c1, .slice A2 d.2.2.1.length c2, .slice A3 d.2.2.2.1.length c3, .int .i64 d.2.2.2.2] 27)).alloc (.cells #[.slice none 0 0, .slice none 0 0, .slice none 0 0, .slice none 0 0, .int .i64 0] 27)) (w.heap.size + 1) 27 [.slice none 0 0, .slice none 0 0, .slice none 0 0, .slice none 0 0, .int .i64 0]) := ⟨by have := Blk.new (w.alloc (.cells #[.slice A0 d.1.length c0, .slice A1 d.2.1.length c1, .slice A2 d.2.2.1.length c2, .slice A3 d.2.2.2.1.length c3, .int .i64 d.2.2.2.2] 27)) 27 [.slice none 0 0, .slice none 0 0, .slice none 0 0, .slice none 0 0, .int .i64 0]; simpa using this⟩
  have HRA := Sec.mk (h.out.new hn0)
  have HDA := Sec.mk (hd.out.new hn0)
  have HNA := Sec.mk hn0
  clear hn0 h hd
  go_enter Tryd.func13, Tryd.ntmps13
  go_upto_region 1 with (fail)
  generalize ((w.alloc (.cells #[.slice A0 d.1.length c0, .slice A1 d.2.1.length c1, .slice A2 d.2.2.1.length c2, .slice A3 d.2.2.2.1.length c3, .int .i64 d.2.2.2.2] 27)).alloc (.cells #[.slice none 0 0, .slice none 0 0, .slice none 0 0, .slice none 0 0, .int .i64 0] 27)) = wA at *
  go_wp2_with fail
  refine (rd_next HRA).mono ?_
  rintro e w1 ⟨c, rfl, hc, HR1, HM1⟩
  have HS : Sec (Sp w0 w g w.heap.size w1) := ⟨⟨⟨_, _, _, _, _, _, _, _, _, _, _, _, _, HBX.out.mod HM1.out (by omega)⟩, HR1.out, ((Mod.refl (· = g) _).trans HNA.out (fun i h _ => h.elim)).trans HM1.out (fun i h _ => h), HBR.out.mod HM1.out (by omega), ⟨hg, Nat.le_refl _⟩, ⟨hg0, hbase⟩⟩⟩
  have HB1 := Sec.mk (HBX.out.mod HM1.out (by omega))
  have hdl := HNA.out.size
  generalize hbb : w.heap.size = b at *
  have HD1 : Sec (RdV true dDisk w1 (.agg #[.slice A0 d.1.length c0, .slice A1 d.2.1.length c1, .slice A2 d.2.2.1.length c2, .slice A3 d.2.2.2.1.length c3, .int .i64 d.2.2.2.2]) d) := ⟨(HDA.out.keep HM1.out (fun k h1 h2 => h1 h2)).rd⟩
  clear HBX HBR HRA HNA HDA HR1 HM1 hdl
  by_cases h4 : (c : Int) % 5 = 4
  rotate_left
  · have hbq : (((c : Int) % 5) != 4) = true := by simpa using h4
    clear h4
    obtain ⟨A0, A1, A2, A3, n0, n1, n2, n3, c0, c1, c2, c3, q, hbk⟩ := HS.out.blk
    have HFB := Sec.mk (set5_blk HS.out.res (.slice A0 n0 c0) (.slice A1 n1 c1) (.slice A2 n2 c2) (.slice A3 n3 c3) (.int .i64 q))
    have hm5 := set5_mod w1 (b + 1) (.slice A0 n0 c0) (.slice A1 n1 c1) (.slice A2 n2 c2) (.slice A3 n3 c3) (.int .i64 q)
    have HGB := HS.out.gb
    have HRE := Sec.mk (HS.out.rd.mod hm5 (fun k hk => by omega) (by omega))
    have HME := Sec.mk (HS.out.mod.trans hm5 (fun i hi hlt => by omega))
    clear hm5
    have x0 : w1.cell? ⟨b, 0, none⟩ = some (.slice A0 n0 c0) := hbk.cell 0
    have x1 : w1.cell? ⟨b, 1, none⟩ = some (.slice A1 n1 c1) := hbk.cell 1
    have x2 : w1.cell? ⟨b, 2, none⟩ = some (.slice A2 n2 c2) := hbk.cell 2
    have x3 : w1.cell? ⟨b, 3, none⟩ = some (.slice A3 n3 c3) := hbk.cell 3
    have x4 : w1.cell? ⟨b, 4, none⟩ = some (.int .i64 q) := hbk.cell 4
    have z0 : w1.cell? ⟨b + 1, 0, none⟩ = some (.slice none 0 0) := HS.out.res.cell 0
    have z1 : w1.cell? ⟨b + 1, 1, none⟩ = some (.slice none 0 0) := HS.out.res.cell 1
    have z2 : w1.cell? ⟨b + 1, 2, none⟩ = some (.slice none 0 0) := HS.out.res.cell 2
    have z3 : w1.cell? ⟨b + 1, 3, none⟩ = some (.slice none 0 0) := HS.out.res.cell 3
    have z4 : w1.cell? ⟨b + 1, 4, none⟩ = some (.int .i64 0) := HS.out.res.cell 4
    have zf0 : w1.frozen? ⟨b + 1, 0, none⟩ = false := HS.out.res.frozen 0
    have zf1 : w1.frozen? ⟨b + 1, 1, none⟩ = false := HS.out.res.frozen 1
    have zf2 : w1.frozen? ⟨b + 1, 2, none⟩ = false := HS.out.res.frozen 2
    have zf3 : w1.frozen? ⟨b + 1, 3, none⟩ = false := HS.out.res.frozen 3
    have zf4 : w1.frozen? ⟨b + 1, 4, none⟩ = false := HS.out.res.frozen 4
    clear hbk
    go_wp2
    refine bodyPost_ret (results_blk rfl rfl HFB.out Tryd.underlying27 (by kernel_rfl)) rfl ?_
    exact ⟨A0, A1, A2, A3, n0, n1, n2, n3, c0, c1, c2, c3, q, rfl, HRE, HME⟩
  have hbq : (((c : Int) % 5) != 4) = false := by simpa using h4
  clear h4
  have x0 : w1.cell? ⟨b, 0, none⟩ = some (.slice A0 d.1.length c0) := HB1.out.cell 0
  have x1 : w1.cell? ⟨b, 1, none⟩ = some (.slice A1 d.2.1.length c1) := HB1.out.cell 1
  have x2 : w1.cell? ⟨b, 2, none⟩ = some (.slice A2 d.2.2.1.length c2) := HB1.out.cell 2
  have x3 : w1.cell? ⟨b, 3, none⟩ = some (.slice A3 d.2.2.2.1.length c3) := HB1.out.cell 3
  have x4 : w1.cell? ⟨b, 4, none⟩ = some (.int .i64 d.2.2.2.2) := HB1.out.cell 4
  go_wp2_with fail
  refine (l1Copy_v HD1.out hI.out (by decide) (Nat.le_trans hk.out (by decide))).mono ?_
  rintro e w2 ⟨y0, y1, y2, y3, rfl, ho2, hm2⟩
  obtain ⟨y0, y0', y1, y1', y2, y2', y3, y3', rfl, rfl, rfl, rfl, -⟩ := ho2.forms
  have HB2 := Sec.mk (HB1.out.mod hm2 id)
  have HM2 : Sec (Mod (fun k => b + 1 < k) w1 w2) := ⟨(Mod.refl (fun k => b + 1 < k) _).trans hm2 (fun i h _ => h.elim)⟩
  have HS2 := Sec.mk (HS.out.high HM2.out)
  have hs1 := HS.out.res.lt
  have HO2 := Sec.mk (ho2.wide (X' := fun k => b + 1 < k) (fun k h1 h2 => by have h3 : w1.heap.size ≤ k := h2; omega))
  have q0 : w2.cell? ⟨b, 0, none⟩ = some (.slice A0 d.1.length c0) := HB2.out.cell 0
  have q1 : w2.cell? ⟨b, 1, none⟩ = some (.slice A1 d.2.1.length c1) := HB2.out.cell 1
  have q2 : w2.cell? ⟨b, 2, none⟩ = some (.slice A2 d.2.2.1.length c2) := HB2.out.cell 2
  have q3 : w2.cell? ⟨b, 3, none⟩ = some (.slice A3 d.2.2.2.1.length c3) := HB2.out.cell 3
  have q4 : w2.cell? ⟨b, 4, none⟩ = some (.int .i64 d.2.2.2.2) := HB2.out.cell 4
  have f0 : w2.frozen? ⟨b, 0, none⟩ = false := HB2.out.frozen 0
  have f1 : w2.frozen? ⟨b, 1, none⟩ = false := HB2.out.frozen 1
  have f2 : w2.frozen? ⟨b, 2, none⟩ = false := HB2.out.frozen 2
  have f3 : w2.frozen? ⟨b, 3, none⟩ = false := HB2.out.frozen 3
  have f4 : w2.frozen? ⟨b, 4, none⟩ = false := HB2.out.frozen 4
  have HB3 := Sec.mk (set5_blk HB2.out (.slice y0 d.1.length y0') (.slice y1 d.2.1.length y1') (.slice y2 d.2.2.1.length y2') (.slice y3 d.2.2.2.1.length y3') (.int .i64 d.2.2.2.2))
  have hm5 := set5_mod w2 b (.slice y0 d.1.length y0') (.slice y1 d.2.1.length y1') (.slice y2 d.2.2.1.length y2') (.slice y3 d.2.2.2.1.length y3') (.int .i64 d.2.2.2.2)
  have HS3 := Sec.mk (HS2.out.own hm5 ⟨_, _, _, _, _, _, _, _, _, _, _, _, _, HB3.out⟩)
  have HO3 := Sec.mk (HO2.out.keep hm5 (fun k h1 h2 => by omega))
  clear ho2 hm2 hm5 x0 x1 x2 x3 x4 HB1 HB2 HM2 HS HS2 HD1 HO2
  go_upto_block 0 with (fail)
  unfold set5 at HB3 HS3 HO3
  generalize ((((w2.setCell ⟨b, 0, none⟩ (.slice y0 d.1.length y0')).setCell ⟨b, 1, none⟩ (.slice y1 d.2.1.length y1')).setCell ⟨b, 2, none⟩ (.slice y2 d.2.2.1.length y2')).setCell ⟨b, 3, none⟩ (.slice y3 d.2.2.2.1.length y3')).setCell ⟨b, 4, none⟩ (.int .i64 d.2.2.2.2) = w3 at *
  clear q0 q1 q2 q3 q4 f0 f1 f2 f3 f4
  have hbs : b + 1 < w3.heap.size := HS3.out.res.lt
  go_cut [17] (fun _ wx => Sec (Sp w0 w g b wx))
  case first =>
    have q0 : w3.cell? ⟨b, 0, none⟩ = some (.slice y0 d.1.length y0') := HB3.out.cell 0
    have q1 : w3.cell? ⟨b, 1, none⟩ = some (.slice y1 d.2.1.length y1') := HB3.out.cell 1
    have q2 : w3.cell? ⟨b, 2, none⟩ = some (.slice y2 d.2.2.1.length y2') := HB3.out.cell 2
    have q3 : w3.cell? ⟨b, 3, none⟩ = some (.slice y3 d.2.2.2.1.length y3') := HB3.out.cell 3
    have q4 : w3.cell? ⟨b, 4, none⟩ = some (.int .i64 d.2.2.2.2) := HB3.out.cell 4
    have f1 : w3.frozen? ⟨b, 1, none⟩ = false := HB3.out.frozen 1
    have f3 : w3.frozen? ⟨b, 3, none⟩ = false := HB3.out.frozen 3
    have f4 : w3.frozen? ⟨b, 4, none⟩ = false := HB3.out.frozen 4
    obtain ⟨F0, F1, F2, F3, o0, o1, o2, o3, -, hX, -⟩ := HO3.out
    have HX := Sec.mk hX
    have HO0 := Sec.mk o0
    have HO1 := Sec.mk o1
    have HO2 := Sec.mk o2
    have HO3' := Sec.mk o3
    have HLN := Sec.mk hI.out.len
    have HPE := Sec.mk hI.out.pend
    clear o0 o1 o2 o3 hX HO3 hI hk
    rcases (show c / 5 % 8 = 0 ∨ c / 5 % 8 = 1 ∨ c / 5 % 8 = 2 ∨ c / 5 % 8 = 3 ∨ c / 5 % 8 = 4 ∨ c / 5 % 8 = 5 ∨ c / 5 % 8 = 6 ∨ c / 5 % 8 = 7 by omega) with hj | hj | hj | hj | hj | hj | hj | hj
    all_goals
      have hi : ((c : Int) / 5) % 8 = ((c / 5 % 8 : Nat) : Int) := by omega
      rw [hj] at hi
      clear hj
    · go_wp2
      go_meet
      have hb := HB3.out.set_ 4 (.int .i64 (-1))
      simp only [List.set_cons_zero, List.set_cons_succ] at hb
      exact ⟨HS3.out.own ((Mod.refl (fun k => k = b) _).setCell (p := ⟨b, 4, none⟩) (fun _ => rfl) _) ⟨_, _, _, _, _, _, _, _, _, _, _, _, _, hb⟩⟩
    · go_wp2
      go_meet
      have hb := HB3.out.set_ 4 (.int .i64 1000001)
      simp only [List.set_cons_zero, List.set_cons_succ] at hb
      exact ⟨HS3.out.own ((Mod.refl (fun k => k = b) _).setCell (p := ⟨b, 4, none⟩) (fun _ => rfl) _) ⟨_, _, _, _, _, _, _, _, _, _, _, _, _, hb⟩⟩
    · by_cases hl : 0 < d.1.length
      rotate_left
      · have hli : ¬ (0 : Int) < (d.1.length : Int) := by omega
        go_wp2
        go_meet
        exact HS3
      have hli : (0 : Int) < (d.1.length : Int) := by omega
      obtain ⟨gA, Ad, nd, cd, sf, rfl, hgA, n0, hnd, n1, nf1⟩ := node0 HO0.out hl HLN.out
      have hgb := HX.out gA (Or.inl hgA)
      go_upto_region 14 with (fail)
      refine reg_start [11] (fun W => Sec (W.cell? ⟨b, 0, none⟩ = some (.slice (some ⟨gA, 0, none⟩) d.1.length y0') ∧ W.cell? ⟨gA, 0, none⟩ = some (.slice Ad nd cd))) (by kernel_rfl) ?_
      have HSS : Sec (w3.drew.cell? ⟨b, 0, none⟩ = some (.slice (some ⟨gA, 0, none⟩) d.1.length y0') ∧ w3.drew.cell? ⟨gA, 0, none⟩ = some (.slice Ad nd cd)) := ⟨q0, n0⟩
      refine reg_take (.pointer (some ⟨b, 0, none⟩)) (i := 0) (n := 38) HSS rfl (by kernel_rfl) (by kernel_rfl) (by kernel_rfl) (by kernel_rfl) (fun _ _ _ h => h) (fun W hW => exec_field rfl rfl (fptDisk0 _ _)) ?_
      simp only [Act.put, List.setIfInBounds_toArray, List.set_cons_zero, List.set_cons_succ]
      refine reg_take (.slice (some ⟨gA, 0, none⟩) d.1.length y0') (i := 1) (n := 39) HSS rfl (by kernel_rfl) (by kernel_rfl) (by kernel_rfl) (by kernel_rfl) (fun _ _ _ h => h) (fun W hW => exec_load rfl rfl (ldNodesD hW.out.1)) ?_
      simp only [Act.put, List.setIfInBounds_toArray, List.set_cons_zero, List.set_cons_succ]
      refine reg_take (.pointer (some ⟨b, 0, none⟩)) (i := 2) (n := 40) HSS rfl (by kernel_rfl) (by kernel_rfl) (by kernel_rfl) (by kernel_rfl) (fun _ _ _ h => h) (fun W hW => exec_field rfl rfl (fptDisk0 _ _)) ?_
      simp only [Act.put, List.setIfInBounds_toArray, List.set_cons_zero, List.set_cons_succ]
      refine reg_take (.slice (some ⟨gA, 0, none⟩) d.1.length y0') (i := 3) (n := 41) HSS rfl (by kernel_rfl) (by kernel_rfl) (by kernel_rfl) (by kernel_rfl) (fun _ _ _ h => h) (fun W hW => exec_load rfl rfl (ldNodesD hW.out.1)) ?_
      simp only [Act.put, List.setIfInBounds_toArray, List.set_cons_zero, List.set_cons_succ]
      refine reg_take (.pointer (some ⟨gA, 0, none⟩)) (i := 4) (n := 42) HSS rfl (by kernel_rfl) (by kernel_rfl) (by kernel_rfl) (by kernel_rfl) (fun _ _ _ h => h) (fun W hW => exec_indexAddr rfl rfl rfl (idxNX _ _ _ hl _)) ?_
      simp only [Act.put, List.setIfInBounds_toArray, List.set_cons_zero, List.set_cons_succ]
      refine reg_take (.pointer (some ⟨gA, 0, none⟩)) (i := 5) (n := 43) HSS rfl (by kernel_rfl) (by kernel_rfl) (by kernel_rfl) (by kernel_rfl) (fun _ _ _ h => h) (fun W hW => exec_field rfl rfl (fptNode0D _ _)) ?_
      simp only [Act.put, List.setIfInBounds_toArray, List.set_cons_zero, List.set_cons_succ]
      refine reg_take (.slice Ad nd cd) (i := 6) (n := 44) HSS rfl (by kernel_rfl) (by kernel_rfl) (by kernel_rfl) (by kernel_rfl) (fun _ _ _ h => h) (fun W hW => exec_load rfl rfl (ldBytesD hW.out.2)) ?_
      simp only [Act.put, List.setIfInBounds_toArray, List.set_cons_zero, List.set_cons_succ]
      refine reg_take (.int .i64 (nd : Int)) (i := 7) (n := 45) HSS rfl (by kernel_rfl) (by kernel_rfl) (by kernel_rfl) (by kernel_rfl) (fun _ _ _ h => h) (fun W hW => exec_lenD rfl rfl (lenBD _ _ _ _)) ?_
      simp only [Act.put, List.setIfInBounds_toArray, List.set_cons_zero, List.set_cons_succ]
      refine reg_take (.int .i64 ((nd : Int) + 1)) (i := 8) (n := 46) HSS rfl (by kernel_rfl) (by kernel_rfl) (by kernel_rfl) (by kernel_rfl) (fun _ _ _ h => h) (fun W hW => exec_bin rfl rfl rfl (addII (by rw [IntKind.wrap_i64]; omega) _ _ _)) ?_
      simp only [Act.put, List.setIfInBounds_toArray, List.set_cons_zero, List.set_cons_succ]
      refine reg_step (i := 9) rfl (by kernel_rfl) (fun K hK => ?_)
      refine wp_val (v := .pointer (some ⟨gA, 0, none⟩)) (exec_indexAddr rfl rfl rfl (idxNX _ _ _ hl _)) rfl (hK.out _ _ (fun _ => HSS) ?_)
      clear hK K
      simp only [Act.put, List.setIfInBounds_toArray, List.set_cons_zero, List.set_cons_succ]
      refine reg_step (i := 10) rfl (by kernel_rfl) (fun K hK => ?_)
      refine wp_val (v := .pointer (some ⟨gA, 1, none⟩)) (exec_field rfl rfl (fptN1X _ _)) rfl (hK.out _ _ (fun _ => HSS) ?_)
      clear hK K
      simp only [Act.put, List.setIfInBounds_toArray, List.set_cons_zero, List.set_cons_succ]
      refine reg_step (i := 11) rfl (by kernel_rfl) (fun K hK => ?_)
      refine wp_store rfl rfl rfl rfl (stIntX (w := w3.drew) (p := ⟨gA, 1, none⟩) n1 nf1 _) (hK.out _ _ (fun h => absurd (by decide) h) ?_)
      clear hK K
      refine reg_done (by kernel_rfl) ?_ _
      go_wp2
      go_meet
      exact ⟨(HS3.out.high ((Mod.refl (fun k => b + 1 < k) _).drew)).put hgb _⟩
    · by_cases hl : 1 < d.2.1.length
      rotate_left
      · have hli : ¬ (1 : Int) < (d.2.1.length : Int) := by omega
        go_wp2
        go_meet
        exact HS3
      have hli : (1 : Int) < (d.2.1.length : Int) := by omega
      obtain ⟨gA, X, Y, i0, i1, rfl, hgA, n0, n1, n2, n3, nfz⟩ := ent2 HO1.out hl
      have hgb := HX.out gA (Or.inr (Or.inl hgA))
      go_upto_region 17 with (fail)
      refine reg_start [9] (fun W => Sec (W.cell? ⟨b, 1, none⟩ = some (.slice (some ⟨gA, 0, none⟩) d.2.1.length y1') ∧ W.cell? ⟨gA, 1, none⟩ = some (.int .i64 i0))) (by kernel_rfl) ?_
      have HSS : Sec (w3.drew.cell? ⟨b, 1, none⟩ = some (.slice (some ⟨gA, 0, none⟩) d.2.1.length y1') ∧ w3.drew.cell? ⟨gA, 1, none⟩ = some (.int .i64 i0)) := ⟨q1, n1⟩
      refine reg_take (.pointer (some ⟨b, 1, none⟩)) (i := 0) (n := 55) HSS rfl (by kernel_rfl) (by kernel_rfl) (by kernel_rfl) (by kernel_rfl) (fun _ _ _ h => h) (fun W hW => exec_field rfl rfl (fptDisk1 _ _)) ?_
      simp only [Act.put, List.setIfInBounds_toArray, List.set_cons_zero, List.set_cons_succ]
      refine reg_take (.slice (some ⟨gA, 0, none⟩) d.2.1.length y1') (i := 1) (n := 56) HSS rfl (by kernel_rfl) (by kernel_rfl) (by kernel_rfl) (by kernel_rfl) (fun _ _ _ h => h) (fun W hW => exec_load rfl rfl (ldEntsD hW.out.1)) ?_
      simp only [Act.put, List.setIfInBounds_toArray, List.set_cons_zero, List.set_cons_succ]
      refine reg_take (.pointer (some ⟨b, 1, none⟩)) (i := 2) (n := 57) HSS rfl (by kernel_rfl) (by kernel_rfl) (by kernel_rfl) (by kernel_rfl) (fun _ _ _ h => h) (fun W hW => exec_field rfl rfl (fptDisk1 _ _)) ?_
      simp only [Act.put, List.setIfInBounds_toArray, List.set_cons_zero, List.set_cons_succ]
      refine reg_take (.slice (some ⟨gA, 0, none⟩) d.2.1.length y1') (i := 3) (n := 58) HSS rfl (by kernel_rfl) (by kernel_rfl) (by kernel_rfl) (by kernel_rfl) (fun _ _ _ h => h) (fun W hW => exec_load rfl rfl (ldEntsD hW.out.1)) ?_
      simp only [Act.put, List.setIfInBounds_toArray, List.set_cons_zero, List.set_cons_succ]
      refine reg_take (.pointer (some ⟨gA, 0, none⟩)) (i := 4) (n := 59) HSS rfl (by kernel_rfl) (by kernel_rfl) (by kernel_rfl) (by kernel_rfl) (fun _ _ _ h => h) (fun W hW => exec_indexAddr rfl rfl rfl (idxE0X _ _ _ hl _)) ?_
      simp only [Act.put, List.setIfInBounds_toArray, List.set_cons_zero, List.set_cons_succ]
      refine reg_take (.pointer (some ⟨gA, 1, none⟩)) (i := 5) (n := 60) HSS rfl (by kernel_rfl) (by kernel_rfl) (by kernel_rfl) (by kernel_rfl) (fun _ _ _ h => h) (fun W hW => exec_field rfl rfl (fptEntry1D _ _)) ?_
      simp only [Act.put, List.setIfInBounds_toArray, List.set_cons_zero, List.set_cons_succ]
      refine reg_take (.int .i64 i0) (i := 6) (n := 61) HSS rfl (by kernel_rfl) (by kernel_rfl) (by kernel_rfl) (by kernel_rfl) (fun _ _ _ h => h) (fun W hW => exec_load rfl rfl (ldIntD hW.out.2)) ?_
      simp only [Act.put, List.setIfInBounds_toArray, List.set_cons_zero, List.set_cons_succ]
      refine reg_step (i := 7) rfl (by kernel_rfl) (fun K hK => ?_)
      refine wp_val (v := .pointer (some ⟨gA, 2, none⟩)) (exec_indexAddr rfl rfl rfl (idxE1X _ _ _ hl _)) rfl (hK.out _ _ (fun _ => HSS) ?_)
      clear hK K
      simp only [Act.put, List.setIfInBounds_toArray, List.set_cons_zero, List.set_cons_succ]
      refine reg_step (i := 8) rfl (by kernel_rfl) (fun K hK => ?_)
      refine wp_val (v := .pointer (some ⟨gA, 3, none⟩)) (exec_field rfl rfl (fptEntry1D _ _)) rfl (hK.out _ _ (fun _ => HSS) ?_)
      clear hK K
      simp only [Act.put, List.setIfInBounds_toArray, List.set_cons_zero, List.set_cons_succ]
      refine reg_step (i := 9) rfl (by kernel_rfl) (fun K hK => ?_)
      refine wp_store rfl rfl rfl rfl (stIntX (w := w3.drew) (p := ⟨gA, 3, none⟩) n3 (nfz _) _) (hK.out _ _ (fun h => absurd (by decide) h) ?_)
      clear hK K
      refine reg_done (by kernel_rfl) ?_ _
      go_wp2
      go_meet
      exact ⟨(HS3.out.high ((Mod.refl (fun k => b + 1 < k) _).drew)).put hgb _⟩
    · by_cases hl : 1 < d.2.1.length
      rotate_left
      · have hli : ¬ (1 : Int) < (d.2.1.length : Int) := by omega
        go_wp2
        go_meet
        exact HS3
      have hli : (1 : Int) < (d.2.1.length : Int) := by omega
      obtain ⟨gA, X, Y, i0, i1, rfl, hgA, n0, n1, n2, n3, nfz⟩ := ent2 HO1.out hl
      have hgb := HX.out gA (Or.inr (Or.inl hgA))
      have hc1 : ¬ y1' = 1 := by
        obtain ⟨A', c', he, h1, h2⟩ := HO1.out.form
        injection he with _ _ hec
        omega
      have hb := fun v n c => HB3.out.set_ 1 (.slice v n c)
      simp only [List.set_cons_zero, List.set_cons_succ] at hb
      have HB4 := Sec.mk hb
      clear hb
      go_wp2
      go_meet
      exact ⟨HS3.out.own ((Mod.refl (fun k => k = b) _).setCell (p := ⟨b, 1, none⟩) (fun _ => rfl) _) ⟨_, _, _, _, _, _, _, _, _, _, _, _, _, HB4.out _ _ _⟩⟩
    · have HROW := Sec.mk (rowDirOp w3 (x := (5, [122, 122], [], 0)) (by decide) (by decide) (by decide) (by decide))
      have hma : New w3 (w3.alloc (.cells #[.int .i64 5, .string ⟨#[122, 122]⟩, .string ⟨#[]⟩, .int .i64 0] 66)) := (Mod.refl _ _).alloc _
      have HOP : Sec (OwP dDirOp 66 (w3.alloc (.cells #[.int .i64 5, .string ⟨#[122, 122]⟩, .string ⟨#[]⟩, .int .i64 0] 66)) (fun k => b + 1 < k) (.slice y3 d.2.2.2.1.length y3') d.2.2.2.1) := ⟨(show OwP dDirOp 66 w3 (fun k => b + 1 < k) _ _ from ⟨F3, HO3'.out, fun k hk => HX.out k (Or.inr (Or.inr (Or.inr hk)))⟩).new hma⟩
      have HSA := Sec.mk (HS3.out.high ((Mod.refl (fun k => b + 1 < k) _).trans hma (fun i h _ => h.elim)))
      have HBA := Sec.mk (HB3.out.mod hma id)
      have hpl := HPE.out
      clear hma
      go_wp2_with (at_builtin; go_loud (refine wpList_appP _ rfl (.tmp 77) (.tmp 79) _ rfl Tryd.underlying25 eltDirOp flatDirOp rfl rfl HOP.out HROW.out (fun k hk => by simp at hk; omega) (show d.2.2.2.1.length + 1 ≤ 34359738368 by omega) ?_; intro A6 n6 c6 w6 ho6 hm6; have HS6 := Sec.mk (HSA.out.high hm6); have HB6 := Sec.mk (HBA.out.mod hm6 (by omega)); have k3 : w6.cell? ⟨b, 3, none⟩ = some (.slice y3 d.2.2.2.1.length y3') := HB6.out.cell 3; have g3 : w6.frozen? ⟨b, 3, none⟩ = false := HB6.out.frozen 3; clear ho6 hm6))
      have hb := HB6.out.set_ 3 (.slice A6 n6 c6)
      simp only [List.set_cons_zero, List.set_cons_succ] at hb
      go_meet
      exact ⟨HS6.out.own ((Mod.refl (fun k => k = b) _).setCell (p := ⟨b, 3, none⟩) (fun _ => rfl) _) ⟨_, _, _, _, _, _, _, _, _, _, _, _, _, hb⟩⟩
    · by_cases hl : 1 < d.2.2.1.length
      rotate_left
      · have hli : ¬ (1 : Int) < (d.2.2.1.length : Int) := by omega
        go_wp2
        go_meet
        exact HS3
      have hli : (1 : Int) < (d.2.2.1.length : Int) := by omega
      obtain ⟨gA, X, Y, i0, i1, rfl, hgA, n0, n1, n2, n3, nfz⟩ := ent2 HO2.out hl
      have hgb := HX.out gA (Or.inr (Or.inr (Or.inl hgA)))
      have hma : New w3 (w3.alloc (.cells #[.string X, .int .i64 i0] 37)) := (Mod.refl _ _).alloc _
      have HBE := Sec.mk (Blk.new w3 37 [.string X, .int .i64 i0])
      have hgl := HO2.out.lt gA hgA
      have m0 := (hma.cell (p := ⟨gA, 0, none⟩) hgl id).trans n0
      have m1 := (hma.cell (p := ⟨gA, 1, none⟩) hgl id).trans n1
      have m2 := (hma.cell (p := ⟨gA, 2, none⟩) hgl id).trans n2
      have m3 := (hma.cell (p := ⟨gA, 3, none⟩) hgl id).trans n3
      have mfz := fun k => (hma.frozen (p := ⟨gA, k, none⟩) hgl id).trans (nfz k)
      have HB4 := Sec.mk (HB3.out.mod hma id)
      have HS4 := Sec.mk (HS3.out.high ((Mod.refl (fun k => b + 1 < k) _).trans hma (fun i h _ => h.elim)))
      have hl3 : gA < w3.heap.size := hgl
      clear hma
      go_upto_region 26 with (fail)
      generalize w3.alloc (.cells #[.string X, .int .i64 i0] 37) = w4 at *
      have q2' : w4.cell? ⟨b, 2, none⟩ = some (.slice (some ⟨gA, 0, none⟩) d.2.2.1.length y2') := HB4.out.cell 2
      refine reg_start [7] (fun W => Sec (W.cell? ⟨b, 2, none⟩ = some (.slice (some ⟨gA, 0, none⟩) d.2.2.1.length y2') ∧ W.cell? ⟨gA, 2, none⟩ = some (.string Y) ∧ W.cell? ⟨gA, 3, none⟩ = some (.int .i64 i1))) (by kernel_rfl) ?_
      have HSS : Sec (w4.drew.cell? ⟨b, 2, none⟩ = some (.slice (some ⟨gA, 0, none⟩) d.2.2.1.length y2') ∧ w4.drew.cell? ⟨gA, 2, none⟩ = some (.string Y) ∧ w4.drew.cell? ⟨gA, 3, none⟩ = some (.int .i64 i1)) := ⟨q2', m2, m3⟩
      refine reg_take (.pointer (some ⟨b, 2, none⟩)) (i := 0) (n := 92) HSS rfl (by kernel_rfl) (by kernel_rfl) (by kernel_rfl) (by kernel_rfl) (fun _ _ _ h => h) (fun W hW => exec_field rfl rfl (fptD2X _ _)) ?_
      simp only [Act.put, List.setIfInBounds_toArray, List.set_cons_zero, List.set_cons_succ]
      refine reg_take (.slice (some ⟨gA, 0, none⟩) d.2.2.1.length y2') (i := 1) (n := 93) HSS rfl (by kernel_rfl) (by kernel_rfl) (by kernel_rfl) (by kernel_rfl) (fun _ _ _ h => h) (fun W hW => exec_load rfl rfl (ldEntsD hW.out.1)) ?_
      simp only [Act.put, List.setIfInBounds_toArray, List.set_cons_zero, List.set_cons_succ]
      refine reg_take (.pointer (some ⟨b, 2, none⟩)) (i := 2) (n := 94) HSS rfl (by kernel_rfl) (by kernel_rfl) (by kernel_rfl) (by kernel_rfl) (fun _ _ _ h => h) (fun W hW => exec_field rfl rfl (fptD2X _ _)) ?_
      simp only [Act.put, List.setIfInBounds_toArray, List.set_cons_zero, List.set_cons_succ]
      refine reg_take (.slice (some ⟨gA, 0, none⟩) d.2.2.1.length y2') (i := 3) (n := 95) HSS rfl (by kernel_rfl) (by kernel_rfl) (by kernel_rfl) (by kernel_rfl) (fun _ _ _ h => h) (fun W hW => exec_load rfl rfl (ldEntsD hW.out.1)) ?_
      simp only [Act.put, List.setIfInBounds_toArray, List.set_cons_zero, List.set_cons_succ]
      refine reg_take (.pointer (some ⟨gA, 2, none⟩)) (i := 4) (n := 96) HSS rfl (by kernel_rfl) (by kernel_rfl) (by kernel_rfl) (by kernel_rfl) (fun _ _ _ h => h) (fun W hW => exec_indexAddr rfl rfl rfl (idxE1X _ _ _ hl _)) ?_
      simp only [Act.put, List.setIfInBounds_toArray, List.set_cons_zero, List.set_cons_succ]
      refine reg_take (.agg #[.string Y, .int .i64 i1]) (i := 5) (n := 97) HSS rfl (by kernel_rfl) (by kernel_rfl) (by kernel_rfl) (by kernel_rfl) (fun _ _ _ h => h) (fun W hW => exec_load rfl rfl (ldEntX hW.out.2.1 hW.out.2.2)) ?_
      simp only [Act.put, List.setIfInBounds_toArray, List.set_cons_zero, List.set_cons_succ]
      refine reg_step (i := 6) rfl (by kernel_rfl) (fun K hK => ?_)
      refine wp_val (v := .pointer (some ⟨gA, 0, none⟩)) (exec_indexAddr rfl rfl rfl (idxE0X _ _ _ hl _)) rfl (hK.out _ _ (fun _ => HSS) ?_)
      clear hK K
      simp only [Act.put, List.setIfInBounds_toArray, List.set_cons_zero, List.set_cons_succ]
      refine reg_step (i := 7) rfl (by kernel_rfl) (fun K hK => ?_)
      refine wp_store rfl rfl rfl rfl (stEntX (w := w4.drew) m0 m1 (mfz _) (mfz _) _ _) (hK.out _ _ (fun h => absurd (by decide) h) ?_)
      clear hK K
      refine reg_done (by kernel_rfl) ?_ _
      have hm6 : Mod (fun k => k = gA) w4 ((w4.drew.setCell ⟨gA, 0, none⟩ (.string Y)).setCell ⟨gA, 1, none⟩ (.int .i64 i1)) := (((Mod.refl (fun k => k = gA) w4).drew).setCell (p := ⟨gA, 0, none⟩) (fun _ => rfl) _).setCell (p := ⟨gA, 1, none⟩) (fun _ => rfl) _
      have HS6 := Sec.mk (HS4.out.high (hm6.mono (T := fun k => b + 1 < k) (fun i _ h => by omega)))
      have HB6 := Sec.mk (HB4.out.mod hm6 (by omega))
      have HE6 := Sec.mk (HBE.out.mod hm6 (by omega))
      have hc6 : ∃ u2 u3, ((w4.drew.setCell ⟨gA, 0, none⟩ (.string Y)).setCell ⟨gA, 1, none⟩ (.int .i64 i1)).cell? ⟨gA, 2, none⟩ = some u2 ∧ ((w4.drew.setCell ⟨gA, 0, none⟩ (.string Y)).setCell ⟨gA, 1, none⟩ (.int .i64 i1)).cell? ⟨gA, 3, none⟩ = some u3 ∧ ∀ k, ((w4.drew.setCell ⟨gA, 0, none⟩ (.string Y)).setCell ⟨gA, 1, none⟩ (.int .i64 i1)).frozen? ⟨gA, k, none⟩ = false := by
        obtain ⟨a2, h2⟩ := cell?_setCell_some (w := w4.drew) (p := ⟨gA, 0, none⟩) (x := .string Y) m2
        obtain ⟨b2, h2'⟩ := cell?_setCell_some (p := ⟨gA, 1, none⟩) (x := .int .i64 i1) h2
        obtain ⟨a3, h3⟩ := cell?_setCell_some (w := w4.drew) (p := ⟨gA, 0, none⟩) (x := .string Y) m3
        obtain ⟨b3, h3'⟩ := cell?_setCell_some (p := ⟨gA, 1, none⟩) (x := .int .i64 i1) h3
        exact ⟨b2, b3, h2', h3', fun k => by rw [World.frozen?_setCell, World.frozen?_setCell]; exact mfz k⟩
      obtain ⟨u2, u3, hu2, hu3, hfz6⟩ := hc6
      go_upto_region 27 with (fail)
      generalize ((w4.drew.setCell ⟨gA, 0, none⟩ (.string Y)).setCell ⟨gA, 1, none⟩ (.int .i64 i1)) = w6 at *
      have e2 : w6.cell? ⟨b, 2, none⟩ = some (.slice (some ⟨gA, 0, none⟩) d.2.2.1.length y2') := HB6.out.cell 2
      have p0 : w6.cell? ⟨w3.heap.size, 0, none⟩ = some (.string X) := HE6.out.cell 0
      have p1 : w6.cell? ⟨w3.heap.size, 1, none⟩ = some (.int .i64 i0) := HE6.out.cell 1
      have pf2 := hfz6 2
      have pf3 := hfz6 3
      go_wp2
      go_meet
      exact ⟨(HS6.out.put hgb _).put hgb _⟩
    · by_cases hl : 0 < d.2.2.2.1.length
      rotate_left
      · have hli : ¬ (0 : Int) < (d.2.2.2.1.length : Int) := by omega
        go_wp2
        go_meet
        exact HS3
      have hli : (0 : Int) < (d.2.2.2.1.length : Int) := by omega
      obtain ⟨gA, X, rfl, hgA, n2, nf2⟩ := dop0 HO3'.out hl
      have hgb := HX.out gA (Or.inr (Or.inr (Or.inr hgA)))
      go_wp2
      go_meet
      exact ⟨HS3.out.put hgb _⟩
  case rest =>
    clear HS3 HB3 HO3
    have HS := hcut
    clear hcut
    obtain ⟨A0, A1, A2, A3, n0, n1, n2, n3, c0, c1, c2, c3, q, hbk⟩ := HS.out.blk
    have HFB := Sec.mk (set5_blk HS.out.res (.slice A0 n0 c0) (.slice A1 n1 c1) (.slice A2 n2 c2) (.slice A3 n3 c3) (.int .i64 q))
    have hm5 := set5_mod wc (b + 1) (.slice A0 n0 c0) (.slice A1 n1 c1) (.slice A2 n2 c2) (.slice A3 n3 c3) (.int .i64 q)
    have HGB := HS.out.gb
    have HRE := Sec.mk (HS.out.rd.mod hm5 (fun k hk => by omega) (by omega))
    have HME := Sec.mk (HS.out.mod.trans hm5 (fun i hi hlt => by omega))
    clear hm5
    have x0 : wc.cell? ⟨b, 0, none⟩ = some (.slice A0 n0 c0) := hbk.cell 0
    have x1 : wc.cell? ⟨b, 1, none⟩ = some (.slice A1 n1 c1) := hbk.cell 1
    have x2 : wc.cell? ⟨b, 2, none⟩ = some (.slice A2 n2 c2) := hbk.cell 2
    have x3 : wc.cell? ⟨b, 3, none⟩ = some (.slice A3 n3 c3) := hbk.cell 3
    have x4 : wc.cell? ⟨b, 4, none⟩ = some (.int .i64 q) := hbk.cell 4
    have z0 : wc.cell? ⟨b + 1, 0, none⟩ = some (.slice none 0 0) := HS.out.res.cell 0
    have z1 : wc.cell? ⟨b + 1, 1, none⟩ = some (.slice none 0 0) := HS.out.res.cell 1
    have z2 : wc.cell? ⟨b + 1, 2, none⟩ = some (.slice none 0 0) := HS.out.res.cell 2
    have z3 : wc.cell? ⟨b + 1, 3, none⟩ = some (.slice none 0 0) := HS.out.res.cell 3
    have z4 : wc.cell? ⟨b + 1, 4, none⟩ = some (.int .i64 0) := HS.out.res.cell 4
    have zf0 : wc.frozen? ⟨b + 1, 0, none⟩ = false := HS.out.res.frozen 0
    have zf1 : wc.frozen? ⟨b + 1, 1, none⟩ = false := HS.out.res.frozen 1
    have zf2 : wc.frozen? ⟨b + 1, 2, none⟩ = false := HS.out.res.frozen 2
    have zf3 : wc.frozen? ⟨b + 1, 3, none⟩ = false := HS.out.res.frozen 3
    have zf4 : wc.frozen? ⟨b + 1, 4, none⟩ = false := HS.out.res.frozen 4
    clear hbk
    go_wp2
    refine bodyPost_ret (results_blk rfl rfl HFB.out Tryd.underlying27 (by kernel_rfl)) rfl ?_
    exact ⟨A0, A1, A2, A3, n0, n1, n2, n3, c0, c1, c2, c3, q, rfl, HRE, HME⟩
end Go.Proofs.YtkkgighgnbbgiaaDoor

namespace Go.Proofs.YtkkgighgnbbgiaaDoor
open Go.RowKit Mem
set_option linter.unusedVariables false
set_option linter.unusedSimpArgs false
abbrev dIntS : Ty (List Int) := Ty.slice 3 (Ty.int .i64)
theorem elt_i64 : Elt Tryd.prog 3 (Ty.int .i64).sz (.int .i64 0) := Elt.of (b := 8) (by kernel_rfl) rfl (by decide) (by decide)
theorem intRow_at {w w' : World} {B : Nat → Prop} {A : Option Addr} {n : Nat} {xs : List Int} (h : Row (Ty.int .i64) w B A n xs) (hb : ∀ k, B k → w'.heap[k]? = w.heap[k]?) {k : Nat} (hk : k < xs.length) :
    ∃ ad, A = some ad ∧ w'.cell? (ad.add k) = some (.int .i64 xs[k]) ∧ IntKind.i64.wrap xs[k] = xs[k] := by
  obtain rfl := h.1
  obtain ⟨ad, c, hlt, rfl, hbl, hK, hc⟩ := h.at_ hk
  have h0 : w'.cell? (ad.add k) = w.cell? (ad.add k) := World.cell?_of_block (by rw [add_block]; exact hb _ hbl)
  obtain ⟨hK', hw⟩ : c = [Value.int .i64 xs[k]] ∧ IntKind.i64.wrap xs[k] = xs[k] := hK
  refine ⟨ad, rfl, ?_, hw⟩
  rw [h0]
  subst hK'
  have h1 := hc 0 _ rfl
  rwa [show k * (Ty.int .i64).sz + 0 = k from by show k * 1 + 0 = k; omega] at h1
end Go.Proofs.YtkkgighgnbbgiaaDoor

namespace Go.Proofs.YtkkgighgnbbgiaaDoor
open Go.RowKit Mem
set_option linter.unusedVariables false
set_option linter.unusedSimpArgs false
def DrawnR (w : World) (e : Ending) (w' : World) : Prop :=
  ∃ (B0 B1 B2 B3 : Option Addr) (n0 n1 n2 n3 e0 e1 e2 e3 : Nat) (q : Int) (A : Option Addr) (c : Nat) (ops : OpST), e = .returned (.tuple #[.agg #[.slice B0 n0 e0, .slice B1 n1 e1, .slice B2 n2 e2, .slice B3 n3 e3, .int .i64 q], .slice A ops.length c]) ∧ ops.length ≤ 60 ∧ Sec (∀ o, o ∈ ops → opFew o) ∧ Sec (OwI dOp 39 w' w.heap.size w'.heap.size (.slice A ops.length c) ops) ∧ Sec (New w w')
set_option maxHeartbeats 8000000 in
set_option maxRecDepth 100000 in
theorem drawDiskDo_calls {A : Option Addr} {c0 : Nat} {xs : Bytes} {B : Nat → Prop} {w : World} (h : Row Ty.byte w B A xs.length xs) (hB : ∀ k, B k → k < w.heap.size) (hl : xs.length ≤ 34359738368) :
    Calls Tryd.prog 4 #[.slice A xs.length c0] w (DrawnR w) := by
  have hn0 : New w ((w.alloc (.cells #[.slice none 0 0, .slice none 0 0, .slice none 0 0, .slice none 0 0, .int .i64 0] 27)).alloc (.cells #[.slice A xs.length c0, .int .i64 0] 52)) := ((Mod.refl _ _).alloc _).alloc _
  have HRB : Sec (Blk ((w.alloc (.cells #[.slice none 0 0, .slice none 0 0, .slice none 0 0, .slice none 0 0, .int .i64 0] 27)).alloc (.cells #[.slice A xs.length c0, .int .i64 0] 52)) w.heap.size 27 [.slice none 0 0, .slice none 0 0, .slice none 0 0, .slice none 0 0, .int .i64 0]) := ⟨(Blk.new w 27 [.slice none 0 0, .slice none 0 0, .slice none 0 0, .slice none 0 0, .int .i64 0]).alloc _⟩
  have HRR : Sec (Rdr ((w.alloc (.cells #[.slice none 0 0, .slice none 0 0, .slice none 0 0, .slice none 0 0, .int .i64 0] 27)).alloc (.cells #[.slice A xs.length c0, .int .i64 0] 52)) (w.heap.size + 1) xs) := ⟨⟨A, c0, xs, 0, B, by have := Blk.new (w.alloc (.cells #[.slice none 0 0, .slice none 0 0, .slice none 0 0, .slice none 0 0, .int .i64 0] 27)) 52 [.slice A xs.length c0, .int .i64 0]; simpa using this, by omega, rfl, h.mod (fun _ h => h) (fun k hk => hn0.block k (hB k hk) id), (fun k hk => by have := hB k hk; omega), hl⟩⟩
  have HNA := Sec.mk hn0
  have hsz : ((w.alloc (.cells #[.slice none 0 0, .slice none 0 0, .slice none 0 0, .slice none 0 0, .int .i64 0] 27)).alloc (.cells #[.slice A xs.length c0, .int .i64 0] 52)).heap.size = w.heap.size + 2 := by simp
  clear h hB hn0
  go_enter Tryd.func4, Tryd.ntmps4
  go_upto_region 2 with (fail)
  generalize ((w.alloc (.cells #[.slice none 0 0, .slice none 0 0, .slice none 0 0, .slice none 0 0, .int .i64 0] 27)).alloc (.cells #[.slice A xs.length c0, .int .i64 0] 52)) = wA at *
  have hgA : w.heap.size + 1 < wA.heap.size := by omega
  have HRD : Sec (RD wA (w.heap.size + 1) wA) := ⟨⟨_, HRR.out⟩, Mod.refl _ _⟩
  go_wp2_with fail
  refine (l1Disk_calls HRD hgA).mono ?_
  rintro e w2 ⟨d, A0, A1, A2, A3, c0, c1, c2, c3, rfl, HO2, HI2, HK2, HR2, HM2⟩
  have HO2' : Sec (Out4 (fun k => k ≠ w.heap.size + 1) w2 (.slice A0 d.1.length c0) (.slice A1 d.2.1.length c1) (.slice A2 d.2.2.1.length c2) (.slice A3 d.2.2.2.1.length c3) d) := ⟨HO2.out.wide (fun k h1 h2 => by have h3 : wA.heap.size ≤ k := h2; omega)⟩
  clear HRD HO2
  go_wp2_with fail
  refine (l1Spoilt_calls HR2 hgA HO2' HI2 HK2).mono ?_
  clear HO2' HI2 HK2 HR2
  rintro e w3 ⟨B0, B1, B2, B3, n0, n1, n2, n3, e0, e1, e2, e3, q, rfl, HR3, HM3⟩
  have HMA : Sec (Mod (fun k => k = w.heap.size + 1) wA w3) := ⟨HM2.out.trans HM3.out (fun i hi _ => hi)⟩
  have hs3 := HMA.out.size
  have HRB3 := Sec.mk (HRB.out.mod HMA.out (by omega))
  have HSB : Sec (Blk (w3.alloc (.cells #[.slice B0 n0 e0, .slice B1 n1 e1, .slice B2 n2 e2, .slice B3 n3 e3, .int .i64 q] 27)) w3.heap.size 27 [.slice B0 n0 e0, .slice B1 n1 e1, .slice B2 n2 e2, .slice B3 n3 e3, .int .i64 q]) := ⟨Blk.new w3 _ _⟩
  have hna : New w3 (w3.alloc (.cells #[.slice B0 n0 e0, .slice B1 n1 e1, .slice B2 n2 e2, .slice B3 n3 e3, .int .i64 q] 27)) := (Mod.refl _ _).alloc _
  have HRB4 := Sec.mk (HRB3.out.mod hna id)
  have HR4 := Sec.mk (HR3.out.new hna)
  have HM4 : Sec (Mod (fun k => k = w.heap.size + 1) wA (w3.alloc (.cells #[.slice B0 n0 e0, .slice B1 n1 e1, .slice B2 n2 e2, .slice B3 n3 e3, .int .i64 q] 27))) := ⟨HMA.out.transN hna⟩
  have hs4 := hna.size
  clear HM2 HM3 HRB HRB3 HR3 HMA hna HRR
  go_upto_region 3 with (fail)
  generalize w3.alloc (.cells #[.slice B0 n0 e0, .slice B1 n1 e1, .slice B2 n2 e2, .slice B3 n3 e3, .int .i64 q] 27) = w4 at *
  have hsL := HSB.out.lt
  generalize hs : w3.heap.size = s at *
  generalize hg : w.heap.size + 1 = g at *
  generalize hrb : w.heap.size = rb at *
  have hgr : ¬ rb = g := by omega
  have hsg : ¬ (s = g ∨ s = rb) := by omega
  have HE4 : Sec (∀ W, Mod (fun k => k = g ∨ k = rb) w4 W → New w W) := ⟨fun W hW => ((HNA.out.trans HM4.out (fun i hi hlt => by omega)).trans hW (fun i hi hlt => by omega))⟩
  have hw4 : w.heap.size ≤ w4.heap.size := by omega
  clear HNA HM4
  refine reg_start [] (fun W => Sec (Mod (fun k => k = g ∨ k = rb) w4 W)) (by kernel_rfl) ?_
  have HSS : Sec (Mod (fun k => k = g ∨ k = rb) w4 w4.drew) := ⟨(Mod.refl _ _).drew⟩
  refine reg_take (.agg #[.slice B0 n0 e0, .slice B1 n1 e1, .slice B2 n2 e2, .slice B3 n3 e3, .int .i64 q]) (i := 0) (n := 13) HSS rfl (by kernel_rfl) (by kernel_rfl) (by kernel_rfl) (by kernel_rfl) (fun _ _ _ h => h) (fun W hW => exec_load rfl rfl (ldDiskS (HSB.out.mod hW.out hsg))) ?_
  simp only [Act.put, List.setIfInBounds_toArray, List.set_cons_zero, List.set_cons_succ]
  refine reg_take (.pointer (some ⟨g, 0, none⟩)) (i := 1) (n := 14) HSS rfl (by kernel_rfl) (by kernel_rfl) (by kernel_rfl) (by kernel_rfl) (fun _ _ _ h => h) (fun W hW => exec_move rfl rfl) ?_
  simp only [Act.put, List.setIfInBounds_toArray, List.set_cons_zero, List.set_cons_succ]
  refine reg_step (i := 2) rfl (by kernel_rfl) (fun K hK => ?_)
  refine wp_call (n := 15) (vals := [.pointer (some ⟨g, 0, none⟩), .int .i64 60]) rfl rfl rfl (by kernel_rfl) (l1Ops_calls (w0 := wA) (w := w4.drew) (m := 60) ⟨HR4.out.new ((Mod.refl _ _).drew)⟩ (by omega) hgA) ?_
  rintro e w5 ⟨A5, c5, ops, rfl, hl5, HF5, HO5, HR5, HM5⟩
  have hs5 := HM5.out.size
  have HN5 := Sec.mk (HSS.out.trans HM5.out (fun i hi _ => Or.inl hi))
  have HB5 := Sec.mk (HRB4.out.mod ((Mod.refl (fun k => k = g) _).drew.trans HM5.out (fun i hi _ => hi)) hgr)
  have HSS := HN5
  refine ⟨_, rfl, hK.out _ _ (fun _ => HSS) ?_⟩
  clear hK K
  simp only [Act.put, List.setIfInBounds_toArray, List.set_cons_zero, List.set_cons_succ]
  refine reg_step (i := 3) rfl (by kernel_rfl) (fun K hK => ?_)
  have HFB := Sec.mk (set5_blk HB5.out (.slice B0 n0 e0) (.slice B1 n1 e1) (.slice B2 n2 e2) (.slice B3 n3 e3) (.int .i64 q))
  have hm5 := set5_mod w5 rb (.slice B0 n0 e0) (.slice B1 n1 e1) (.slice B2 n2 e2) (.slice B3 n3 e3) (.int .i64 q)
  have HNN := Sec.mk (HN5.out.trans hm5 (fun i hi _ => Or.inr hi))
  have HOO := Sec.mk (HO5.out.keep hm5 (fun i h1 h2 h3 => by have : w4.heap.size ≤ i := h1; omega))
  have hs6 := hm5.size
  refine wp_store rfl rfl rfl rfl (stDisk HB5.out B0 B1 B2 B3 n0 e0 n1 e1 n2 e2 n3 e3 q) (hK.out _ _ (fun _ => HNN) ?_)
  clear hK K
  refine reg_step (i := 4) rfl (by kernel_rfl) (fun K hK => ?_)
  refine wp_val (n := 3) (v := .slice A5 ops.length c5) (exec_assign rfl rfl) rfl (hK.out _ _ (fun _ => HNN) ?_)
  clear hK K
  simp only [Act.put, List.setIfInBounds_toArray, List.set_cons_zero, List.set_cons_succ]
  refine reg_done (by kernel_rfl) ?_ _
  go_wp2
  refine bodyPost_ret (results_blk2 rfl rfl rfl HFB.out Tryd.underlying27 (by kernel_rfl)) rfl ?_
  exact ⟨B0, B1, B2, B3, n0, n1, n2, n3, e0, e1, e2, e3, q, A5, c5, ops, rfl, hl5, HF5, ⟨HOO.out.wide (show w.heap.size ≤ w4.heap.size from hw4) hs6⟩, ⟨HE4.out _ HNN.out⟩⟩
theorem rowInt1 (w : World) {z : Int} (hz : IntKind.i64.wrap z = z) : Row (Ty.int .i64) (w.alloc (.cells #[.int .i64 z] 3)) (· = w.heap.size) (some ⟨w.heap.size, 0, none⟩) 1 [z] := by
  refine ⟨rfl, by omega, fun _ => ⟨_, rfl, rfl, fun j y hj => ?_⟩⟩
  have hj0 : j = 0 := by have := (List.getElem?_eq_some_iff.1 hj).1; simp at this; exact this
  subst hj0
  obtain rfl : y = z := by simpa using hj.symm
  refine ⟨[.int .i64 y], ⟨rfl, hz⟩, fun i u hu => ?_⟩
  rw [Nat.zero_mul, Nat.zero_add, add_own, cell_of_row _ _ i _ _ (0, 0) (heap_alloc_new w _)]
  simpa using hu
def PicksR (w : World) (e : Ending) (w' : World) : Prop :=
  ∃ (dirs : Int) (A : Option Addr) (c : Nat) (ps : List Int), e = .returned (.tuple #[.int .i64 dirs, .slice A ps.length c]) ∧ IntKind.i64.wrap dirs = dirs ∧ ps.length ≤ 4 ∧ Sec (RdV false dIntS w' (.slice A ps.length c) ps) ∧ Sec (New w w')
set_option maxHeartbeats 4000000 in
set_option maxRecDepth 100000 in
theorem l5Picks_calls {w0 w : World} {g : Nat} (h : Sec (RD w0 g w)) (hg0 : g < w0.heap.size) : Calls Tryd.prog 27 #[.pointer (some ⟨g, 0, none⟩)] w (fun e w' => ∃ (A : Option Addr) (c : Nat) (ps : List Int), e = .returned (.slice A ps.length c) ∧ ps.length ≤ 4 ∧ Sec (OwP (Ty.int .i64) 3 w' (fun k => w.heap.size ≤ k) (.slice A ps.length c) ps) ∧ Sec (Mod (· = g) w w')) := by
  have hgl := h.out.lt
  have hbase := h.out.size
  go_enter Tryd.func27, Tryd.ntmps27
  go_wp2_with fail
  refine (rd_next h).mono ?_
  clear h
  rintro e w1 ⟨c, rfl, hc, HR1, HM1⟩
  have hs1 := HM1.out.size
  go_wp2
  go_loopw [3, 4] (fun o n wr => ∃ (k : Nat) (ps : List Int) (A : Option Addr) (c' : Nat), o = .slice A ps.length c' ∧ n = .int .i64 (k : Int) ∧ k + ps.length ≤ 4 ∧ Sec (OwP (Ty.int .i64) 3 wr (fun k => w.heap.size ≤ k) (.slice A ps.length c') ps) ∧ Sec (RD w0 g wr) ∧ Sec (Mod (· = g) w wr)) (fun _ n _ => (intOf n).toNat)
  case atStart => exact ⟨c % 5, [], none, 0, rfl, by simp, by simp; omega, ⟨⟨[], Own.nil _ _ _, by simp⟩⟩, HR1, HM1⟩
  case round =>
    clear HR1 HM1
    obtain ⟨k, ps, A, c', rfl, rfl, hk, HO, HR, HM⟩ := hrel
    by_cases hk0 : 0 < k
    rotate_left
    · have hki : ¬ (0 : Int) < (k : Int) := by omega
      go_wp2
      go_ret
      exact ⟨A, c', ps, rfl, by omega, HO, HM⟩
    have hki : (0 : Int) < (k : Int) := by omega
    go_wp2_with fail
    refine (rd_next HR).mono ?_
    clear HR
    rintro e w3 ⟨d, rfl, hd, HR3, HM3⟩
    have HO3 := Sec.mk (HO.out.keep HM3.out (fun k h1 h2 => by have h3 : w.heap.size ≤ k := h1; omega))
    have HM3' := Sec.mk (HM.out.trans HM3.out (fun i hi _ => hi))
    have hs3 := HM3'.out.size
    obtain ⟨z, hz⟩ : ∃ z : Int, z = (d : Int) - 8 := ⟨_, rfl⟩
    have HZ := Sec.mk hz
    have hzw : IntKind.i64.wrap z = z := by rw [IntKind.wrap_i64, hz]; omega
    have HROW : Sec (Row (Ty.int .i64) (w3.alloc (.cells #[.int .i64 z] 3)) (· = w3.heap.size) (some ⟨w3.heap.size, 0, none⟩) 1 [z]) := ⟨rowInt1 w3 hzw⟩
    rw [hz] at HROW
    go_wp2_with (at_builtin; go_loud (refine wpList_appP _ rfl (.tmp 12) (.tmp 16) _ rfl Tryd.underlying40 elt_i64 (flat_int _) rfl rfl (HO3.out.new ((Mod.refl _ _).alloc _)) HROW.out (fun k hk => by simp at hk; omega) (show ps.length + 1 ≤ 34359738368 by omega) ?_; intro A2 n2 c2 w4 ho2 hmm; have HO2 := Sec.mk ho2; have HM2 := Sec.mk ((HM3'.out.alloc (.cells #[.int .i64 ((d : Int) - 8)] 3)).trans hmm (fun i hi hlt => by omega)); have HR2 := Sec.mk ((HR3.out.new ((Mod.refl _ _).alloc (.cells #[.int .i64 ((d : Int) - 8)] 3))).mod hmm (fun k hk => by have h3 : w.heap.size ≤ k := hk; omega) hg0); clear ho2 hmm))
    go_roundw
    case rel => exact ⟨k - 1, _, A2, c2, by obtain rfl := HO2.out.len.1; rfl, by go_num, by simp; omega, by obtain rfl := HO2.out.len.1; exact HO2, HR2, HM2⟩
    case measure => simp [intOf]; omega
set_option maxHeartbeats 4000000 in
set_option maxRecDepth 100000 in
theorem drawPicks_calls {A : Option Addr} {c0 : Nat} {xs : Bytes} {B : Nat → Prop} {w : World} (h : Row Ty.byte w B A xs.length xs) (hB : ∀ k, B k → k < w.heap.size) (hl : xs.length ≤ 34359738368) :
    Calls Tryd.prog 9 #[.slice A xs.length c0] w (PicksR w) := by
  have hn0 : New w (w.alloc (.cells #[.slice A xs.length c0, .int .i64 0] 52)) := (Mod.refl _ _).alloc _
  have HRR : Sec (Rdr (w.alloc (.cells #[.slice A xs.length c0, .int .i64 0] 52)) w.heap.size xs) := ⟨⟨A, c0, xs, 0, B, Blk.new w _ _, by omega, rfl, h.mod (fun _ h => h) (fun k hk => hn0.block k (hB k hk) id), hB, hl⟩⟩
  have HNA := Sec.mk hn0
  have hsz : (w.alloc (.cells #[.slice A xs.length c0, .int .i64 0] 52)).heap.size = w.heap.size + 1 := by simp
  clear h hB hn0
  go_enter Tryd.func9, Tryd.ntmps9
  go_upto_region 2 with (fail)
  generalize (w.alloc (.cells #[.slice A xs.length c0, .int .i64 0] 52)) = wA at *
  have hgA : w.heap.size < wA.heap.size := by omega
  have HRD : Sec (RD wA w.heap.size wA) := ⟨⟨_, HRR.out⟩, Mod.refl _ _⟩
  go_wp2_with fail
  refine (rd_next HRD).mono ?_
  rintro e w2 ⟨c, rfl, hc, HR2, HM2⟩
  clear HRD HRR
  go_wp2_with fail
  refine (l5Picks_calls HR2 hgA).mono ?_
  rintro e w3 ⟨A3, c3, ps, rfl, hps, HO3, HM3⟩
  have HN3 : Sec (New w w3) := ⟨(((Mod.ofNew (S := fun k => k = w.heap.size) HNA.out).trans HM2.out (fun i hi _ => hi)).trans HM3.out (fun i hi _ => hi)).mono (fun i h1 h2 => by omega)⟩
  clear HNA HM2 HM3
  go_wp2
  go_ret2
  refine ⟨_, A3, c3, ps, rfl, by rw [IntKind.wrap_i64]; omega, hps, ⟨?_⟩, HN3⟩
  have hl3 := HO3.out.len
  obtain ⟨F, ho, hF⟩ := HO3.out
  exact RdV.of_row ((ho.row rfl).mod ho.lt (fun _ _ => rfl)) hl3.2.1 hl3.2.2
end Go.Proofs.YtkkgighgnbbgiaaDoor
