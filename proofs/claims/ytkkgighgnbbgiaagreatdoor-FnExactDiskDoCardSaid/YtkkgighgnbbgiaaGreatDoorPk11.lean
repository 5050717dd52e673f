/- The names of a disk lead to nodes of their own. The program's operations on a disk that lies in a cell: found, summed. The program's operations on a disk that lies in a cell: a change of names noted. The program's operations on a disk that lies in a cell: a new node. An element of an own row, its part and its cell changed together. The program's operations on a disk that lies in a cell: bytes appended to a node. -/
import Derived.Test.YtkkgighgnbbgiaaGreatDoorPk8
import Derived.Test.YtkkgighgnbbgiaaGreatDoorPk10
import Derived.Test.YtkkgighgnbbgiaaGreatDoorPk9
import Derived.Test.YtkkgighgnbbgiaaGreatDoorPk1
namespace Go.Proofs.YtkkgighgnbbgiaaGreatDoor
set_option linter.unusedVariables false
def NodU (l : List EntL) : Prop := l.Pairwise (fun a b => a.2 ≠ b.2)
theorem nodU_of {l : List EntL} {nodes : Int} (h : inOrdL l nodes = true) : NodU l := by
  unfold inOrdL at h
  simp only [Bool.and_eq_true, decide_eq_true_eq] at h
  exact h.2.imp fun h => h.2
theorem nodU_out {l : List EntL} (h : NodU l) (n : LB) : NodU (outE l n) := List.Pairwise.filter _ h
theorem nodU_with {l : List EntL} (ho : Ord l) (h : NodU l) (n : LB) {k : Int} (hk : ∀ e, e ∈ outE l n → e.2 ≠ k) : NodU (withE l n k) := by
  have h1 := nodU_out h n
  rw [outE_split ho n] at h1 hk
  unfold NodU at h1 ⊢
  unfold withE
  obtain ⟨p1, p2, p3⟩ := List.pairwise_append.1 h1
  refine List.pairwise_append.2 ⟨p1, List.pairwise_cons.2 ⟨fun b hb => (hk b (List.mem_append_right _ hb)).symm, p2⟩, fun a ha b hb => ?_⟩
  rcases List.mem_cons.1 hb with rfl | hb
  · exact hk a (List.mem_append_left _ ha)
  · exact p3 a ha b hb
theorem nodU_ne {l : List EntL} (h : NodU l) {i j : Nat} (hi : i < l.length) (hj : j < l.length) (hij : i ≠ j) : l[i].2 ≠ l[j].2 := by
  unfold NodU at h
  rw [List.pairwise_iff_getElem] at h
  rcases Nat.lt_or_gt_of_ne hij with h1 | h1
  · exact h i j hi hj h1
  · exact (h j i hj hi h1).symm
theorem nodU_replay {l m : List EntL} {o : DopL} {nodes : Int} (ho : Ord l) (h : NodU l) (hr : replayL l o nodes = some m) : NodU m := by
  unfold replayL at hr
  split at hr
  · split at hr
    · rename_i hh
      rw [← Option.some.inj hr]
      refine nodU_with ho h _ fun e he => ?_
      have h1 := hh.2.2.2.2
      unfold hasNode at h1
      rw [List.any_eq_false] at h1
      have := h1 e (List.mem_filter.1 he).1
      simpa using this
    · cases hr
  · split at hr
    · split at hr
      · rename_i hh
        rw [← Option.some.inj hr]
        obtain ⟨hl, hn⟩ := (place_at ho o.2.1).1.mp hh.1
        refine nodU_with (ord_out ho _) (nodU_out h _) _ fun e he => ?_
        have h1 := (List.mem_filter.1 he).1
        obtain ⟨h2, h3⟩ := List.mem_filter.1 h1
        obtain ⟨j, hj, rfl⟩ := List.getElem_of_mem h2
        rw [List.getElem?_eq_getElem hl]
        refine nodU_ne h hj hl fun e => ?_
        subst e
        simp [hn] at h3
      · cases hr
    · split at hr
      · split at hr
        · rw [← Option.some.inj hr]
          exact nodU_out h _
        · cases hr
      · cases hr
theorem nodU_dir {d : DiskL} (ho : Ord d.2.1) (h : NodU d.2.1) (x : DopL) : NodU (dirL d x).2.1 := by
  unfold dirL
  cases hr : replayL d.2.1 x d.1.length with
  | none => exact List.Pairwise.nil
  | some m => exact nodU_replay ho h hr
theorem nodU_crash (l : List EntL) : NodU (crashEs l) := by
  unfold NodU
  rw [List.pairwise_iff_getElem]
  intro i j hi hj hij
  unfold crashEs at *
  simp only [List.getElem_mapIdx]
  omega
theorem nodU_one {d : DiskL} (ho : Ord d.2.1) (h : NodU d.2.1) (o : OpL) : NodU (oneL d o).1.2.1 := by
  unfold oneL
  repeat' split
  all_goals first
    | exact h
    | exact nodU_crash _
    | exact nodU_dir (d := (d.1 ++ [([], 0)], d.2)) ho h _
    | exact nodU_dir ho h _
end Go.Proofs.YtkkgighgnbbgiaaGreatDoor

namespace Go.Proofs.YtkkgighgnbbgiaaGreatDoor
open Go.RowKit Mem
set_option linter.unusedVariables false
set_option linter.unusedSimpArgs false
abbrev errT : TypeId := 141
/-- the five errors of the program, each a pointer of its own -/
structure ErrEnv (lo : Nat) (w : World) (ea : Nat → Addr) : Prop where
  c2 : w.cell? ⟨0, 0, none⟩ = some (.iface errT (.pointer (some (ea 2))))
  c3 : w.cell? ⟨1, 0, none⟩ = some (.iface errT (.pointer (some (ea 3))))
  c4 : w.cell? ⟨2, 0, none⟩ = some (.iface errT (.pointer (some (ea 4))))
  c5 : w.cell? ⟨3, 0, none⟩ = some (.iface errT (.pointer (some (ea 5))))
  c6 : w.cell? ⟨4, 0, none⟩ = some (.iface errT (.pointer (some (ea 6))))
  row : ∀ i, 2 ≤ i → i ≤ 6 → (ea i).block < lo ∧ ∃ c t, w.heap[(ea i).block]? = some (.cells c t (0, 0))
  ne : ∀ i j, 2 ≤ i → i ≤ 6 → 2 ≤ j → j ≤ 6 → i ≠ j → ea i ≠ ea j
  gl : 0 < lo ∧ 1 < lo ∧ 2 < lo ∧ 3 < lo ∧ 4 < lo
theorem ErrEnv.mod {lo : Nat} {w w' : World} {ea : Nat → Addr} (h : ErrEnv lo w ea) (hm : Mod (fun k => lo ≤ k) w w') : ErrEnv lo w' ea := by
  have key : ∀ (b : Nat) (v : Value), b < lo → w.cell? ⟨b, 0, none⟩ = some v → w'.cell? ⟨b, 0, none⟩ = some v := fun b v hb hc => (hm.cell (World.block_lt_of_cell? w _ hc) (by show ¬ lo ≤ b; omega)).trans hc
  refine ⟨key _ _ h.gl.1 h.c2, key _ _ h.gl.2.1 h.c3, key _ _ h.gl.2.2.1 h.c4, key _ _ h.gl.2.2.2.1 h.c5, key _ _ h.gl.2.2.2.2 h.c6, fun i h1 h2 => ?_, h.ne, h.gl⟩
  obtain ⟨h3, c, t, h4⟩ := h.row i h1 h2
  exact ⟨h3, c, t, (hm.block _ (Array.getElem?_eq_some_iff.1 h4).1 (by show ¬ lo ≤ _; omega)).trans h4⟩
def errV (ea : Nat → Addr) (c : Int) : Value := if c = 0 then .nilIface else .iface errT (.pointer (some (ea c.toNat)))
/-- a disk in the cells of block g, its rows the call's own -/
def DSt (lo g : Nat) (tl : List Value) (w : World) (d : DiskT) : Prop :=
  ∃ t v0 v1 v2 v3, Blk w g t (v0 :: v1 :: v2 :: v3 :: .int .i64 d.2.2.2.2 :: tl) ∧ Out4 (fun k => lo ≤ k ∧ k ≠ g) w v0 v1 v2 v3 d ∧ lo ≤ g
/-- how an operation ends -/
def RetDo (lo g : Nat) (tl : List Value) (ea : Nat → Addr) (w : World) (r : DiskT × Int) (e : Ending) (w' : World) : Prop :=
  e = .returned (errV ea r.2) ∧ DSt lo g tl w' r.1 ∧ Mod (fun k => lo ≤ k) w w'
theorem DSt.new {lo g : Nat} {tl : List Value} {w w' : World} {d : DiskT} (h : DSt lo g tl w d) (hm : New w w') : DSt lo g tl w' d := by
  obtain ⟨t, v0, v1, v2, v3, hb, ho, hg⟩ := h
  exact ⟨t, v0, v1, v2, v3, hb.mod hm id, ho.new hm, hg⟩
theorem DSt.rows {lo g : Nat} {tl : List Value} {w : World} {d : DiskT} (h : DSt lo g tl w d) : ∃ t A0 c0 A1 c1 A2 c2 A3 c3, Blk w g t (.slice A0 d.1.length c0 :: .slice A1 d.2.1.length c1 :: .slice A2 d.2.2.1.length c2 :: .slice A3 d.2.2.2.1.length c3 :: .int .i64 d.2.2.2.2 :: tl) ∧
    Out4 (fun k => lo ≤ k ∧ k ≠ g) w (.slice A0 d.1.length c0) (.slice A1 d.2.1.length c1) (.slice A2 d.2.2.1.length c2) (.slice A3 d.2.2.2.1.length c3) d ∧ lo ≤ g ∧ Row dNode w (· < w.heap.size) A0 d.1.length d.1 ∧ Row dEntry w (· < w.heap.size) A1 d.2.1.length d.2.1 ∧ d.1.length ≤ c0 ∧ d.2.1.length ≤ c1 ∧ d.2.2.1.length ≤ c2 ∧ d.2.2.2.1.length ≤ c3 := by
  obtain ⟨t, v0, v1, v2, v3, hb, ho, hg⟩ := h
  obtain ⟨A0, c0, A1, c1, A2, c2, A3, c3, rfl, rfl, rfl, rfl, b0, b1, b2, b3⟩ := ho.forms
  have ho' := ho
  obtain ⟨F0, F1, F2, F3, o0, o1, -⟩ := ho
  exact ⟨t, A0, c0, A1, c1, A2, c2, A3, c3, hb, ho', hg, (o0.row rfl).mod (fun k hk => o0.lt k hk) (fun _ _ => rfl), (o1.row rfl).mod (fun k hk => o1.lt k hk) (fun _ _ => rfl), b0, b1, b2, b3⟩
set_option maxHeartbeats 4000000 in
set_option maxRecDepth 100000 in
theorem findG_no {w : World} {g : Nat} {A1 : Option Addr} {c1 : Nat} {v0 : Value} {t : TypeId} {tl : List Value} {xs : List EntryT} {B : Nat → Prop} (hb : Blk w g t (v0 :: .slice A1 xs.length c1 :: tl)) (h : Row dEntry w B A1 xs.length xs) (hB : ∀ k, B k → k < w.heap.size) (hl : xs.length ≤ 1048576) (ho : Ord xs) (nm : Bytes) (hh : hasE xs nm = false) :
    Calls Tryz.prog 67 #[.pointer (some ⟨g, 0, none⟩), .string ⟨nm.toArray⟩] w (Ret (.tuple #[.pointer none, .bool false]) w) := by
  have HP := Sec.mk (place_calls (c := c1) h hB hl ho nm)
  have p1 : w.cell? ⟨g, 1, none⟩ = some (.slice A1 xs.length c1) := hb.cell 1
  have hlt := hb.lt
  clear h hB hb
  go_enter Tryz.func67, Tryz.ntmps67
  go_wp2_with fail
  refine HP.out.mono ?_
  rintro e w1 ⟨rfl, hm1⟩
  have HM1 := Sec.mk hm1
  rw [hh]
  clear hm1
  go_wp2
  go_ret2
  exact ⟨rfl, HM1.out⟩
set_option maxHeartbeats 4000000 in
set_option maxRecDepth 100000 in
theorem findG_yes {w : World} {g : Nat} {A0 A1 : Option Addr} {c0 c1 : Nat} {t : TypeId} {tl : List Value} {ns : List NodeT} {xs : List EntryT} {B0 B : Nat → Prop} (hb : Blk w g t (.slice A0 ns.length c0 :: .slice A1 xs.length c1 :: tl)) (hn : Row dNode w B0 A0 ns.length ns) (hB0 : ∀ k, B0 k → k < w.heap.size) (h : Row dEntry w B A1 xs.length xs) (hB : ∀ k, B k → k < w.heap.size) (hl : xs.length ≤ 1048576) (ho : Ord xs) (nm : Bytes) (hh : hasE xs nm = true) {nd : Nat} (hnd : (xs[placeE xs nm]?.getD ([], 0)).2 = nd) (hnl : nd < ns.length) :
    Calls Tryz.prog 67 #[.pointer (some ⟨g, 0, none⟩), .string ⟨nm.toArray⟩] w (fun e W => ∃ bd : Addr, A0 = some bd ∧ Ret (.tuple #[.pointer (some (bd.add (nd * 2))), .bool true]) w e W) := by
  have HP := Sec.mk (place_calls (c := c1) h hB hl ho nm)
  have p0 : w.cell? ⟨g, 0, none⟩ = some (.slice A0 ns.length c0) := hb.cell 0
  have p1 : w.cell? ⟨g, 1, none⟩ = some (.slice A1 xs.length c1) := hb.cell 1
  have hlt := hb.lt
  obtain ⟨hplt, -⟩ := (place_at ho nm).1.mp hh
  rw [List.getElem?_eq_getElem hplt] at hnd
  have HE := Sec.mk h
  have HN := Sec.mk hn
  have HB0 := Sec.mk hB0
  have HB := Sec.mk hB
  have HBl := Sec.mk hb
  have HND := Sec.mk hnd
  clear h hn hB hB0 hb hnd
  go_enter Tryz.func67, Tryz.ntmps67
  go_wp2_with fail
  refine HP.out.mono ?_
  rintro e w1 ⟨rfl, hm1⟩
  have HM1 := Sec.mk hm1
  rw [hh]
  have q0 := (HBl.out.mod hm1 id).cell 0
  have q1 := (HBl.out.mod hm1 id).cell 1
  obtain ⟨ad, hA1, -, e1, -, -⟩ := ent_at (HE.out.mod (w' := w1) (fun _ h => h) (fun k hk => hm1.block k (HB.out k hk) id)) (w' := w1) (fun _ _ => rfl) hplt
  obtain ⟨bd, A', c', hA0, n0, n1, hcc, hcm, hrow, hw⟩ := node_at (HN.out.mod (w' := w1) (fun _ h => h) (fun k hk => hm1.block k (HB0.out k hk) id)) (w' := w1) (fun _ _ => rfl) hnl
  clear hrow hw hm1
  subst hA0 hA1
  have hnd := HND.out
  have e1' : w1.cell? ⟨(ad.add (placeE xs nm * 2)).block, (ad.add (placeE xs nm * 2)).off + 1, none⟩ = some (.int .i64 (nd : Int)) := by rw [e1]; exact congrArg (fun z => some (Value.int .i64 z)) hnd
  clear e1 hnd n0 n1
  generalize placeE xs nm = pl at *
  clear hh
  go_wp2
  refine wp_region_quiet_lit (by kernel_rfl) (by kernel_rfl) ?_
  repeat ((with_reducible refine wpQuiet_step (fun K hK => ?_)); go_simp; first | (refine hK _ ?_; clear hK K) | (apply Exists.intro; refine ⟨fun _ => ?_, hK _ ?_⟩; (fail); clear hK K))
  refine wpQuiet_nil ?_
  intro _ hwq
  obtain ⟨nq, hwqq⟩ := hwq
  subst hwqq
  go_wp2
  go_ret2
  exact ⟨_, rfl, rfl, HM1.out.drewN _⟩
set_option maxHeartbeats 4000000 in
set_option maxRecDepth 100000 in
theorem usedI_calls {lo g : Nat} {tl : List Value} {w : World} {d : DiskT} {N : Nat} (h : DSt lo g tl w d) (hI : DInv N d) (hN : N ≤ 100000) : Calls Tryz.prog 85 #[.pointer (some ⟨g, 0, none⟩)] w (Ret (.int .i64 ((usedL d : Nat) : Int)) w) := by
  have HS := Sec.mk (used_le hI)
  have HL := Sec.mk (nodeAt_len hI)
  have HQ := Sec.mk hI.inr
  have hn := hI.names
  have HUT := Sec.mk (fun k (hk : k < d.2.1.length) => used_take hk)
  have HUL : Sec (usedL d = ((d.2.1.take d.2.1.length).map fun e => (nodeAt d e.2).1.length).sum) := ⟨by rw [List.take_length]; rfl⟩
  have HNA : Sec (∀ (nd : Nat) (hnl : nd < d.1.length), nodeAt d (nd : Int) = d.1[nd]) := ⟨fun nd hnl => by unfold nodeAt; rw [Int.toNat_natCast, List.getElem?_eq_getElem hnl]; rfl⟩
  clear hI
  obtain ⟨t, A0, c0, A1, c1, A2, c2, A3, c3, hb, -, -, hr0, hr1, -, -, -, -⟩ := h.rows
  have HR0 := Sec.mk hr0
  have HR1 := Sec.mk hr1
  have HBX := Sec.mk hb
  have x1 : w.cell? ⟨g, 1, none⟩ = some (.slice A1 d.2.1.length c1) := hb.cell 1
  clear h hr0 hr1 hb
  go_enter Tryz.func85, Tryz.ntmps85
  go_wp2
  go_loopw [3, 11] (fun t i wr => ∃ k : Nat, k ≤ d.2.1.length ∧ i = .int .i64 (k : Int) ∧ t = .int .i64 ((((d.2.1.take k).map fun e => (nodeAt d e.2).1.length).sum : Nat) : Int) ∧ Sec (New w wr)) (fun _ i _ => d.2.1.length - (intOf i).toNat)
  case atStart => exact ⟨0, Nat.zero_le _, rfl, by simp, ⟨Mod.refl _ _⟩⟩
  case round =>
    obtain ⟨k, hk, rfl, rfl, HM⟩ := hrel
    by_cases hlt : k < d.2.1.length
    · obtain ⟨ae, rfl, d0, d1, g0, g1⟩ := ent_at (HR1.out.mod (w' := wr) (fun _ h => h) (fun k hk => HM.out.block k hk id)) (w' := wr) (fun _ _ => rfl) hlt
      have hki : (k : Int) < (d.2.1.length : Int) := by omega
      have HT := Sec.mk (HUT.out k hlt)
      have hs := HS.out k
      have hin := HQ.out _ (List.getElem_mem hlt)
      have HPX : Sec (∃ q : EntryT, q = d.2.1[k]) := ⟨⟨_, rfl⟩⟩
      obtain ⟨q, hq⟩ := HPX.out
      rw [← hq] at d0 d1 g0 g1 HT hin
      clear hq HPX
      obtain ⟨nm, u⟩ := q
      simp only at d0 d1 g0 g1 hin HT
      obtain ⟨nd, hnd⟩ := Int.eq_ofNat_of_zero_le hin.1
      subst hnd
      have hnl : nd < d.1.length := by omega
      rw [HNA.out nd hnl] at HT
      have HBA := Sec.mk (HBX.out.mod (HM.out.alloc (.cells #[.string ⟨nm.toArray⟩, .int .i64 (nd : Int)] 98)) id)
      have hl := HL.out (nd : Int)
      rw [HNA.out nd hnl] at hl
      have HMA := Sec.mk (HM.out.alloc (.cells #[.string ⟨nm.toArray⟩, .int .i64 (nd : Int)] 98))
      obtain ⟨bd, An, cn, rfl, n0, n1, hcc, hcm, hrow, hw⟩ := node_at (HR0.out.mod (w' := wr.alloc (.cells #[.string ⟨nm.toArray⟩, .int .i64 (nd : Int)] 98)) (fun _ h => h) (fun k hk => HMA.out.block k hk id)) (w' := wr.alloc (.cells #[.string ⟨nm.toArray⟩, .int .i64 (nd : Int)] 98)) (fun _ _ => rfl) hnl
      have HEB := Sec.mk (Blk.new wr 98 [.string ⟨nm.toArray⟩, .int .i64 (nd : Int)])
      clear hrow hw n1
      have hndi : (nd : Int) < (d.1.length : Int) := by omega
      generalize d.1[nd].1 = dat at *
      generalize ((d.2.1.take k).map fun e => (nodeAt d e.2).1.length).sum = s at *
      clear hin x1
      have hwu : IntKind.i64.wrap ((s : Int) + (dat.length : Int)) = (s : Int) + (dat.length : Int) := by rw [IntKind.wrap_i64]; omega
      go_upto_region 5 with (fail)
      generalize wr.alloc (.cells #[.string ⟨nm.toArray⟩, .int .i64 (nd : Int)] 98) = wz at *
      have z0 : wz.cell? ⟨g, 0, none⟩ = some (.slice (some bd) d.1.length c0) := HBA.out.cell 0
      have z1 : wz.cell? ⟨wr.heap.size, 1, none⟩ = some (.int .i64 (nd : Int)) := HEB.out.cell 1
      refine wp_region_quiet_lit (by kernel_rfl) (by kernel_rfl) ?_
      repeat ((with_reducible refine wpQuiet_step (fun K hK => ?_)); go_simp; first | (refine hK _ ?_; clear hK K) | (apply Exists.intro; refine ⟨fun _ => ?_, hK _ ?_⟩; (fail); clear hK K))
      refine wpQuiet_nil ?_
      intro _ hwq
      obtain ⟨nq, hwqq⟩ := hwq
      subst hwqq
      go_wp2
      go_roundw
      case rel => exact ⟨k + 1, by omega, by go_num, by rw [HT.out]; first | go_num | (rw [hwu]; go_num), by first | exact HMA | exact ⟨HMA.out.drew⟩ | exact ⟨HMA.out.drewN _⟩⟩
      case measure => simp [intOf]; omega
    · obtain rfl : k = d.2.1.length := by omega
      go_wp2
      go_ret
      exact ⟨by rw [HUL.out]; rfl, HM.out⟩
end Go.Proofs.YtkkgighgnbbgiaaGreatDoor

namespace Go.Proofs.YtkkgighgnbbgiaaGreatDoor
open Go.RowKit Mem
set_option linter.unusedVariables false
set_option linter.unusedSimpArgs false
section
variable {P : Program} {o : Oper} {a : Act} {w : World} {v : Value}
theorem exec_extractD {x : Operand} {i : Nat} (ho : o.op = .extract x i) {vx : Value} (hx : a.eval x = vx) (h : (Instr.extract vx i).run P w = .ok v w) : (execOp a.eval o).run P w = .ok (.value v) w := by
  unfold execOp; simp only [ho, hx, Sem.run_bind, h, Result.andThen_ok, Sem.run_pure]
end
theorem ext2_0 (a b : Value) (w : World) : (Instr.extract (.tuple #[a, b]) 0).run Tryz.prog w = .ok a w := by go_simp
theorem ext2_1 (a b : Value) (w : World) : (Instr.extract (.tuple #[a, b]) 1).run Tryz.prog w = .ok b w := by go_simp
theorem ldDirOpI {w : World} {g : Nat} {c0 c1 c2 c3 : Value} (h : Blk w g 90 [c0, c1, c2, c3]) : (Instr.loadAt 90 (.pointer (some ⟨g, 0, none⟩))).run Tryz.prog w = .ok (.agg #[c0, c1, c2, c3]) w := by
  have h0 : w.cell? ⟨g, 0, none⟩ = some c0 := h.cell 0
  have h1 : w.cell? ⟨g, 1, none⟩ = some c1 := h.cell 1
  have h2 : w.cell? ⟨g, 2, none⟩ = some c2 := h.cell 2
  have h3 : w.cell? ⟨g, 3, none⟩ = some c3 := h.cell 3
  go_simp
theorem lenNI (A : Option Addr) (n c : Nat) (w : World) : ∀ ty, (invoke (.builtin .len #[30] ty #[false]) #[.slice A n c]).run Tryz.prog w = .ok (.value (.int .i64 (n : Int))) w := by intro ty; go_simp
theorem stEntsI {w : World} {p : Addr} {u : Value} (h : w.cell? p = some u) (hf : w.frozen? p = false) (A : Option Addr) (n c : Nat) : (Instr.storeAt 31 (.pointer (some p)) (.slice A n c)).run Tryz.prog w = .ok () (w.setCell p (.slice A n c)) := by go_simp
theorem stDopsI {w : World} {p : Addr} {u : Value} (h : w.cell? p = some u) (hf : w.frozen? p = false) (A : Option Addr) (n c : Nat) : (Instr.storeAt 32 (.pointer (some p)) (.slice A n c)).run Tryz.prog w = .ok () (w.setCell p (.slice A n c)) := by go_simp
theorem ldDopsI {w : World} {p : Addr} {v : Value} (h : w.cell? p = some v) : (Instr.loadAt 32 (.pointer (some p))).run Tryz.prog w = .ok v w := by go_simp
theorem fptDisk3I (p : Addr) (w : World) : (Instr.fieldAt 34 (.pointer (some p)) 3).run Tryz.prog w = .ok (.pointer (some ⟨p.block, p.off + 3, none⟩)) w := by go_simp
theorem bldDopI (kd nd : Int) (x y : ByteArray) (w : World) : (Instr.buildSlice 32 1 #[(0, .agg #[.int .i64 kd, .string x, .string y, .int .i64 nd])]).run Tryz.prog w = .ok (.slice (some ⟨w.heap.size, 0, none⟩) 1 1) (w.alloc (.cells #[.int .i64 kd, .string x, .string y, .int .i64 nd] 90)) := by go_simp
set_option maxHeartbeats 8000000 in
set_option maxRecDepth 100000 in
theorem pendI_calls {lo g : Nat} {tl : List Value} {w : World} {d : DiskT} {ea : Nat → Addr} {N : Nat} (h : DSt lo g tl w d) (hE : ErrEnv lo w ea) (hI : DInv N d) (hN : N ≤ 100000) (q : DirOpT) (hq0 : IntKind.i64.wrap q.1 = q.1) (hq1 : q.2.1.length ≤ 9223372036854775807) (hq2 : q.2.2.1.length ≤ 9223372036854775807) (hq3 : IntKind.i64.wrap q.2.2.2 = q.2.2.2) :
    Calls Tryz.prog 69 #[.pointer (some ⟨g, 0, none⟩), .agg #[.int .i64 q.1, .string ⟨q.2.1.toArray⟩, .string ⟨q.2.2.1.toArray⟩, .int .i64 q.2.2.2]] w (RetDo lo g tl ea w (if 1000 ≤ d.2.2.2.1.length then (d, 6) else (dirL d q, 0))) := by
  have HE : Sec (dirL d q = (d.1, (replayL d.2.1 q d.1.length).getD [], d.2.2.1, d.2.2.2.1 ++ [q], d.2.2.2.2)) := ⟨rfl⟩
  have hn := hI.names
  have hp := hI.pend
  have hnn := hI.nodes
  have HOR := Sec.mk hI.ord
  have HLM : Sec (((replayL d.2.1 q d.1.length).getD []).length ≤ N + 1) := ⟨by
    cases hr : replayL d.2.1 q d.1.length with
    | none => simp
    | some m => have := replayL_len hr; simp only [Option.getD_some]; omega⟩
  clear hI
  obtain ⟨t, A0, c0, A1, c1, A2, c2, A3, c3, hb, ho, hlg, hr0, hr1, b0, b1, b2, b3⟩ := h.rows
  have HENV := Sec.mk hE
  have hgw : g < w.heap.size := hb.lt
  have hlw : lo ≤ w.heap.size := by omega
  obtain ⟨kd, nm, tn, nd⟩ := q
  simp only at hq0 hq1 hq2 hq3 HE HLM ⊢
  have HW := Sec.mk (And.intro hq0 (And.intro hq1 (And.intro hq2 hq3)))
  have hma := (Mod.refl (fun _ => False) w).alloc (.cells #[.int .i64 kd, .string ⟨nm.toArray⟩, .string ⟨tn.toArray⟩, .int .i64 nd] 90)
  have HN1 := Sec.mk hma
  have HD1 := Sec.mk (h.new hma)
  have HBQ := Sec.mk (Blk.new w 90 [.int .i64 kd, .string ⟨nm.toArray⟩, .string ⟨tn.toArray⟩, .int .i64 nd])
  have hsz : (w.alloc (.cells #[.int .i64 kd, .string ⟨nm.toArray⟩, .string ⟨tn.toArray⟩, .int .i64 nd] 90)).heap.size = w.heap.size + 1 := by simp
  have HB := Sec.mk (hb.mod hma id)
  have HO := Sec.mk ((ho.wide (X' := fun k => (lo ≤ k ∧ k ≠ g ∧ k ≠ w.heap.size)) (fun k h1 h2 => ⟨h2.1, h2.2, by omega⟩)).new hma)
  have HR1 := Sec.mk (hr1.mod (w' := w.alloc (.cells #[.int .i64 kd, .string ⟨nm.toArray⟩, .string ⟨tn.toArray⟩, .int .i64 nd] 90)) (fun _ h => h) (fun k hk => hma.block k hk id))
  clear h hE hma hq0 hq1 hq2 hq3 hb ho hr0 hr1
  go_enter Tryz.func69, Tryz.ntmps69
  go_upto_region 1 with (fail)
  generalize w.alloc (.cells #[.int .i64 kd, .string ⟨nm.toArray⟩, .string ⟨tn.toArray⟩, .int .i64 nd] 90) = w1 at *
  have hgl : g < w1.heap.size := by omega
  have x3 : w1.cell? ⟨g, 3, none⟩ = some (.slice A3 d.2.2.2.1.length c3) := HB.out.cell 3
  by_cases hfull : 1000 ≤ d.2.2.2.1.length
  · have hfi : (1000 : Int) ≤ (d.2.2.2.1.length : Int) := by omega
    have e6 := (HENV.out.mod (HN1.out.mono (T := fun k => lo ≤ k) (fun i hi h => h.elim))).c6
    rw [if_pos hfull]
    go_wp2
    go_ret
    exact ⟨rfl, HD1.out, HN1.out.mono (fun i hi h => h.elim)⟩
  have hfi : ¬ (1000 : Int) ≤ (d.2.2.2.1.length : Int) := by omega
  rw [if_neg hfull]
  go_upto_region 3 with (fail)
  obtain ⟨list, hlist⟩ : ∃ l, l = (replayL d.2.1 (kd, nm, tn, nd) d.1.length).getD [] := ⟨_, rfl⟩
  rw [← hlist] at HE HLM
  have HLS := Sec.mk hlist
  clear hlist
  go_cut [28] (fun v wx => v = .pointer (some ⟨g, 1, none⟩) ∧ ∃ (B : Option Addr) (cB : Nat), Sec (Blk wx g t (.slice A0 d.1.length c0 :: .slice B list.length cB :: .slice A2 d.2.2.1.length c2 :: .slice A3 d.2.2.2.1.length c3 :: .int .i64 d.2.2.2.2 :: tl)) ∧ Sec (Out4 (fun k => lo ≤ k ∧ k ≠ g ∧ k ≠ w.heap.size) wx (.slice A0 d.1.length c0) (.slice B list.length cB) (.slice A2 d.2.2.1.length c2) (.slice A3 d.2.2.2.1.length c3) (d.1, list, d.2.2.1, d.2.2.2.1, d.2.2.2.2)) ∧ Sec (Blk wx w.heap.size 90 [.int .i64 kd, .string ⟨nm.toArray⟩, .string ⟨tn.toArray⟩, .int .i64 nd]) ∧ Sec (Mod (fun k => lo ≤ k) w wx) ∧ w1.heap.size ≤ wx.heap.size)
  case first =>
    refine reg_start [] (fun W => Sec (W.cell? ⟨g, 0, none⟩ = some (.slice A0 d.1.length c0) ∧ Blk W w.heap.size 90 [.int .i64 kd, .string ⟨nm.toArray⟩, .string ⟨tn.toArray⟩, .int .i64 nd])) (by kernel_rfl) ?_
    have HSS : Sec (w1.drew.cell? ⟨g, 0, none⟩ = some (.slice A0 d.1.length c0) ∧ Blk w1.drew w.heap.size 90 [.int .i64 kd, .string ⟨nm.toArray⟩, .string ⟨tn.toArray⟩, .int .i64 nd]) := ⟨HB.out.cell 0, HBQ.out.drew⟩
    have HND : Sec (New w1 w1.drew) := ⟨(Mod.refl _ _).drew⟩
    refine reg_take (.pointer (some ⟨g, 0, none⟩)) (i := 0) (n := 13) HSS rfl (by kernel_rfl) (by kernel_rfl) (by kernel_rfl) (by kernel_rfl) (fun _ _ _ h => h) (fun W hW => exec_move rfl rfl) ?_
    simp only [Act.put, List.setIfInBounds_toArray, List.set_cons_zero, List.set_cons_succ]
    refine reg_take (.pointer (some ⟨g, 0, none⟩)) (i := 1) (n := 14) HSS rfl (by kernel_rfl) (by kernel_rfl) (by kernel_rfl) (by kernel_rfl) (fun _ _ _ h => h) (fun W hW => exec_move rfl rfl) ?_
    simp only [Act.put, List.setIfInBounds_toArray, List.set_cons_zero, List.set_cons_succ]
    refine reg_take (.pointer (some ⟨g, 0, none⟩)) (i := 2) (n := 15) HSS rfl (by kernel_rfl) (by kernel_rfl) (by kernel_rfl) (by kernel_rfl) (fun _ _ _ h => h) (fun W hW => exec_nil rfl rfl) ?_
    simp only [Act.put, List.setIfInBounds_toArray, List.set_cons_zero, List.set_cons_succ]
    refine reg_take (.pointer (some ⟨g, 1, none⟩)) (i := 3) (n := 16) HSS rfl (by kernel_rfl) (by kernel_rfl) (by kernel_rfl) (by kernel_rfl) (fun _ _ _ h => h) (fun W hW => exec_field rfl rfl (fptDisk1 _ _)) ?_
    simp only [Act.put, List.setIfInBounds_toArray, List.set_cons_zero, List.set_cons_succ]
    refine reg_take (.agg #[.int .i64 kd, .string ⟨nm.toArray⟩, .string ⟨tn.toArray⟩, .int .i64 nd]) (i := 5) (n := 18) HSS rfl (by kernel_rfl) (by kernel_rfl) (by kernel_rfl) (by kernel_rfl) (fun _ _ _ h => h) (fun W hW => exec_load rfl rfl (ldDirOpI hW.out.2)) ?_
    simp only [Act.put, List.setIfInBounds_toArray, List.set_cons_zero, List.set_cons_succ]
    refine reg_take (.pointer (some ⟨g, 0, none⟩)) (i := 6) (n := 19) HSS rfl (by kernel_rfl) (by kernel_rfl) (by kernel_rfl) (by kernel_rfl) (fun _ _ _ h => h) (fun W hW => exec_move rfl rfl) ?_
    simp only [Act.put, List.setIfInBounds_toArray, List.set_cons_zero, List.set_cons_succ]
    refine reg_take (.pointer (some ⟨g, 0, none⟩)) (i := 7) (n := 20) HSS rfl (by kernel_rfl) (by kernel_rfl) (by kernel_rfl) (by kernel_rfl) (fun _ _ _ h => h) (fun W hW => exec_nil rfl rfl) ?_
    simp only [Act.put, List.setIfInBounds_toArray, List.set_cons_zero, List.set_cons_succ]
    refine reg_take (.pointer (some ⟨g, 0, none⟩)) (i := 8) (n := 21) HSS rfl (by kernel_rfl) (by kernel_rfl) (by kernel_rfl) (by kernel_rfl) (fun _ _ _ h => h) (fun W hW => exec_field rfl rfl (fptDisk0 _ _)) ?_
    simp only [Act.put, List.setIfInBounds_toArray, List.set_cons_zero, List.set_cons_succ]
    refine reg_take (.slice A0 d.1.length c0) (i := 9) (n := 22) HSS rfl (by kernel_rfl) (by kernel_rfl) (by kernel_rfl) (by kernel_rfl) (fun _ _ _ h => h) (fun W hW => exec_load rfl rfl (ldNodesD hW.out.1)) ?_
    simp only [Act.put, List.setIfInBounds_toArray, List.set_cons_zero, List.set_cons_succ]
    refine reg_take (.int .i64 (d.1.length : Int)) (i := 10) (n := 23) HSS rfl (by kernel_rfl) (by kernel_rfl) (by kernel_rfl) (by kernel_rfl) (fun _ _ _ h => h) (fun W hW => exec_lenD rfl rfl (lenNI _ _ _ _)) ?_
    simp only [Act.put, List.setIfInBounds_toArray, List.set_cons_zero, List.set_cons_succ]
    refine reg_step (i := 4) rfl (by kernel_rfl) (fun K hK => ?_)
    refine wp_val (v := .slice A1 d.2.1.length c1) (exec_load rfl rfl (ldEntsD ((HB.out.mod HND.out id).cell 1))) rfl (hK.out _ _ (fun _ => HSS) ?_)
    clear hK K
    simp only [Act.put, List.setIfInBounds_toArray, List.set_cons_zero, List.set_cons_succ]
    refine reg_step (i := 11) rfl (by kernel_rfl) (fun K hK => ?_)
    refine wp_call (n := 24) (vals := [.slice A1 d.2.1.length c1, .agg #[.int .i64 kd, .string ⟨nm.toArray⟩, .string ⟨tn.toArray⟩, .int .i64 nd], .int .i64 (d.1.length : Int)]) rfl rfl rfl (by kernel_rfl) (replay_calls (HR1.out.mod (w' := w1.drew) (fun _ h => h) (fun k hk => rfl)) (fun k hk => by have h1 : k < w.heap.size := hk; show k < w1.heap.size; omega) b1 (by omega) HOR.out (kd, nm, tn, nd) HW.out.2.1 HW.out.2.2.1 HW.out.2.2.2 (d.1.length : Int)) ?_
    intro e w3 hr
    have hr' : ∃ A c b, e = .returned (.tuple #[.slice A list.length c, .bool b]) ∧ Mine dEntry 98 w1.drew w3 (.slice A list.length c) list := by rw [HLS.out]; exact hr.own
    clear hr
    obtain ⟨B, cB, bb, rfl, hmine⟩ := hr'
    have HN3 : Sec (New w1 w3) := ⟨HND.out.transN hmine.new⟩
    have HSS : Sec (w3.cell? ⟨g, 0, none⟩ = some (.slice A0 d.1.length c0) ∧ Blk w3 w.heap.size 90 [.int .i64 kd, .string ⟨nm.toArray⟩, .string ⟨tn.toArray⟩, .int .i64 nd]) := ⟨(HB.out.mod HN3.out id).cell 0, HBQ.out.mod HN3.out id⟩
    refine ⟨_, rfl, hK.out _ _ (fun _ => HSS) ?_⟩
    clear hK K
    simp only [Act.put, List.setIfInBounds_toArray, List.set_cons_zero, List.set_cons_succ]
    refine reg_take (.tuple #[.slice B list.length cB, .bool bb]) (i := 12) (n := 12) HSS rfl (by kernel_rfl) (by kernel_rfl) (by kernel_rfl) (by kernel_rfl) (fun _ _ _ h => h) (fun W hW => exec_move rfl rfl) ?_
    simp only [Act.put, List.setIfInBounds_toArray, List.set_cons_zero, List.set_cons_succ]
    refine reg_take (.slice B list.length cB) (i := 13) (n := 25) HSS rfl (by kernel_rfl) (by kernel_rfl) (by kernel_rfl) (by kernel_rfl) (fun _ _ _ h => h) (fun W hW => exec_extractD rfl rfl (ext2_0 _ _ _)) ?_
    simp only [Act.put, List.setIfInBounds_toArray, List.set_cons_zero, List.set_cons_succ]
    have HM3 := Sec.mk hmine
    clear hmine
    refine reg_take (.pointer (some ⟨g, 0, none⟩)) (i := 15) (n := 27) HSS rfl (by kernel_rfl) (by kernel_rfl) (by kernel_rfl) (by kernel_rfl) (fun _ _ _ h => h) (fun W hW => exec_nil rfl rfl) ?_
    simp only [Act.put, List.setIfInBounds_toArray, List.set_cons_zero, List.set_cons_succ]
    refine reg_take (.pointer (some ⟨g, 1, none⟩)) (i := 16) (n := 28) HSS rfl (by kernel_rfl) (by kernel_rfl) (by kernel_rfl) (by kernel_rfl) (fun _ _ _ h => h) (fun W hW => exec_field rfl rfl (fptDisk1 _ _)) ?_
    simp only [Act.put, List.setIfInBounds_toArray, List.set_cons_zero, List.set_cons_succ]
    have HB3 := Sec.mk (HB.out.mod HN3.out id)
    obtain ⟨⟨F, hoF, hF⟩, hmn⟩ := HM3.out
    have hs3 : w1.heap.size ≤ w3.heap.size := HN3.out.size
    have hdr : w1.drew.heap.size = w1.heap.size := rfl
    have HO3 := Sec.mk (((HO.out.wide (X' := fun k => (lo ≤ k ∧ k ≠ g ∧ k ≠ w.heap.size) ∧ k < w1.heap.size) (fun k h1 h2 => ⟨h2, h1⟩)).new HN3.out).put1 (X := fun k => lo ≤ k ∧ k ≠ g ∧ k ≠ w.heap.size) hoF (fun k hk => by have := hF k hk; exact ⟨fun h => by omega, by omega⟩) (fun k hk => hk.1))
    have hmc : Mod (fun k => k = g) w3 (w3.setCell ⟨g, 1, none⟩ (.slice B list.length cB)) := (Mod.refl (fun k => k = g) w3).setCell (p := ⟨g, 1, none⟩) (fun _ => rfl) _
    have HB4 := Sec.mk (HB3.out.set_ 1 (.slice B list.length cB))
    simp only [List.set_cons_zero, List.set_cons_succ] at HB4
    have HO4 := Sec.mk (HO3.out.keep hmc (fun k h e => h.2.1 e))
    have HBQ4 := Sec.mk ((HBQ.out.mod HN3.out id).mod hmc (by omega))
    have HM4 := Sec.mk (((HN1.out.transN HN3.out).mono (T := fun k => lo ≤ k) (fun i hi h => h.elim)).trans hmc (fun i hi _ => by omega))
    have hs4 : w1.heap.size ≤ (w3.setCell ⟨g, 1, none⟩ (.slice B list.length cB)).heap.size := by have := hmc.size; omega
    clear hoF hF hmn hmc HM3 HO3 hs3 hdr
    have HSS4 : Sec ((w3.setCell ⟨g, 1, none⟩ (.slice B list.length cB)).cell? ⟨g, 0, none⟩ = some (.slice A0 d.1.length c0) ∧ Blk (w3.setCell ⟨g, 1, none⟩ (.slice B list.length cB)) w.heap.size 90 [.int .i64 kd, .string ⟨nm.toArray⟩, .string ⟨tn.toArray⟩, .int .i64 nd]) := ⟨HB4.out.cell 0, HBQ4.out⟩
    refine reg_step2 (i := 14) (j := 17) rfl rfl (by kernel_rfl) (fun K hK => ?_) (fun K hK => ?_)
    · refine wp_val (v := .bool bb) (exec_extractD rfl rfl (ext2_1 _ _ _)) rfl (hK.out _ _ (fun _ => HSS) ?_)
      clear hK K
      simp only [Act.put, List.setIfInBounds_toArray, List.set_cons_zero, List.set_cons_succ]
      refine reg_step (i := 17) rfl (by kernel_rfl) (fun K hK => ?_)
      refine wp_store rfl rfl rfl rfl (stEntsI (HB3.out.cell 1) (HB3.out.frozen 1) B list.length cB) (hK.out _ _ (fun _ => HSS4) ?_)
      clear hK K
      refine reg_done (by kernel_rfl) ?_ _
      go_wp2
      go_meet
      exact ⟨rfl, B, cB, HB4, HO4, HBQ4, HM4, hs4⟩
    · refine wp_store rfl rfl rfl rfl (stEntsI (HB3.out.cell 1) (HB3.out.frozen 1) B list.length cB) (hK.out _ _ (fun _ => HSS4) ?_)
      clear hK K
      refine reg_step (i := 14) rfl (by kernel_rfl) (fun K hK => ?_)
      refine wp_val (v := .bool bb) (exec_extractD rfl rfl (ext2_1 _ _ _)) rfl (hK.out _ _ (fun _ => HSS4) ?_)
      clear hK K
      refine reg_done (by kernel_rfl) ?_ _
      go_wp2
      go_meet
      exact ⟨rfl, B, cB, HB4, HO4, HBQ4, HM4, hs4⟩
  case rest =>
  rename World => w4
  obtain ⟨rfl, B, cB, HB4, HO4, HBQ4, HM4, hs4⟩ := hcut
  clear HB HO HBQ HR1 x3
  go_upto_region 4 with (fail)
  refine reg_start [10] (fun W => Sec (Blk W g t (.slice A0 d.1.length c0 :: .slice B list.length cB :: .slice A2 d.2.2.1.length c2 :: .slice A3 d.2.2.2.1.length c3 :: .int .i64 d.2.2.2.2 :: tl) ∧ Blk W w.heap.size 90 [.int .i64 kd, .string ⟨nm.toArray⟩, .string ⟨tn.toArray⟩, .int .i64 nd])) (by kernel_rfl) ?_
  have HSS : Sec (Blk w4.drew g t (.slice A0 d.1.length c0 :: .slice B list.length cB :: .slice A2 d.2.2.1.length c2 :: .slice A3 d.2.2.2.1.length c3 :: .int .i64 d.2.2.2.2 :: tl) ∧ Blk w4.drew w.heap.size 90 [.int .i64 kd, .string ⟨nm.toArray⟩, .string ⟨tn.toArray⟩, .int .i64 nd]) := ⟨HB4.out.drew, HBQ4.out.drew⟩
  refine reg_take (.pointer (some ⟨g, 0, none⟩)) (i := 0) (n := 29) HSS rfl (by kernel_rfl) (by kernel_rfl) (by kernel_rfl) (by kernel_rfl) (fun _ _ _ h => h) (fun W hW => exec_move rfl rfl) ?_
  simp only [Act.put, List.setIfInBounds_toArray, List.set_cons_zero, List.set_cons_succ]
  refine reg_take (.pointer (some ⟨g, 0, none⟩)) (i := 1) (n := 30) HSS rfl (by kernel_rfl) (by kernel_rfl) (by kernel_rfl) (by kernel_rfl) (fun _ _ _ h => h) (fun W hW => exec_move rfl rfl) ?_
  simp only [Act.put, List.setIfInBounds_toArray, List.set_cons_zero, List.set_cons_succ]
  refine reg_take (.pointer (some ⟨g, 0, none⟩)) (i := 2) (n := 31) HSS rfl (by kernel_rfl) (by kernel_rfl) (by kernel_rfl) (by kernel_rfl) (fun _ _ _ h => h) (fun W hW => exec_nil rfl rfl) ?_
  simp only [Act.put, List.setIfInBounds_toArray, List.set_cons_zero, List.set_cons_succ]
  refine reg_take (.pointer (some ⟨g, 3, none⟩)) (i := 3) (n := 32) HSS rfl (by kernel_rfl) (by kernel_rfl) (by kernel_rfl) (by kernel_rfl) (fun _ _ _ h => h) (fun W hW => exec_field rfl rfl (fptDisk3I _ _)) ?_
  simp only [Act.put, List.setIfInBounds_toArray, List.set_cons_zero, List.set_cons_succ]
  refine reg_take (.slice A3 d.2.2.2.1.length c3) (i := 4) (n := 33) HSS rfl (by kernel_rfl) (by kernel_rfl) (by kernel_rfl) (by kernel_rfl) (fun _ _ _ h => h) (fun W hW => exec_load rfl rfl (ldDopsI (hW.out.1.cell 3))) ?_
  simp only [Act.put, List.setIfInBounds_toArray, List.set_cons_zero, List.set_cons_succ]
  refine reg_take (.agg #[.int .i64 kd, .string ⟨nm.toArray⟩, .string ⟨tn.toArray⟩, .int .i64 nd]) (i := 5) (n := 34) HSS rfl (by kernel_rfl) (by kernel_rfl) (by kernel_rfl) (by kernel_rfl) (fun _ _ _ h => h) (fun W hW => exec_load rfl rfl (ldDirOpI hW.out.2)) ?_
  simp only [Act.put, List.setIfInBounds_toArray, List.set_cons_zero, List.set_cons_succ]
  refine reg_step (i := 6) rfl (by kernel_rfl) (fun K hK => ?_)
  have hma := (Mod.refl (fun _ => False) w4.drew).alloc (.cells #[.int .i64 kd, .string ⟨nm.toArray⟩, .string ⟨tn.toArray⟩, .int .i64 nd] 90)
  have HROW := Sec.mk (rowDirOp w4.drew (x := (kd, nm, tn, nd)) HW.out.1 HW.out.2.1 HW.out.2.2.1 HW.out.2.2.2)
  have HNN : Sec (New w4 (w4.drew.alloc (.cells #[.int .i64 kd, .string ⟨nm.toArray⟩, .string ⟨tn.toArray⟩, .int .i64 nd] 90))) := ⟨(Mod.refl _ _).drew.transN hma⟩
  have HSS : Sec (Blk (w4.drew.alloc (.cells #[.int .i64 kd, .string ⟨nm.toArray⟩, .string ⟨tn.toArray⟩, .int .i64 nd] 90)) g t (.slice A0 d.1.length c0 :: .slice B list.length cB :: .slice A2 d.2.2.1.length c2 :: .slice A3 d.2.2.2.1.length c3 :: .int .i64 d.2.2.2.2 :: tl) ∧ Blk (w4.drew.alloc (.cells #[.int .i64 kd, .string ⟨nm.toArray⟩, .string ⟨tn.toArray⟩, .int .i64 nd] 90)) w.heap.size 90 [.int .i64 kd, .string ⟨nm.toArray⟩, .string ⟨tn.toArray⟩, .int .i64 nd]) := ⟨HB4.out.mod HNN.out id, HBQ4.out.mod HNN.out id⟩
  refine wp_valw (n := 35) (v := .slice (some ⟨w4.drew.heap.size, 0, none⟩) 1 1) (w' := w4.drew.alloc (.cells #[.int .i64 kd, .string ⟨nm.toArray⟩, .string ⟨tn.toArray⟩, .int .i64 nd] 90)) (exec_buildSlice (parts := [(0, .tmp 34)]) (vs := [(0, .agg #[.int .i64 kd, .string ⟨nm.toArray⟩, .string ⟨tn.toArray⟩, .int .i64 nd])]) rfl rfl (bldDopI _ _ _ _ _)) rfl ?_
  refine hK.out _ _ (fun _ => HSS) ?_
  clear hma
  clear hK K
  simp only [Act.put, List.setIfInBounds_toArray, List.set_cons_zero, List.set_cons_succ]
  generalize w4.drew.alloc (.cells #[.int .i64 kd, .string ⟨nm.toArray⟩, .string ⟨tn.toArray⟩, .int .i64 nd] 90) = w5 at *
  generalize w4.drew.heap.size = g5 at *
  refine reg_step (i := 7) rfl (by kernel_rfl) (fun K hK => ?_)
  have hs5 := HNN.out.size
  refine Out4.wp3 (ys := [(kd, nm, tn, nd)]) _ (.tmp 33) (.tmp 35) _ rfl Tryz.underlying32 rfl rfl (HO4.out.new HNN.out) HROW.out (fun k hk => by omega) (show d.2.2.2.1.length + 1 ≤ 34359738368 by omega) ?_
  intro A6 n6 c6 w6 ho6 hm6
  have HB6 := Sec.mk ((HB4.out.mod HNN.out id).mod hm6 (fun h => h.2.1 rfl))
  have HO6 := Sec.mk ho6
  have HM6 := Sec.mk ((HM4.out.transN HNN.out).trans hm6 (fun i hi _ => hi.1))
  have HSS : Sec (Blk w6 g t (.slice A0 d.1.length c0 :: .slice B list.length cB :: .slice A2 d.2.2.1.length c2 :: .slice A3 d.2.2.2.1.length c3 :: .int .i64 d.2.2.2.2 :: tl) ∧ Blk w6 w.heap.size 90 [.int .i64 kd, .string ⟨nm.toArray⟩, .string ⟨tn.toArray⟩, .int .i64 nd]) := ⟨HB6.out, (HBQ4.out.mod HNN.out id).mod hm6 (fun h => h.2.2 rfl)⟩
  refine hK.out _ _ (fun _ => HSS) ?_
  clear ho6 hm6
  clear hK K
  simp only [Act.put, List.setIfInBounds_toArray, List.set_cons_zero, List.set_cons_succ]
  refine reg_step (i := 8) rfl (by kernel_rfl) (fun K hK => ?_)
  refine wp_val (v := .pointer (some ⟨g, 0, none⟩)) (exec_nil rfl rfl) rfl (hK.out _ _ (fun _ => HSS) ?_)
  clear hK K
  simp only [Act.put, List.setIfInBounds_toArray, List.set_cons_zero, List.set_cons_succ]
  refine reg_step (i := 9) rfl (by kernel_rfl) (fun K hK => ?_)
  refine wp_val (v := .pointer (some ⟨g, 3, none⟩)) (exec_field rfl rfl (fptDisk3I _ _)) rfl (hK.out _ _ (fun _ => HSS) ?_)
  clear hK K
  simp only [Act.put, List.setIfInBounds_toArray, List.set_cons_zero, List.set_cons_succ]
  refine reg_step (i := 10) rfl (by kernel_rfl) (fun K hK => ?_)
  have hmc : Mod (fun k => k = g) w6 (w6.setCell ⟨g, 3, none⟩ (.slice A6 n6 c6)) := (Mod.refl (fun k => k = g) w6).setCell (p := ⟨g, 3, none⟩) (fun _ => rfl) _
  have HB7 := Sec.mk (HB6.out.set_ 3 (.slice A6 n6 c6))
  simp only [List.set_cons_zero, List.set_cons_succ] at HB7
  have HO7 := Sec.mk (HO6.out.keep hmc (fun k h e => h.2.1 e))
  have HM7 := Sec.mk (HM6.out.trans hmc (fun i hi _ => by omega))
  refine wp_store rfl rfl rfl rfl (stDopsI (HB6.out.cell 3) (HB6.out.frozen 3) A6 n6 c6) (hK.out _ _ (fun h => absurd (List.mem_singleton.2 rfl) h) ?_)
  clear hK K
  refine reg_done (by kernel_rfl) ?_ _
  go_wp2
  go_ret
  refine ⟨rfl, ?_, HM7.out⟩
  show DSt lo g tl _ (dirL d (kd, nm, tn, nd))
  rw [HE.out]
  exact ⟨t, _, _, _, _, HB7.out, HO7.out.wide (fun k _ h => ⟨h.1, h.2.1⟩), hlg⟩
end Go.Proofs.YtkkgighgnbbgiaaGreatDoor

namespace Go.Proofs.YtkkgighgnbbgiaaGreatDoor
open Go.RowKit Mem
set_option linter.unusedVariables false
set_option linter.unusedSimpArgs false
theorem node_of {N : Nat} {d : DiskL} (hI : DInv N d) (nm : LB) (hh : hasE d.2.1 nm = true) : ∃ nd : Nat, (d.2.1[placeE d.2.1 nm]?.getD ([], 0)).2 = (nd : Int) ∧ nd < d.1.length := by
  obtain ⟨hl, -⟩ := (place_at hI.ord nm).1.mp hh
  rw [List.getElem?_eq_getElem hl]
  have h1 := hI.inr _ (List.getElem_mem hl)
  refine ⟨(d.2.1[placeE d.2.1 nm].2).toNat, ?_, ?_⟩
  · simp only [Option.getD_some]; omega
  · omega
theorem findI_any {lo g : Nat} {tl : List Value} {w : World} {d : DiskT} {N : Nat} (h : DSt lo g tl w d) (hI : DInv N d) (hN : N ≤ 100000) (nm : Bytes) :
    Calls Tryz.prog 67 #[.pointer (some ⟨g, 0, none⟩), .string ⟨nm.toArray⟩] w (fun e W => ∃ p, e = .returned (.tuple #[p, .bool (hasE d.2.1 nm)]) ∧ Mod (fun _ => False) w W) := by
  obtain ⟨t, A0, c0, A1, c1, A2, c2, A3, c3, hb, ho, hlg, hr0, hr1, b0, b1, b2, b3⟩ := h.rows
  have hn := hI.names
  cases hh : hasE d.2.1 nm
  · refine (findG_no hb hr1 (fun k h => h) (by omega) hI.ord nm hh).mono ?_
    rintro e W ⟨rfl, hm⟩
    exact ⟨_, rfl, hm⟩
  · obtain ⟨nd, h1, h2⟩ := node_of hI nm hh
    refine (findG_yes hb hr0 (fun k h => h) hr1 (fun k h => h) (by omega) hI.ord nm hh h1 h2).mono ?_
    rintro e W ⟨bd, -, rfl, hm⟩
    exact ⟨_, rfl, hm⟩
theorem w64_nat (n : Nat) (h : n ≤ 1048576) : wrap64 (n : Int) = (n : Int) := by unfold wrap64; omega
theorem i64_nat (n : Nat) (h : n ≤ 1048576) : IntKind.i64.wrap (n : Int) = (n : Int) := IntWalk.i64_in (n : Int) (by omega)
theorem i64_one : IntKind.i64.wrap 1 = 1 := by decide
theorem zNodeM (w : World) : dNode.M w [] (([], 0) : NodeT) [.slice none 0 0, .int .i64 0] := by
  have := mNode (w := w) (x := (([], 0) : NodeT)) (F0 := []) (v0 := .slice none 0 0) (by decide) (Own.nil _ _ _)
  simpa using this
set_option maxHeartbeats 8000000 in
set_option maxRecDepth 100000 in
theorem createI_calls {lo g : Nat} {tl : List Value} {w : World} {d : DiskT} {ea : Nat → Addr} {N : Nat} (h : DSt lo g tl w d) (hE : ErrEnv lo w ea) (hI : DInv N d) (hN : N ≤ 50000) (nm : Bytes) (hnm : nm.length ≤ 9223372036854775807) :
    Calls Tryz.prog 66 #[.pointer (some ⟨g, 0, none⟩), .string ⟨nm.toArray⟩] w (RetDo lo g tl ea w (if 600 ≤ d.1.length ∨ 1000 ≤ d.2.2.2.1.length ∨ (hasE d.2.1 nm = false ∧ 300 ≤ d.2.1.length) then (d, 6) else (dirL (d.1 ++ [([], 0)], d.2) (1, nm, [], (d.1.length : Int)), 0))) := by
  have hn := hI.names
  have hp := hI.pend
  have hnn := hI.nodes
  have HR0 : Sec ((600 ≤ d.1.length ∨ 1000 ≤ d.2.2.2.1.length ∨ (hasE d.2.1 nm = false ∧ 300 ≤ d.2.1.length)) → (if 600 ≤ d.1.length ∨ 1000 ≤ d.2.2.2.1.length ∨ (hasE d.2.1 nm = false ∧ 300 ≤ d.2.1.length) then (d, (6 : Int)) else (dirL (d.1 ++ [([], 0)], d.2) (1, nm, [], (d.1.length : Int)), 0)) = (d, 6)) := ⟨fun h => if_pos h⟩
  have HR1 : Sec (¬ (600 ≤ d.1.length ∨ 1000 ≤ d.2.2.2.1.length ∨ (hasE d.2.1 nm = false ∧ 300 ≤ d.2.1.length)) → (if 600 ≤ d.1.length ∨ 1000 ≤ d.2.2.2.1.length ∨ (hasE d.2.1 nm = false ∧ 300 ≤ d.2.1.length) then (d, (6 : Int)) else (dirL (d.1 ++ [([], 0)], d.2) (1, nm, [], (d.1.length : Int)), 0)) = (dirL (d.1 ++ [([], 0)], d.2) (1, nm, [], (d.1.length : Int)), 0)) := ⟨fun h => if_neg h⟩
  generalize (if 600 ≤ d.1.length ∨ 1000 ≤ d.2.2.2.1.length ∨ (hasE d.2.1 nm = false ∧ 300 ≤ d.2.1.length) then (d, (6 : Int)) else (dirL (d.1 ++ [([], 0)], d.2) (1, nm, [], (d.1.length : Int)), 0)) = res at *
  have HI := Sec.mk hI
  have HDS := Sec.mk h
  have HENV := Sec.mk hE
  have hgw : g < w.heap.size := by obtain ⟨t', v0', v1', v2', v3', hb', -, hg'⟩ := h; exact hb'.lt
  have hlg : lo ≤ g := by obtain ⟨t', v0', v1', v2', v3', hb', -, hg'⟩ := h; exact hg'
  clear h hE hI
  go_enter Tryz.func66, Tryz.ntmps66
  go_wp2_with fail
  refine (findI_any HDS.out HI.out (by omega) nm).mono ?_
  rintro e w1 ⟨p, rfl, hm1⟩
  have HN1 := Sec.mk hm1
  obtain ⟨t, A0, c0, A1, c1, A2, c2, A3, c3, hb, ho, -, hr0, hr1, b0, b1, b2, b3⟩ := (HDS.out.new hm1).rows
  have HB := Sec.mk hb
  have HO := Sec.mk ho
  have hs1 := hm1.size
  clear hb ho hr0 hr1 hm1
  have x0 : w1.cell? ⟨g, 0, none⟩ = some (.slice A0 d.1.length c0) := HB.out.cell 0
  have x1 : w1.cell? ⟨g, 1, none⟩ = some (.slice A1 d.2.1.length c1) := HB.out.cell 1
  have x3 : w1.cell? ⟨g, 3, none⟩ = some (.slice A3 d.2.2.2.1.length c3) := HB.out.cell 3
  have e6 := (HENV.out.mod (HN1.out.mono (T := fun k => lo ≤ k) (fun i hi h => h.elim))).c6
  have HFULL : Sec (RetDo lo g tl ea w (d, 6) (.returned (.iface errT (.pointer (some (ea 6))))) w1) := ⟨rfl, HDS.out.new HN1.out, HN1.out.mono (fun i hi h => h.elim)⟩
  by_cases h600 : 600 ≤ d.1.length
  · have hi : (600 : Int) ≤ (d.1.length : Int) := by omega
    rw [← HR0.out (Or.inl h600)] at HFULL
    go_wp2
    go_ret
    exact HFULL.out
  have h600i : ¬ (600 : Int) ≤ (d.1.length : Int) := by omega
  by_cases h1000 : 1000 ≤ d.2.2.2.1.length
  · have hi : (1000 : Int) ≤ (d.2.2.2.1.length : Int) := by omega
    rw [← HR0.out (Or.inr (Or.inl h1000))] at HFULL
    go_wp2
    go_ret
    exact HFULL.out
  have h1000i : ¬ (1000 : Int) ≤ (d.2.2.2.1.length : Int) := by omega
  have hthere : (hasE d.2.1 nm = false ∧ 300 ≤ d.2.1.length) ∨ hasE d.2.1 nm = true ∨ (hasE d.2.1 nm = false ∧ ¬ 300 ≤ d.2.1.length) := by
    cases hasE d.2.1 nm
    · by_cases h3 : 300 ≤ d.2.1.length
      · exact .inl ⟨rfl, h3⟩
      · exact .inr (.inr ⟨rfl, h3⟩)
    · exact .inr (.inl rfl)
  have hnot : hasE d.2.1 nm = true ∨ (hasE d.2.1 nm = false ∧ ¬ 300 ≤ d.2.1.length) → ¬ (600 ≤ d.1.length ∨ 1000 ≤ d.2.2.2.1.length ∨ (hasE d.2.1 nm = false ∧ 300 ≤ d.2.1.length)) := by
    rintro (h | h)
    · rintro (h1 | h1 | ⟨h1, h2⟩)
      · omega
      · omega
      · rw [h] at h1; cases h1
    · rintro (h1 | h1 | ⟨h1, h2⟩)
      · omega
      · omega
      · exact h.2 h2
  rcases hthere with ⟨hf, h3⟩ | hgo
  · have hi : (300 : Int) ≤ (d.2.1.length : Int) := by omega
    rw [← HR0.out (Or.inr (Or.inr ⟨hf, h3⟩))] at HFULL
    clear hnot
    rw [hf]
    clear hf
    go_wp2
    go_ret
    exact HFULL.out
  have HRES := Sec.mk (HR1.out (hnot hgo))
  clear hnot HFULL e6 HR0 HR1
  have HZM : Sec (∀ W, dNode.M W [] (([], 0) : NodeT) [.slice none 0 0, .int .i64 0]) := ⟨fun W => zNodeM W⟩
  have HMODL := Sec.mk (HN1.out.mono (T := fun k => lo ≤ k) (fun i hi h => h.elim))
  generalize hasE d.2.1 nm = b at *
  have hgl : g < w1.heap.size := by omega
  have hlen : d.1.length + 1 ≤ 34359738368 := by omega
  rcases hgo with rfl | ⟨rfl, h3⟩
  all_goals
    (try have h3i : ¬ (300 : Int) ≤ (d.2.1.length : Int) := by omega)
    go_wp2_with (at_builtin; go_loud (refine Out4.list0 (X := fun k => lo ≤ k ∧ k ≠ g) (y := ([], 0)) (G := []) _ rfl (.tmp 44) (.tmp 46) _ rfl Tryz.underlying30 rfl rfl (HO.out.new ((Mod.refl _ _).alloc _)) (HZM.out _) (by simp) (lit_cells _ _ _ rfl) (fun k hk => hk) (fun k hk => by simp at hk; omega) hlen ?_; intro A5 n5 c5 w5 h5 hm5; have hn5 : n5 = d.1.length + 1 := (by obtain ⟨A5', c5', -, -, -, -, -, -, e5, -⟩ := h5.forms; injection e5 with _ e5 _; simpa using e5); subst hn5; have hw1 : wrap64 (((d.1.length + 1 : Nat) : Int) - 1) = (d.1.length : Int) := (by rw [show ((d.1.length + 1 : Nat) : Int) - 1 = (d.1.length : Int) by omega]; unfold wrap64; omega); have HO5 := Sec.mk h5; have HB5 := Sec.mk ((HB.out.alloc _).mod hm5 (fun h => h.2 rfl)); have HM5 := Sec.mk ((HMODL.out.alloc _).trans hm5 (fun i hi _ => hi.1)); clear h5 hm5; have y0 : w5.cell? ⟨g, 0, none⟩ = some (.slice A0 d.1.length c0) := HB5.out.cell 0; have f0 : w5.frozen? ⟨g, 0, none⟩ = false := HB5.out.frozen 0; have hg5 : g < w5.heap.size := HB5.out.lt))
    have hmc : Mod (fun k => k = g) w5 (w5.setCell ⟨g, 0, none⟩ (.slice A5 (d.1.length + 1) c5)) := (Mod.refl (fun k => k = g) w5).setCell (p := ⟨g, 0, none⟩) (fun _ => rfl) _
    have HB6 := Sec.mk (HB5.out.set_ 0 (.slice A5 (d.1.length + 1) c5))
    simp only [List.set_cons_zero] at HB6
    have HD6 : DSt lo g tl (w5.setCell ⟨g, 0, none⟩ (.slice A5 (d.1.length + 1) c5)) (d.1 ++ [([], 0)], d.2) := ⟨t, _, _, _, _, HB6.out, HO5.out.keep hmc (fun k h e => h.2 e), hlg⟩
    have HM6 := Sec.mk (HM5.out.trans hmc (fun i hi _ => by omega))
    refine (pendI_calls (N := N) HD6 (HENV.out.mod HM6.out) (HI.out.push (by omega)) (by omega) (1, nm, [], (d.1.length : Int)) i64_one hnm (Nat.zero_le _) (i64_nat d.1.length (by omega))).mono ?_
    rintro e w7 ⟨rfl, hd7, hm7⟩
    have HD7 := Sec.mk hd7
    have HM7 := Sec.mk (HM6.out.trans hm7 (fun i hi _ => hi))
    have hne : ¬ 1000 ≤ (d.1 ++ [(([], 0) : NodeT)], d.2).2.2.2.1.length := h1000
    rw [if_neg hne] at HD7 ⊢
    clear hd7 hm7 hmc HD6 HM6
    go_wp2
    go_ret
    rw [HRES.out]
    exact ⟨rfl, HD7.out, HM7.out⟩
end Go.Proofs.YtkkgighgnbbgiaaGreatDoor

namespace Go.Proofs.YtkkgighgnbbgiaaGreatDoor.Mem
open Go.RowKit
set_option linter.unusedVariables false
theorem Own.swap {α : Type} {d : Ty α} {e : TypeId} {w : World} {F : List Nat} {A : Option Addr} {n cp : Nat} {xs : List α} (h : Own d e w F (.slice A n cp) xs) {j : Nat} (hj : j < xs.length) :
    ∃ g cs f, A = some ⟨g, 0, none⟩ ∧ g ∈ F ∧ g ∉ f ∧ (∀ k, k ∈ f → k ∈ F) ∧ d.M w f xs[j] cs ∧ cs.length = d.sz ∧ (∀ i, i < d.sz → w.cell? ⟨g, j * d.sz + i, none⟩ = cs[i]?) ∧ (∀ i, w.frozen? ⟨g, i, none⟩ = false) ∧
      ∀ (w' : World) i u x' f', i < d.sz → Mod (· ∈ f) w w' → d.M (w'.setCell ⟨g, j * d.sz + i, none⟩ u) f' x' (cs.set i u) → (∀ k, k ∈ f' → k ∈ f ∨ w.heap.size ≤ k) →
        ∃ F', Own d e (w'.setCell ⟨g, j * d.sz + i, none⟩ u) F' (.slice A n cp) (xs.set j x') ∧ g ∈ F' ∧ ∀ k, k ∈ F' → k ∈ F ∨ k ∈ f' := by
  have hlt := h.lt
  obtain ⟨inner, Fs, ho, hE, rfl, hnd⟩ := h
  have ho' := ho
  rcases ho.2 with ⟨_, h0⟩ | ⟨g, cap, cur, hv, hg, hh, hnc, hm, hs, ht⟩
  · omega
  · injection hv with e1 e2 e3
    subst e1; subst e2; subst e3
    obtain ⟨c, f, hf, hM, hcl, l, r, hcs, hl⟩ := hE.at_ (List.getElem?_eq_getElem hj)
    have hgF : g ∈ (Value.slice (some ⟨g, 0, none⟩) xs.length cp).ownBlock.toList ++ Fs.flatten := by simp [Value.ownBlock]
    have hfin : ∀ k, k ∈ f → k ∈ Fs.flatten := fun k hk => List.mem_flatten.2 ⟨f, List.mem_of_getElem? hf, hk⟩
    have hgf : g ∉ f := fun hk => (List.nodup_append.1 hnd).2.2 g (by simp [Value.ownBlock]) g (hfin g hk) rfl
    have hill : inner.length = xs.length * d.sz := hE.clen
    have hjF : j < Fs.length := by rw [hE.flen]; exact hj
    refine ⟨g, c, f, rfl, hgF, hgf, fun k hk => List.mem_append_right _ (hfin k hk), hM, hcl, fun i hi => ?_, fun i => ho'.frozenAt i, fun w' i u x' f' hi hmod hM' hf' => ?_⟩
    · rw [ho'.cellAt _ (by have := Nat.mul_le_mul_right d.sz (show j + 1 ≤ xs.length from hj); rw [Nat.add_mul] at this; omega), hcs,
        List.getElem?_append_right (by omega), List.getElem?_append_left (by omega), hl, Nat.add_sub_cancel_left]
    · have hdis : ∀ k, k ∈ f' → k ∈ f ∨ k ∉ (Value.slice (some ⟨g, 0, none⟩) xs.length cp).ownBlock.toList ++ Fs.flatten := fun k hk => by
        rcases hf' k hk with h1 | h1
        · exact .inl h1
        · exact .inr fun h2 => absurd (hlt k h2) (by omega)
      obtain ⟨n1, n2⟩ := nodup_set hnd hf (d.M_nd hM') hdis
      refine ⟨_, ⟨l ++ (c.set i u ++ r), Fs.set j f', ?_, ?_, rfl, n1⟩, by simp [Value.ownBlock], n2⟩
      · have ho2 := Own.ownsRow_mod ho' (w' := w') (fun k hk => by
          have : g = k := by simpa [Value.ownBlock] using hk
          subst this
          exact hmod.block _ (hlt _ hgF) hgf)
        have hst := ho2.stored (j * d.sz + i) u
        rw [List.length_set]
        have : inner.set (j * d.sz + i) u = l ++ (c.set i u ++ r) := by
          rw [hcs, List.set_append_right _ _ (by omega), hl, Nat.add_sub_cancel_left, List.set_append_left _ _ (by omega)]
        rw [← this]
        exact hst.1
      · -- the other elements stay
        obtain ⟨css, rfl, h1, h2, h3⟩ := hE
        have hff := List.nodup_append.1 hnd
        have hsplit : Fs = Fs.take j ++ f :: Fs.drop (j + 1) := by
          rw [← (List.getElem?_eq_some_iff.1 hf).2, ← List.drop_eq_getElem_cons hjF, List.take_append_drop]
        have hall := Elems.all_len h1 h3
        have hjc : j < css.length := by rw [h1]; exact hj
        obtain ⟨c0, f0, e1, e2, hM0, hl0⟩ := h3 j xs[j] (List.getElem?_eq_getElem hj)
        obtain ⟨g1, g2⟩ := flatten_chunk css hall j _ e1
        have hin := List.append_inj (g1.symm.trans hcs) (by rw [g2, hl])
        have hin2 := List.append_inj hin.2 (by rw [hl0, hcl])
        have hall' : ∀ c', c' ∈ css.set j (c.set i u) → c'.length = d.sz := fun c' hc' => by
          rcases List.mem_or_eq_of_mem_set hc' with h5 | rfl
          · exact hall _ h5
          · rw [List.length_set]; exact hcl
        obtain ⟨g3, g4⟩ := flatten_chunk (css.set j (c.set i u)) hall' j _ (List.getElem?_set_self hjc)
        refine ⟨css.set j (c.set i u), ?_, by rw [List.length_set, List.length_set]; exact h1, by rw [List.length_set, List.length_set]; exact h2, fun i' x hi' => ?_⟩
        · rw [g3, List.take_set_of_le (Nat.le_refl j), List.drop_set_of_lt (Nat.lt_succ_self j), hin.1, hin2.2]
        · by_cases hij : j = i'
          · subst hij
            rw [List.getElem?_set_self (by omega)] at hi'
            obtain rfl := Option.some.inj hi'
            exact ⟨c.set i u, f', List.getElem?_set_self hjc, List.getElem?_set_self hjF, hM', by rw [List.length_set]; exact hcl⟩
          · rw [List.getElem?_set_ne hij] at hi'
            obtain ⟨c1, f1, e3, e4, hM1, hl1⟩ := h3 i' x hi'
            refine ⟨c1, f1, by rw [List.getElem?_set_ne hij]; exact e3, by rw [List.getElem?_set_ne hij]; exact e4, d.M_mod hM1 fun k hk => ?_, hl1⟩
            have hk2 : k ∈ Fs.flatten := List.mem_flatten.2 ⟨f1, List.mem_of_getElem? e4, hk⟩
            have hkg : k ≠ g := fun e => hff.2.2 g (by simp [Value.ownBlock]) k hk2 e.symm
            refine (Below.heap_setCell _ _ _ _ hkg).trans (hmod.block k (hlt k (List.mem_append_right _ hk2)) fun hkf => ?_)
            have hfl := hff.2.1
            rcases Nat.lt_or_gt_of_ne hij with hlt' | hgt'
            · have : f1 ∈ Fs.drop (j + 1) := List.mem_of_getElem? (i := i' - (j + 1)) (by rw [List.getElem?_drop]; rw [show j + 1 + (i' - (j + 1)) = i' by omega]; exact e4)
              rw [hsplit] at hfl
              simp only [List.flatten_append, List.flatten_cons, List.nodup_append] at hfl
              exact hfl.2.1.2.2 k hkf k (List.mem_flatten.2 ⟨f1, this, hk⟩) rfl
            · have : f1 ∈ Fs.take j := List.mem_of_getElem? (i := i') (by rw [List.getElem?_take, if_pos hgt']; exact e4)
              rw [hsplit] at hfl
              simp only [List.flatten_append, List.flatten_cons, List.nodup_append] at hfl
              exact hfl.2.2 k (List.mem_flatten.2 ⟨f1, this, hk⟩) k (List.mem_append_left _ hkf) rfl
end Go.Proofs.YtkkgighgnbbgiaaGreatDoor.Mem

namespace Go.Proofs.YtkkgighgnbbgiaaGreatDoor
open Go.RowKit Mem
set_option linter.unusedVariables false
set_option linter.unusedSimpArgs false
theorem Out4.appData {X : Nat → Prop} {w : World} {A : Option Addr} {n c : Nat} {v1 v2 v3 : Value} {d : DiskT} (h : Out4 X w (.slice A n c) v1 v2 v3 d) {i : Nat} (hi : i < d.1.length) (hXn : ∀ k, w.heap.size ≤ k → X k) :
    ∃ gb v' f, A = some ⟨gb, 0, none⟩ ∧ X gb ∧ gb ∉ f ∧ (∀ k, k ∈ f → X k) ∧ Own Ty.byte 5 w f v' d.1[i].1 ∧ w.cell? ⟨gb, i * 2, none⟩ = some v' ∧ w.cell? ⟨gb, i * 2 + 1, none⟩ = some (.int .i64 d.1[i].2) ∧ (∀ j, w.frozen? ⟨gb, j, none⟩ = false) ∧ gb < w.heap.size ∧
      ∀ (w' : World) (u : Value) (F2 : List Nat) (ys : Bytes), Mod (· ∈ f) w w' → Own Ty.byte 5 w' F2 u ys → (∀ k, k ∈ F2 → k ∈ f ∨ w.heap.size ≤ k) → Out4 X (w'.setCell ⟨gb, i * 2, none⟩ u) (.slice A n c) v1 v2 v3 (d.1.set i (ys, d.1[i].2), d.2) := by
  obtain ⟨F0, F1, F2, F3, o0, o1, o2, o3, hd, hX, hq⟩ := h
  obtain ⟨g, cs, f, rfl, hg, hgf, hfF, hM, hcl, hcell, hfz, hst⟩ := o0.swap hi
  obtain ⟨v', rfl, ho', hw⟩ := node_inv hM
  have hs2 : dNode.sz = 2 := rfl
  have hc0 := hcell 0 (by rw [hs2]; decide)
  have hc1 := hcell 1 (by rw [hs2]; decide)
  rw [hs2] at hc0 hc1
  have hglt := o0.lt g hg
  refine ⟨g, v', f, rfl, hX g (Or.inl hg), hgf, fun k hk => hX k (Or.inl (hfF k hk)), ho', hc0, hc1, hfz, hglt, fun w' u Fn ys hm hou hFn => ?_⟩
  have hgn : ∀ k, k ∈ Fn → k ≠ g := fun k hk e => by
    subst e
    rcases hFn k hk with h1 | h1
    · exact hgf h1
    · omega
  have hms := (Mod.refl (fun k => k = g) w').setCell (p := ⟨g, i * 2, none⟩) (fun _ => rfl) u
  have houS : Own Ty.byte 5 (w'.setCell ⟨g, i * 2, none⟩ u) Fn u ys := hou.keep hms hgn
  obtain ⟨F', hO, -, hF'⟩ := hst w' 0 u (ys, d.1[i].2) (Fn ++ []) (by rw [hs2]; decide) hm (by rw [hs2, Nat.add_zero]; exact mNode (x := (ys, d.1[i].2)) hw houS) (fun k hk => hFn k (by simpa using hk))
  rw [hs2, Nat.add_zero] at hO
  have hmem : ∀ k, k ∈ F' → k ∈ F0 ∨ w.heap.size ≤ k := fun k hk => by
    rcases hF' k hk with h1 | h1
    · exact Or.inl h1
    · rcases hFn k (by simpa using h1) with h2 | h2
      · exact Or.inl (hfF k h2)
      · exact Or.inr h2
  have hm1 : ∀ k, k ∈ F1 ∨ k ∈ F2 ∨ k ∈ F3 → k ∉ f ∧ k ≠ g := fun k hk => by
    have key : k ∉ F0 := fun h0 => by
      rcases hk with hk | hk | hk
      · exact (hd.1 _ h0).1 hk
      · exact (hd.1 _ h0).2.1 hk
      · exact (hd.1 _ h0).2.2 hk
    exact ⟨fun h => key (hfF k h), fun e => key (e ▸ hg)⟩
  have hlt := Out4.lt o0 o1 o2 o3
  refine ⟨F', F1, F2, F3, hO, (o1.keep hm (fun k hk => (hm1 k (Or.inl hk)).1)).keep hms (fun k hk => (hm1 k (Or.inl hk)).2), (o2.keep hm (fun k hk => (hm1 k (Or.inr (Or.inl hk))).1)).keep hms (fun k hk => (hm1 k (Or.inr (Or.inl hk))).2), (o3.keep hm (fun k hk => (hm1 k (Or.inr (Or.inr hk))).1)).keep hms (fun k hk => (hm1 k (Or.inr (Or.inr hk))).2), hd.upd0 (fun k hk => (hmem k hk).imp id (fun h1 => ⟨fun h => by have := hlt k (Or.inr (Or.inl h)); omega, fun h => by have := hlt k (Or.inr (Or.inr (Or.inl h))); omega, fun h => by have := hlt k (Or.inr (Or.inr (Or.inr h))); omega⟩)), ?_, hq⟩
  rintro k (hk | hk)
  · exact (hmem k hk).elim (fun h => hX k (Or.inl h)) (hXn k)
  · exact hX k (Or.inr hk)
theorem wpList_appF {P : Program} (w : World) {ops : Array Oper} {rest : List Oper} {o : Oper} {a : Act} {Q : Exit → Act → World → Prop} (hgd : o.guard = none) (s x : Operand) (t : TypeId)
    (ho : o.op = .call { callee := .builtin .append, args := #[s, x], argTypes := #[t, t] })
    {α : Type} {d : Ty α} {e : TypeId} {z : Value} (ht : P.underlying t = some (.slice e)) (hE : Elt P e d.sz z) (hf : Flat d)
    {A A' : Option Addr} {n m c c' : Nat} {xs ys : List α} {B : Nat → Prop} {F : List Nat} (hs : a.eval s = .slice A n c) (hx : a.eval x = .slice A' m c') (hown : Own d e w F (.slice A n c) xs) (hy : Row d w B A' m ys)
    (hlen : xs.length + ys.length ≤ 34359738368)
    (h : ∀ A' n' c' w' F', Own d e w' F' (.slice A' n' c') (xs ++ ys) → (∀ k, k ∈ F' → k ∈ F ∨ w.heap.size ≤ k) → Mod (fun k => k ∈ F) w w' → wpList P ops Q rest (a.put o.dst (.slice A' n' c')) w') : wpList P ops Q (o :: rest) a w := by
  obtain ⟨news, hel, hA⟩ := hy.flat hf
  refine wpList_append w hgd s x t ho d e ht hE hs hown hx hel hy.1 hA (by rw [flat_nil]; exact List.nodup_nil) (by rw [flat_nil]; intro k hk; cases hk) (by have := hy.1; omega) ?_
  intro A2 n2 c2 w2 F2 ho3 hn2 hm2 hF2
  refine h _ _ _ _ F2 ho3 (fun k hk => ?_) (hm2.mono fun i _ hi => hown.own_mem i hi)
  rcases hF2 k hk with h1 | h1 | h1
  · exact .inl h1
  · rw [flat_nil] at h1; cases h1
  · exact .inr h1
theorem fptDisk4I (p : Addr) (w : World) : (Instr.fieldAt 34 (.pointer (some p)) 4).run Tryz.prog w = .ok (.pointer (some ⟨p.block, p.off + 4, none⟩)) w := by go_simp
theorem lenBI (A : Option Addr) (n c : Nat) (w : World) : ∀ ty, (invoke (.builtin .len #[52] ty #[false]) #[.slice A n c]).run Tryz.prog w = .ok (.value (.int .i64 (n : Int))) w := by intro ty; go_simp
theorem addI (x y : Operand) (a b : Nat) (h : a + b ≤ 1000000000) (w : World) : (do eqGuard .add 3 x y (.int .i64 (a : Int)) (.int .i64 (b : Int)); binOp .add 3 (.int .i64 (a : Int)) (.int .i64 (b : Int)) : Sem Value).run Tryz.prog w = .ok (.int .i64 ((a : Int) + (b : Int))) w := by
  have hw : IntKind.i64.wrap ((a : Int) + (b : Int)) = (a : Int) + (b : Int) := by rw [IntKind.wrap_i64]; omega
  go_simp
theorem gtrI (x y : Operand) (a b : Int) (w : World) : (do eqGuard .gtr 3 x y (.int .i64 a) (.int .i64 b); binOp .gtr 3 (.int .i64 a) (.int .i64 b) : Sem Value).run Tryz.prog w = .ok (.bool (decide (b < a))) w := by
  go_simp
set_option maxHeartbeats 8000000 in
set_option maxRecDepth 100000 in
theorem appendI_calls {lo g : Nat} {tl : List Value} {w : World} {d : DiskT} {ea : Nat → Addr} {N : Nat} (h : DSt lo g tl w d) (hE : ErrEnv lo w ea) (hI : DInv N d) (hN : N ≤ 5000) {bd : Addr} {nd c0 : Nat} (hcell : w.cell? ⟨g, 0, none⟩ = some (.slice (some bd) d.1.length c0)) (hnd : nd < d.1.length)
    {Ad : Option Addr} {cd : Nat} {dat : Bytes} {B : Nat → Prop} (hr : Row Ty.byte w B Ad dat.length dat) (hB : ∀ k, B k → k < w.heap.size) (hdl : dat.length ≤ 1048576) :
    Calls Tryz.prog 68 #[.pointer (some ⟨g, 0, none⟩), .pointer (some (bd.add (nd * 2))), .slice Ad dat.length cd] w (RetDo lo g tl ea w (if d.2.2.2.2 < (usedL d : Int) + (dat.length : Int) then (d, 5)
     else if 40000 < d.1[nd].1.length + dat.length ∨ 200000 < sumD d.1 + dat.length then (d, 6)
     else ((d.1.set nd (d.1[nd].1 ++ dat, d.1[nd].2), d.2), 0))) := by
  have HR5 : Sec (d.2.2.2.2 < (usedL d : Int) + (dat.length : Int) → (if d.2.2.2.2 < (usedL d : Int) + (dat.length : Int) then (d, (5 : Int)) else if 40000 < d.1[nd].1.length + dat.length ∨ 200000 < sumD d.1 + dat.length then (d, 6) else ((d.1.set nd (d.1[nd].1 ++ dat, d.1[nd].2), d.2), 0)) = (d, 5)) := ⟨fun h => if_pos h⟩
  have HR6 : Sec (¬ d.2.2.2.2 < (usedL d : Int) + (dat.length : Int) → (40000 < d.1[nd].1.length + dat.length ∨ 200000 < sumD d.1 + dat.length) → (if d.2.2.2.2 < (usedL d : Int) + (dat.length : Int) then (d, (5 : Int)) else if 40000 < d.1[nd].1.length + dat.length ∨ 200000 < sumD d.1 + dat.length then (d, 6) else ((d.1.set nd (d.1[nd].1 ++ dat, d.1[nd].2), d.2), 0)) = (d, 6)) := ⟨fun h h2 => (if_neg h).trans (if_pos h2)⟩
  have HR0 : Sec (¬ d.2.2.2.2 < (usedL d : Int) + (dat.length : Int) → ¬ (40000 < d.1[nd].1.length + dat.length ∨ 200000 < sumD d.1 + dat.length) → (if d.2.2.2.2 < (usedL d : Int) + (dat.length : Int) then (d, (5 : Int)) else if 40000 < d.1[nd].1.length + dat.length ∨ 200000 < sumD d.1 + dat.length then (d, 6) else ((d.1.set nd (d.1[nd].1 ++ dat, d.1[nd].2), d.2), 0)) = ((d.1.set nd (d.1[nd].1 ++ dat, d.1[nd].2), d.2), 0)) := ⟨fun h h2 => (if_neg h).trans (if_neg h2)⟩
  generalize (if d.2.2.2.2 < (usedL d : Int) + (dat.length : Int) then (d, (5 : Int)) else if 40000 < d.1[nd].1.length + dat.length ∨ 200000 < sumD d.1 + dat.length then (d, 6) else ((d.1.set nd (d.1[nd].1 ++ dat, d.1[nd].2), d.2), 0)) = res at *
  have hn := hI.names
  have hnn := hI.nodes
  have HU : Sec (∀ W, Mod (fun _ => False) w W → Calls Tryz.prog 85 #[.pointer (some ⟨g, 0, none⟩)] W (Ret (.int .i64 ((usedL d : Nat) : Int)) W)) := ⟨fun W hW => usedI_calls (h.new hW) hI (by omega)⟩
  have hub : usedL d ≤ 40000 * d.2.1.length := by have := used_le hI d.2.1.length; rw [List.take_length] at this; exact this
  have HST := Sec.mk (sumD_take_le hI.len)
  have hsb := sumD_le hI
  have HL := Sec.mk hI.len
  have HDS := Sec.mk h
  have HENV := Sec.mk hE
  have HRD := Sec.mk hr
  have HBD := Sec.mk hB
  obtain ⟨t, A0, c0', A1, c1, A2, c2, A3, c3, hb, ho, hlg, hr0, hr1, b0, b1, b2, b3⟩ := h.rows
  have hA0 : A0 = some bd ∧ c0' = c0 := by
    have h0 : w.cell? ⟨g, 0, none⟩ = some (.slice A0 d.1.length c0') := hb.cell 0
    rw [hcell] at h0
    have := Option.some.inj h0
    injection this with e1 _ e3
    exact ⟨e1.symm, e3.symm⟩
  obtain ⟨rfl, rfl⟩ := hA0
  have hgw := hb.lt
  have HBK := Sec.mk hb
  have HO := Sec.mk ho
  obtain ⟨gb, v0', f0, hbd, -⟩ := ho.appData hnd (fun k hk => by omega)
  obtain rfl : bd = ⟨gb, 0, none⟩ := Option.some.inj hbd
  rw [add_own]
  clear hbd
  have HR0N := Sec.mk hr0
  clear h hE hI hr hB hb ho hr0 hr1 hcell
  go_enter Tryz.func68, Tryz.ntmps68
  go_upto_region 1 with (fail)
  go_cut [19] (fun v wx => v = .bool (decide (d.2.2.2.2 < (usedL d : Int) + (dat.length : Int))) ∧ Sec (New w wx))
  case first =>
    refine reg_start [] (fun W => Sec (New w W)) (by kernel_rfl) ?_
    have HSS : Sec (New w w.drew) := ⟨(Mod.refl _ _).drew⟩
    refine reg_take (.pointer (some ⟨g, 0, none⟩)) (i := 0) (n := 10) HSS rfl (by kernel_rfl) (by kernel_rfl) (by kernel_rfl) (by kernel_rfl) (fun _ _ _ h => h) (fun W hW => exec_move rfl rfl) ?_
    simp only [Act.put, List.setIfInBounds_toArray, List.set_cons_zero, List.set_cons_succ]
    refine reg_take (.slice Ad dat.length cd) (i := 2) (n := 12) HSS rfl (by kernel_rfl) (by kernel_rfl) (by kernel_rfl) (by kernel_rfl) (fun _ _ _ h => h) (fun W hW => exec_move rfl rfl) ?_
    simp only [Act.put, List.setIfInBounds_toArray, List.set_cons_zero, List.set_cons_succ]
    refine reg_take (.int .i64 (dat.length : Int)) (i := 3) (n := 13) HSS rfl (by kernel_rfl) (by kernel_rfl) (by kernel_rfl) (by kernel_rfl) (fun _ _ _ h => h) (fun W hW => exec_lenD rfl rfl (lenBI _ _ _ _)) ?_
    simp only [Act.put, List.setIfInBounds_toArray, List.set_cons_zero, List.set_cons_succ]
    refine reg_take (.pointer (some ⟨g, 0, none⟩)) (i := 5) (n := 15) HSS rfl (by kernel_rfl) (by kernel_rfl) (by kernel_rfl) (by kernel_rfl) (fun _ _ _ h => h) (fun W hW => exec_move rfl rfl) ?_
    simp only [Act.put, List.setIfInBounds_toArray, List.set_cons_zero, List.set_cons_succ]
    refine reg_take (.pointer (some ⟨g, 0, none⟩)) (i := 6) (n := 16) HSS rfl (by kernel_rfl) (by kernel_rfl) (by kernel_rfl) (by kernel_rfl) (fun _ _ _ h => h) (fun W hW => exec_nil rfl rfl) ?_
    simp only [Act.put, List.setIfInBounds_toArray, List.set_cons_zero, List.set_cons_succ]
    refine reg_take (.pointer (some ⟨g, 4, none⟩)) (i := 7) (n := 17) HSS rfl (by kernel_rfl) (by kernel_rfl) (by kernel_rfl) (by kernel_rfl) (fun _ _ _ h => h) (fun W hW => exec_field rfl rfl (fptDisk4I _ _)) ?_
    simp only [Act.put, List.setIfInBounds_toArray, List.set_cons_zero, List.set_cons_succ]
    refine reg_take (.int .i64 d.2.2.2.2) (i := 8) (n := 18) HSS rfl (by kernel_rfl) (by kernel_rfl) (by kernel_rfl) (by kernel_rfl) (fun _ _ _ h => h) (fun W hW => exec_load rfl rfl (ldIntD ((HBK.out.mod hW.out id).cell 4))) ?_
    simp only [Act.put, List.setIfInBounds_toArray, List.set_cons_zero, List.set_cons_succ]
    refine reg_step (i := 1) rfl (by kernel_rfl) (fun K hK => ?_)
    refine wp_call (n := 11) (vals := [.pointer (some ⟨g, 0, none⟩)]) rfl rfl rfl (by kernel_rfl) (HU.out _ HSS.out) ?_
    rintro e w2 ⟨rfl, hm2⟩
    have HSS : Sec (New w w2) := ⟨HSS.out.transN hm2⟩
    refine ⟨_, rfl, hK.out _ _ (fun _ => HSS) ?_⟩
    clear hm2
    clear hK K
    simp only [Act.put, List.setIfInBounds_toArray, List.set_cons_zero, List.set_cons_succ]
    have hub2 : usedL d + dat.length ≤ 1000000000 := by omega
    refine reg_take (.int .i64 ((usedL d : Int) + (dat.length : Int))) (i := 4) (n := 14) HSS rfl (by kernel_rfl) (by kernel_rfl) (by kernel_rfl) (by kernel_rfl) (fun _ _ _ h => h) (fun W hW => exec_bin rfl rfl rfl (addI _ _ _ _ hub2 _)) ?_
    simp only [Act.put, List.setIfInBounds_toArray, List.set_cons_zero, List.set_cons_succ]
    refine reg_take (.bool (decide (d.2.2.2.2 < (usedL d : Int) + (dat.length : Int)))) (i := 9) (n := 19) HSS rfl (by kernel_rfl) (by kernel_rfl) (by kernel_rfl) (by kernel_rfl) (fun _ _ _ h => h) (fun W hW => exec_bin rfl rfl rfl (gtrI _ _ _ _ _)) ?_
    simp only [Act.put, List.setIfInBounds_toArray, List.set_cons_zero, List.set_cons_succ]
    refine reg_done (by kernel_rfl) ?_ _
    go_wp2
    go_meet
    exact ⟨rfl, HSS⟩
  case rest =>
    rename World => w1
    obtain ⟨rfl, HN1⟩ := hcut
    by_cases hq : d.2.2.2.2 < (usedL d : Int) + (dat.length : Int)
    · have e5 := (HENV.out.mod (HN1.out.mono (T := fun k => lo ≤ k) (fun i hi h => h.elim))).c5
      have HRES := Sec.mk (HR5.out hq)
      have hqd : decide (d.2.2.2.2 < (usedL d : Int) + (dat.length : Int)) = true := by simpa using hq
      rw [hqd]
      clear HR5 HR6 HR0 hqd hq
      go_wp2
      go_ret
      rw [HRES.out]
      exact ⟨rfl, HDS.out.new HN1.out, HN1.out.mono (fun i hi h => h.elim)⟩
    have hqd : decide (d.2.2.2.2 < (usedL d : Int) + (dat.length : Int)) = false := by simpa using hq
    rw [hqd]
    have HR6' : Sec ((40000 < d.1[nd].1.length + dat.length ∨ 200000 < sumD d.1 + dat.length) → res = (d, 6)) := ⟨HR6.out hq⟩
    have HR0' : Sec (¬ (40000 < d.1[nd].1.length + dat.length ∨ 200000 < sumD d.1 + dat.length) → res = ((d.1.set nd (d.1[nd].1 ++ dat, d.1[nd].2), d.2), 0)) := ⟨HR0.out hq⟩
    clear HR5 HR6 HR0 hqd hq
    have y0 : w1.cell? ⟨g, 0, none⟩ = some (.slice (some ⟨gb, 0, none⟩) d.1.length c0') := (HBK.out.mod HN1.out id).cell 0
    go_wp2
    clear y0
    go_loopw [7, 28] (fun t i wr => ∃ k : Nat, k ≤ d.1.length ∧ i = .int .i64 (k : Int) ∧ t = .int .i64 ((dat.length : Int) + (sumD (d.1.take k) : Int)) ∧ Sec (New w wr)) (fun _ i _ => d.1.length - (intOf i).toNat)
    case atStart => exact ⟨0, Nat.zero_le _, rfl, by simp [sumD], HN1⟩
    case round =>
      clear HN1
      obtain ⟨k, hk, rfl, rfl, HM⟩ := hrel
      by_cases hlt : k < d.1.length
      · obtain ⟨bd', An, cn, hbd', n0, n1, hcc, hcm, hrow, hw⟩ := node_at (HR0N.out.mod (w' := wr) (fun _ h => h) (fun k hk => HM.out.block k hk id)) (w' := wr) (fun _ _ => rfl) hlt
        obtain rfl : (⟨gb, 0, none⟩ : Addr) = bd' := Option.some.inj hbd'
        rw [add_own] at n0 n1
        have hki : (k : Int) < (d.1.length : Int) := by omega
        have HT := Sec.mk (sumD_take hlt)
        have hs := HST.out k
        have hl := HL.out _ (List.getElem_mem hlt)
        have HMA := Sec.mk (HM.out.alloc (.cells #[.slice An d.1[k].1.length cn, .int .i64 d.1[k].2] 88))
        clear hrow hw
        generalize hz : d.1[k] = z at *
        generalize sumD (d.1.take k) = s at *
        obtain ⟨zd, safe⟩ := z
        simp only at n0 n1 hcc hl HT HMA
        clear hz
        go_wp2
        go_roundw
        case rel => exact ⟨k + 1, by omega, by go_num, by rw [HT.out]; go_num, HMA⟩
        case measure => simp [intOf]; omega
      · obtain rfl : k = d.1.length := by omega
        rw [List.take_length]
        have HO1 := HO.out.new HM.out
        have hgbw : gb < w.heap.size := by
          obtain ⟨gb', v', f', e1, -, -, -, -, hc, -, -, -, -⟩ := HO.out.appData hnd (fun k hk => by omega)
          obtain rfl : gb = gb' := by have := Option.some.inj e1; injection this
          exact World.block_lt_of_cell? _ _ hc
        have hsw := HM.out.size
        obtain ⟨gb', v', f, hbd, hXg, hgf, hXf, hov, hc0, hc1, hfz, hgbl, HAPP⟩ := HO1.appData hnd (fun k hk => by omega)
        obtain rfl : gb = gb' := by have := Option.some.inj hbd; injection this
        have HAP := Sec.mk HAPP
        obtain ⟨Av, cv, rfl, hcv1, hcv2⟩ := hov.form
        have HOV := Sec.mk hov
        have HXF := Sec.mk hXf
        have HGF := Sec.mk hgf
        have HB1 := Sec.mk (HBK.out.mod HM.out id)
        have hl := HL.out _ (List.getElem_mem hnd)
        have HFZ := Sec.mk hfz
        clear HAPP hov hXf hgf hbd HO1 hfz HL HST HU
        have HDR := Sec.mk (HRD.out.mod (w' := wr) (B' := B) (fun _ h => h) (fun k hk => HM.out.block k (HBD.out k hk) id))
        have HMODL := Sec.mk (HM.out.mono (T := fun k => lo ≤ k) (fun i hi h => h.elim))
        have hgl : g < wr.heap.size := by omega
        have hfin : (40000 < d.1[nd].1.length + dat.length) ∨ (¬ 40000 < d.1[nd].1.length + dat.length ∧ 200000 < sumD d.1 + dat.length) ∨ ¬ (40000 < d.1[nd].1.length + dat.length ∨ 200000 < sumD d.1 + dat.length) := by omega
        generalize hz : d.1[nd] = z at *
        obtain ⟨zd, safe⟩ := z
        simp only at hc0 hc1 hl hfin HOV HR6' HR0' HAP hcv1 hcv2
        clear hz
        rcases hfin with h4 | ⟨h4, h2⟩ | h24
        · have e6 := (HENV.out.mod HMODL.out).c6
          have h4i : (40000 : Int) < (zd.length : Int) + (dat.length : Int) := by omega
          have HRES := Sec.mk (HR6'.out (Or.inl h4))
          clear HR6' HR0' h4
          go_wp2
          go_ret
          rw [HRES.out]
          exact ⟨rfl, HDS.out.new HM.out, HMODL.out⟩
        · have e6 := (HENV.out.mod HMODL.out).c6
          have h4i : ¬ (40000 : Int) < (zd.length : Int) + (dat.length : Int) := by omega
          have h2i : (200000 : Int) < (dat.length : Int) + (sumD d.1 : Int) := by omega
          have HRES := Sec.mk (HR6'.out (Or.inr h2))
          clear HR6' HR0' h4 h2
          go_wp2
          go_ret
          rw [HRES.out]
          exact ⟨rfl, HDS.out.new HM.out, HMODL.out⟩
        · have h4i : ¬ (40000 : Int) < (zd.length : Int) + (dat.length : Int) := by omega
          have h2i : ¬ (200000 : Int) < (dat.length : Int) + (sumD d.1 : Int) := by omega
          have hlen : zd.length + dat.length ≤ 34359738368 := by omega
          have HRES := Sec.mk (HR0'.out h24)
          clear HR6' HR0' h24
          go_wp2_with (at_builtin; go_loud (refine wpList_appF _ rfl (.tmp 56) (.tmp 57) _ rfl Tryz.underlying52 elt_byte flat_byte rfl rfl HOV.out HDR.out hlen ?_; intro A6 n6 c6 w6 F6 ho6 hF6 hm6; have HO6 := Sec.mk ho6; have HF6 := Sec.mk hF6; have HM6 := Sec.mk hm6; have d0 : w6.cell? ⟨gb, nd * 2, none⟩ = some (.slice Av zd.length cv) := (hm6.cell hgbl HGF.out).trans hc0; have d1 : w6.cell? ⟨gb, nd * 2 + 1, none⟩ = some (.int .i64 safe) := (hm6.cell hgbl HGF.out).trans hc1; have g0 : w6.frozen? ⟨gb, nd * 2, none⟩ = false := (hm6.frozen hgbl HGF.out).trans (HFZ.out _); have g1 : w6.frozen? ⟨gb, nd * 2 + 1, none⟩ = false := (hm6.frozen hgbl HGF.out).trans (HFZ.out _); have hb6 : gb < w6.heap.size := Nat.lt_of_lt_of_le hgbl hm6.size; clear ho6 hF6 hm6))
          go_ret
          have hmc : Mod (fun k => k = gb) w6 (w6.setCell ⟨gb, nd * 2, none⟩ (.slice A6 n6 c6)) := (Mod.refl (fun k => k = gb) w6).setCell (p := ⟨gb, nd * 2, none⟩) (fun _ => rfl) _
          have HO7 := HAP.out w6 (.slice A6 n6 c6) F6 (zd ++ dat) HM6.out HO6.out HF6.out
          have hgg : g ≠ gb := fun e => hXg.2 e.symm
          have HB7 := (HB1.out.mod HM6.out (fun h => (HXF.out g h).2 rfl)).mod hmc hgg
          rw [HRES.out]
          exact ⟨rfl, ⟨t, _, _, _, _, HB7, HO7, hlg⟩, (HMODL.out.trans HM6.out (fun i hi _ => (HXF.out i hi).1)).trans hmc (fun i hi _ => by rw [hi]; exact hXg.1)⟩
end Go.Proofs.YtkkgighgnbbgiaaGreatDoor
