/- What the walks over disks share. The laws' helpers over Content. The specification's reading of a file. The program's place of a name: nameOf, the closure, sort.Search, place. The program's binding and leaving of a name. The program's replay of an operation on names. -/
import Derived.Test.YtkkgighgnbbgiaaGreatDoorPk6
import Derived.Test.YtkkgighgnbbgiaaGreatDoorPk5
import Derived.Test.YtkkgighgnbbgiaaGreatDoorPk1
import Derived.Test.YtkkgighgnbbgiaaGreatDoorPk2
import Derived.Test.YtkkgighgnbbgiaaGreatDoorProg
import Derived.WalkKit
namespace Go.Proofs.YtkkgighgnbbgiaaGreatDoor
open Go.RowKit Mem
set_option linter.unusedVariables false
set_option linter.unusedSimpArgs false
theorem valid_names {d : DiskT} (h : DiskValidL d = true) : Ord d.2.1 ∧ ∀ k, (hk : k < d.2.1.length) → 0 ≤ d.2.1[k].2 ∧ d.2.1[k].2 < d.1.length := by
  have h1 := ((DiskValidL_iff d).1 h).2.2.2.2.2.2.1
  refine ⟨inOrdL_ord h1, fun k hk => ?_⟩
  have h2 := ((inOrdL_iff _ _).1 h1).2 k hk
  exact ⟨h2.2.1, h2.2.2.1⟩
theorem valid_lens {d : DiskT} (h : DiskValidL d = true) : d.1.length ≤ 600 ∧ d.2.1.length ≤ 300 ∧ ∀ k, (hk : k < d.1.length) → d.1[k].1.length ≤ 40000 := by
  have hh := (DiskValidL_iff d).1 h
  refine ⟨hh.2.2.1, ((inOrdL_iff _ _).1 hh.2.2.2.2.2.2.1).1, fun k hk => ?_⟩
  have := hh.2.2.2.2.1 k hk
  unfold nodeOk at this
  exact (of_decide_eq_true this).1
set_option maxHeartbeats 2000000 in
set_option maxRecDepth 100000 in
theorem l1Bytes_calls {A : Option Addr} {c : Nat} {xs : Bytes} {B : Nat → Prop} {w : World} (h : Row Ty.byte w B A xs.length xs) (hB : ∀ k, B k → k < w.heap.size) (hl : xs.length ≤ 1048576) : Calls Tryz.prog 50 #[.slice A xs.length c] w (RetOwn Ty.byte 5 w xs) := by
  have HR := Sec.mk h
  have HB := Sec.mk hB
  clear h hB
  go_enter Tryz.func50, Tryz.ntmps50
  go_wp2_with (first
    | (refine wpList_mk _ rfl (.tmp 5) _ rfl Ty.byte 5 Tryz.underlying52 elt_byte 0 (fun _ => ⟨rfl, rfl⟩) xs.length rfl (by omega) ?_; intro w1 ho1; have HO1 := Sec.mk ho1; clear ho1)
    | (refine wpList_copyAll _ rfl (.tmp 7) (.tmp 8) _ _ rfl Tryz.underlying52 elt_byte rfl flat_byte rfl rfl HO1.out (HO1.out.read HR.out HB.out) ?_; intro w2 ho2; have HO2 := Sec.mk ho2; clear ho2))
  go_wp2
  go_ret
  exact HO2.out.ret
theorem fptDisk0 (p : Addr) (w : World) : (Instr.fieldAt 34 (.pointer (some p)) 0).run Tryz.prog w = .ok (.pointer (some p)) w := by go_simp
theorem fptDisk1 (p : Addr) (w : World) : (Instr.fieldAt 34 (.pointer (some p)) 1).run Tryz.prog w = .ok (.pointer (some ⟨p.block, p.off + 1, none⟩)) w := by go_simp
theorem fptEntry1D (p : Addr) (w : World) : (Instr.fieldAt 98 (.pointer (some p)) 1).run Tryz.prog w = .ok (.pointer (some ⟨p.block, p.off + 1, none⟩)) w := by go_simp
theorem fptNode0D (p : Addr) (w : World) : (Instr.fieldAt 88 (.pointer (some p)) 0).run Tryz.prog w = .ok (.pointer (some p)) w := by go_simp
theorem ldNodesD {w : World} {p : Addr} {v : Value} (h : w.cell? p = some v) : (Instr.loadAt 30 (.pointer (some p))).run Tryz.prog w = .ok v w := by go_simp
theorem ldEntsD {w : World} {p : Addr} {v : Value} (h : w.cell? p = some v) : (Instr.loadAt 31 (.pointer (some p))).run Tryz.prog w = .ok v w := by go_simp
theorem ldIntD {w : World} {p : Addr} {v : Value} (h : w.cell? p = some v) : (Instr.loadAt 3 (.pointer (some p))).run Tryz.prog w = .ok v w := by go_simp
theorem ldBytesD {w : World} {p : Addr} {v : Value} (h : w.cell? p = some v) : (Instr.loadAt 52 (.pointer (some p))).run Tryz.prog w = .ok v w := by go_simp
set_option maxHeartbeats 1000000 in
theorem l1Entries_calls {A : Option Addr} {c : Nat} {xs : EntryST} {B : Nat → Prop} {w : World} (h : Row dEntry w B A xs.length xs) (hl : xs.length ≤ 1048576) : Calls Tryz.prog 49 #[.slice A xs.length c] w (RetOwn dEntry 98 w xs) := by
  have HR := Sec.mk h
  have HO : Sec (Mine dEntry 98 w w (.slice none 0 0) ([] : EntryST)) := ⟨⟨[], Own.nil _ _ _, by simp⟩, Mod.refl _ _⟩
  clear h
  go_enter Tryz.func49, Tryz.ntmps49
  go_wp2_with (at_builtin; go_loud (refine wpList_app _ rfl (.tmp 4) (.tmp 5) _ rfl Tryz.underlying31 elt_entry flatEntry rfl rfl HO.out HR.out (show ([] : EntryST).length + xs.length ≤ 34359738368 by simp; omega) ?_; intro A2 n2 c2 w2 ho2; have HO2 := Sec.mk ho2; clear ho2))
  go_wp2
  go_ret
  exact HO2.out.ret
theorem l1Bytes_at {A : Option Addr} {n c : Nat} {xs : Bytes} {B : Nat → Prop} {w : World} (h : Row Ty.byte w B A n xs) (hB : ∀ k, B k → k < w.heap.size) (hl : xs.length ≤ 1048576) : Calls Tryz.prog 50 #[.slice A n c] w (RetOwn Ty.byte 5 w xs) := by
  obtain rfl := h.1
  exact l1Bytes_calls h hB hl
end Go.Proofs.YtkkgighgnbbgiaaGreatDoor

namespace Go.Proofs.YtkkgighgnbbgiaaGreatDoor
open Go.RowKit Mem
set_option linter.unusedVariables false
set_option linter.unusedSimpArgs false
abbrev ContentT := Bool × Bytes
abbrev dContent : Ty ContentT := Ty.pair Ty.bool dBS
set_option synthInstance.maxSize 2000
theorem rdContent {w : World} {v : Value} {x : ContentT} (h : RdV true dContent w v x) : ∃ v1, v = .agg #[.bool x.1, v1] ∧ RdV false dBS w v1 x.2 := by
  obtain ⟨cs, rfl, c0, c1, rfl, h0, h1⟩ := h
  obtain rfl := h0
  obtain ⟨A1, cp1, rfl, g1⟩ := h1
  exact ⟨_, rfl, ⟨_, rfl, A1, cp1, rfl, g1⟩⟩
theorem cellsContent {w : World} {v : Value} {x : ContentT} (h : RdV true dContent w v x) : ∃ A1 q1, v = .agg #[.bool x.1, .slice A1 x.2.length q1] := by
  obtain ⟨v1, rfl, k1⟩ := rdContent h
  obtain ⟨A1, q1, rfl, _⟩ := k1.slice
  exact ⟨A1, q1, rfl⟩
theorem fldContent0 : Fld dContent 0 Ty.bool (fun x => x.1) (fun x y => (y, x.2)) := (Fld.fst (Fld.one rfl))
theorem fldContent1 : Fld dContent 1 dBS (fun x => x.2) (fun x y => (x.1, y)) := (Fld.snd (Fld.one rfl) rfl)
theorem mContent {w : World} {x : ContentT} {F1 : List Nat} {v1 : Value} (o1 : Own Ty.byte 5 w F1 v1 x.2) : dContent.M w (F1) x [.bool x.1, v1] :=
  ⟨_, _, [], _, rfl, rfl, (by simpa using o1.nd), ⟨rfl, rfl⟩, ⟨_, rfl, o1⟩⟩
theorem ofContent {w : World} {lo hi : Nat} {x : ContentT} {v1 : Value} (h : OwI Ty.byte 5 w lo hi v1 x.2) : OwV true dContent w lo hi (.agg #[.bool x.1, v1]) x := by
  obtain ⟨F, ho, hF⟩ := h
  exact ⟨_, _, rfl, mContent ho, hF⟩


























































def mkContent1 (k : Nat) (x : ContentT) : ContentT := (x.1, mkBS1 k x.2)
def cntContent (x : ContentT) : Nat := cntBS x.2
theorem cntContent_mk (k : Nat) (x : ContentT) : cntContent (mkContent1 k x) = cntContent x := by simp only [cntContent, mkContent1, cntBS_mk]
theorem mkContent1_idem (k k' : Nat) (x : ContentT) : mkContent1 k' (mkContent1 k x) = mkContent1 k' x := by simp only [mkContent1, cntBS_mk, mkBS1_idem]


















































































end Go.Proofs.YtkkgighgnbbgiaaGreatDoor

namespace Go.Proofs.YtkkgighgnbbgiaaGreatDoor
open Go.RowKit Mem
set_option linter.unusedVariables false
set_option linter.unusedSimpArgs false
/-- what a reading finds -/
def readL (d : DiskT) (nm : Bytes) : ContentT :=
  if DiskValidL d = true ∧ hasE d.2.1 nm = true then (true, (d.1[((d.2.1[placeE d.2.1 nm]?.getD ([], 0)).2).toNat]?.getD ([], 0)).1) else (false, [])
































































































































end Go.Proofs.YtkkgighgnbbgiaaGreatDoor

namespace Go.Proofs.YtkkgighgnbbgiaaGreatDoor
open Go.RowKit Mem
set_option linter.unusedVariables false
set_option linter.unusedSimpArgs false
namespace Mem
variable {P : Program} {o : Oper} {a : Act} {w : World} {v : Value} {Q : Exit → Act → World → Prop}
/-- a call of a Go function that lies in a slot -/
theorem exec_callF {x : Operand} {f : FuncId} {args : List Operand} {ts : Array TypeId} {vals : List Value} (ho : o.op = .call { callee := .value x, args := args.toArray, argTypes := ts }) (hx : a.eval x = .func (.func f) #[] #[]) (hv : args.map a.eval = vals)
    (hf : ((P.funcs[f]?).map fun fn => fn.name == "runtime.NumGoroutine" || fn.body.isNone) = some false) : (execOp a.eval o).run P w = .ok (.enter f vals.toArray) w := by
  obtain ⟨fn, hfn, hb⟩ := Option.map_eq_some_iff.1 hf
  rw [Bool.or_eq_false_iff] at hb
  have h1 : fn.name ≠ "runtime.NumGoroutine" := fun h => by rw [h] at hb; simp at hb
  have h2 : fn.body ≠ none := fun h => by rw [h] at hb; simp at hb
  unfold execOp
  simp only [ho, resolve, List.map_toArray, hv, hx, Deferred.ofValue]
  simp [Sem.run_bind, Result.andThen, invoke, callFunc, hfn, h1, h2]
theorem wp_callF {x : Operand} {f : FuncId} {args : List Operand} {ts : Array TypeId} {vals : List Value} {R : Ending → World → Prop} {n : Nat} (ho : o.op = .call { callee := .value x, args := args.toArray, argTypes := ts }) (hx : a.eval x = .func (.func f) #[] #[]) (hd : o.dst = some n) (hv : args.map a.eval = vals)
    (hf : ((P.funcs[f]?).map fun fn => fn.name == "runtime.NumGoroutine" || fn.body.isNone) = some false) {K : Act → World → Prop} (hc : Calls P f vals.toArray w R) (hK : ∀ e w', R e w' → ∃ v, e = .returned v ∧ K (a.put (some n) v) w') : Oper.wp P o a w K Q := by
  unfold Oper.wp
  rw [exec_callF ho hx hv hf, Oper.upon_enter]
  refine hc.mono ?_
  intro e w' hR
  obtain ⟨v, rfl, h⟩ := hK e w' hR
  rw [hd]; exact h
end Mem
theorem lenES (A : Option Addr) (n c : Nat) (w : World) : ∀ ty, (invoke (.builtin .len #[31] ty #[false]) #[.slice A n c]).run Tryz.prog w = .ok (.value (.int .i64 (n : Int))) w := by intro ty; go_simp
theorem exec_lenE {P : Program} {o : Oper} {a : Act} {w : World} {k : Nat} {t : TypeId} {A : Option Addr} {n c : Nat} (ho : o.op = .call { callee := .builtin .len, args := #[.tmp k], argTypes := #[t] }) (hx : a.eval (.tmp k) = .slice A n c) (h : ∀ ty, (invoke (.builtin .len #[t] ty #[false]) #[.slice A n c]).run P w = .ok (.value (.int .i64 (n : Int))) w) : (execOp a.eval o).run P w = .ok (.value (.int .i64 (n : Int))) w := by
  unfold execOp; simp only [ho, resolve, Sem.run_bind, Sem.run_pure, Result.andThen_ok, List.map_toArray, List.map_cons, List.map_nil, hx, h]
theorem ldSlE {w : World} {p : Addr} {v : Value} (h : w.cell? p = some v) : (Instr.loadAt 31 (.pointer (some p))).run Tryz.prog w = .ok v w := by go_simp
theorem ldFn {w : World} {p : Addr} {v : Value} (h : w.cell? p = some v) : (Instr.loadAt 121 (.pointer (some p))).run Tryz.prog w = .ok v w := by go_simp
theorem ldEntry {w : World} {ad : Addr} {z : Bytes} {u : Int} (h0 : w.cell? ad = some (.string ⟨z.toArray⟩)) (h1 : w.cell? ⟨ad.block, ad.off + 1, none⟩ = some (.int .i64 u)) : (Instr.loadAt 98 (.pointer (some ad))).run Tryz.prog w = .ok (.agg #[.string ⟨z.toArray⟩, .int .i64 u]) w := by go_simp
theorem geqE (xs ys : Bytes) (x y : Operand) (w : World) : (do eqGuard .geq 9 x y (.string ⟨xs.toArray⟩) (.string ⟨ys.toArray⟩); binOp .geq 9 (.string ⟨xs.toArray⟩) (.string ⟨ys.toArray⟩) : Sem Value).run Tryz.prog w = .ok (.bool (decide (¬ xs < ys))) w := by
  have h := strGe xs ys w
  go_simp
theorem nameOf_calls (z : Bytes) (u : Int) (w : World) : Calls Tryz.prog 81 #[.agg #[.string ⟨z.toArray⟩, .int .i64 u]] w (Ret (.string ⟨z.toArray⟩) w) := by
  go_enter Tryz.func81, Tryz.ntmps81
  go_wp2
  go_ret
  exact ⟨rfl, (Mod.refl _ _).alloc _⟩
set_option maxHeartbeats 4000000 in
set_option maxRecDepth 100000 in
theorem placeF_calls {A : Option Addr} {c : Nat} {xs : List EntryT} {B : Nat → Prop} {w : World} (h : Row dEntry w B A xs.length xs) (hB : ∀ k, B k → k < w.heap.size) (nm : Bytes) {pf pl pk : Addr} (hf : w.cell? pf = some (.func (.func 81) #[] #[])) (hl : w.cell? pl = some (.slice A xs.length c)) (hk : w.cell? pk = some (.string ⟨nm.toArray⟩)) (k : Nat) (hlt : k < xs.length) :
    Calls Tryz.prog 90 #[.int .i64 (k : Int), .pointer (some pf), .pointer (some pl), .pointer (some pk)] w (Ret (.bool (decide (¬ xs[k].1 < nm))) w) := by
  have HR := Sec.mk h
  have HB := Sec.mk hB
  have HC : Sec (∀ W, New w W → W.cell? pf = some (.func (.func 81) #[] #[]) ∧ W.cell? pl = some (.slice A xs.length c) ∧ W.cell? pk = some (.string ⟨nm.toArray⟩)) := ⟨fun W hW => ⟨hW.cell_of hf, hW.cell_of hl, hW.cell_of hk⟩⟩
  obtain ⟨ad, rfl, -, -, -, -⟩ := ent_at HR.out (w' := w) (fun _ _ => rfl) hlt
  have HE : Sec (∀ W, New w W → W.cell? (ad.add (k * 2)) = some (.string ⟨xs[k].1.toArray⟩) ∧ W.cell? ⟨(ad.add (k * 2)).block, (ad.add (k * 2)).off + 1, none⟩ = some (.int .i64 xs[k].2)) := ⟨fun W hW => by
    obtain ⟨ad', hA, h0, h1, _, _⟩ := ent_at HR.out (w' := W) (fun i hi => hW.block i (HB.out i hi) id) hlt
    obtain rfl := Option.some.inj hA
    exact ⟨h0, h1⟩⟩
  generalize xs[k].1 = z at *
  generalize xs[k].2 = u at *
  clear h hB hf hl hk HR
  go_enter Tryz.func90, Tryz.ntmps90
  go_wp2
  refine reg_start [] (fun W => Sec (New w W)) (by kernel_rfl) ?_
  have HSS : Sec (New w w.drew) := ⟨(Mod.refl _ _).drew⟩
  refine reg_take (.func (.func 81) #[] #[]) (i := 0) (n := 6) HSS rfl (by kernel_rfl) (by kernel_rfl) (by kernel_rfl) (by kernel_rfl) (fun _ _ _ h => h) (fun W hW => exec_load rfl rfl (ldFn (HC.out W hW.out).1)) ?_
  simp only [Act.put, List.setIfInBounds_toArray, List.set_cons_zero, List.set_cons_succ]
  refine reg_take (.slice (some ad) xs.length c) (i := 1) (n := 7) HSS rfl (by kernel_rfl) (by kernel_rfl) (by kernel_rfl) (by kernel_rfl) (fun _ _ _ h => h) (fun W hW => exec_load rfl rfl (ldSlE (HC.out W hW.out).2.1)) ?_
  simp only [Act.put, List.setIfInBounds_toArray, List.set_cons_zero, List.set_cons_succ]
  refine reg_take (.int .i64 (k : Int)) (i := 2) (n := 8) HSS rfl (by kernel_rfl) (by kernel_rfl) (by kernel_rfl) (by kernel_rfl) (fun _ _ _ h => h) (fun W hW => exec_move rfl rfl) ?_
  simp only [Act.put, List.setIfInBounds_toArray, List.set_cons_zero, List.set_cons_succ]
  refine reg_take (.pointer (some (ad.add (k * 2)))) (i := 3) (n := 9) HSS rfl (by kernel_rfl) (by kernel_rfl) (by kernel_rfl) (by kernel_rfl) (fun _ _ _ h => h) (fun W hW => exec_indexAddr rfl rfl rfl (idxEntryS _ _ _ _ hlt _)) ?_
  simp only [Act.put, List.setIfInBounds_toArray, List.set_cons_zero, List.set_cons_succ]
  refine reg_take (.agg #[.string ⟨z.toArray⟩, .int .i64 u]) (i := 4) (n := 10) HSS rfl (by kernel_rfl) (by kernel_rfl) (by kernel_rfl) (by kernel_rfl) (fun _ _ _ h => h) (fun W hW => exec_load rfl rfl (ldEntry (HE.out W hW.out).1 (HE.out W hW.out).2)) ?_
  simp only [Act.put, List.setIfInBounds_toArray, List.set_cons_zero, List.set_cons_succ]
  refine reg_take (.string ⟨nm.toArray⟩) (i := 6) (n := 12) HSS rfl (by kernel_rfl) (by kernel_rfl) (by kernel_rfl) (by kernel_rfl) (fun _ _ _ h => h) (fun W hW => exec_load rfl rfl (ldStr (HC.out W hW.out).2.2)) ?_
  simp only [Act.put, List.setIfInBounds_toArray, List.set_cons_zero, List.set_cons_succ]
  refine reg_step (i := 5) rfl (by kernel_rfl) (fun K hK => ?_)
  refine wp_callF (n := 11) (vals := [.agg #[.string ⟨z.toArray⟩, .int .i64 u]]) rfl rfl rfl rfl (by kernel_rfl) (nameOf_calls z u _) ?_
  rintro e w3 ⟨rfl, hm3⟩
  have HSS : Sec (New w w3) := ⟨HSS.out.transN hm3⟩
  refine ⟨_, rfl, hK.out _ _ (fun _ => HSS) ?_⟩
  clear hm3
  clear hK K
  simp only [Act.put, List.setIfInBounds_toArray, List.set_cons_zero, List.set_cons_succ]
  refine reg_take (.bool (decide (¬ z < nm))) (i := 7) (n := 13) HSS rfl (by kernel_rfl) (by kernel_rfl) (by kernel_rfl) (by kernel_rfl) (fun _ _ _ h => h) (fun W hW => exec_bin rfl rfl rfl (geqE _ _ _ _ _)) ?_
  simp only [Act.put, List.setIfInBounds_toArray, List.set_cons_zero, List.set_cons_succ]
  refine reg_take (.bool (decide (¬ z < nm))) (i := 8) (n := 5) HSS rfl (by kernel_rfl) (by kernel_rfl) (by kernel_rfl) (by kernel_rfl) (fun _ _ _ h => h) (fun W hW => exec_assign rfl rfl) ?_
  simp only [Act.put, List.setIfInBounds_toArray, List.set_cons_zero, List.set_cons_succ]
  refine reg_done (by kernel_rfl) ?_ _
  go_wp2
  go_ret
  exact ⟨rfl, HSS.out⟩
theorem countP_bound {p : Nat → Bool} {n hi : Nat} (hin : hi ≤ n) (h1 : ∀ t, t < hi → p t = false) (h2 : ∀ t, hi ≤ t → t < n → p t = true) : (List.range n).countP (fun i => !p i) = hi := by
  obtain ⟨m, rfl⟩ := Nat.exists_eq_add_of_le hin
  rw [List.range_add, List.countP_append, List.countP_eq_length.2 (fun a ha => by rw [h1 a (List.mem_range.1 ha)]; rfl), List.length_range, List.countP_eq_zero.2 (fun a ha => by
    obtain ⟨b, hb, rfl⟩ := List.mem_map.1 ha
    have := List.mem_range.1 hb
    rw [h2 _ (by omega) (by omega)]; simp)]
  rfl
set_option maxHeartbeats 4000000 in
set_option maxRecDepth 100000 in
theorem search_calls {c1 c2 c3 : Value} (n : Nat) (p : Nat → Bool) (w : World) (hsz : n ≤ 1048576) (hf : ∀ (W : World) (i : Nat), New w W → i < n → Calls Tryz.prog 90 #[.int .i64 (i : Int), c1, c2, c3] W (Ret (.bool (p i)) W))
    (hmono : ∀ a b, a ≤ b → b < n → p a = true → p b = true) :
    Calls Tryz.prog 89 #[.int .i64 (n : Int), .func (.func 90) #[] #[c1, c2, c3]] w (Ret (.int .i64 (((List.range n).countP (fun i => !p i) : Nat) : Int)) w) := by
  have HF := Sec.mk hf
  have M := Sec.mk hmono
  clear hf hmono
  generalize hcnt : (List.range n).countP (fun i => !p i) = cnt
  have CN := Sec.mk hcnt
  clear hcnt
  go_enter Tryz.func89, Tryz.ntmps89
  go_wp2
  go_loopw [5, 6] (fun s5 s6 wr => ∃ (lo hi : Nat), s5 = .int .i64 (lo : Int) ∧ s6 = .int .i64 (hi : Int) ∧ lo ≤ hi ∧ hi ≤ n ∧ Sec (New w wr) ∧ Sec ((∀ t, t < lo → p t = false) ∧ (∀ t, hi ≤ t → t < n → p t = true))) (fun s5 s6 _ => (intOf s6).toNat - (intOf s5).toNat)
  case atStart => exact ⟨0, n, rfl, rfl, Nat.zero_le _, Nat.le_refl _, ⟨Mod.refl _ _⟩, ⟨⟨fun t ht => absurd ht (Nat.not_lt_zero _), fun t h1 h2 => by omega⟩⟩⟩
  case round =>
    obtain ⟨lo, hi, rfl, rfl, hlh, hin, HM, I⟩ := hrel
    by_cases hlt : lo < hi
    · have hlti : (lo : Int) < (hi : Int) := by omega
      have hc := HF.out wr ((lo + hi) / 2) HM.out (by omega)
      rw [show (((lo + hi) / 2 : Nat) : Int) = ((lo : Int) + (hi : Int)) / 2 by omega] at hc
      cases hp : p ((lo + hi) / 2) <;> rw [hp] at hc
      · have I2 : Sec ((∀ t, t < (lo + hi) / 2 + 1 → p t = false) ∧ (∀ t, hi ≤ t → t < n → p t = true)) := ⟨fun t ht => (by
            cases h : p t with
            | false => rfl
            | true => have := M.out t ((lo + hi) / 2) (by omega) (by omega) h; rw [hp] at this; cases this), I.out.2⟩
        have HC := Sec.mk hc
        clear hc hp
        go_wp2_with fail
        refine HC.out.mono ?_
        rintro e w' ⟨rfl, hm⟩
        have HM2 := Sec.mk (HM.out.transN hm)
        clear hm HC
        go_wp2
        go_roundw
        case rel => exact ⟨(lo + hi) / 2 + 1, hi, by rw [show ((lo : Int) + (hi : Int)) / 2 + 1 = (((lo + hi) / 2 + 1 : Nat) : Int) by omega], rfl, by omega, hin, HM2, I2⟩
        case measure => simp [intOf]; omega
      · have I2 : Sec ((∀ t, t < lo → p t = false) ∧ (∀ t, (lo + hi) / 2 ≤ t → t < n → p t = true)) := ⟨I.out.1, fun t ht htn => M.out ((lo + hi) / 2) t ht htn hp⟩
        have HC := Sec.mk hc
        clear hc hp
        go_wp2_with fail
        refine HC.out.mono ?_
        rintro e w' ⟨rfl, hm⟩
        have HM2 := Sec.mk (HM.out.transN hm)
        clear hm HC
        go_wp2
        go_roundw
        case rel => exact ⟨lo, (lo + hi) / 2, rfl, by rw [show ((lo : Int) + (hi : Int)) / 2 = (((lo + hi) / 2 : Nat) : Int) by omega], by omega, by omega, HM2, I2⟩
        case measure => simp [intOf]; omega
    · obtain rfl : hi = lo := by omega
      have ecnt : cnt = hi := by
        rw [← CN.out]
        exact countP_bound hin I.out.1 I.out.2
      subst ecnt
      have hlti : ¬ (cnt : Int) < (cnt : Int) := by omega
      go_wp2
      go_ret
      exact ⟨rfl, HM.out⟩
theorem placeE_range (xs : List EntL) (nm : LB) : (List.range xs.length).countP (fun i => !(if h : i < xs.length then decide (¬ xs[i].1 < nm) else true)) = placeE xs nm := by
  have h : xs.map (fun e => decide (e.1 < nm)) = (List.range xs.length).map (fun i => !(if h : i < xs.length then decide (¬ xs[i].1 < nm) else true)) := by
    apply List.ext_getElem
    · simp
    · intro i h1 h2
      have hi : i < xs.length := by simpa using h1
      simp only [List.getElem_map, List.getElem_range]
      rw [dif_pos hi, decide_not, Bool.not_not]
  unfold placeE
  have e1 : ∀ {α : Type} (l : List α) (f : α → Bool), l.countP f = (l.map f).countP id := by intro α l f; rw [List.countP_map]; rfl
  rw [e1 (List.range xs.length), ← h, ← e1]
set_option maxHeartbeats 4000000 in
set_option maxRecDepth 100000 in
theorem place_calls {A : Option Addr} {c : Nat} {xs : List EntryT} {B : Nat → Prop} {w : World} (h : Row dEntry w B A xs.length xs) (hB : ∀ k, B k → k < w.heap.size) (hl : xs.length ≤ 1048576) (ho : Ord xs) (nm : Bytes) :
    Calls Tryz.prog 80 #[.slice A xs.length c, .string ⟨nm.toArray⟩, .func (.func 81) #[] #[]] w (Ret (.tuple #[.int .i64 (placeE xs nm : Int), .bool (hasE xs nm)]) w) := by
  have HR := Sec.mk h
  have HB := Sec.mk hB
  have HO := Sec.mk ho
  have HMON : Sec (∀ a b, a ≤ b → b < xs.length → (if h : a < xs.length then decide (¬ xs[a].1 < nm) else true) = true → (if h : b < xs.length then decide (¬ xs[b].1 < nm) else true) = true) := ⟨fun a b hab hb hp => by
    rw [dif_pos (by omega)] at hp
    rw [dif_pos hb]
    simp only [decide_eq_true_eq] at hp ⊢
    intro hlt
    rcases Nat.lt_or_eq_of_le hab with hh | rfl
    · exact hp (lb_trans (List.pairwise_iff_getElem.1 HO.out a b (by omega) hb hh) hlt)
    · exact hp hlt⟩
  have HRG := Sec.mk (placeE_range xs nm)
  clear h hB ho
  have HBX : Sec (∀ W3, New (((w.alloc (.cells #[.slice A xs.length c] 31)).alloc (.cells #[.string ⟨nm.toArray⟩] 9)).alloc (.cells #[.func (.func 81) #[] #[]] 121)) W3 → W3.cell? ⟨w.heap.size + 1 + 1, 0, none⟩ = some (.func (.func 81) #[] #[]) ∧ W3.cell? ⟨w.heap.size, 0, none⟩ = some (.slice A xs.length c) ∧ W3.cell? ⟨w.heap.size + 1, 0, none⟩ = some (.string ⟨nm.toArray⟩)) := ⟨fun W3 hW => ⟨by
    have hb := (Blk.new ((w.alloc (.cells #[.slice A xs.length c] 31)).alloc (.cells #[.string ⟨nm.toArray⟩] 9)) 121 [.func (.func 81) #[] #[]]).cell 0
    simp at hb
    exact hW.cell_of hb, by
    have hb := (((Blk.new w 31 [.slice A xs.length c]).alloc (.cells #[.string ⟨nm.toArray⟩] 9)).alloc (.cells #[.func (.func 81) #[] #[]] 121)).cell 0
    simp at hb
    exact hW.cell_of hb, by
    have hb := ((Blk.new (w.alloc (.cells #[.slice A xs.length c] 31)) 9 [.string ⟨nm.toArray⟩]).alloc (.cells #[.func (.func 81) #[] #[]] 121)).cell 0
    simp at hb
    exact hW.cell_of hb⟩⟩
  have HM3 : Sec (New w (((w.alloc (.cells #[.slice A xs.length c] 31)).alloc (.cells #[.string ⟨nm.toArray⟩] 9)).alloc (.cells #[.func (.func 81) #[] #[]] 121))) := ⟨(((Mod.refl _ _).alloc _).alloc _).alloc _⟩
  go_enter Tryz.func80, Tryz.ntmps80
  go_wp2_with fail
  refine (search_calls xs.length (fun i => if h : i < xs.length then decide (¬ xs[i].1 < nm) else true) _ hl (fun W i hW hi => ?_) HMON.out).mono ?_
  · rw [show (if h : i < xs.length then decide (¬ xs[i].1 < nm) else true) = decide (¬ xs[i].1 < nm) from dif_pos hi]
    obtain ⟨p1, p2, p3⟩ := HBX.out W hW
    exact placeF_calls (HR.out.mod (w' := W) (fun _ h => h) (fun k hk => (HM3.out.transN hW).block k (HB.out k hk) id)) (fun k hk => Nat.lt_of_lt_of_le (HB.out k hk) (HM3.out.transN hW).size) nm p1 p2 p3 i hi
  rw [HRG.out]
  rintro e w4 ⟨rfl, hm4⟩
  have HC : Sec (∀ W, New w4 W → W.cell? ⟨w.heap.size + 1 + 1, 0, none⟩ = some (.func (.func 81) #[] #[]) ∧ W.cell? ⟨w.heap.size, 0, none⟩ = some (.slice A xs.length c) ∧ W.cell? ⟨w.heap.size + 1, 0, none⟩ = some (.string ⟨nm.toArray⟩)) := ⟨fun W hW => HBX.out W (hm4.transN hW)⟩
  have HM4 := Sec.mk (HM3.out.transN hm4)
  clear hm4 HMON HRG HBX HM3
  obtain ⟨x1, x2, x3⟩ := HC.out w4 (Mod.refl _ _)
  have HPL := Sec.mk (place_at HO.out nm).1
  generalize placeE xs nm = pl at *
  by_cases hlt : pl < xs.length
  rotate_left
  · have HE : Sec (hasE xs nm = false) := ⟨by
      cases hh : hasE xs nm with
      | false => rfl
      | true => exact absurd (HPL.out.1 hh).1 hlt⟩
    have hli : ¬ (pl : Int) < (xs.length : Int) := by omega
    go_wp2
    go_quiet (fail)
    go_wp2
    go_ret2
    exact ⟨by rw [HE.out]; rfl, HM4.out.drewN _⟩
  have HEQ : Sec (hasE xs nm = decide (xs[pl].1 = nm)) := ⟨by
    by_cases hh : xs[pl].1 = nm
    · rw [decide_eq_true hh]; exact HPL.out.2 ⟨hlt, hh⟩
    · rw [decide_eq_false hh]
      cases hx : hasE xs nm with
      | false => rfl
      | true => obtain ⟨_, hy⟩ := HPL.out.1 hx; exact absurd hy hh⟩
  have hli : (pl : Int) < (xs.length : Int) := by omega
  obtain ⟨ad, rfl, -, -, -, -⟩ := ent_at HR.out (w' := w) (fun _ _ => rfl) hlt
  have HE : Sec (∀ W, New w4 W → W.cell? (ad.add (pl * 2)) = some (.string ⟨xs[pl].1.toArray⟩) ∧ W.cell? ⟨(ad.add (pl * 2)).block, (ad.add (pl * 2)).off + 1, none⟩ = some (.int .i64 xs[pl].2)) := ⟨fun W hW => by
    obtain ⟨ad', hA, h0, h1, _, _⟩ := ent_at HR.out (w' := W) (fun i hi => (HM4.out.transN hW).block i (HB.out i hi) id) hlt
    obtain rfl := Option.some.inj hA
    exact ⟨h0, h1⟩⟩
  generalize xs[pl].1 = z at *
  generalize xs[pl].2 = u at *
  generalize hasE xs nm = hs at *
  clear HR HB HO HPL x1 x2 x3
  go_wp2
  refine reg_start [] (fun W => Sec (New w4 W)) (by kernel_rfl) ?_
  have HSS : Sec (New w4 w4.drew) := ⟨(Mod.refl _ _).drew⟩
  refine reg_take (.int .i64 (pl : Int)) (i := 0) (n := 13) HSS rfl (by kernel_rfl) (by kernel_rfl) (by kernel_rfl) (by kernel_rfl) (fun _ _ _ h => h) (fun W hW => exec_move rfl rfl) ?_
  simp only [Act.put, List.setIfInBounds_toArray, List.set_cons_zero, List.set_cons_succ]
  refine reg_take (.int .i64 (pl : Int)) (i := 1) (n := 14) HSS rfl (by kernel_rfl) (by kernel_rfl) (by kernel_rfl) (by kernel_rfl) (fun _ _ _ h => h) (fun W hW => exec_move rfl rfl) ?_
  simp only [Act.put, List.setIfInBounds_toArray, List.set_cons_zero, List.set_cons_succ]
  refine reg_take (.slice (some ad) xs.length c) (i := 2) (n := 15) HSS rfl (by kernel_rfl) (by kernel_rfl) (by kernel_rfl) (by kernel_rfl) (fun _ _ _ h => h) (fun W hW => exec_load rfl rfl (ldSlE (HC.out W hW.out).2.1)) ?_
  simp only [Act.put, List.setIfInBounds_toArray, List.set_cons_zero, List.set_cons_succ]
  refine reg_take (.int .i64 (xs.length : Int)) (i := 3) (n := 16) HSS rfl (by kernel_rfl) (by kernel_rfl) (by kernel_rfl) (by kernel_rfl) (fun _ _ _ h => h) (fun W hW => exec_lenE rfl rfl (lenES _ _ _ _)) ?_
  simp only [Act.put, List.setIfInBounds_toArray, List.set_cons_zero, List.set_cons_succ]
  refine reg_take (.bool true) (i := 4) (n := 17) HSS rfl (by kernel_rfl) (by kernel_rfl) (by kernel_rfl) (by kernel_rfl) (fun _ _ _ h => h) (fun W hW => exec_bin rfl rfl rfl (by go_simp)) ?_
  simp only [Act.put, List.setIfInBounds_toArray, List.set_cons_zero, List.set_cons_succ]
  refine reg_take (.bool true) (i := 5) (n := 18) HSS rfl (by kernel_rfl) (by kernel_rfl) (by kernel_rfl) (by kernel_rfl) (fun _ _ _ h => h) (fun W hW => exec_move rfl rfl) ?_
  simp only [Act.put, List.setIfInBounds_toArray, List.set_cons_zero, List.set_cons_succ]
  refine reg_takeG (.func (.func 81) #[] #[]) (i := 6) (n := 19) HSS rfl (by rfl) (by kernel_rfl) (by kernel_rfl) (by kernel_rfl) (by kernel_rfl) (fun _ _ _ h => h) (fun W hW => exec_load rfl rfl (ldFn (HC.out W hW.out).1)) ?_
  simp only [Act.put, List.setIfInBounds_toArray, List.set_cons_zero, List.set_cons_succ]
  refine reg_takeG (.slice (some ad) xs.length c) (i := 7) (n := 20) HSS rfl (by rfl) (by kernel_rfl) (by kernel_rfl) (by kernel_rfl) (by kernel_rfl) (fun _ _ _ h => h) (fun W hW => exec_load rfl rfl (ldSlE (HC.out W hW.out).2.1)) ?_
  simp only [Act.put, List.setIfInBounds_toArray, List.set_cons_zero, List.set_cons_succ]
  refine reg_takeG (.int .i64 (pl : Int)) (i := 8) (n := 21) HSS rfl (by rfl) (by kernel_rfl) (by kernel_rfl) (by kernel_rfl) (by kernel_rfl) (fun _ _ _ h => h) (fun W hW => exec_move rfl rfl) ?_
  simp only [Act.put, List.setIfInBounds_toArray, List.set_cons_zero, List.set_cons_succ]
  refine reg_takeG (.pointer (some (ad.add (pl * 2)))) (i := 9) (n := 22) HSS rfl (by rfl) (by kernel_rfl) (by kernel_rfl) (by kernel_rfl) (by kernel_rfl) (fun _ _ _ h => h) (fun W hW => exec_indexAddr rfl rfl rfl (idxEntryS _ _ _ _ hlt _)) ?_
  simp only [Act.put, List.setIfInBounds_toArray, List.set_cons_zero, List.set_cons_succ]
  refine reg_takeG (.agg #[.string ⟨z.toArray⟩, .int .i64 u]) (i := 10) (n := 23) HSS rfl (by rfl) (by kernel_rfl) (by kernel_rfl) (by kernel_rfl) (by kernel_rfl) (fun _ _ _ h => h) (fun W hW => exec_load rfl rfl (ldEntry (HE.out W hW.out).1 (HE.out W hW.out).2)) ?_
  simp only [Act.put, List.setIfInBounds_toArray, List.set_cons_zero, List.set_cons_succ]
  refine reg_takeG (.string ⟨nm.toArray⟩) (i := 12) (n := 25) HSS rfl (by rfl) (by kernel_rfl) (by kernel_rfl) (by kernel_rfl) (by kernel_rfl) (fun _ _ _ h => h) (fun W hW => exec_load rfl rfl (ldStr (HC.out W hW.out).2.2)) ?_
  simp only [Act.put, List.setIfInBounds_toArray, List.set_cons_zero, List.set_cons_succ]
  refine reg_stepG (i := 11) rfl (by rfl) (by kernel_rfl) (fun K hK => ?_)
  refine wp_callF (n := 24) (vals := [.agg #[.string ⟨z.toArray⟩, .int .i64 u]]) rfl rfl rfl rfl (by kernel_rfl) (nameOf_calls z u _) ?_
  rintro e w3 ⟨rfl, hm3⟩
  have HSS : Sec (New w4 w3) := ⟨HSS.out.transN hm3⟩
  refine ⟨_, rfl, hK.out _ _ (fun _ => HSS) ?_⟩
  clear hm3
  clear hK K
  simp only [Act.put, List.setIfInBounds_toArray, List.set_cons_zero, List.set_cons_succ]
  refine reg_takeG (.bool (z == nm)) (i := 13) (n := 26) HSS rfl (by rfl) (by kernel_rfl) (by kernel_rfl) (by kernel_rfl) (by kernel_rfl) (fun _ _ _ h => h) (fun W hW => exec_bin rfl rfl rfl (by go_simp)) ?_
  simp only [Act.put, List.setIfInBounds_toArray, List.set_cons_zero, List.set_cons_succ]
  refine reg_take (.bool (z == nm)) (i := 14) (n := 27) HSS rfl (by kernel_rfl) (by kernel_rfl) (by kernel_rfl) (by kernel_rfl) (fun _ _ _ h => h) (fun W hW => exec_pick (b := true) (vx := .bool (z == nm)) (vy := .bool false) rfl rfl rfl rfl rfl) ?_
  simp only [Act.put, List.setIfInBounds_toArray, List.set_cons_zero, List.set_cons_succ]
  refine reg_take (.int .i64 (pl : Int)) (i := 15) (n := 6) HSS rfl (by kernel_rfl) (by kernel_rfl) (by kernel_rfl) (by kernel_rfl) (fun _ _ _ h => h) (fun W hW => exec_assign rfl rfl) ?_
  simp only [Act.put, List.setIfInBounds_toArray, List.set_cons_zero, List.set_cons_succ]
  refine reg_take (.bool (z == nm)) (i := 16) (n := 7) HSS rfl (by kernel_rfl) (by kernel_rfl) (by kernel_rfl) (by kernel_rfl) (fun _ _ _ h => h) (fun W hW => exec_assign rfl rfl) ?_
  simp only [Act.put, List.setIfInBounds_toArray, List.set_cons_zero, List.set_cons_succ]
  refine reg_done (by kernel_rfl) ?_ _
  go_wp2
  go_ret2
  exact ⟨by rw [HEQ.out, show decide (z = nm) = (z == nm) from Bool.eq_iff_iff.2 ⟨fun h => beq_iff_eq.2 (of_decide_eq_true h), fun h => decide_eq_true (beq_iff_eq.1 h)⟩]; rfl, HM4.out.transN HSS.out⟩
end Go.Proofs.YtkkgighgnbbgiaaGreatDoor

namespace Go.Proofs.YtkkgighgnbbgiaaGreatDoor
open Go.RowKit Mem
set_option linter.unusedVariables false
set_option linter.unusedSimpArgs false
namespace Mem
/-- append of elements that lead nowhere, as one operation -/
theorem wp_app {P : Program} (w : World) {o : Oper} {a : Act} {K : Act → World → Prop} {Q : Exit → Act → World → Prop} (s x : Operand) (t : TypeId)
    (ho : o.op = .call { callee := .builtin .append, args := #[s, x], argTypes := #[t, t] })
    {α : Type} {d : Ty α} {e : TypeId} {z : Value} (ht : P.underlying t = some (.slice e)) (hE : Elt P e d.sz z) (hf : Flat d)
    {w0 : World} {A A' : Option Addr} {n m c c' : Nat} {xs ys : List α} {B : Nat → Prop} (hs : a.eval s = .slice A n c) (hx : a.eval x = .slice A' m c') (hown : Mine d e w0 w (.slice A n c) xs) (hy : Row d w B A' m ys)
    (hlen : xs.length + ys.length ≤ 34359738368)
    (h : ∀ A' n' c' w', Mine d e w0 w' (.slice A' n' c') (xs ++ ys) → K (a.put o.dst (.slice A' n' c')) w') : o.wp P a w K Q := by
  obtain ⟨news, hel, hA⟩ := hy.flat hf
  obtain ⟨⟨F, ho2, hF⟩, hn⟩ := hown
  refine wp_append w s x t ho d e ht hE hs ho2 hx hel hy.1 hA (by rw [flat_nil]; exact List.nodup_nil) (by rw [flat_nil]; intro k hk; cases hk) (by have := hy.1; omega) ?_
  intro A2 n2 c2 w2 F2 ho3 hn2 hm2 hF2
  exact h _ _ _ _ ⟨⟨F2, ho3, far_app hn hF (by rw [flat_nil]; simp) hF2⟩, New.app hn ho2 hF hm2⟩
end Mem
theorem place_lt2 {l : List EntL} (h : Ord l) {n : LB} (hn : hasE l n = true) : placeE l n < l.length := ((place_at h n).1.mp hn).1
theorem addOne (x y : Operand) (k : Nat) (hk : k ≤ 1048576) (w : World) : (do eqGuard .add 3 x y (.int .i64 (k : Int)) (.int .i64 1); binOp .add 3 (.int .i64 (k : Int)) (.int .i64 1) : Sem Value).run Tryz.prog w = .ok (.int .i64 ((k + 1 : Nat) : Int)) w := by
  have hw : IntKind.i64.wrap ((k : Int) + 1) = (k : Int) + 1 := by rw [IntKind.wrap_i64]; omega
  go_simp
theorem buildEnt (z : Bytes) (u : Int) (w : World) : (Instr.build 98 #[(0, .string ⟨z.toArray⟩), (1, .int .i64 u)]).run Tryz.prog w = .ok (.agg #[.string ⟨z.toArray⟩, .int .i64 u]) w := by go_simp
theorem buildEnt1 (z : Bytes) (u : Int) (w : World) : (Instr.buildSlice 31 1 #[(0, .agg #[.string ⟨z.toArray⟩, .int .i64 u])]).run Tryz.prog w = .ok (.slice (some ⟨w.heap.size, 0, none⟩) 1 1) (w.alloc (.cells #[.string ⟨z.toArray⟩, .int .i64 u] 98)) := by go_simp
theorem buildEnt0 (w : World) : (Instr.buildSlice 31 0 #[]).run Tryz.prog w = .ok (.slice (some ⟨w.heap.size, 0, none⟩) 0 0) (w.alloc (.cells #[] 98)) := by go_simp
theorem slcTo {A : Option Addr} {n c k : Nat} (hk : k ≤ c) (w : World) : (Instr.sliceAt 31 (.slice A n c) none (some (.int .i64 (k : Int))) none).run Tryz.prog w = .ok (.slice A k c) w := slice_to Tryz.underlying31 hk (by kernel_rfl)
theorem slcFrom {A : Option Addr} {n c k : Nat} (hk : k ≤ n) (hc : n ≤ c) (w : World) : (Instr.sliceAt 31 (.slice A n c) (some (.int .i64 (k : Int))) none none).run Tryz.prog w = .ok (.slice (if c = k then A else A.map (fun x => x.add (k * 2))) (n - k) (c - k)) w := by
  by_cases h : c = k
  · subst h; go_simp
  · go_simp
set_option maxHeartbeats 4000000 in
set_option maxRecDepth 100000 in
theorem leave_calls {A : Option Addr} {c : Nat} {xs : List EntryT} {B : Nat → Prop} {w : World} (h : Row dEntry w B A xs.length xs) (hB : ∀ k, B k → k < w.heap.size) (hc : xs.length ≤ c) (hl : xs.length ≤ 1048576) (ho : Ord xs) (nm : Bytes) (hh : hasE xs nm = true) :
    Calls Tryz.prog 84 #[.slice A xs.length c, .string ⟨nm.toArray⟩] w (RetOwn dEntry 98 w (outE xs nm)) := by
  have HR := Sec.mk h
  have HB := Sec.mk hB
  have HP := Sec.mk (place_calls (c := c) h hB hl ho nm)
  have HLV := Sec.mk (leave_is ho nm hh)
  have hpl := place_lt2 ho hh
  clear h hB ho
  go_enter Tryz.func84, Tryz.ntmps84
  go_wp2_with fail
  refine HP.out.mono ?_
  rintro e w1 ⟨rfl, hm1⟩
  have HM1 := Sec.mk hm1
  have HR1 : Sec (∀ W, New w1 W → Row dEntry W B A xs.length xs) := ⟨fun W hW => HR.out.mod (fun _ h => h) (fun k hk => (HM1.out.transN hW).block k (HB.out k hk) id)⟩
  clear hm1 HP HR HB hh
  generalize placeE xs nm = pl at *
  go_wp2
  have HSS : True := trivial
  obtain ⟨AT, hAT⟩ : ∃ AT, AT = (if c = pl + 1 then A else A.map (fun x => x.add ((pl + 1) * 2))) := ⟨_, rfl⟩
  refine reg_start [] (fun _ => True) (by kernel_rfl) ?_
  refine reg_take (.slice A xs.length c) (i := 1) (n := 14) HSS rfl (by kernel_rfl) (by kernel_rfl) (by kernel_rfl) (by kernel_rfl) (fun _ _ _ h => h) (fun W hW => exec_move rfl rfl) ?_
  simp only [Act.put, List.setIfInBounds_toArray, List.set_cons_zero, List.set_cons_succ]
  refine reg_take (.int .i64 (pl : Int)) (i := 2) (n := 15) HSS rfl (by kernel_rfl) (by kernel_rfl) (by kernel_rfl) (by kernel_rfl) (fun _ _ _ h => h) (fun W hW => exec_move rfl rfl) ?_
  simp only [Act.put, List.setIfInBounds_toArray, List.set_cons_zero, List.set_cons_succ]
  refine reg_take (.slice A pl c) (i := 3) (n := 16) HSS rfl (by kernel_rfl) (by kernel_rfl) (by kernel_rfl) (by kernel_rfl) (fun _ _ _ h => h) (fun W hW => exec_slice rfl rfl rfl rfl rfl (slcTo (by omega) _)) ?_
  simp only [Act.put, List.setIfInBounds_toArray, List.set_cons_zero, List.set_cons_succ]
  refine reg_take (.slice A xs.length c) (i := 5) (n := 18) HSS rfl (by kernel_rfl) (by kernel_rfl) (by kernel_rfl) (by kernel_rfl) (fun _ _ _ h => h) (fun W hW => exec_move rfl rfl) ?_
  simp only [Act.put, List.setIfInBounds_toArray, List.set_cons_zero, List.set_cons_succ]
  refine reg_take (.int .i64 (pl : Int)) (i := 6) (n := 19) HSS rfl (by kernel_rfl) (by kernel_rfl) (by kernel_rfl) (by kernel_rfl) (fun _ _ _ h => h) (fun W hW => exec_move rfl rfl) ?_
  simp only [Act.put, List.setIfInBounds_toArray, List.set_cons_zero, List.set_cons_succ]
  refine reg_take (.int .i64 ((pl + 1 : Nat) : Int)) (i := 7) (n := 20) HSS rfl (by kernel_rfl) (by kernel_rfl) (by kernel_rfl) (by kernel_rfl) (fun _ _ _ h => h) (fun W hW => exec_bin rfl rfl rfl (addOne _ _ _ (by omega) _)) ?_
  simp only [Act.put, List.setIfInBounds_toArray, List.set_cons_zero, List.set_cons_succ]
  refine reg_take (.slice AT (xs.length - (pl + 1)) (c - (pl + 1))) (i := 8) (n := 21) HSS rfl (by kernel_rfl) (by kernel_rfl) (by kernel_rfl) (by kernel_rfl) (fun _ _ _ h => h) (fun W hW => exec_slice rfl rfl rfl rfl rfl (hAT ▸ slcFrom (by omega) hc _)) ?_
  simp only [Act.put, List.setIfInBounds_toArray, List.set_cons_zero, List.set_cons_succ]
  refine reg_step (i := 0) rfl (by kernel_rfl) (fun K hK => ?_)
  refine wp_valw (n := 13) (v := .slice (some ⟨w1.drew.heap.size, 0, none⟩) 0 0) (w' := w1.drew.alloc (.cells #[] 98)) (exec_buildSlice (parts := []) (vs := []) rfl rfl (buildEnt0 _)) rfl ?_
  refine hK.out _ _ (fun _ => trivial) ?_
  clear hK K
  simp only [Act.put, List.setIfInBounds_toArray, List.set_cons_zero, List.set_cons_succ]
  have HO0 : Mine dEntry 98 w1 (w1.drew.alloc (.cells #[] 98)) (.slice (some ⟨w1.drew.heap.size, 0, none⟩) 0 0) [] := Mine.empty _ _ rfl (Mod.refl _ _).drew
  refine reg_step (i := 4) rfl (by kernel_rfl) (fun K hK => ?_)
  refine wp_app _ (.tmp 13) (.tmp 16) _ rfl Tryz.underlying31 elt_entry flatEntry rfl rfl HO0 ((HR1.out _ HO0.new).take (m := pl) (by omega)) (by rw [List.length_take]; simp; omega) ?_
  intro A2 n2 c2 w2 HO2
  refine hK.out _ _ (fun _ => trivial) ?_
  clear hK K
  simp only [Act.put, List.setIfInBounds_toArray, List.set_cons_zero, List.set_cons_succ]
  refine reg_step (i := 9) rfl (by kernel_rfl) (fun K hK => ?_)
  have hcut := (HR1.out _ HO2.new).cut (k := pl + 1) (m := xs.length) (cap := c) (by omega) (Nat.le_refl _) hc
  rw [List.take_length, show (if c = pl + 1 then A else A.map (fun x => x.add ((pl + 1) * dEntry.sz))) = AT from hAT.symm] at hcut
  refine wp_app _ (.tmp 17) (.tmp 21) _ rfl Tryz.underlying31 elt_entry flatEntry rfl rfl HO2 hcut (by rw [List.nil_append, List.length_take, List.length_drop]; omega) ?_
  intro A3 n3 c3 w3 HO3
  refine hK.out _ _ (fun _ => trivial) ?_
  rw [List.nil_append, HLV.out] at HO3
  have HO4 := Sec.mk HO3
  clear HO3 HO2 HO0 hcut
  clear hK K
  simp only [Act.put, List.setIfInBounds_toArray, List.set_cons_zero, List.set_cons_succ]
  refine reg_take (.slice A3 n3 c3) (i := 10) (n := 4) HSS rfl (by kernel_rfl) (by kernel_rfl) (by kernel_rfl) (by kernel_rfl) (fun _ _ _ h => h) (fun W hW => exec_assign rfl rfl) ?_
  simp only [Act.put, List.setIfInBounds_toArray, List.set_cons_zero, List.set_cons_succ]
  refine reg_done (by kernel_rfl) ?_ _
  go_wp2
  go_ret
  exact (HO4.out.base HM1.out).ret
set_option maxHeartbeats 4000000 in
set_option maxRecDepth 100000 in
theorem bind_calls {A : Option Addr} {c : Nat} {xs : List EntryT} {B : Nat → Prop} {w : World} (h : Row dEntry w B A xs.length xs) (hB : ∀ k, B k → k < w.heap.size) (hc : xs.length ≤ c) (hl : xs.length ≤ 1048576) (ho : Ord xs) (nm : Bytes) (hn : nm.length ≤ 9223372036854775807) (v : Int) (hv : IntKind.i64.wrap v = v) :
    Calls Tryz.prog 83 #[.slice A xs.length c, .string ⟨nm.toArray⟩, .int .i64 v] w (RetOwn dEntry 98 w (withE xs nm v)) := by
  have HR := Sec.mk h
  have HB := Sec.mk hB
  have HN := Sec.mk hn
  have HV := Sec.mk hv
  have HP := Sec.mk (place_calls (c := c) h hB hl ho nm)
  have HBT := Sec.mk (bind_there ho nm v)
  have HBN := Sec.mk (bind_not ho nm v)
  have hple := placeE_le xs nm
  have HPA := Sec.mk (place_at ho nm).1
  clear h hB ho hn hv
  go_enter Tryz.func83, Tryz.ntmps83
  go_wp2_with fail
  refine HP.out.mono ?_
  rintro e w1 ⟨rfl, hm1⟩
  have HM1 := Sec.mk hm1
  have HR1 : Sec (∀ W, New w1 W → Row dEntry W B A xs.length xs) := ⟨fun W hW => HR.out.mod (fun _ h => h) (fun k hk => (HM1.out.transN hW).block k (HB.out k hk) id)⟩
  clear hm1 HP HR HB
  generalize placeE xs nm = pl at *
  cases hh : hasE xs nm
  · have HB2 := Sec.mk (HBN.out hh)
    have HT := Sec.mk fun W hW => (HR1.out W hW).take (m := pl) hple
    have htl : (xs.take pl).length = pl := by rw [List.length_take]; omega
    generalize htk : xs.take pl = tk at *
    have HE0 := Sec.mk fun g (hg : g = w1.heap.size) => (Mine.empty (w := w1) dEntry 98 hg (Mod.refl _ _) : Mine dEntry 98 w1 _ _ [])
    have hpc : (pl : Int) ≤ (c : Int) := by omega
    clear hh HBT HPA
    go_wp2_with (at_builtin; go_loud (refine wpList_app _ rfl (.tmp 27) (.tmp 30) _ rfl Tryz.underlying31 elt_entry flatEntry rfl rfl (HE0.out _ (by simp)) (HT.out _ (HE0.out _ rfl).new) (show ([] : List EntryT).length + tk.length ≤ 34359738368 by simp; omega) ?_; intro A2 n2 c2 w2 HO2))
    rw [List.nil_append] at HO2
    have HO2s := Sec.mk HO2
    clear HO2
    have HSS : True := trivial
    obtain ⟨AT, hAT⟩ : ∃ AT, AT = (if c = pl then A else A.map (fun x => x.add (pl * 2))) := ⟨_, rfl⟩
    refine reg_start [] (fun _ => True) (by kernel_rfl) ?_
    refine reg_take (.slice A2 n2 c2) (i := 0) (n := 32) HSS rfl (by kernel_rfl) (by kernel_rfl) (by kernel_rfl) (by kernel_rfl) (fun _ _ _ h => h) (fun W hW => exec_move rfl rfl) ?_
    simp only [Act.put, List.setIfInBounds_toArray, List.set_cons_zero, List.set_cons_succ]
    refine reg_take (.string ⟨nm.toArray⟩) (i := 1) (n := 33) HSS rfl (by kernel_rfl) (by kernel_rfl) (by kernel_rfl) (by kernel_rfl) (fun _ _ _ h => h) (fun W hW => exec_move rfl rfl) ?_
    simp only [Act.put, List.setIfInBounds_toArray, List.set_cons_zero, List.set_cons_succ]
    refine reg_take (.int .i64 v) (i := 2) (n := 34) HSS rfl (by kernel_rfl) (by kernel_rfl) (by kernel_rfl) (by kernel_rfl) (fun _ _ _ h => h) (fun W hW => exec_move rfl rfl) ?_
    simp only [Act.put, List.setIfInBounds_toArray, List.set_cons_zero, List.set_cons_succ]
    refine reg_take (.agg #[.string ⟨nm.toArray⟩, .int .i64 v]) (i := 3) (n := 35) HSS rfl (by kernel_rfl) (by kernel_rfl) (by kernel_rfl) (by kernel_rfl) (fun _ _ _ h => h) (fun W hW => exec_build (parts := [(0, .tmp 33), (1, .tmp 34)]) rfl rfl (buildEnt _ _ _)) ?_
    simp only [Act.put, List.setIfInBounds_toArray, List.set_cons_zero, List.set_cons_succ]
    refine reg_take (.slice A xs.length c) (i := 6) (n := 38) HSS rfl (by kernel_rfl) (by kernel_rfl) (by kernel_rfl) (by kernel_rfl) (fun _ _ _ h => h) (fun W hW => exec_move rfl rfl) ?_
    simp only [Act.put, List.setIfInBounds_toArray, List.set_cons_zero, List.set_cons_succ]
    refine reg_take (.int .i64 (pl : Int)) (i := 7) (n := 39) HSS rfl (by kernel_rfl) (by kernel_rfl) (by kernel_rfl) (by kernel_rfl) (fun _ _ _ h => h) (fun W hW => exec_move rfl rfl) ?_
    simp only [Act.put, List.setIfInBounds_toArray, List.set_cons_zero, List.set_cons_succ]
    refine reg_take (.slice AT (xs.length - pl) (c - pl)) (i := 8) (n := 40) HSS rfl (by kernel_rfl) (by kernel_rfl) (by kernel_rfl) (by kernel_rfl) (fun _ _ _ h => h) (fun W hW => exec_slice rfl rfl rfl rfl rfl (hAT ▸ slcFrom (by omega) hc _)) ?_
    simp only [Act.put, List.setIfInBounds_toArray, List.set_cons_zero, List.set_cons_succ]
    refine reg_step (i := 4) rfl (by kernel_rfl) (fun K hK => ?_)
    refine wp_valw (n := 36) (v := .slice (some ⟨w2.drew.heap.size, 0, none⟩) 1 1) (w' := w2.drew.alloc (.cells #[.string ⟨nm.toArray⟩, .int .i64 v] 98)) (exec_buildSlice (parts := [(0, .tmp 35)]) (vs := [(0, .agg #[.string ⟨nm.toArray⟩, .int .i64 v])]) rfl rfl (buildEnt1 _ _ _)) rfl ?_
    refine hK.out _ _ (fun _ => trivial) ?_
    clear hK K
    simp only [Act.put, List.setIfInBounds_toArray, List.set_cons_zero, List.set_cons_succ]
    have HO3 := HO2s.out.step (Mod.refl _ _).drew
    refine reg_step (i := 5) rfl (by kernel_rfl) (fun K hK => ?_)
    refine wp_app _ (.tmp 32) (.tmp 36) _ rfl Tryz.underlying31 elt_entry flatEntry rfl rfl (HO3.alloc _) (rowEnt _ HN.out HV.out rfl) (show tk.length + [((nm, v) : EntryT)].length ≤ 34359738368 by simp only [List.length_singleton]; omega) ?_
    intro A4 n4 c4 w4 HO4
    refine hK.out _ _ (fun _ => trivial) ?_
    clear hK K
    simp only [Act.put, List.setIfInBounds_toArray, List.set_cons_zero, List.set_cons_succ]
    refine reg_step (i := 9) rfl (by kernel_rfl) (fun K hK => ?_)
    have hcut := (HR1.out _ HO4.new).cut (k := pl) (m := xs.length) (cap := c) (by omega) (Nat.le_refl _) hc
    rw [List.take_length, show (if c = pl then A else A.map (fun x => x.add (pl * dEntry.sz))) = AT from hAT.symm] at hcut
    refine wp_app _ (.tmp 37) (.tmp 40) _ rfl Tryz.underlying31 elt_entry flatEntry rfl rfl HO4 hcut (by rw [List.length_append, List.length_singleton, List.length_drop]; omega) ?_
    intro A5 n5 c5 w5 HO5
    refine hK.out _ _ (fun _ => trivial) ?_
    rw [List.append_assoc, List.singleton_append, HB2.out] at HO5
    have HO6 := Sec.mk HO5
    clear HO5 HO4 HO3 hcut
    clear hK K
    simp only [Act.put, List.setIfInBounds_toArray, List.set_cons_zero, List.set_cons_succ]
    refine reg_take (.slice A5 n5 c5) (i := 10) (n := 6) HSS rfl (by kernel_rfl) (by kernel_rfl) (by kernel_rfl) (by kernel_rfl) (fun _ _ _ h => h) (fun W hW => exec_assign rfl rfl) ?_
    simp only [Act.put, List.setIfInBounds_toArray, List.set_cons_zero, List.set_cons_succ]
    refine reg_done (by kernel_rfl) ?_ _
    go_wp2
    go_ret
    exact (HO6.out.base HM1.out).ret
  · have HB2 := Sec.mk (HBT.out hh)
    obtain ⟨hlt, hnm⟩ := HPA.out.1 hh
    have HNM := Sec.mk hnm
    have HE0 := Sec.mk fun g (hg : g = w1.heap.size) => (Mine.empty (w := w1) dEntry 98 hg (Mod.refl _ _) : Mine dEntry 98 w1 _ _ [])
    have hli : (pl : Int) < (xs.length : Int) := by omega
    clear hh HBN HPA hnm
    go_wp2_with (at_builtin; go_loud (refine wpList_app _ rfl (.tmp 18) (.tmp 19) _ rfl Tryz.underlying31 elt_entry flatEntry rfl rfl (HE0.out _ (by simp)) (HR1.out _ (HE0.out _ rfl).new) (show ([] : List EntryT).length + xs.length ≤ 34359738368 by simp; omega) ?_; intro A2 n2 c2 w2 HO2))
    rw [List.nil_append] at HO2
    obtain ⟨hnl, hncc, -⟩ := HO2.len
    have hnn := HO2.new
    obtain ⟨⟨F, ho, hF⟩, hn0⟩ := HO2
    obtain ⟨g, z, rfl, hgF, hcell, hKK, hfz, hst⟩ := Own.fstore fldEntry1 (fun _ _ _ _ h => h.1) ho hlt
    obtain ⟨_, hA0, -, hcell0, hfz0⟩ := ho.cellsAt (j := pl) hlt
    injection hA0 with hA0
    injection hA0 with hA0
    subst hA0
    simp only [show dEntry.sz = 2 from rfl] at hcell0
    obtain ⟨p0, hc0⟩ := hcell0 0 (by decide)
    have hf0 := hfz0 (pl * 2 + 0)
    simp only [Nat.add_zero] at hc0 hf0
    clear hcell0 hfz0
    obtain ⟨F', ho', hF'⟩ := hst (.int .i64 v) v (fun _ => ⟨rfl, rfl, HV.out⟩)
    rw [HNM.out, HB2.out] at ho'
    simp only [show dEntry.sz = 2 from rfl] at hcell hfz ho'
    have hgw := hF g hgF
    have HOW := Sec.mk ho'
    have HFW := Sec.mk (fun k hk => hF k (hF' k hk))
    have HMW := Sec.mk (hnn.setCell (p := ⟨g, pl * 2 + 1, none⟩) (fun h => absurd h (Nat.not_lt.2 hgw)) (.int .i64 v))
    subst hnl
    have hgl : g < w2.heap.size := World.block_lt_of_cell? _ _ hcell
    clear ho ho' hF hF' hst hKK hn0 hnn hple hncc
    go_wp2
    go_ret
    exact RetOwn.of HOW.out (fun k hk => Nat.le_trans HM1.out.size (HFW.out k hk)) (HM1.out.transN HMW.out)
end Go.Proofs.YtkkgighgnbbgiaaGreatDoor

namespace Go.Proofs.YtkkgighgnbbgiaaGreatDoor
open Go.RowKit Mem
set_option linter.unusedVariables false
set_option linter.unusedSimpArgs false
theorem ldIntR {w : World} {p : Addr} {v : Value} (h : w.cell? p = some v) : (Instr.loadAt 3 (.pointer (some p))).run Tryz.prog w = .ok v w := by go_simp
theorem fptEntry1R (p : Addr) (w : World) : (Instr.fieldAt 98 (.pointer (some p)) 1).run Tryz.prog w = .ok (.pointer (some ⟨p.block, p.off + 1, none⟩)) w := by go_simp
set_option maxHeartbeats 4000000 in
set_option maxRecDepth 100000 in
theorem replay_calls {A : Option Addr} {c : Nat} {xs : List EntryT} {B : Nat → Prop} {w : World} (h : Row dEntry w B A xs.length xs) (hB : ∀ k, B k → k < w.heap.size) (hc : xs.length ≤ c) (hl : xs.length ≤ 1048576) (ho : Ord xs) (q : DirOpT) (hq1 : q.2.1.length ≤ 9223372036854775807) (hq2 : q.2.2.1.length ≤ 9223372036854775807) (hq3 : IntKind.i64.wrap q.2.2.2 = q.2.2.2) (nodes : Int) :
    Calls Tryz.prog 62 #[.slice A xs.length c, .agg #[.int .i64 q.1, .string ⟨q.2.1.toArray⟩, .string ⟨q.2.2.1.toArray⟩, .int .i64 q.2.2.2], .int .i64 nodes] w (ReplR (replayL xs q nodes) w) := by
  obtain ⟨kd, nm, to, nd⟩ := q
  simp only at hq1 hq2 hq3 ⊢
  have HW := Sec.mk hq3
  have HR := Sec.mk h
  have HB := Sec.mk hB
  have HOR := Sec.mk ho
  have HRL : Sec (replayL xs (kd, nm, to, nd) nodes = if kd = 1 then (if goodL nm = true ∧ to = [] ∧ 0 ≤ nd ∧ nd < nodes ∧ hasNode xs nd = false then some (withE xs nm nd) else none)
    else if kd = 4 then (if hasE xs nm = true ∧ goodL to = true ∧ to ≠ nm ∧ nd = 0 then some (withE (outE xs nm) to ((xs[placeE xs nm]?.getD ([], 0)).2)) else none)
    else if kd = 5 then (if hasE xs nm = true ∧ to = [] ∧ nd = 0 then some (outE xs nm) else none) else none) := ⟨rfl⟩
  generalize replayL xs (kd, nm, to, nd) nodes = res at *
  have HBX := Sec.mk (Blk.new w 90 [.int .i64 kd, .string ⟨nm.toArray⟩, .string ⟨to.toArray⟩, .int .i64 nd])
  have HM0 := Sec.mk ((Mod.refl (fun _ => False) w).alloc (.cells #[.int .i64 kd, .string ⟨nm.toArray⟩, .string ⟨to.toArray⟩, .int .i64 nd] 90))
  have HR0 : Sec (∀ W, New w W → Row dEntry W B A xs.length xs) := ⟨fun W hW => HR.out.mod (fun _ h => h) (fun k hk => hW.block k (HB.out k hk) id)⟩
  have HB0 : Sec (∀ W, New w W → ∀ k, B k → k < W.heap.size) := ⟨fun W hW k hk => Nat.lt_of_lt_of_le (HB.out k hk) hW.size⟩
  clear h hB ho hq3
  go_enter Tryz.func62, Tryz.ntmps62
  go_wp2_with fail
  refine (place_calls (c := c) (HR0.out _ HM0.out) (HB0.out _ HM0.out) hl HOR.out nm).mono ?_
  rintro e w1 ⟨rfl, hw1⟩
  have HM1 := Sec.mk (HM0.out.transN hw1)
  have HX1 := Sec.mk (HBX.out.mod hw1 id)
  have b0 : w1.cell? ⟨w.heap.size, 0, none⟩ = some (.int .i64 kd) := HX1.out.cell 0
  have b1 : w1.cell? ⟨w.heap.size, 1, none⟩ = some (.string ⟨nm.toArray⟩) := HX1.out.cell 1
  have b2 : w1.cell? ⟨w.heap.size, 2, none⟩ = some (.string ⟨to.toArray⟩) := HX1.out.cell 2
  have b3 : w1.cell? ⟨w.heap.size, 3, none⟩ = some (.int .i64 nd) := HX1.out.cell 3
  have hO : w.heap.size < w1.heap.size := HX1.out.lt
  clear hw1 HBX HM0
  by_cases hk1 : kd = 1
  · subst hk1
    have HR1 : Sec (res = if goodL nm = true ∧ to = [] ∧ 0 ≤ nd ∧ nd < nodes ∧ hasNode xs nd = false then some (withE xs nm nd) else none) := ⟨HRL.out.trans (if_pos rfl)⟩
    clear HRL
    go_wp2_with fail
    refine (goodI_calls nm hq1 w1).mono ?_
    rintro e w2 ⟨rfl, rfl⟩
    by_cases hg : goodL nm = true
    rotate_left
    · have HE : Sec (res = none) := ⟨HR1.out.trans (if_neg (fun h => hg h.1))⟩
      have hg' : goodL nm = false := by simpa using hg
      rw [hg']
      clear hg hg'
      go_wp2
      go_ret2
      exact ReplR.bad HE.out HM1.out
    rw [hg]
    by_cases ht : to = []
    rotate_left
    · have HE : Sec (res = none) := ⟨HR1.out.trans (if_neg (fun h => ht h.2.1))⟩
      have ht' : to.isEmpty = false := by simpa using ht
      clear ht
      go_wp2
      go_ret2
      exact ReplR.bad HE.out HM1.out
    subst ht
    have hte : ([] : Bytes).isEmpty = true := rfl
    by_cases hn0 : 0 ≤ nd
    rotate_left
    · have HE : Sec (res = none) := ⟨HR1.out.trans (if_neg (fun h => hn0 h.2.2.1))⟩
      have hn0' : nd < 0 := by omega
      clear hn0
      go_wp2
      go_ret2
      exact ReplR.bad HE.out HM1.out
    have hn0' : ¬ nd < 0 := by omega
    by_cases hn1 : nd < nodes
    rotate_left
    · have HE : Sec (res = none) := ⟨HR1.out.trans (if_neg (fun h => hn1 h.2.2.2.1))⟩
      have hn1' : nodes ≤ nd := by omega
      clear hn1
      go_wp2
      go_ret2
      exact ReplR.bad HE.out HM1.out
    have hn1' : ¬ nodes ≤ nd := by omega
    have HR2 : Sec (res = if hasNode xs nd = false then some (withE xs nm nd) else none) := ⟨by
      rw [HR1.out]
      by_cases hh : hasNode xs nd = false
      · rw [if_pos hh, if_pos ⟨hg, rfl, hn0, hn1, hh⟩]
      · rw [if_neg hh, if_neg (fun h => hh h.2.2.2.2)]⟩
    clear HR1 hg
    go_wp2_with fail
    refine (boundTo_calls (c := c) (HR0.out _ HM1.out) (HB0.out _ HM1.out) nd).mono ?_
    rintro e w3 ⟨rfl, hm3⟩
    have HM3 := Sec.mk (HM1.out.transN hm3)
    have HX3 := Sec.mk (HX1.out.mod hm3 id)
    have d1 : w3.cell? ⟨w.heap.size, 1, none⟩ = some (.string ⟨nm.toArray⟩) := HX3.out.cell 1
    have d3 : w3.cell? ⟨w.heap.size, 3, none⟩ = some (.int .i64 nd) := HX3.out.cell 3
    have hO3 : w.heap.size < w3.heap.size := HX3.out.lt
    clear hm3 b0 b1 b2 b3
    cases hh : hasNode xs nd
    rotate_left
    · have HE : Sec (res = none) := ⟨HR2.out.trans (if_neg (by rw [hh]; simp))⟩
      clear hh
      go_wp2
      go_ret2
      exact ReplR.bad HE.out HM3.out
    have HE : Sec (res = some (withE xs nm nd)) := ⟨HR2.out.trans (if_pos hh)⟩
    clear hh
    go_wp2_with fail
    refine (bind_calls (HR0.out _ HM3.out) (HB0.out _ HM3.out) hc hl HOR.out nm hq1 nd HW.out).mono ?_
    intro e w5 hret
    obtain ⟨A5, c5, rfl, hmine⟩ := hret.mine
    have HMI := Sec.mk (hmine.base HM3.out)
    clear hret hmine
    go_wp2
    go_ret2
    exact ReplR.good HE.out HMI.out
  have hk1b : (kd == 1) = false := by simpa using hk1
  have HRL2 := Sec.mk (HRL.out.trans (if_neg hk1))
  clear HRL hk1
  by_cases hk4 : kd = 4
  · subst hk4
    have HR1 := Sec.mk (HRL2.out.trans (if_pos rfl))
    clear HRL2
    cases hh : hasE xs nm
    · have HE : Sec (res = none) := ⟨HR1.out.trans (if_neg (by rw [hh]; simp))⟩
      clear hh HR1
      go_wp2
      go_ret2
      exact ReplR.bad HE.out HM1.out
    have hpl := place_lt HOR.out hh
    have HH := Sec.mk hh
    have HGD : Sec ((xs[placeE xs nm]?.getD ([], 0)).2 = (xs[placeE xs nm]'hpl).2) := ⟨by rw [List.getElem?_eq_getElem hpl]; rfl⟩
    obtain ⟨ad, rfl, -, -, -, hxw⟩ := ent_at (HR0.out _ HM1.out) (w' := w1) (fun _ _ => rfl) hpl
    have HXW := Sec.mk hxw
    have HE1 : Sec (∀ W, New w1 W → W.cell? ⟨(ad.add (placeE xs nm * 2)).block, (ad.add (placeE xs nm * 2)).off + 1, none⟩ = some (.int .i64 (xs[placeE xs nm]'hpl).2)) := ⟨fun W hW => by
      obtain ⟨ad', hA, h0, h1, _, _⟩ := ent_at (HR0.out _ (HM1.out.transN hW)) (w' := W) (fun _ _ => rfl) hpl
      obtain rfl := Option.some.inj hA
      exact h1⟩
    generalize (xs[placeE xs nm]'hpl).2 = u at *
    generalize placeE xs nm = pl at *
    clear hxw hh
    go_wp2_with fail
    refine (goodI_calls to hq2 w1).mono ?_
    rintro e w2 ⟨rfl, rfl⟩
    by_cases hg : goodL to = true
    rotate_left
    · have HE : Sec (res = none) := ⟨HR1.out.trans (if_neg (fun h => hg h.2.1))⟩
      have hg' : goodL to = false := by simpa using hg
      rw [hg']
      clear hg hg'
      go_wp2
      go_ret2
      exact ReplR.bad HE.out HM1.out
    rw [hg]
    by_cases ht : to = nm
    · have HE : Sec (res = none) := ⟨HR1.out.trans (if_neg (fun h => h.2.2.1 ht))⟩
      have ht' : (to == nm) = true := by simp [ht]
      clear ht
      go_wp2
      go_ret2
      exact ReplR.bad HE.out HM1.out
    have ht' : (to == nm) = false := by simpa using ht
    by_cases hn : nd = 0
    rotate_left
    · have HE : Sec (res = none) := ⟨HR1.out.trans (if_neg (fun h => hn h.2.2.2))⟩
      have hn' : (nd != 0) = true := by simpa using hn
      clear hn
      go_wp2
      go_ret2
      exact ReplR.bad HE.out HM1.out
    have HE : Sec (res = some (withE (outE xs nm) to u)) := ⟨by rw [HR1.out, if_pos ⟨HH.out, hg, ht, hn⟩, HGD.out]⟩
    subst hn
    clear hg ht HR1 HGD
    go_wp2
    have HWO := Sec.mk (fun W (hW : New w W) => leave_calls (c := c) (HR0.out W hW) (HB0.out W hW) hc hl HOR.out nm HH.out)
    have HORO := Sec.mk (ord_out HOR.out nm)
    have hol := outE_len xs nm
    generalize outE xs nm = ys at *
    have HX2 : Sec (∀ W, New w2 W → W.cell? ⟨w.heap.size, 1, none⟩ = some (.string ⟨nm.toArray⟩) ∧ W.cell? ⟨w.heap.size, 2, none⟩ = some (.string ⟨to.toArray⟩)) := ⟨fun W h => ⟨h.cell_of b1, h.cell_of b2⟩⟩
    have HSS : Sec (New w2 w2.drew) := ⟨(Mod.refl _ _).drew⟩
    refine reg_start [] (fun W => Sec (New w2 W)) (by kernel_rfl) ?_
    refine reg_take (.slice (some ad) xs.length c) (i := 0) (n := 75) HSS rfl (by kernel_rfl) (by kernel_rfl) (by kernel_rfl) (by kernel_rfl) (fun _ _ _ h => h) (fun W hW => exec_move rfl rfl) ?_
    simp only [Act.put, List.setIfInBounds_toArray, List.set_cons_zero, List.set_cons_succ]
    refine reg_take (.pointer (some ⟨w.heap.size, 1, none⟩)) (i := 1) (n := 76) HSS rfl (by kernel_rfl) (by kernel_rfl) (by kernel_rfl) (by kernel_rfl) (fun _ _ _ h => h) (fun W hW => exec_field rfl rfl (fptDirOp1 _ _)) ?_
    simp only [Act.put, List.setIfInBounds_toArray, List.set_cons_zero, List.set_cons_succ]
    refine reg_take (.string ⟨nm.toArray⟩) (i := 2) (n := 77) HSS rfl (by kernel_rfl) (by kernel_rfl) (by kernel_rfl) (by kernel_rfl) (fun _ _ _ h => h) (fun W hW => exec_load rfl rfl (ldStr (HX2.out W hW.out).1)) ?_
    simp only [Act.put, List.setIfInBounds_toArray, List.set_cons_zero, List.set_cons_succ]
    refine reg_take (.pointer (some ⟨w.heap.size, 2, none⟩)) (i := 4) (n := 79) HSS rfl (by kernel_rfl) (by kernel_rfl) (by kernel_rfl) (by kernel_rfl) (fun _ _ _ h => h) (fun W hW => exec_field rfl rfl (fptDirOp2 _ _)) ?_
    simp only [Act.put, List.setIfInBounds_toArray, List.set_cons_zero, List.set_cons_succ]
    refine reg_take (.string ⟨to.toArray⟩) (i := 5) (n := 80) HSS rfl (by kernel_rfl) (by kernel_rfl) (by kernel_rfl) (by kernel_rfl) (fun _ _ _ h => h) (fun W hW => exec_load rfl rfl (ldStr (HX2.out W hW.out).2)) ?_
    simp only [Act.put, List.setIfInBounds_toArray, List.set_cons_zero, List.set_cons_succ]
    refine reg_take (.slice (some ad) xs.length c) (i := 6) (n := 81) HSS rfl (by kernel_rfl) (by kernel_rfl) (by kernel_rfl) (by kernel_rfl) (fun _ _ _ h => h) (fun W hW => exec_move rfl rfl) ?_
    simp only [Act.put, List.setIfInBounds_toArray, List.set_cons_zero, List.set_cons_succ]
    refine reg_take (.int .i64 (pl : Int)) (i := 7) (n := 82) HSS rfl (by kernel_rfl) (by kernel_rfl) (by kernel_rfl) (by kernel_rfl) (fun _ _ _ h => h) (fun W hW => exec_move rfl rfl) ?_
    simp only [Act.put, List.setIfInBounds_toArray, List.set_cons_zero, List.set_cons_succ]
    refine reg_take (.pointer (some (ad.add (pl * 2)))) (i := 8) (n := 83) HSS rfl (by kernel_rfl) (by kernel_rfl) (by kernel_rfl) (by kernel_rfl) (fun _ _ _ h => h) (fun W hW => exec_indexAddr rfl rfl rfl (idxEntryS _ _ _ _ hpl _)) ?_
    simp only [Act.put, List.setIfInBounds_toArray, List.set_cons_zero, List.set_cons_succ]
    refine reg_take (.pointer (some ⟨(ad.add (pl * 2)).block, (ad.add (pl * 2)).off + 1, none⟩)) (i := 9) (n := 84) HSS rfl (by kernel_rfl) (by kernel_rfl) (by kernel_rfl) (by kernel_rfl) (fun _ _ _ h => h) (fun W hW => exec_field rfl rfl (fptEntry1R _ _)) ?_
    simp only [Act.put, List.setIfInBounds_toArray, List.set_cons_zero, List.set_cons_succ]
    refine reg_take (.int .i64 u) (i := 10) (n := 85) HSS rfl (by kernel_rfl) (by kernel_rfl) (by kernel_rfl) (by kernel_rfl) (fun _ _ _ h => h) (fun W hW => exec_load rfl rfl (ldIntR (HE1.out W hW.out))) ?_
    simp only [Act.put, List.setIfInBounds_toArray, List.set_cons_zero, List.set_cons_succ]
    refine reg_step (i := 3) rfl (by kernel_rfl) (fun K hK => ?_)
    refine wp_call (n := 78) (vals := [.slice (some ad) xs.length c, .string ⟨nm.toArray⟩]) rfl rfl rfl (by kernel_rfl) (HWO.out _ (HM1.out.transN HSS.out)) ?_
    intro e w3 hret
    obtain ⟨A3, c3, rfl, hmine⟩ := hret.mine
    have HSS : Sec (New w2 w3) := ⟨HSS.out.transN hmine.new⟩
    have HY := Sec.mk hmine.row
    have hyc := hmine.len.2.1
    refine ⟨_, rfl, hK.out _ _ (fun _ => HSS) ?_⟩
    clear hret hmine
    clear hK K
    simp only [Act.put, List.setIfInBounds_toArray, List.set_cons_zero, List.set_cons_succ]
    refine reg_step (i := 11) rfl (by kernel_rfl) (fun K hK => ?_)
    refine wp_call (n := 86) (vals := [.slice A3 ys.length c3, .string ⟨to.toArray⟩, .int .i64 u]) rfl rfl rfl (by kernel_rfl) (bind_calls (c := c3) HY.out (fun k hk => hk.2) hyc (by omega) HORO.out to hq2 u HXW.out) ?_
    intro e w4 hret
    obtain ⟨A4, c4, rfl, hmine⟩ := hret.mine
    have HMI := Sec.mk (hmine.base (HM1.out.transN HSS.out))
    have HSS : Sec (New w2 w4) := ⟨HSS.out.transN hmine.new⟩
    refine ⟨_, rfl, hK.out _ _ (fun _ => HSS) ?_⟩
    clear hret hmine
    clear hK K
    simp only [Act.put, List.setIfInBounds_toArray, List.set_cons_zero, List.set_cons_succ]
    refine reg_take (.slice A4 (withE ys to u).length c4) (i := 12) (n := 6) HSS rfl (by kernel_rfl) (by kernel_rfl) (by kernel_rfl) (by kernel_rfl) (fun _ _ _ h => h) (fun W hW => exec_assign rfl rfl) ?_
    simp only [Act.put, List.setIfInBounds_toArray, List.set_cons_zero, List.set_cons_succ]
    refine reg_take (.bool true) (i := 13) (n := 7) HSS rfl (by kernel_rfl) (by kernel_rfl) (by kernel_rfl) (by kernel_rfl) (fun _ _ _ h => h) (fun W hW => exec_assign rfl rfl) ?_
    simp only [Act.put, List.setIfInBounds_toArray, List.set_cons_zero, List.set_cons_succ]
    refine reg_done (by kernel_rfl) ?_ _
    go_wp2
    go_ret2
    exact ReplR.good HE.out HMI.out
  have hk4b : (kd == 4) = false := by simpa using hk4
  have HRL3 := Sec.mk (HRL2.out.trans (if_neg hk4))
  clear HRL2 hk4
  by_cases hk5 : kd = 5
  · subst hk5
    have HR1 := Sec.mk (HRL3.out.trans (if_pos rfl))
    clear HRL3
    cases hh : hasE xs nm
    · have HE : Sec (res = none) := ⟨HR1.out.trans (if_neg (by rw [hh]; simp))⟩
      clear hh HR1
      go_wp2
      go_ret2
      exact ReplR.bad HE.out HM1.out
    have HH := Sec.mk hh
    clear hh
    generalize placeE xs nm = pl at *
    by_cases ht : to = []
    rotate_left
    · have HE : Sec (res = none) := ⟨HR1.out.trans (if_neg (fun h => ht h.2.1))⟩
      have ht' : to.isEmpty = false := by simpa using ht
      clear ht
      go_wp2
      go_ret2
      exact ReplR.bad HE.out HM1.out
    subst ht
    by_cases hn : nd = 0
    rotate_left
    · have HE : Sec (res = none) := ⟨HR1.out.trans (if_neg (fun h => hn h.2.2))⟩
      have hn' : (nd != 0) = true := by simpa using hn
      clear hn
      go_wp2
      go_ret2
      exact ReplR.bad HE.out HM1.out
    have HE : Sec (res = some (outE xs nm)) := ⟨by rw [HR1.out, if_pos ⟨HH.out, rfl, hn⟩]⟩
    subst hn
    clear HR1
    go_wp2_with fail
    refine (leave_calls (HR0.out _ HM1.out) (HB0.out _ HM1.out) hc hl HOR.out nm HH.out).mono ?_
    intro e w4 hret
    obtain ⟨A4, c4, rfl, hmine⟩ := hret.mine
    have HMI := Sec.mk (hmine.base HM1.out)
    clear hret hmine
    go_wp2
    go_ret2
    exact ReplR.good HE.out HMI.out
  have hk5b : (kd == 5) = false := by simpa using hk5
  have HE : Sec (res = none) := ⟨HRL3.out.trans (if_neg hk5)⟩
  clear hk5
  go_wp2
  go_ret2
  exact ReplR.bad HE.out HM1.out
end Go.Proofs.YtkkgighgnbbgiaaGreatDoor
