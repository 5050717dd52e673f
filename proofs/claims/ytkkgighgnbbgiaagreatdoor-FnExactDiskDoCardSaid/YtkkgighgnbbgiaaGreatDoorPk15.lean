/- errors.Is over an error of the program's own that wraps one of its five; the code of a fault. Operations one by one on a copy of a disk, of the specification. -/
import Derived.Test.YtkkgighgnbbgiaaGreatDoorPk11
import Derived.Test.YtkkgighgnbbgiaaGreatDoorChecked
import Derived.LaidEql
import Derived.Stop.Asserts
import Derived.RowKitTokens
import Derived.Test.YtkkgighgnbbgiaaGreatDoorPk10
import Derived.Test.YtkkgighgnbbgiaaGreatDoorPk13
namespace Go.Proofs.YtkkgighgnbbgiaaGreatDoor
open Go.RowKit Mem
open Go.Extern.Stop Go.Stop Go.Extern
set_option linter.unusedVariables false
set_option linter.unusedSimpArgs false
abbrev atT : TypeId := 69
theorem isTypeOf (v : Value) (w : World) : (Extern.ReflectliteType.typeOf #[.iface 141 v]).run Tryz.prog w = .ok (.iface 131 (.agg #[.pointer (some ⟨5, 141, none⟩)])) w := by kernel_rfl
def cmpE : TypeId → Sem Value := fun t => do Go.Extern.Rtype.noPackHeld "Comparable" t; pure (.bool (← typeInfo t).comparable)
theorem isComparable (w : World) : ((Extern.ReflectliteType.method cmpE) #[.agg #[.pointer (some ⟨5, 141, none⟩)]]).run Tryz.prog w = .ok (.bool true) w := by kernel_rfl
theorem isMethodComparable (v : Value) (w : World) : (Go.method 277 131 v "Comparable").run Tryz.prog w = .ok (111, v) w := by kernel_rfl
theorem isComp : (Tryz.prog.info? 141).map (·.comparable) = some true := by kernel_rfl
theorem isSize : (Tryz.prog.info? 166).map (·.size) = some 1 := by kernel_rfl
theorem noIsE (v : Value) (xT : TypeId) (w : World) : (Instr.typeAssert (.iface 141 v) xT 133 true).run Tryz.prog w = .ok (.tuple #[.nilIface, .bool false]) w := run_typeAssert_lacksB Tryz.underlying133 (by kernel_rfl) (by kernel_rfl) v xT w
theorem noUnwrapE (v : Value) (xT : TypeId) (w : World) : (Instr.typeAssert (.iface 141 v) xT 136 true).run Tryz.prog w = .ok (.tuple #[.nilIface, .bool false]) w := run_typeAssert_lacksB Tryz.underlying136 (by kernel_rfl) (by kernel_rfl) v xT w
theorem noUnwrapsE (v : Value) (xT : TypeId) (w : World) : (Instr.typeAssert (.iface 141 v) xT 138 true).run Tryz.prog w = .ok (.tuple #[.nilIface, .bool false]) w := run_typeAssert_lacksB Tryz.underlying138 (by kernel_rfl) (by kernel_rfl) v xT w
theorem noIsA (v : Value) (xT : TypeId) (w : World) : (Instr.typeAssert (.iface 69 v) xT 133 true).run Tryz.prog w = .ok (.tuple #[.nilIface, .bool false]) w := run_typeAssert_lacksB Tryz.underlying133 (by kernel_rfl) (by kernel_rfl) v xT w
theorem hasUnwrapA (v : Value) (xT : TypeId) (w : World) : (Instr.typeAssert (.iface 69 v) xT 136 true).run Tryz.prog w = .ok (.tuple #[.iface 69 v, .bool true]) w := run_typeAssert_hasB Tryz.underlying136 (by kernel_rfl) v xT w
theorem methodUnwrapA (v : Value) (w : World) : (Go.method 277 69 v "Unwrap").run Tryz.prog w = .ok (107, v) w := by kernel_rfl
theorem unwrap_calls (n : Int) (ev : Value) (w : World) : Calls Tryz.prog 107 #[.agg #[.int .i64 n, ev]] w (fun e w' => e = .returned ev ∧ New w w') := by
  have hma := (Mod.refl (fun _ => False) w).alloc (.cells #[.int .i64 n, ev] 69)
  have HM := Sec.mk hma
  go_enter Tryz.func107, Tryz.ntmps107
  go_wp2
  go_ret
  exact ⟨rfl, HM.out⟩
set_option maxHeartbeats 4000000 in
set_option maxRecDepth 100000 in
theorem isAt_same (n : Int) (a : Addr) (w : World) :
    Calls Tryz.prog 70 #[.iface 69 (.agg #[.int .i64 n, .iface 141 (.pointer (some a))]), .iface 141 (.pointer (some a))] w fun e w' => e = .returned (.bool true) ∧ New w w' := by
  obtain ⟨i, hi, hcmp⟩ := Option.map_eq_some_iff.1 isComp
  obtain ⟨j, hj, hjs⟩ := Option.map_eq_some_iff.1 isSize
  have h8 := @run_callFunc_extern Tryz.prog 86 _ Extern.ReflectliteType.typeOf Tryz.func86 (by kernel_rfl) (by kernel_rfl) (by kernel_rfl) (by kernel_rfl)
  have h32 := @run_callFunc_extern Tryz.prog 111 _ (Extern.ReflectliteType.method cmpE) Tryz.func111 (by kernel_rfl) (by kernel_rfl) (by kernel_rfl) (by kernel_rfl)
  have tT := isTypeOf
  have cT := isComparable
  have mR := isMethodComparable
  have nE := noIsE
  have uE := noUnwrapE
  have vE := noUnwrapsE
  have nW := noIsA
  have uW := hasUnwrapA
  have mU := methodUnwrapA
  have HEQ := Sec.mk (fun w => run_eql_iface_ptr_same (P := Tryz.prog) w a Tryz.underlying65 Tryz.underlying141 hi hcmp hj)
  have hty := run_eql_iface_types (P := Tryz.prog) 69 141 (.agg #[.int .i64 n, .iface 141 (.pointer (some a))]) (.pointer (some a)) Tryz.underlying65 (by decide) w
  go_enter Tryz.func70, Tryz.ntmps70
  go_wp2
  refine wp_loop_rounds 2 ?_
  rw [rounds_succ]
  go_wp2_with fail
  refine (unwrap_calls n (.iface 141 (.pointer (some a))) _).mono ?_
  rintro e w2 ⟨rfl, hm2⟩
  have heq := HEQ.out w2
  have HM2 := Sec.mk hm2
  clear hm2
  go_wp2
  rw [rounds_succ]
  go_wp2
  go_ret
  exact ⟨rfl, HM2.out⟩
set_option maxHeartbeats 4000000 in
set_option maxRecDepth 100000 in
theorem isAt_other (n : Int) (a b : Addr) (w : World) (hne : a ≠ b) (ha : ∃ c t, w.heap[a.block]? = some (.cells c t (0, 0))) (hb : ∃ c t, w.heap[b.block]? = some (.cells c t (0, 0))) :
    Calls Tryz.prog 70 #[.iface 69 (.agg #[.int .i64 n, .iface 141 (.pointer (some a))]), .iface 141 (.pointer (some b))] w fun e w' => e = .returned (.bool false) ∧ New w w' := by
  obtain ⟨i, hi, hcmp⟩ := Option.map_eq_some_iff.1 isComp
  obtain ⟨j, hj, hjs⟩ := Option.map_eq_some_iff.1 isSize
  have h8 := @run_callFunc_extern Tryz.prog 86 _ Extern.ReflectliteType.typeOf Tryz.func86 (by kernel_rfl) (by kernel_rfl) (by kernel_rfl) (by kernel_rfl)
  have h32 := @run_callFunc_extern Tryz.prog 111 _ (Extern.ReflectliteType.method cmpE) Tryz.func111 (by kernel_rfl) (by kernel_rfl) (by kernel_rfl) (by kernel_rfl)
  have tT := isTypeOf
  have cT := isComparable
  have mR := isMethodComparable
  have nE := noIsE
  have uE := noUnwrapE
  have vE := noUnwrapsE
  have nW := noIsA
  have uW := hasUnwrapA
  have mU := methodUnwrapA
  have HEQ : Sec (∀ W, Mod (fun _ => False) w W → (binOp BinOp.eql 65 (.iface 141 (.pointer (some a))) (.iface 141 (.pointer (some b)))).run Tryz.prog W = .ok (.bool false) W) := ⟨fun W hW => by
    obtain ⟨ca, ta, ha⟩ := ha
    obtain ⟨cb, tb, hb⟩ := hb
    exact run_eql_iface_ptr_other (P := Tryz.prog) W Tryz.underlying65 Tryz.underlying141 hi hcmp hj (by rw [hjs]; decide) hne ((hW.block _ (Array.getElem?_eq_some_iff.1 ha).1 id).trans ha) ((hW.block _ (Array.getElem?_eq_some_iff.1 hb).1 id).trans hb)⟩
  clear ha hb hne
  have hty := run_eql_iface_types (P := Tryz.prog) 69 141 (.agg #[.int .i64 n, .iface 141 (.pointer (some a))]) (.pointer (some b)) Tryz.underlying65 (by decide) w
  go_enter Tryz.func70, Tryz.ntmps70
  go_wp2
  refine wp_loop_rounds 2 ?_
  rw [rounds_succ]
  go_wp2_with fail
  refine (unwrap_calls n (.iface 141 (.pointer (some a))) _).mono ?_
  rintro e w2 ⟨rfl, hm2⟩
  have heq := HEQ.out w2 hm2
  have HM2 := Sec.mk hm2
  clear hm2
  go_wp2
  rw [rounds_succ]
  go_wp2
  go_ret
  exact ⟨rfl, HM2.out⟩
set_option maxHeartbeats 4000000 in
set_option maxRecDepth 100000 in
theorem faultOf_calls {lo : Nat} {w : World} {ea : Nat → Addr} (hE : ErrEnv lo w ea) (n : Int) (c : Nat) (h2 : 2 ≤ c) (h6 : c ≤ 6) :
    Calls Tryz.prog 31 #[.iface 69 (.agg #[.int .i64 n, .iface 141 (.pointer (some (ea c)))])] w fun e w' => e = .returned (.int .i64 (c : Int)) ∧ New w w' := by
  have g2 : w.cell? ⟨0, 0, none⟩ = some (.iface 141 (.pointer (some (ea 2)))) := hE.c2
  have g3 : w.cell? ⟨1, 0, none⟩ = some (.iface 141 (.pointer (some (ea 3)))) := hE.c3
  have g4 : w.cell? ⟨2, 0, none⟩ = some (.iface 141 (.pointer (some (ea 4)))) := hE.c4
  have g5 : w.cell? ⟨3, 0, none⟩ = some (.iface 141 (.pointer (some (ea 5)))) := hE.c5
  have g6 : w.cell? ⟨4, 0, none⟩ = some (.iface 141 (.pointer (some (ea 6)))) := hE.c6
  have HROW : Sec (∀ i, 2 ≤ i → i ≤ 6 → ∃ c t, w.heap[(ea i).block]? = some (.cells c t (0, 0))) := ⟨fun i h1 h2 => (hE.row i h1 h2).2⟩
  have HNE := Sec.mk hE.ne
  clear hE
  have HB0 := Sec.mk (Blk.new w 65 [.nilIface, .nilIface, .iface 141 (.pointer (some (ea 2))), .iface 141 (.pointer (some (ea 3))), .iface 141 (.pointer (some (ea 4))), .iface 141 (.pointer (some (ea 5))), .iface 141 (.pointer (some (ea 6)))])
  have HM0 := Sec.mk ((Mod.refl (fun _ => False) w).alloc (.cells #[.nilIface, .nilIface, .iface 141 (.pointer (some (ea 2))), .iface 141 (.pointer (some (ea 3))), .iface 141 (.pointer (some (ea 4))), .iface 141 (.pointer (some (ea 5))), .iface 141 (.pointer (some (ea 6)))] 65))
  go_enter Tryz.func31, Tryz.ntmps31
  go_wp2
  clear g2 g3 g4 g5 g6
  go_loopw [14] (fun i wr => ∃ k : Nat, k ≤ c ∧ i = .int .i64 (k : Int) ∧ Sec (Blk wr w.heap.size 65 [.nilIface, .nilIface, .iface 141 (.pointer (some (ea 2))), .iface 141 (.pointer (some (ea 3))), .iface 141 (.pointer (some (ea 4))), .iface 141 (.pointer (some (ea 5))), .iface 141 (.pointer (some (ea 6)))]) ∧ Sec (New w wr)) (fun i _ => 7 - (intOf i).toNat)
  case atStart => exact ⟨0, Nat.zero_le _, rfl, HB0, HM0⟩
  case round =>
    clear HB0 HM0
    obtain ⟨k, hk, rfl, HB, HM⟩ := hrel
    have hgl := HB.out.lt
    have hk7 : (k : Int) < 7 := by omega
    by_cases hk2 : k < 2
    · have hc0 : wr.cell? ⟨w.heap.size, k, none⟩ = some .nilIface := by
        rcases (show k = 0 ∨ k = 1 by omega) with rfl | rfl
        · exact HB.out.cell 0
        · exact HB.out.cell 1
      go_wp2
      go_roundw
      case rel => exact ⟨k + 1, by omega, by go_num, HB, HM⟩
      case measure => simp [intOf]; omega
    have hc0 : wr.cell? ⟨w.heap.size, k, none⟩ = some (.iface 141 (.pointer (some (ea k)))) := by
      rcases (show k = 2 ∨ k = 3 ∨ k = 4 ∨ k = 5 ∨ k = 6 by omega) with rfl | rfl | rfl | rfl | rfl
      · exact HB.out.cell 2
      · exact HB.out.cell 3
      · exact HB.out.cell 4
      · exact HB.out.cell 5
      · exact HB.out.cell 6
    by_cases hkc : k = c
    · subst hkc
      go_wp2_with fail
      refine (isAt_same n (ea k) wr).mono ?_
      rintro e w2 ⟨rfl, hm2⟩
      have HM2 := Sec.mk (HM.out.transN hm2)
      clear hm2
      go_wp2
      go_ret
      exact ⟨rfl, HM2.out⟩
    · have hmv : ∀ i, 2 ≤ i → i ≤ 6 → ∃ c t, wr.heap[(ea i).block]? = some (.cells c t (0, 0)) := fun i h1 h2 => by
        obtain ⟨c', t', h⟩ := HROW.out i h1 h2
        exact ⟨c', t', (HM.out.block _ (Array.getElem?_eq_some_iff.1 h).1 id).trans h⟩
      have HIS := Sec.mk (isAt_other n (ea c) (ea k) wr (HNE.out c k h2 h6 (by omega) (by omega) (by omega)) (hmv c h2 h6) (hmv k (by omega) (by omega)))
      clear hmv
      go_wp2_with fail
      refine HIS.out.mono ?_
      rintro e w2 ⟨rfl, hm2⟩
      have HM2 := Sec.mk (HM.out.transN hm2)
      have HB2 := Sec.mk (HB.out.mod hm2 id)
      clear hm2 HIS
      go_wp2
      go_roundw
      case rel => exact ⟨k + 1, by omega, by go_num, HB2, HM2⟩
      case measure => simp [intOf]; omega
end Go.Proofs.YtkkgighgnbbgiaaGreatDoor

namespace Go.Proofs.YtkkgighgnbbgiaaGreatDoor
open Go.RowKit Mem
set_option linter.unusedVariables false
set_option linter.unusedSimpArgs false
def RetDone (w : World) (r : DiskT × (Int × Int)) (e : Ending) (w' : World) : Prop :=
  ∃ v0 v1 v2 v3, e = .returned (.agg #[v0, v1, v2, v3, .int .i64 r.1.2.2.2.2, .int .i64 r.2.1, .int .i64 r.2.2]) ∧ Out4 (fun k => w.heap.size ≤ k) w' v0 v1 v2 v3 r.1 ∧ New w w'
def set7 (w : World) (g : Nat) (a0 a1 a2 a3 a4 a5 a6 : Value) : World := ((set5 w g a0 a1 a2 a3 a4).setCell ⟨g, 5, none⟩ a5).setCell ⟨g, 6, none⟩ a6
theorem set7_blk {w : World} {g : Nat} {t : TypeId} {b0 b1 b2 b3 b4 b5 b6 : Value} (h : Blk w g t [b0, b1, b2, b3, b4, b5, b6]) (a0 a1 a2 a3 a4 a5 a6 : Value) : Blk (set7 w g a0 a1 a2 a3 a4 a5 a6) g t [a0, a1, a2, a3, a4, a5, a6] := by
  have := ((((((h.set_ 0 a0).set_ 1 a1).set_ 2 a2).set_ 3 a3).set_ 4 a4).set_ 5 a5).set_ 6 a6
  simp only [List.set_cons_zero, List.set_cons_succ] at this
  exact this
theorem set5_blk7 {w : World} {g : Nat} {t : TypeId} {b0 b1 b2 b3 b4 b5 b6 : Value} (h : Blk w g t [b0, b1, b2, b3, b4, b5, b6]) (a0 a1 a2 a3 a4 : Value) : Blk (set5 w g a0 a1 a2 a3 a4) g t [a0, a1, a2, a3, a4, b5, b6] := by
  have := ((((h.set_ 0 a0).set_ 1 a1).set_ 2 a2).set_ 3 a3).set_ 4 a4
  simp only [List.set_cons_zero, List.set_cons_succ] at this
  exact this
theorem set7_mod (w : World) (g : Nat) (a0 a1 a2 a3 a4 a5 a6 : Value) : Mod (fun k => k = g) w (set7 w g a0 a1 a2 a3 a4 a5 a6) :=
  ((set5_mod w g a0 a1 a2 a3 a4).setCell (p := ⟨g, 5, none⟩) (fun _ => rfl) a5).setCell (p := ⟨g, 6, none⟩) (fun _ => rfl) a6
theorem op_at {w w' : World} {B : Nat → Prop} {A : Option Addr} {n : Nat} {xs : OpST} (h : Row dOp w B A n xs) (hb : ∀ k, B k → w'.heap[k]? = w.heap[k]?) {k : Nat} (hk : k < xs.length) :
    ∃ ad A' c', A = some ad ∧ w'.cell? (ad.add (k * 4)) = some (.int .i64 xs[k].1) ∧ w'.cell? ⟨(ad.add (k * 4)).block, (ad.add (k * 4)).off + 1, none⟩ = some (.string ⟨xs[k].2.1.toArray⟩) ∧ w'.cell? ⟨(ad.add (k * 4)).block, (ad.add (k * 4)).off + 2, none⟩ = some (.string ⟨xs[k].2.2.1.toArray⟩) ∧ w'.cell? ⟨(ad.add (k * 4)).block, (ad.add (k * 4)).off + 3, none⟩ = some (.slice A' xs[k].2.2.2.length c') ∧
      IntKind.i64.wrap xs[k].1 = xs[k].1 ∧ xs[k].2.1.length ≤ 9223372036854775807 ∧ xs[k].2.2.1.length ≤ 9223372036854775807 ∧ Row Ty.byte w' B A' xs[k].2.2.2.length xs[k].2.2.2 := by
  obtain ⟨ad, cs, rfl, hK, h0, h1⟩ := h.cells_at hb hk
  obtain ⟨c0, r0, rfl, ⟨rfl, g0⟩, c1, r1, rfl, ⟨rfl, g1⟩, c2, c3, rfl, ⟨rfl, g2⟩, ⟨A', c', rfl, g3, g4, g5⟩⟩ := hK
  exact ⟨ad, A', c', rfl, h0 _ rfl, h1 0 _ rfl, h1 1 _ rfl, h1 2 _ rfl, g0, g1, g2, g5.mod (fun _ h => h) hb⟩
theorem doL_step {d : DiskL} {ops : List OpL} {k n : Nat} (hk : k < ops.length) : doL d (ops.drop k) n = if (oneL d ops[k]).2 = 0 then doL (oneL d ops[k]).1 (ops.drop (k + 1)) (n + 1) else (d, ((n : Int), (oneL d ops[k]).2)) := by
  rw [List.drop_eq_getElem_cons hk]; rfl
theorem oneL_or (d : DiskL) (o : OpL) : (oneL d o).2 = 0 ∨ (oneL d o).1 = d := by
  unfold oneL
  repeat' split
  all_goals first | exact Or.inl rfl | exact Or.inr rfl
theorem oneL_same (d : DiskL) (o : OpL) (h : (oneL d o).2 ≠ 0) : (oneL d o).1 = d := (oneL_or d o).resolve_left h
theorem doL_end (d : DiskL) (ops : List OpL) (n : Nat) : doL d (ops.drop ops.length) n = (d, ((n : Int), 0)) := by
  rw [List.drop_length]; rfl
set_option maxHeartbeats 4000000 in
set_option maxRecDepth 100000 in
theorem diskDoS_v {w : World} {v vo : Value} {d : DiskT} {ops : OpST} (h : RdV true dDisk w v d) (ho : RdV false dOpS w vo ops) (hdl : ∀ o, o ∈ ops → o.2.2.2.length ≤ 1048576) : Calls Tryz.prog 6 #[v, vo] w (RetDone w (diskDoL d ops)) := by
  have HX := Sec.mk h
  have HDL := Sec.mk hdl
  obtain ⟨Ao, co, rfl, hco, hro⟩ := ho.slice
  have HRO := Sec.mk hro
  have HRL0 : Sec (¬ (ops.length ≤ 2000 ∧ DiskValidL d = true) → diskDoL d ops = (([], [], [], [], 0), (0, 1))) := ⟨fun h => if_neg h⟩
  have HRL1 : Sec ((ops.length ≤ 2000 ∧ DiskValidL d = true) → diskDoL d ops = doL d ops 0) := ⟨fun h => if_pos h⟩
  generalize hres : diskDoL d ops = res at *
  clear hres
  obtain ⟨v0, v1, v2, v3, rfl, k0, k1, k2, k3⟩ := rdDisk h
  obtain ⟨A0, c0, rfl, hc0, hr0⟩ := k0.slice
  obtain ⟨A1, c1, rfl, hc1, hr1⟩ := k1.slice
  obtain ⟨A2, c2, rfl, hc2, hr2⟩ := k2.slice
  obtain ⟨A3, c3, rfl, hc3, hr3⟩ := k3.slice
  have HBX := Sec.mk ((Blk.new w 34 [.slice A0 d.1.length c0, .slice A1 d.2.1.length c1, .slice A2 d.2.2.1.length c2, .slice A3 d.2.2.2.1.length c3, .int .i64 d.2.2.2.2]).alloc (.cells #[.slice none 0 0, .slice none 0 0, .slice none 0 0, .slice none 0 0, .int .i64 0, .int .i64 0, .int .i64 0] 36))
  have HBC : Sec (Blk ((w.alloc (.cells #[.slice A0 d.1.length c0, .slice A1 d.2.1.length c1, .slice A2 d.2.2.1.length c2, .slice A3 d.2.2.2.1.length c3, .int .i64 d.2.2.2.2] 34)).alloc (.cells #[.slice none 0 0, .slice none 0 0, .slice none 0 0, .slice none 0 0, .int .i64 0, .int .i64 0, .int .i64 0] 36)) (w.heap.size + 1) 36 [.slice none 0 0, .slice none 0 0, .slice none 0 0, .slice none 0 0, .int .i64 0, .int .i64 0, .int .i64 0]) := ⟨by have := Blk.new (w.alloc (.cells #[.slice A0 d.1.length c0, .slice A1 d.2.1.length c1, .slice A2 d.2.2.1.length c2, .slice A3 d.2.2.2.1.length c3, .int .i64 d.2.2.2.2] 34)) 36 [.slice none 0 0, .slice none 0 0, .slice none 0 0, .slice none 0 0, .int .i64 0, .int .i64 0, .int .i64 0]; simpa using this⟩
  have HM0 := Sec.mk (((Mod.refl (fun _ => False) w).alloc (.cells #[.slice A0 d.1.length c0, .slice A1 d.2.1.length c1, .slice A2 d.2.2.1.length c2, .slice A3 d.2.2.2.1.length c3, .int .i64 d.2.2.2.2] 34)).alloc (.cells #[.slice none 0 0, .slice none 0 0, .slice none 0 0, .slice none 0 0, .int .i64 0, .int .i64 0, .int .i64 0] 36))
  have hsz : (((w.alloc (.cells #[.slice A0 d.1.length c0, .slice A1 d.2.1.length c1, .slice A2 d.2.2.1.length c2, .slice A3 d.2.2.2.1.length c3, .int .i64 d.2.2.2.2] 34)).alloc (.cells #[.slice none 0 0, .slice none 0 0, .slice none 0 0, .slice none 0 0, .int .i64 0, .int .i64 0, .int .i64 0] 36))).heap.size = w.heap.size + 2 := by simp
  have HSZ := Sec.mk hsz
  clear h ho hdl k0 k1 k2 k3 hr0 hr1 hr2 hr3 hro hsz
  go_enter Tryz.func6, Tryz.ntmps6
  go_upto_region 1 with (fail)
  generalize ((w.alloc (.cells #[.slice A0 d.1.length c0, .slice A1 d.2.1.length c1, .slice A2 d.2.2.1.length c2, .slice A3 d.2.2.2.1.length c3, .int .i64 d.2.2.2.2] 34)).alloc (.cells #[.slice none 0 0, .slice none 0 0, .slice none 0 0, .slice none 0 0, .int .i64 0, .int .i64 0, .int .i64 0] 36)) = wz at *
  have hwz : w.heap.size + 2 = wz.heap.size := HSZ.out.symm
  have hwza : w.heap.size < wz.heap.size := by omega
  have hwzb : w.heap.size + 1 < wz.heap.size := by omega
  have xc0 : wz.cell? ⟨w.heap.size, 0, none⟩ = some (.slice A0 d.1.length c0) := HBX.out.cell 0
  have xc1 : wz.cell? ⟨w.heap.size, 1, none⟩ = some (.slice A1 d.2.1.length c1) := HBX.out.cell 1
  have xc2 : wz.cell? ⟨w.heap.size, 2, none⟩ = some (.slice A2 d.2.2.1.length c2) := HBX.out.cell 2
  have xc3 : wz.cell? ⟨w.heap.size, 3, none⟩ = some (.slice A3 d.2.2.2.1.length c3) := HBX.out.cell 3
  have xc4 : wz.cell? ⟨w.heap.size, 4, none⟩ = some (.int .i64 d.2.2.2.2) := HBX.out.cell 4
  have rc0 : wz.cell? ⟨w.heap.size + 1, 0, none⟩ = some (.slice none 0 0) := HBC.out.cell 0
  have rf0 : wz.frozen? ⟨w.heap.size + 1, 0, none⟩ = false := HBC.out.frozen 0
  have rc1 : wz.cell? ⟨w.heap.size + 1, 1, none⟩ = some (.slice none 0 0) := HBC.out.cell 1
  have rf1 : wz.frozen? ⟨w.heap.size + 1, 1, none⟩ = false := HBC.out.frozen 1
  have rc2 : wz.cell? ⟨w.heap.size + 1, 2, none⟩ = some (.slice none 0 0) := HBC.out.cell 2
  have rf2 : wz.frozen? ⟨w.heap.size + 1, 2, none⟩ = false := HBC.out.frozen 2
  have rc3 : wz.cell? ⟨w.heap.size + 1, 3, none⟩ = some (.slice none 0 0) := HBC.out.cell 3
  have rf3 : wz.frozen? ⟨w.heap.size + 1, 3, none⟩ = false := HBC.out.frozen 3
  have rc4 : wz.cell? ⟨w.heap.size + 1, 4, none⟩ = some (.int .i64 0) := HBC.out.cell 4
  have rf4 : wz.frozen? ⟨w.heap.size + 1, 4, none⟩ = false := HBC.out.frozen 4
  have rc5 : wz.cell? ⟨w.heap.size + 1, 5, none⟩ = some (.int .i64 0) := HBC.out.cell 5
  have rf5 : wz.frozen? ⟨w.heap.size + 1, 5, none⟩ = false := HBC.out.frozen 5
  have rc6 : wz.cell? ⟨w.heap.size + 1, 6, none⟩ = some (.int .i64 0) := HBC.out.cell 6
  have rf6 : wz.frozen? ⟨w.heap.size + 1, 6, none⟩ = false := HBC.out.frozen 6
  by_cases hop : 2000 < ops.length
  · have hopi : (2000 : Int) < (ops.length : Int) := by omega
    have HE := Sec.mk (HRL0.out (by omega))
    have HM0' := Sec.mk (HM0.out.mono (T := fun k => w.heap.size ≤ k) (fun i hlt h => h.elim))
    have HFB := Sec.mk (set7_blk HBC.out (.slice none 0 0) (.slice none 0 0) (.slice none 0 0) (.slice none 0 0) (.int .i64 0) (.int .i64 0) (.int .i64 1))
    have HFM := set7_mod wz (w.heap.size + 1) (.slice none 0 0) (.slice none 0 0) (.slice none 0 0) (.slice none 0 0) (.int .i64 0) (.int .i64 0) (.int .i64 1)
    have HMG := Sec.mk (HM0'.out.trans HFM (fun i hi hlt => by omega))
    clear HFM
    go_wp2
    refine bodyPost_ret (results_blk rfl rfl HFB.out Tryz.underlying36 (by kernel_rfl)) rfl ?_
    rw [HE.out]; exact ⟨_, _, _, _, rfl, ⟨[], [], [], [], Own.nil _ _ _, Own.nil _ _ _, Own.nil _ _ _, Own.nil _ _ _, ⟨fun k h => by simp at h, fun k h => by simp at h, fun k h => by simp at h⟩, fun k h => by simp [In4] at h, by decide⟩, HMG.out.mono (fun i hlt h => by omega)⟩
  have hopi : ¬ (2000 : Int) < (ops.length : Int) := by omega
  go_wp2_with fail
  refine (diskValidS_v (HX.out.step HM0.out)).mono ?_
  rintro e w2 ⟨rfl, hm2⟩
  have HM2 := Sec.mk (HM0.out.transN hm2)
  have HB2 := Sec.mk (HBX.out.mod hm2 id)
  have HC2 := Sec.mk (HBC.out.mod hm2 id)
  have hs2 := hm2.size
  clear hm2 HM0 HBX HBC xc0 xc1 xc2 xc3 xc4 rc0 rc1 rc2 rc3 rc4 rc5 rc6 rf0 rf1 rf2 rf3 rf4 rf5 rf6
  have hw2a : w.heap.size < w2.heap.size := by omega
  have hw2b : w.heap.size + 1 < w2.heap.size := by omega
  have xc0 : w2.cell? ⟨w.heap.size, 0, none⟩ = some (.slice A0 d.1.length c0) := HB2.out.cell 0
  have xc1 : w2.cell? ⟨w.heap.size, 1, none⟩ = some (.slice A1 d.2.1.length c1) := HB2.out.cell 1
  have xc2 : w2.cell? ⟨w.heap.size, 2, none⟩ = some (.slice A2 d.2.2.1.length c2) := HB2.out.cell 2
  have xc3 : w2.cell? ⟨w.heap.size, 3, none⟩ = some (.slice A3 d.2.2.2.1.length c3) := HB2.out.cell 3
  have xc4 : w2.cell? ⟨w.heap.size, 4, none⟩ = some (.int .i64 d.2.2.2.2) := HB2.out.cell 4
  have rc0 : w2.cell? ⟨w.heap.size + 1, 0, none⟩ = some (.slice none 0 0) := HC2.out.cell 0
  have rf0 : w2.frozen? ⟨w.heap.size + 1, 0, none⟩ = false := HC2.out.frozen 0
  have rc1 : w2.cell? ⟨w.heap.size + 1, 1, none⟩ = some (.slice none 0 0) := HC2.out.cell 1
  have rf1 : w2.frozen? ⟨w.heap.size + 1, 1, none⟩ = false := HC2.out.frozen 1
  have rc2 : w2.cell? ⟨w.heap.size + 1, 2, none⟩ = some (.slice none 0 0) := HC2.out.cell 2
  have rf2 : w2.frozen? ⟨w.heap.size + 1, 2, none⟩ = false := HC2.out.frozen 2
  have rc3 : w2.cell? ⟨w.heap.size + 1, 3, none⟩ = some (.slice none 0 0) := HC2.out.cell 3
  have rf3 : w2.frozen? ⟨w.heap.size + 1, 3, none⟩ = false := HC2.out.frozen 3
  have rc4 : w2.cell? ⟨w.heap.size + 1, 4, none⟩ = some (.int .i64 0) := HC2.out.cell 4
  have rf4 : w2.frozen? ⟨w.heap.size + 1, 4, none⟩ = false := HC2.out.frozen 4
  have rc5 : w2.cell? ⟨w.heap.size + 1, 5, none⟩ = some (.int .i64 0) := HC2.out.cell 5
  have rf5 : w2.frozen? ⟨w.heap.size + 1, 5, none⟩ = false := HC2.out.frozen 5
  have rc6 : w2.cell? ⟨w.heap.size + 1, 6, none⟩ = some (.int .i64 0) := HC2.out.cell 6
  have rf6 : w2.frozen? ⟨w.heap.size + 1, 6, none⟩ = false := HC2.out.frozen 6
  cases hv : DiskValidL d
  · have HE := Sec.mk (HRL0.out (by rw [hv]; simp))
    have HM0' := Sec.mk (HM2.out.mono (T := fun k => w.heap.size ≤ k) (fun i hlt h => h.elim))
    clear hv
    have HFB := Sec.mk (set7_blk HC2.out (.slice none 0 0) (.slice none 0 0) (.slice none 0 0) (.slice none 0 0) (.int .i64 0) (.int .i64 0) (.int .i64 1))
    have HFM := set7_mod w2 (w.heap.size + 1) (.slice none 0 0) (.slice none 0 0) (.slice none 0 0) (.slice none 0 0) (.int .i64 0) (.int .i64 0) (.int .i64 1)
    have HMG := Sec.mk (HM0'.out.trans HFM (fun i hi hlt => by omega))
    clear HFM
    go_wp2
    refine bodyPost_ret (results_blk rfl rfl HFB.out Tryz.underlying36 (by kernel_rfl)) rfl ?_
    rw [HE.out]; exact ⟨_, _, _, _, rfl, ⟨[], [], [], [], Own.nil _ _ _, Own.nil _ _ _, Own.nil _ _ _, Own.nil _ _ _, ⟨fun k h => by simp at h, fun k h => by simp at h, fun k h => by simp at h⟩, fun k h => by simp [In4] at h, by decide⟩, HMG.out.mono (fun i hlt h => by omega)⟩
  have HE := Sec.mk (HRL1.out ⟨by omega, hv⟩)
  have hI := DInv.of_valid hv
  have hk3 := ((inOrdL_iff d.2.2.1 d.1.length).1 ((DiskValidL_iff d).1 hv).2.2.2.2.2.2.2.1).1
  have HI := Sec.mk hI
  have hki : d.2.2.1.length ≤ 100000 := by omega
  clear hv HRL0 HRL1 hI hk3
  go_wp2_with fail
  refine (l1Copy_v (HX.out.step HM2.out) HI.out (by omega) hki).mono ?_
  rintro e w3 ⟨u0, u1, u2, u3, rfl, ho3, hm3⟩
  obtain ⟨u0, u0', u1, u1', u2, u2', u3, u3', rfl, rfl, rfl, rfl, -⟩ := ho3.forms
  have HO3 := Sec.mk ho3
  have HM3 := Sec.mk (HM2.out.transN hm3)
  have HC3 := Sec.mk (HC2.out.mod hm3 id)
  have hs3 := hm3.size
  have HIW : Sec (IntKind.i64.wrap d.2.2.2.2 = d.2.2.2.2) := ⟨okDisk HX.out⟩
  clear ho3 hm3 HB2 HC2 HM2 xc0 xc1 xc2 xc3 xc4 rc0 rc1 rc2 rc3 rc4 rc5 rc6 rf0 rf1 rf2 rf3 rf4 rf5 rf6
  have HBG := Sec.mk (Blk.new w3 36 [.slice u0 d.1.length u0', .slice u1 d.2.1.length u1', .slice u2 d.2.2.1.length u2', .slice u3 d.2.2.2.1.length u3', .int .i64 d.2.2.2.2, .int .i64 0, .int .i64 0])
  have hmg : New w3 (w3.alloc (.cells #[.slice u0 d.1.length u0', .slice u1 d.2.1.length u1', .slice u2 d.2.2.1.length u2', .slice u3 d.2.2.2.1.length u3', .int .i64 d.2.2.2.2, .int .i64 0, .int .i64 0] 36)) := (Mod.refl _ _).alloc _
  have HOG := Sec.mk ((HO3.out.wide (X' := fun k => wz.heap.size ≤ k ∧ k ≠ w3.heap.size) (fun k hlt h => ⟨by omega, by omega⟩)).new hmg)
  have HMG := Sec.mk (HM3.out.transN hmg)
  have HCG := Sec.mk (HC3.out.mod hmg id)
  have hsg : w3.heap.size < (w3.alloc (.cells #[.slice u0 d.1.length u0', .slice u1 d.2.1.length u1', .slice u2 d.2.2.1.length u2', .slice u3 d.2.2.2.1.length u3', .int .i64 d.2.2.2.2, .int .i64 0, .int .i64 0] 36)).heap.size := by simp
  clear hmg HO3 HM3 HC3
  have HX0 := Sec.mk (And.intro HX.out HRO.out)
  go_upto_region 4 with (fail)
  generalize hg : w3.heap.size = g at *
  clear hg
  have hgz : wz.heap.size ≤ g := by omega
  generalize (w3.alloc (.cells #[.slice u0 d.1.length u0', .slice u1 d.2.1.length u1', .slice u2 d.2.2.1.length u2', .slice u3 d.2.2.2.1.length u3', .int .i64 d.2.2.2.2, .int .i64 0, .int .i64 0] 36)) = w4 at *
  go_wp2
  go_loopw [24] (fun i wr => ∃ (k : Nat) (q : DiskT) (y0 : Option Addr) (y0' : Nat) (y1 : Option Addr) (y1' : Nat) (y2 : Option Addr) (y2' : Nat) (y3 : Option Addr) (y3' : Nat), k ≤ ops.length ∧ i = .int .i64 (k : Int) ∧ Sec (res = doL q (ops.drop k) k) ∧ Sec (DInv (300 + k) q) ∧ Sec (Blk wr g 36 [.slice y0 q.1.length y0', .slice y1 q.2.1.length y1', .slice y2 q.2.2.1.length y2', .slice y3 q.2.2.2.1.length y3', .int .i64 q.2.2.2.2, .int .i64 (k : Int), .int .i64 0]) ∧ Sec (Out4 (fun k => wz.heap.size ≤ k ∧ k ≠ g) wr (.slice y0 q.1.length y0') (.slice y1 q.2.1.length y1') (.slice y2 q.2.2.1.length y2') (.slice y3 q.2.2.2.1.length y3') q) ∧ Sec (Blk wr (w.heap.size + 1) 36 [.slice none 0 0, .slice none 0 0, .slice none 0 0, .slice none 0 0, .int .i64 0, .int .i64 0, .int .i64 0]) ∧ Sec (New w wr)) (fun i _ => ops.length - (intOf i).toNat)
  case atStart => exact ⟨0, d, u0, u0', u1, u1', u2, u2', u3, u3', Nat.zero_le _, rfl, ⟨by rw [List.drop_zero]; exact HE.out⟩, HI, HBG, HOG, HCG, HMG⟩
  case round =>
    clear HE HI HBG HOG HCG HMG HIW
    obtain ⟨k, q, y0, y0', y1, y1', y2, y2', y3, y3', hk, rfl, HE, HI, HG, HO, HC, HM⟩ := hrel
    have hgl := HG.out.lt
    have hcl := HC.out.lt
    by_cases hlt : k < ops.length
    rotate_left
    · obtain rfl : k = ops.length := by omega
      have HE' : Sec (res = (q, ((ops.length : Int), 0))) := ⟨HE.out.trans (doL_end q ops ops.length)⟩
      have HM' := Sec.mk (HM.out.mono (T := fun k => w.heap.size ≤ k) (fun i hlt h => h.elim))
      clear HE
      have gc0 : wr.cell? ⟨g, 0, none⟩ = some (.slice y0 q.1.length y0') := HG.out.cell 0
      have gc1 : wr.cell? ⟨g, 1, none⟩ = some (.slice y1 q.2.1.length y1') := HG.out.cell 1
      have gc2 : wr.cell? ⟨g, 2, none⟩ = some (.slice y2 q.2.2.1.length y2') := HG.out.cell 2
      have gc3 : wr.cell? ⟨g, 3, none⟩ = some (.slice y3 q.2.2.2.1.length y3') := HG.out.cell 3
      have gc4 : wr.cell? ⟨g, 4, none⟩ = some (.int .i64 q.2.2.2.2) := HG.out.cell 4
      have gc5 : wr.cell? ⟨g, 5, none⟩ = some (.int .i64 (ops.length : Int)) := HG.out.cell 5
      have gc6 : wr.cell? ⟨g, 6, none⟩ = some (.int .i64 0) := HG.out.cell 6
      have rc0 : wr.cell? ⟨w.heap.size + 1, 0, none⟩ = some (.slice none 0 0) := HC.out.cell 0
      have rf0 : wr.frozen? ⟨w.heap.size + 1, 0, none⟩ = false := HC.out.frozen 0
      have rc1 : wr.cell? ⟨w.heap.size + 1, 1, none⟩ = some (.slice none 0 0) := HC.out.cell 1
      have rf1 : wr.frozen? ⟨w.heap.size + 1, 1, none⟩ = false := HC.out.frozen 1
      have rc2 : wr.cell? ⟨w.heap.size + 1, 2, none⟩ = some (.slice none 0 0) := HC.out.cell 2
      have rf2 : wr.frozen? ⟨w.heap.size + 1, 2, none⟩ = false := HC.out.frozen 2
      have rc3 : wr.cell? ⟨w.heap.size + 1, 3, none⟩ = some (.slice none 0 0) := HC.out.cell 3
      have rf3 : wr.frozen? ⟨w.heap.size + 1, 3, none⟩ = false := HC.out.frozen 3
      have rc4 : wr.cell? ⟨w.heap.size + 1, 4, none⟩ = some (.int .i64 0) := HC.out.cell 4
      have rf4 : wr.frozen? ⟨w.heap.size + 1, 4, none⟩ = false := HC.out.frozen 4
      have rc5 : wr.cell? ⟨w.heap.size + 1, 5, none⟩ = some (.int .i64 0) := HC.out.cell 5
      have rf5 : wr.frozen? ⟨w.heap.size + 1, 5, none⟩ = false := HC.out.frozen 5
      have rc6 : wr.cell? ⟨w.heap.size + 1, 6, none⟩ = some (.int .i64 0) := HC.out.cell 6
      have rf6 : wr.frozen? ⟨w.heap.size + 1, 6, none⟩ = false := HC.out.frozen 6
      have HFB := Sec.mk (set7_blk HC.out (.slice y0 q.1.length y0') (.slice y1 q.2.1.length y1') (.slice y2 q.2.2.1.length y2') (.slice y3 q.2.2.2.1.length y3') (.int .i64 q.2.2.2.2) (.int .i64 (ops.length : Int)) (.int .i64 0))
      have HFM := set7_mod wr (w.heap.size + 1) (.slice y0 q.1.length y0') (.slice y1 q.2.1.length y1') (.slice y2 q.2.2.1.length y2') (.slice y3 q.2.2.2.1.length y3') (.int .i64 q.2.2.2.2) (.int .i64 (ops.length : Int)) (.int .i64 0)
      have HMG := Sec.mk (HM'.out.trans HFM (fun i hi hlt => by omega))
      have H4 := Sec.mk (HO.out.keep HFM (fun k h e => by omega))
      clear HFM
      go_wp2
      refine bodyPost_ret (results_blk rfl rfl HFB.out Tryz.underlying36 (by kernel_rfl)) rfl ?_
      rw [HE'.out]; exact ⟨_, _, _, _, rfl, H4.out.wide (fun k _ h => by omega), HMG.out.mono (fun i hlt h => by omega)⟩
    obtain ⟨ad, Ad, dc, rfl, e0, e1, e2, e3, g0, g1, g2, hrow⟩ := op_at HRO.out (w' := wr) (fun i hi => HM.out.block i hi id) hlt
    have hkl : (k : Int) < (ops.length : Int) := by omega
    have HDK := Sec.mk (HDL.out _ (List.getElem_mem hlt))
    have HE2 := Sec.mk (HE.out.trans (doL_step hlt))
    have HI2 : Sec ((oneL q ops[k]).2 = 0 → DInv (300 + (k + 1)) (oneL q ops[k]).1) := ⟨fun h => HI.out.one _ h⟩
    obtain ⟨o, hoo⟩ : ∃ o : OpT, o = ops[k] := ⟨_, rfl⟩
    rw [← hoo] at e0 e1 e2 e3 g0 g1 g2 hrow HDK HE2 HI2
    clear hoo HE
    obtain ⟨kd, nm, tn, dat⟩ := o
    simp only at e0 e1 e2 e3 g0 g1 g2 hrow HDK
    have HRW := Sec.mk hrow
    have HKW := Sec.mk (And.intro g0 (And.intro g1 g2))
    clear hrow g0 g1 g2
    have hmn : New wr (wr.alloc (.cells #[.int .i64 kd, .string ⟨nm.toArray⟩, .string ⟨tn.toArray⟩, .slice Ad dat.length dc] 57)) := (Mod.refl _ _).alloc _
    have HBO := Sec.mk (Blk.new wr 57 [.int .i64 kd, .string ⟨nm.toArray⟩, .string ⟨tn.toArray⟩, .slice Ad dat.length dc])
    have HGn := Sec.mk (HG.out.mod hmn id)
    have HCn := Sec.mk (HC.out.mod hmn id)
    have HMn := Sec.mk (HM.out.transN hmn)
    have HOn := Sec.mk ((HO.out.wide (X' := fun k => (wz.heap.size ≤ k ∧ k ≠ g) ∧ k < wr.heap.size) (fun k h1 h2 => ⟨h2, h1⟩)).new hmn)
    have HRn := Sec.mk (HRW.out.mod (w' := wr.alloc (.cells #[.int .i64 kd, .string ⟨nm.toArray⟩, .string ⟨tn.toArray⟩, .slice Ad dat.length dc] 57)) (fun _ h => h) (fun k hk => hmn.block k (by have : k < w.heap.size := hk; omega) id))
    have hsn : wr.heap.size < (wr.alloc (.cells #[.int .i64 kd, .string ⟨nm.toArray⟩, .string ⟨tn.toArray⟩, .slice Ad dat.length dc] 57)).heap.size := by simp
    clear hmn HG HC HO HRW
    go_upto_region 7 with (fail)
    generalize wr.alloc (.cells #[.int .i64 kd, .string ⟨nm.toArray⟩, .string ⟨tn.toArray⟩, .slice Ad dat.length dc] 57) = wn at *
    have hgn : g < wn.heap.size := by omega
    have hcn : w.heap.size + 1 < wn.heap.size := by omega
    have gc0 : wn.cell? ⟨g, 0, none⟩ = some (.slice y0 q.1.length y0') := HGn.out.cell 0
    have gc1 : wn.cell? ⟨g, 1, none⟩ = some (.slice y1 q.2.1.length y1') := HGn.out.cell 1
    have gc2 : wn.cell? ⟨g, 2, none⟩ = some (.slice y2 q.2.2.1.length y2') := HGn.out.cell 2
    have gc3 : wn.cell? ⟨g, 3, none⟩ = some (.slice y3 q.2.2.2.1.length y3') := HGn.out.cell 3
    have gc4 : wn.cell? ⟨g, 4, none⟩ = some (.int .i64 q.2.2.2.2) := HGn.out.cell 4
    have oc0 : wn.cell? ⟨wr.heap.size, 0, none⟩ = some (.int .i64 kd) := HBO.out.cell 0
    have oc1 : wn.cell? ⟨wr.heap.size, 1, none⟩ = some (.string ⟨nm.toArray⟩) := HBO.out.cell 1
    have oc2 : wn.cell? ⟨wr.heap.size, 2, none⟩ = some (.string ⟨tn.toArray⟩) := HBO.out.cell 2
    have oc3 : wn.cell? ⟨wr.heap.size, 3, none⟩ = some (.slice Ad dat.length dc) := HBO.out.cell 3
    go_wp2_with fail
    refine (l1One_v HOn.out HI.out (by omega) HKW.out.1 HKW.out.2.1 HKW.out.2.2 HRn.out (fun k hk => by have : k < w.heap.size := hk; exact ⟨by omega, fun h => by omega⟩) HDK.out).mono ?_
    have HZQ : Sec ((oneL q (kd, nm, tn, dat)).2 ≠ 0 → (oneL q (kd, nm, tn, dat)).1 = q) := ⟨oneL_same q _⟩
    generalize oneL q (kd, nm, tn, dat) = r at *
    rintro e w5 ⟨z0, z1, z2, z3, rfl, ho5, hm5, hzz⟩
    obtain ⟨dn, code⟩ := r
    obtain ⟨z0, z0', z1, z1', z2, z2', z3, z3', rfl, rfl, rfl, rfl, -⟩ := ho5.forms
    have HO5 := Sec.mk ho5
    have HG5 := Sec.mk (HGn.out.mod hm5 (fun h => h.1.2 rfl))
    have HC5 := Sec.mk (HCn.out.mod hm5 (fun h => by omega))
    have HM5 := Sec.mk (HMn.out.trans hm5 (fun i hi hlt => by omega))
    have hs5 := hm5.size
    clear ho5 hm5 HGn HCn HMn HOn gc0 gc1 gc2 gc3 gc4 oc0 oc1 oc2 oc3 e0 e1 e2 e3
    simp only at *
    have hma : New w5 (w5.alloc (.cells #[.slice z0 dn.1.length z0', .slice z1 dn.2.1.length z1', .slice z2 dn.2.2.1.length z2', .slice z3 dn.2.2.2.1.length z3', .int .i64 dn.2.2.2.2] 34)) := (Mod.refl _ _).alloc _
    have HBN := Sec.mk (Blk.new w5 34 [.slice z0 dn.1.length z0', .slice z1 dn.2.1.length z1', .slice z2 dn.2.2.1.length z2', .slice z3 dn.2.2.2.1.length z3', .int .i64 dn.2.2.2.2])
    have HG6 := Sec.mk (HG5.out.mod hma id)
    have HC6 := Sec.mk (HC5.out.mod hma id)
    have HM6 := Sec.mk (HM5.out.transN hma)
    have HO6 := Sec.mk (HO5.out.new hma)
    have hs6 : w5.heap.size < (w5.alloc (.cells #[.slice z0 dn.1.length z0', .slice z1 dn.2.1.length z1', .slice z2 dn.2.2.1.length z2', .slice z3 dn.2.2.2.1.length z3', .int .i64 dn.2.2.2.2] 34)).heap.size := by simp
    clear hma HG5 HC5 HM5 HO5
    go_upto_region 8 with (fail)
    generalize (w5.alloc (.cells #[.slice z0 dn.1.length z0', .slice z1 dn.2.1.length z1', .slice z2 dn.2.2.1.length z2', .slice z3 dn.2.2.2.1.length z3', .int .i64 dn.2.2.2.2] 34)) = w6 at *
    have hg6 : g < w6.heap.size := by omega
    have hc6 : w.heap.size + 1 < w6.heap.size := by omega
    have gc0 : w6.cell? ⟨g, 0, none⟩ = some (.slice y0 q.1.length y0') := HG6.out.cell 0
    have gf0 : w6.frozen? ⟨g, 0, none⟩ = false := HG6.out.frozen 0
    have gc1 : w6.cell? ⟨g, 1, none⟩ = some (.slice y1 q.2.1.length y1') := HG6.out.cell 1
    have gf1 : w6.frozen? ⟨g, 1, none⟩ = false := HG6.out.frozen 1
    have gc2 : w6.cell? ⟨g, 2, none⟩ = some (.slice y2 q.2.2.1.length y2') := HG6.out.cell 2
    have gf2 : w6.frozen? ⟨g, 2, none⟩ = false := HG6.out.frozen 2
    have gc3 : w6.cell? ⟨g, 3, none⟩ = some (.slice y3 q.2.2.2.1.length y3') := HG6.out.cell 3
    have gf3 : w6.frozen? ⟨g, 3, none⟩ = false := HG6.out.frozen 3
    have gc4 : w6.cell? ⟨g, 4, none⟩ = some (.int .i64 q.2.2.2.2) := HG6.out.cell 4
    have gf4 : w6.frozen? ⟨g, 4, none⟩ = false := HG6.out.frozen 4
    have gc5 : w6.cell? ⟨g, 5, none⟩ = some (.int .i64 (k : Int)) := HG6.out.cell 5
    have gf5 : w6.frozen? ⟨g, 5, none⟩ = false := HG6.out.frozen 5
    have gc6 : w6.cell? ⟨g, 6, none⟩ = some (.int .i64 0) := HG6.out.cell 6
    have gf6 : w6.frozen? ⟨g, 6, none⟩ = false := HG6.out.frozen 6
    have rc0 : w6.cell? ⟨w.heap.size + 1, 0, none⟩ = some (.slice none 0 0) := HC6.out.cell 0
    have rf0 : w6.frozen? ⟨w.heap.size + 1, 0, none⟩ = false := HC6.out.frozen 0
    have rc1 : w6.cell? ⟨w.heap.size + 1, 1, none⟩ = some (.slice none 0 0) := HC6.out.cell 1
    have rf1 : w6.frozen? ⟨w.heap.size + 1, 1, none⟩ = false := HC6.out.frozen 1
    have rc2 : w6.cell? ⟨w.heap.size + 1, 2, none⟩ = some (.slice none 0 0) := HC6.out.cell 2
    have rf2 : w6.frozen? ⟨w.heap.size + 1, 2, none⟩ = false := HC6.out.frozen 2
    have rc3 : w6.cell? ⟨w.heap.size + 1, 3, none⟩ = some (.slice none 0 0) := HC6.out.cell 3
    have rf3 : w6.frozen? ⟨w.heap.size + 1, 3, none⟩ = false := HC6.out.frozen 3
    have rc4 : w6.cell? ⟨w.heap.size + 1, 4, none⟩ = some (.int .i64 0) := HC6.out.cell 4
    have rf4 : w6.frozen? ⟨w.heap.size + 1, 4, none⟩ = false := HC6.out.frozen 4
    have rc5 : w6.cell? ⟨w.heap.size + 1, 5, none⟩ = some (.int .i64 0) := HC6.out.cell 5
    have rf5 : w6.frozen? ⟨w.heap.size + 1, 5, none⟩ = false := HC6.out.frozen 5
    have rc6 : w6.cell? ⟨w.heap.size + 1, 6, none⟩ = some (.int .i64 0) := HC6.out.cell 6
    have rf6 : w6.frozen? ⟨w.heap.size + 1, 6, none⟩ = false := HC6.out.frozen 6
    have nc0 : w6.cell? ⟨w5.heap.size, 0, none⟩ = some (.slice z0 dn.1.length z0') := HBN.out.cell 0
    have nc1 : w6.cell? ⟨w5.heap.size, 1, none⟩ = some (.slice z1 dn.2.1.length z1') := HBN.out.cell 1
    have nc2 : w6.cell? ⟨w5.heap.size, 2, none⟩ = some (.slice z2 dn.2.2.1.length z2') := HBN.out.cell 2
    have nc3 : w6.cell? ⟨w5.heap.size, 3, none⟩ = some (.slice z3 dn.2.2.2.1.length z3') := HBN.out.cell 3
    have nc4 : w6.cell? ⟨w5.heap.size, 4, none⟩ = some (.int .i64 dn.2.2.2.2) := HBN.out.cell 4
    by_cases hcode : code = 0
    rotate_left
    · obtain ⟨ez0, ez1, ez2, ez3⟩ := hzz hcode
      obtain rfl : dn = q := HZQ.out hcode
      rw [ez0, ez1, ez2, ez3] at HO6 HBN
      have HE3 : Sec (res = (dn, ((k : Int), code))) := ⟨HE2.out.trans (if_neg hcode)⟩
      have hcb : (code != 0) = true := by simpa using hcode
      have HG7 := Sec.mk (HG6.out.set_ 6 (.int .i64 code))
      simp only [List.set_cons_zero, List.set_cons_succ] at HG7
      have hm7 : Mod (fun k => k = g) w6 (w6.setCell ⟨g, 6, none⟩ (.int .i64 code)) := (Mod.refl (fun k => k = g) w6).setCell (p := ⟨g, 6, none⟩) (fun _ => rfl) _
      have HC7 := Sec.mk (HC6.out.mod hm7 (fun h => by omega))
      have HM7 := Sec.mk ((HM6.out.mono (T := fun k => w.heap.size ≤ k) (fun i hlt h => h.elim)).trans hm7 (fun i hi hlt => by omega))
      have HO7 := Sec.mk (HO6.out.keep hm7 (fun k h e => by omega))
      have hs7 : (w6.setCell ⟨g, 6, none⟩ (.int .i64 code)).heap.size = w6.heap.size := by simp [World.setCell]
      clear hm7 HG6 HC6 HM6 HO6 HI2 HE2
      go_upto_region 10 with (fail)
      generalize w6.setCell ⟨g, 6, none⟩ (.int .i64 code) = w7 at *
      clear gc0 gf0 gc1 gf1 gc2 gf2 gc3 gf3 gc4 gf4 gc5 gf5 gc6 gf6 rc0 rf0 rc1 rf1 rc2 rf2 rc3 rf3 rc4 rf4 rc5 rf5 rc6 rf6 nc0 nc1 nc2 nc3 nc4
      have hg7 : g < w7.heap.size := by omega
      have hc7 : w.heap.size + 1 < w7.heap.size := by omega
      have gc0 : w7.cell? ⟨g, 0, none⟩ = some (.slice y0 dn.1.length y0') := HG7.out.cell 0
      have gf0 : w7.frozen? ⟨g, 0, none⟩ = false := HG7.out.frozen 0
      have gc1 : w7.cell? ⟨g, 1, none⟩ = some (.slice y1 dn.2.1.length y1') := HG7.out.cell 1
      have gf1 : w7.frozen? ⟨g, 1, none⟩ = false := HG7.out.frozen 1
      have gc2 : w7.cell? ⟨g, 2, none⟩ = some (.slice y2 dn.2.2.1.length y2') := HG7.out.cell 2
      have gf2 : w7.frozen? ⟨g, 2, none⟩ = false := HG7.out.frozen 2
      have gc3 : w7.cell? ⟨g, 3, none⟩ = some (.slice y3 dn.2.2.2.1.length y3') := HG7.out.cell 3
      have gf3 : w7.frozen? ⟨g, 3, none⟩ = false := HG7.out.frozen 3
      have gc4 : w7.cell? ⟨g, 4, none⟩ = some (.int .i64 dn.2.2.2.2) := HG7.out.cell 4
      have gf4 : w7.frozen? ⟨g, 4, none⟩ = false := HG7.out.frozen 4
      have gc5 : w7.cell? ⟨g, 5, none⟩ = some (.int .i64 (k : Int)) := HG7.out.cell 5
      have gf5 : w7.frozen? ⟨g, 5, none⟩ = false := HG7.out.frozen 5
      have gc6 : w7.cell? ⟨g, 6, none⟩ = some (.int .i64 code) := HG7.out.cell 6
      have gf6 : w7.frozen? ⟨g, 6, none⟩ = false := HG7.out.frozen 6
      have rc0 : w7.cell? ⟨w.heap.size + 1, 0, none⟩ = some (.slice none 0 0) := HC7.out.cell 0
      have rf0 : w7.frozen? ⟨w.heap.size + 1, 0, none⟩ = false := HC7.out.frozen 0
      have rc1 : w7.cell? ⟨w.heap.size + 1, 1, none⟩ = some (.slice none 0 0) := HC7.out.cell 1
      have rf1 : w7.frozen? ⟨w.heap.size + 1, 1, none⟩ = false := HC7.out.frozen 1
      have rc2 : w7.cell? ⟨w.heap.size + 1, 2, none⟩ = some (.slice none 0 0) := HC7.out.cell 2
      have rf2 : w7.frozen? ⟨w.heap.size + 1, 2, none⟩ = false := HC7.out.frozen 2
      have rc3 : w7.cell? ⟨w.heap.size + 1, 3, none⟩ = some (.slice none 0 0) := HC7.out.cell 3
      have rf3 : w7.frozen? ⟨w.heap.size + 1, 3, none⟩ = false := HC7.out.frozen 3
      have rc4 : w7.cell? ⟨w.heap.size + 1, 4, none⟩ = some (.int .i64 0) := HC7.out.cell 4
      have rf4 : w7.frozen? ⟨w.heap.size + 1, 4, none⟩ = false := HC7.out.frozen 4
      have rc5 : w7.cell? ⟨w.heap.size + 1, 5, none⟩ = some (.int .i64 0) := HC7.out.cell 5
      have rf5 : w7.frozen? ⟨w.heap.size + 1, 5, none⟩ = false := HC7.out.frozen 5
      have rc6 : w7.cell? ⟨w.heap.size + 1, 6, none⟩ = some (.int .i64 0) := HC7.out.cell 6
      have rf6 : w7.frozen? ⟨w.heap.size + 1, 6, none⟩ = false := HC7.out.frozen 6
      have HFB := Sec.mk (set7_blk HC7.out (.slice y0 dn.1.length y0') (.slice y1 dn.2.1.length y1') (.slice y2 dn.2.2.1.length y2') (.slice y3 dn.2.2.2.1.length y3') (.int .i64 dn.2.2.2.2) (.int .i64 (k : Int)) (.int .i64 code))
      have HFM := set7_mod w7 (w.heap.size + 1) (.slice y0 dn.1.length y0') (.slice y1 dn.2.1.length y1') (.slice y2 dn.2.2.1.length y2') (.slice y3 dn.2.2.2.1.length y3') (.int .i64 dn.2.2.2.2) (.int .i64 (k : Int)) (.int .i64 code)
      have HMG := Sec.mk (HM7.out.trans HFM (fun i hi hlt => by omega))
      have H4 := Sec.mk (HO7.out.keep HFM (fun k h e => by omega))
      clear HFM
      go_wp2
      refine bodyPost_ret (results_blk rfl rfl HFB.out Tryz.underlying36 (by kernel_rfl)) rfl ?_
      rw [HE3.out]; exact ⟨_, _, _, _, rfl, H4.out.wide (fun k _ h => by omega), HMG.out.mono (fun i hlt h => by omega)⟩
    subst hcode
    have HE3 := Sec.mk (HE2.out.trans (if_pos rfl))
    have HI3 := Sec.mk (HI2.out rfl)
    have hm7 : Mod (fun k => k = g) w6 (((((w6.setCell ⟨g, 0, none⟩ (.slice z0 dn.1.length z0')).setCell ⟨g, 1, none⟩ (.slice z1 dn.2.1.length z1')).setCell ⟨g, 2, none⟩ (.slice z2 dn.2.2.1.length z2')).setCell ⟨g, 3, none⟩ (.slice z3 dn.2.2.2.1.length z3')).setCell ⟨g, 4, none⟩ (.int .i64 dn.2.2.2.2)) := set5_mod w6 g (.slice z0 dn.1.length z0') (.slice z1 dn.2.1.length z1') (.slice z2 dn.2.2.1.length z2') (.slice z3 dn.2.2.2.1.length z3') (.int .i64 dn.2.2.2.2)
    have HG7 : Sec (Blk (((((w6.setCell ⟨g, 0, none⟩ (.slice z0 dn.1.length z0')).setCell ⟨g, 1, none⟩ (.slice z1 dn.2.1.length z1')).setCell ⟨g, 2, none⟩ (.slice z2 dn.2.2.1.length z2')).setCell ⟨g, 3, none⟩ (.slice z3 dn.2.2.2.1.length z3')).setCell ⟨g, 4, none⟩ (.int .i64 dn.2.2.2.2)) g 36 [.slice z0 dn.1.length z0', .slice z1 dn.2.1.length z1', .slice z2 dn.2.2.1.length z2', .slice z3 dn.2.2.2.1.length z3', .int .i64 dn.2.2.2.2, .int .i64 (k : Int), .int .i64 0]) := ⟨set5_blk7 HG6.out (.slice z0 dn.1.length z0') (.slice z1 dn.2.1.length z1') (.slice z2 dn.2.2.1.length z2') (.slice z3 dn.2.2.2.1.length z3') (.int .i64 dn.2.2.2.2)⟩
    have HC7 := Sec.mk (HC6.out.mod hm7 (fun h => by omega))
    have HM7 := Sec.mk ((HM6.out.mono (T := fun k => w.heap.size ≤ k) (fun i hlt h => h.elim)).trans hm7 (fun i hi hlt => by omega))
    have HO7 := Sec.mk (HO6.out.keep hm7 (fun k h e => by omega))
    have hs7 : (((((w6.setCell ⟨g, 0, none⟩ (.slice z0 dn.1.length z0')).setCell ⟨g, 1, none⟩ (.slice z1 dn.2.1.length z1')).setCell ⟨g, 2, none⟩ (.slice z2 dn.2.2.1.length z2')).setCell ⟨g, 3, none⟩ (.slice z3 dn.2.2.2.1.length z3')).setCell ⟨g, 4, none⟩ (.int .i64 dn.2.2.2.2)).heap.size = w6.heap.size := by simp [World.setCell]
    clear hm7 HG6 HC6 HM6 HO6 HI2 HE2 hzz
    go_upto_region 12 with (fail)
    generalize (((((w6.setCell ⟨g, 0, none⟩ (.slice z0 dn.1.length z0')).setCell ⟨g, 1, none⟩ (.slice z1 dn.2.1.length z1')).setCell ⟨g, 2, none⟩ (.slice z2 dn.2.2.1.length z2')).setCell ⟨g, 3, none⟩ (.slice z3 dn.2.2.2.1.length z3')).setCell ⟨g, 4, none⟩ (.int .i64 dn.2.2.2.2)) = w7 at *
    clear gc0 gf0 gc1 gf1 gc2 gf2 gc3 gf3 gc4 gf4 gc5 gf5 gc6 gf6 rc0 rf0 rc1 rf1 rc2 rf2 rc3 rf3 rc4 rf4 rc5 rf5 rc6 rf6 nc0 nc1 nc2 nc3 nc4
    have hg7 : g < w7.heap.size := by omega
    have hc7 : w.heap.size + 1 < w7.heap.size := by omega
    have gc0 : w7.cell? ⟨g, 0, none⟩ = some (.slice z0 dn.1.length z0') := HG7.out.cell 0
    have gf0 : w7.frozen? ⟨g, 0, none⟩ = false := HG7.out.frozen 0
    have gc1 : w7.cell? ⟨g, 1, none⟩ = some (.slice z1 dn.2.1.length z1') := HG7.out.cell 1
    have gf1 : w7.frozen? ⟨g, 1, none⟩ = false := HG7.out.frozen 1
    have gc2 : w7.cell? ⟨g, 2, none⟩ = some (.slice z2 dn.2.2.1.length z2') := HG7.out.cell 2
    have gf2 : w7.frozen? ⟨g, 2, none⟩ = false := HG7.out.frozen 2
    have gc3 : w7.cell? ⟨g, 3, none⟩ = some (.slice z3 dn.2.2.2.1.length z3') := HG7.out.cell 3
    have gf3 : w7.frozen? ⟨g, 3, none⟩ = false := HG7.out.frozen 3
    have gc4 : w7.cell? ⟨g, 4, none⟩ = some (.int .i64 dn.2.2.2.2) := HG7.out.cell 4
    have gf4 : w7.frozen? ⟨g, 4, none⟩ = false := HG7.out.frozen 4
    have gc5 : w7.cell? ⟨g, 5, none⟩ = some (.int .i64 (k : Int)) := HG7.out.cell 5
    have gf5 : w7.frozen? ⟨g, 5, none⟩ = false := HG7.out.frozen 5
    have gc6 : w7.cell? ⟨g, 6, none⟩ = some (.int .i64 0) := HG7.out.cell 6
    have gf6 : w7.frozen? ⟨g, 6, none⟩ = false := HG7.out.frozen 6
    have HG8 := Sec.mk (HG7.out.set_ 5 (.int .i64 ((k + 1 : Nat) : Int)))
    simp only [List.set_cons_zero, List.set_cons_succ] at HG8
    have hm8 : Mod (fun k => k = g) w7 (w7.setCell ⟨g, 5, none⟩ (.int .i64 ((k + 1 : Nat) : Int))) := (Mod.refl (fun k => k = g) w7).setCell (p := ⟨g, 5, none⟩) (fun _ => rfl) _
    have HC8 := Sec.mk (HC7.out.mod hm8 (fun h => by omega))
    have HM8 := Sec.mk (HM7.out.trans hm8 (fun i hi hlt => by omega))
    have HO8 := Sec.mk (HO7.out.keep hm8 (fun k h e => by omega))
    clear hm8
    go_wp2
    go_roundw
    case rel =>
      refine ⟨k + 1, dn, z0, z0', z1, z1', z2, z2', z3, z3', by omega, by go_num, HE3, HI3, HG8, ⟨HO8.out.wide (fun k _ h => by omega)⟩, HC8, ⟨HM8.out.mono (fun i hlt h => by omega)⟩⟩
    case measure => simp [intOf]; omega
end Go.Proofs.YtkkgighgnbbgiaaGreatDoor
