/- errors.Is over an error of the program's own that wraps one of its five; the code of a fault. The program's operations one by one on a copy of a disk. -/
import Derived.Test.YtkkgighgnbbgiaaDoorPk12
import Derived.Test.YtkkgighgnbbgiaaDoorChecked
import Derived.LaidEql
import Derived.Stop.Asserts
import Derived.RowKitTokens
import Derived.Test.YtkkgighgnbbgiaaDoorPk16
import Derived.Test.YtkkgighgnbbgiaaDoorPk17
import Derived.Test.YtkkgighgnbbgiaaDoorPk8
namespace Go.Proofs.YtkkgighgnbbgiaaDoor
open Go.RowKit Mem
open Go.Extern.Stop Go.Stop Go.Extern
set_option linter.unusedVariables false
set_option linter.unusedSimpArgs false
theorem isTypeOf (v : Value) (w : World) : (Extern.ReflectliteType.typeOf #[.iface 115 v]).run Tryd.prog w = .ok (.iface 105 (.agg #[.pointer (some ⟨5, 115, none⟩)])) w := by kernel_rfl
def cmpE : TypeId → Sem Value := fun t => do Go.Extern.Rtype.noPackHeld "Comparable" t; pure (.bool (← typeInfo t).comparable)
theorem isComparable (w : World) : ((Extern.ReflectliteType.method cmpE) #[.agg #[.pointer (some ⟨5, 115, none⟩)]]).run Tryd.prog w = .ok (.bool true) w := by kernel_rfl
theorem isMethodComparable (v : Value) (w : World) : (Go.method 251 105 v "Comparable").run Tryd.prog w = .ok (82, v) w := by kernel_rfl
theorem isComp : (Tryd.prog.info? 115).map (·.comparable) = some true := by kernel_rfl
theorem isSize : (Tryd.prog.info? 140).map (·.size) = some 1 := by kernel_rfl
theorem noIsE (v : Value) (xT : TypeId) (w : World) : (Instr.typeAssert (.iface 115 v) xT 107 true).run Tryd.prog w = .ok (.tuple #[.nilIface, .bool false]) w := run_typeAssert_lacksB Tryd.underlying107 (by kernel_rfl) (by kernel_rfl) v xT w
theorem noUnwrapE (v : Value) (xT : TypeId) (w : World) : (Instr.typeAssert (.iface 115 v) xT 110 true).run Tryd.prog w = .ok (.tuple #[.nilIface, .bool false]) w := run_typeAssert_lacksB Tryd.underlying110 (by kernel_rfl) (by kernel_rfl) v xT w
theorem noUnwrapsE (v : Value) (xT : TypeId) (w : World) : (Instr.typeAssert (.iface 115 v) xT 112 true).run Tryd.prog w = .ok (.tuple #[.nilIface, .bool false]) w := run_typeAssert_lacksB Tryd.underlying112 (by kernel_rfl) (by kernel_rfl) v xT w
theorem noIsA (v : Value) (xT : TypeId) (w : World) : (Instr.typeAssert (.iface 64 v) xT 107 true).run Tryd.prog w = .ok (.tuple #[.nilIface, .bool false]) w := run_typeAssert_lacksB Tryd.underlying107 (by kernel_rfl) (by kernel_rfl) v xT w
theorem hasUnwrapA (v : Value) (xT : TypeId) (w : World) : (Instr.typeAssert (.iface 64 v) xT 110 true).run Tryd.prog w = .ok (.tuple #[.iface 64 v, .bool true]) w := run_typeAssert_hasB Tryd.underlying110 (by kernel_rfl) v xT w
theorem methodUnwrapA (v : Value) (w : World) : (Go.method 251 64 v "Unwrap").run Tryd.prog w = .ok (78, v) w := by kernel_rfl
theorem unwrap_calls (n : Int) (ev : Value) (w : World) : Calls Tryd.prog 78 #[.agg #[.int .i64 n, ev]] w (fun e w' => e = .returned ev ∧ New w w') := by
  have hma := (Mod.refl (fun _ => False) w).alloc (.cells #[.int .i64 n, ev] 64)
  have HM := Sec.mk hma
  go_enter Tryd.func78, Tryd.ntmps78
  go_wp2
  go_ret
  exact ⟨rfl, HM.out⟩
set_option maxHeartbeats 4000000 in
set_option maxRecDepth 100000 in
theorem isAt_same (n : Int) (a : Addr) (w : World) :
    Calls Tryd.prog 49 #[.iface 64 (.agg #[.int .i64 n, .iface 115 (.pointer (some a))]), .iface 115 (.pointer (some a))] w fun e w' => e = .returned (.bool true) ∧ New w w' := by
  obtain ⟨i, hi, hcmp⟩ := Option.map_eq_some_iff.1 isComp
  obtain ⟨j, hj, hjs⟩ := Option.map_eq_some_iff.1 isSize
  have h8 := @run_callFunc_extern Tryd.prog 58 _ Extern.ReflectliteType.typeOf Tryd.func58 (by kernel_rfl) (by kernel_rfl) (by kernel_rfl) (by kernel_rfl)
  have h32 := @run_callFunc_extern Tryd.prog 82 _ (Extern.ReflectliteType.method cmpE) Tryd.func82 (by kernel_rfl) (by kernel_rfl) (by kernel_rfl) (by kernel_rfl)
  have tT := isTypeOf
  have cT := isComparable
  have mR := isMethodComparable
  have nE := noIsE
  have uE := noUnwrapE
  have vE := noUnwrapsE
  have nW := noIsA
  have uW := hasUnwrapA
  have mU := methodUnwrapA
  have HEQ := Sec.mk (fun w => run_eql_iface_ptr_same (P := Tryd.prog) w a Tryd.underlying60 Tryd.underlying115 hi hcmp hj)
  have hty := run_eql_iface_types (P := Tryd.prog) 64 115 (.agg #[.int .i64 n, .iface 115 (.pointer (some a))]) (.pointer (some a)) Tryd.underlying60 (by decide) w
  go_enter Tryd.func49, Tryd.ntmps49
  go_wp2
  refine wp_loop_rounds 2 ?_
  rw [rounds_succ]
  go_wp2_with fail
  refine (unwrap_calls n (.iface 115 (.pointer (some a))) _).mono ?_
  rintro e w2 ⟨rfl, hm2⟩
  have heq := HEQ.out w2
  have HM2 := Sec.mk hm2
  clear hm2
  go_wp2
  rw [rounds_succ]
  go_wp2
  go_ret
  exact ⟨rfl, HM2.out⟩
set_option maxHeartbeats 4000000 in
set_option maxRecDepth 100000 in
theorem isAt_other (n : Int) (a b : Addr) (w : World) (hne : a ≠ b) (ha : ∃ c t, w.heap[a.block]? = some (.cells c t (0, 0))) (hb : ∃ c t, w.heap[b.block]? = some (.cells c t (0, 0))) :
    Calls Tryd.prog 49 #[.iface 64 (.agg #[.int .i64 n, .iface 115 (.pointer (some a))]), .iface 115 (.pointer (some b))] w fun e w' => e = .returned (.bool false) ∧ New w w' := by
  obtain ⟨i, hi, hcmp⟩ := Option.map_eq_some_iff.1 isComp
  obtain ⟨j, hj, hjs⟩ := Option.map_eq_some_iff.1 isSize
  have h8 := @run_callFunc_extern Tryd.prog 58 _ Extern.ReflectliteType.typeOf Tryd.func58 (by kernel_rfl) (by kernel_rfl) (by kernel_rfl) (by kernel_rfl)
  have h32 := @run_callFunc_extern Tryd.prog 82 _ (Extern.ReflectliteType.method cmpE) Tryd.func82 (by kernel_rfl) (by kernel_rfl) (by kernel_rfl) (by kernel_rfl)
  have tT := isTypeOf
  have cT := isComparable
  have mR := isMethodComparable
  have nE := noIsE
  have uE := noUnwrapE
  have vE := noUnwrapsE
  have nW := noIsA
  have uW := hasUnwrapA
  have mU := methodUnwrapA
  have HEQ : Sec (∀ W, Mod (fun _ => False) w W → (binOp BinOp.eql 60 (.iface 115 (.pointer (some a))) (.iface 115 (.pointer (some b)))).run Tryd.prog W = .ok (.bool false) W) := ⟨fun W hW => by
    obtain ⟨ca, ta, ha⟩ := ha
    obtain ⟨cb, tb, hb⟩ := hb
    exact run_eql_iface_ptr_other (P := Tryd.prog) W Tryd.underlying60 Tryd.underlying115 hi hcmp hj (by rw [hjs]; decide) hne ((hW.block _ (Array.getElem?_eq_some_iff.1 ha).1 id).trans ha) ((hW.block _ (Array.getElem?_eq_some_iff.1 hb).1 id).trans hb)⟩
  clear ha hb hne
  have hty := run_eql_iface_types (P := Tryd.prog) 64 115 (.agg #[.int .i64 n, .iface 115 (.pointer (some a))]) (.pointer (some b)) Tryd.underlying60 (by decide) w
  go_enter Tryd.func49, Tryd.ntmps49
  go_wp2
  refine wp_loop_rounds 2 ?_
  rw [rounds_succ]
  go_wp2_with fail
  refine (unwrap_calls n (.iface 115 (.pointer (some a))) _).mono ?_
  rintro e w2 ⟨rfl, hm2⟩
  have heq := HEQ.out w2 hm2
  have HM2 := Sec.mk hm2
  clear hm2
  go_wp2
  rw [rounds_succ]
  go_wp2
  go_ret
  exact ⟨rfl, HM2.out⟩
set_option maxHeartbeats 4000000 in
set_option maxRecDepth 100000 in
theorem faultOf_calls {lo : Nat} {w : World} {ea : Nat → Addr} (hE : ErrEnv lo w ea) (n : Int) (c : Nat) (h2 : 2 ≤ c) (h6 : c ≤ 6) :
    Calls Tryd.prog 21 #[.iface 64 (.agg #[.int .i64 n, .iface 115 (.pointer (some (ea c)))])] w fun e w' => e = .returned (.int .i64 (c : Int)) ∧ New w w' := by
  have g2 : w.cell? ⟨0, 0, none⟩ = some (.iface 115 (.pointer (some (ea 2)))) := hE.c2
  have g3 : w.cell? ⟨1, 0, none⟩ = some (.iface 115 (.pointer (some (ea 3)))) := hE.c3
  have g4 : w.cell? ⟨2, 0, none⟩ = some (.iface 115 (.pointer (some (ea 4)))) := hE.c4
  have g5 : w.cell? ⟨3, 0, none⟩ = some (.iface 115 (.pointer (some (ea 5)))) := hE.c5
  have g6 : w.cell? ⟨4, 0, none⟩ = some (.iface 115 (.pointer (some (ea 6)))) := hE.c6
  have HROW : Sec (∀ i, 2 ≤ i → i ≤ 6 → ∃ c t, w.heap[(ea i).block]? = some (.cells c t (0, 0))) := ⟨fun i h1 h2 => (hE.row i h1 h2).2⟩
  have HNE := Sec.mk hE.ne
  clear hE
  have HB0 := Sec.mk (Blk.new w 60 [.nilIface, .nilIface, .iface 115 (.pointer (some (ea 2))), .iface 115 (.pointer (some (ea 3))), .iface 115 (.pointer (some (ea 4))), .iface 115 (.pointer (some (ea 5))), .iface 115 (.pointer (some (ea 6)))])
  have HM0 := Sec.mk ((Mod.refl (fun _ => False) w).alloc (.cells #[.nilIface, .nilIface, .iface 115 (.pointer (some (ea 2))), .iface 115 (.pointer (some (ea 3))), .iface 115 (.pointer (some (ea 4))), .iface 115 (.pointer (some (ea 5))), .iface 115 (.pointer (some (ea 6)))] 60))
  go_enter Tryd.func21, Tryd.ntmps21
  go_wp2
  clear g2 g3 g4 g5 g6
  go_loopw [14] (fun i wr => ∃ k : Nat, k ≤ c ∧ i = .int .i64 (k : Int) ∧ Sec (Blk wr w.heap.size 60 [.nilIface, .nilIface, .iface 115 (.pointer (some (ea 2))), .iface 115 (.pointer (some (ea 3))), .iface 115 (.pointer (some (ea 4))), .iface 115 (.pointer (some (ea 5))), .iface 115 (.pointer (some (ea 6)))]) ∧ Sec (New w wr)) (fun i _ => 7 - (intOf i).toNat)
  case atStart => exact ⟨0, Nat.zero_le _, rfl, HB0, HM0⟩
  case round =>
    clear HB0 HM0
    obtain ⟨k, hk, rfl, HB, HM⟩ := hrel
    have hgl := HB.out.lt
    have hk7 : (k : Int) < 7 := by omega
    by_cases hk2 : k < 2
    · have hc0 : wr.cell? ⟨w.heap.size, k, none⟩ = some .nilIface := by
        rcases (show k = 0 ∨ k = 1 by omega) with rfl | rfl
        · exact HB.out.cell 0
        · exact HB.out.cell 1
      go_wp2
      go_roundw
      case rel => exact ⟨k + 1, by omega, by go_num, HB, HM⟩
      case measure => simp [intOf]; omega
    have hc0 : wr.cell? ⟨w.heap.size, k, none⟩ = some (.iface 115 (.pointer (some (ea k)))) := by
      rcases (show k = 2 ∨ k = 3 ∨ k = 4 ∨ k = 5 ∨ k = 6 by omega) with rfl | rfl | rfl | rfl | rfl
      · exact HB.out.cell 2
      · exact HB.out.cell 3
      · exact HB.out.cell 4
      · exact HB.out.cell 5
      · exact HB.out.cell 6
    by_cases hkc : k = c
    · subst hkc
      go_wp2_with fail
      refine (isAt_same n (ea k) wr).mono ?_
      rintro e w2 ⟨rfl, hm2⟩
      have HM2 := Sec.mk (HM.out.transN hm2)
      clear hm2
      go_wp2
      go_ret
      exact ⟨rfl, HM2.out⟩
    · have hmv : ∀ i, 2 ≤ i → i ≤ 6 → ∃ c t, wr.heap[(ea i).block]? = some (.cells c t (0, 0)) := fun i h1 h2 => by
        obtain ⟨c', t', h⟩ := HROW.out i h1 h2
        exact ⟨c', t', (HM.out.block _ (Array.getElem?_eq_some_iff.1 h).1 id).trans h⟩
      have HIS := Sec.mk (isAt_other n (ea c) (ea k) wr (HNE.out c k h2 h6 (by omega) (by omega) (by omega)) (hmv c h2 h6) (hmv k (by omega) (by omega)))
      clear hmv
      go_wp2_with fail
      refine HIS.out.mono ?_
      rintro e w2 ⟨rfl, hm2⟩
      have HM2 := Sec.mk (HM.out.transN hm2)
      have HB2 := Sec.mk (HB.out.mod hm2 id)
      clear hm2 HIS
      go_wp2
      go_roundw
      case rel => exact ⟨k + 1, by omega, by go_num, HB2, HM2⟩
      case measure => simp [intOf]; omega
end Go.Proofs.YtkkgighgnbbgiaaDoor

namespace Go.Proofs.YtkkgighgnbbgiaaDoor
open Go.RowKit Mem
set_option linter.unusedVariables false
set_option linter.unusedSimpArgs false
theorem ErrEnv.up {lo hi : Nat} {w : World} {ea : Nat → Addr} (h : ErrEnv lo w ea) (hl : lo ≤ hi) : ErrEnv hi w ea :=
  ⟨h.c2, h.c3, h.c4, h.c5, h.c6, fun i h1 h2 => ⟨Nat.lt_of_lt_of_le (h.row i h1 h2).1 hl, (h.row i h1 h2).2⟩, h.ne, ⟨Nat.lt_of_lt_of_le h.gl.1 hl, Nat.lt_of_lt_of_le h.gl.2.1 hl, Nat.lt_of_lt_of_le h.gl.2.2.1 hl, Nat.lt_of_lt_of_le h.gl.2.2.2.1 hl, Nat.lt_of_lt_of_le h.gl.2.2.2.2 hl⟩⟩
theorem oneL_code (d : DiskL) (o : OpL) : (oneL d o).2 = 0 ∨ (2 ≤ (oneL d o).2 ∧ (oneL d o).2 ≤ 6) := by
  unfold oneL
  repeat' split
  all_goals first | exact Or.inl rfl | (refine Or.inr ?_; simp only; omega)
theorem errV_zero (ea : Nat → Addr) : errV ea 0 = .nilIface := rfl
theorem errV_nat (ea : Nat → Addr) (c : Nat) (h : 2 ≤ c) : errV ea (c : Int) = .iface errT (.pointer (some (ea c))) := by
  unfold errV
  rw [if_neg (by omega), Int.toNat_natCast]
set_option maxHeartbeats 8000000 in
set_option maxRecDepth 100000 in
theorem diskDoI_v {w : World} {v vo : Value} {d : DiskT} {ops : OpST} (h : RdV true dDisk w v d) (ho : RdV false dOpS w vo ops) (hdl : ∀ o, o ∈ ops → o.2.2.2.length ≤ 1048576) {ea : Nat → Addr} (hE : ErrEnv w.heap.size w ea) : Calls Tryd.prog 6 #[v, vo] w (RetDone w (diskDoL d ops)) := by
  have HX := Sec.mk h
  have HDL := Sec.mk hdl
  obtain ⟨Ao, co, rfl, hco, hro⟩ := ho.slice
  have HRO := Sec.mk hro
  have HRL0 : Sec (¬ (ops.length ≤ 2000 ∧ DiskValidL d = true) → diskDoL d ops = (([], [], [], [], 0), (0, 1))) := ⟨fun h => if_neg h⟩
  have HRL1 : Sec ((ops.length ≤ 2000 ∧ DiskValidL d = true) → diskDoL d ops = doL d ops 0) := ⟨fun h => if_pos h⟩
  generalize hres : diskDoL d ops = res at *
  clear hres
  obtain ⟨v0, v1, v2, v3, rfl, k0, k1, k2, k3⟩ := rdDisk h
  obtain ⟨A0, c0, rfl, hc0, hr0⟩ := k0.slice
  obtain ⟨A1, c1, rfl, hc1, hr1⟩ := k1.slice
  obtain ⟨A2, c2, rfl, hc2, hr2⟩ := k2.slice
  obtain ⟨A3, c3, rfl, hc3, hr3⟩ := k3.slice
  have HBX := Sec.mk ((Blk.new w 27 [.slice A0 d.1.length c0, .slice A1 d.2.1.length c1, .slice A2 d.2.2.1.length c2, .slice A3 d.2.2.2.1.length c3, .int .i64 d.2.2.2.2]).alloc (.cells #[.slice none 0 0, .slice none 0 0, .slice none 0 0, .slice none 0 0, .int .i64 0, .int .i64 0, .int .i64 0] 32))
  have HBC : Sec (Blk ((w.alloc (.cells #[.slice A0 d.1.length c0, .slice A1 d.2.1.length c1, .slice A2 d.2.2.1.length c2, .slice A3 d.2.2.2.1.length c3, .int .i64 d.2.2.2.2] 27)).alloc (.cells #[.slice none 0 0, .slice none 0 0, .slice none 0 0, .slice none 0 0, .int .i64 0, .int .i64 0, .int .i64 0] 32)) (w.heap.size + 1) 32 [.slice none 0 0, .slice none 0 0, .slice none 0 0, .slice none 0 0, .int .i64 0, .int .i64 0, .int .i64 0]) := ⟨by have := Blk.new (w.alloc (.cells #[.slice A0 d.1.length c0, .slice A1 d.2.1.length c1, .slice A2 d.2.2.1.length c2, .slice A3 d.2.2.2.1.length c3, .int .i64 d.2.2.2.2] 27)) 32 [.slice none 0 0, .slice none 0 0, .slice none 0 0, .slice none 0 0, .int .i64 0, .int .i64 0, .int .i64 0]; simpa using this⟩
  have HM0 := Sec.mk (((Mod.refl (fun _ => False) w).alloc (.cells #[.slice A0 d.1.length c0, .slice A1 d.2.1.length c1, .slice A2 d.2.2.1.length c2, .slice A3 d.2.2.2.1.length c3, .int .i64 d.2.2.2.2] 27)).alloc (.cells #[.slice none 0 0, .slice none 0 0, .slice none 0 0, .slice none 0 0, .int .i64 0, .int .i64 0, .int .i64 0] 32))
  have hsz : (((w.alloc (.cells #[.slice A0 d.1.length c0, .slice A1 d.2.1.length c1, .slice A2 d.2.2.1.length c2, .slice A3 d.2.2.2.1.length c3, .int .i64 d.2.2.2.2] 27)).alloc (.cells #[.slice none 0 0, .slice none 0 0, .slice none 0 0, .slice none 0 0, .int .i64 0, .int .i64 0, .int .i64 0] 32))).heap.size = w.heap.size + 2 := by simp
  have HSZ := Sec.mk hsz
  have HENV := Sec.mk hE
  clear hE h ho hdl k0 k1 k2 k3 hr0 hr1 hr2 hr3 hro hsz
  go_enter Tryd.func6, Tryd.ntmps6
  go_upto_region 1 with (fail)
  generalize ((w.alloc (.cells #[.slice A0 d.1.length c0, .slice A1 d.2.1.length c1, .slice A2 d.2.2.1.length c2, .slice A3 d.2.2.2.1.length c3, .int .i64 d.2.2.2.2] 27)).alloc (.cells #[.slice none 0 0, .slice none 0 0, .slice none 0 0, .slice none 0 0, .int .i64 0, .int .i64 0, .int .i64 0] 32)) = wz at *
  have hwz : w.heap.size + 2 = wz.heap.size := HSZ.out.symm
  have hwza : w.heap.size < wz.heap.size := by omega
  have hwzb : w.heap.size + 1 < wz.heap.size := by omega
  have xc0 : wz.cell? ⟨w.heap.size, 0, none⟩ = some (.slice A0 d.1.length c0) := HBX.out.cell 0
  have xc1 : wz.cell? ⟨w.heap.size, 1, none⟩ = some (.slice A1 d.2.1.length c1) := HBX.out.cell 1
  have xc2 : wz.cell? ⟨w.heap.size, 2, none⟩ = some (.slice A2 d.2.2.1.length c2) := HBX.out.cell 2
  have xc3 : wz.cell? ⟨w.heap.size, 3, none⟩ = some (.slice A3 d.2.2.2.1.length c3) := HBX.out.cell 3
  have xc4 : wz.cell? ⟨w.heap.size, 4, none⟩ = some (.int .i64 d.2.2.2.2) := HBX.out.cell 4
  go_wp2_with fail
  refine (diskValidI_v (HX.out.step HM0.out)).mono ?_
  rintro e w2 ⟨rfl, hm2⟩
  have HM2 := Sec.mk (HM0.out.transN hm2)
  have HB2 := Sec.mk (HBX.out.mod hm2 id)
  have HC2 := Sec.mk (HBC.out.mod hm2 id)
  have hs2 := hm2.size
  clear hm2 HM0 HBX HBC xc0 xc1 xc2 xc3 xc4
  have hw2a : w.heap.size < w2.heap.size := by omega
  have hw2b : w.heap.size + 1 < w2.heap.size := by omega
  have xc0 : w2.cell? ⟨w.heap.size, 0, none⟩ = some (.slice A0 d.1.length c0) := HB2.out.cell 0
  have xc1 : w2.cell? ⟨w.heap.size, 1, none⟩ = some (.slice A1 d.2.1.length c1) := HB2.out.cell 1
  have xc2 : w2.cell? ⟨w.heap.size, 2, none⟩ = some (.slice A2 d.2.2.1.length c2) := HB2.out.cell 2
  have xc3 : w2.cell? ⟨w.heap.size, 3, none⟩ = some (.slice A3 d.2.2.2.1.length c3) := HB2.out.cell 3
  have xc4 : w2.cell? ⟨w.heap.size, 4, none⟩ = some (.int .i64 d.2.2.2.2) := HB2.out.cell 4
  have rc0 : w2.cell? ⟨w.heap.size + 1, 0, none⟩ = some (.slice none 0 0) := HC2.out.cell 0
  have rf0 : w2.frozen? ⟨w.heap.size + 1, 0, none⟩ = false := HC2.out.frozen 0
  have rc1 : w2.cell? ⟨w.heap.size + 1, 1, none⟩ = some (.slice none 0 0) := HC2.out.cell 1
  have rf1 : w2.frozen? ⟨w.heap.size + 1, 1, none⟩ = false := HC2.out.frozen 1
  have rc2 : w2.cell? ⟨w.heap.size + 1, 2, none⟩ = some (.slice none 0 0) := HC2.out.cell 2
  have rf2 : w2.frozen? ⟨w.heap.size + 1, 2, none⟩ = false := HC2.out.frozen 2
  have rc3 : w2.cell? ⟨w.heap.size + 1, 3, none⟩ = some (.slice none 0 0) := HC2.out.cell 3
  have rf3 : w2.frozen? ⟨w.heap.size + 1, 3, none⟩ = false := HC2.out.frozen 3
  have rc4 : w2.cell? ⟨w.heap.size + 1, 4, none⟩ = some (.int .i64 0) := HC2.out.cell 4
  have rf4 : w2.frozen? ⟨w.heap.size + 1, 4, none⟩ = false := HC2.out.frozen 4
  have rc5 : w2.cell? ⟨w.heap.size + 1, 5, none⟩ = some (.int .i64 0) := HC2.out.cell 5
  have rf5 : w2.frozen? ⟨w.heap.size + 1, 5, none⟩ = false := HC2.out.frozen 5
  have rc6 : w2.cell? ⟨w.heap.size + 1, 6, none⟩ = some (.int .i64 0) := HC2.out.cell 6
  have rf6 : w2.frozen? ⟨w.heap.size + 1, 6, none⟩ = false := HC2.out.frozen 6
  cases hv : DiskValidL d
  · have HE := Sec.mk (HRL0.out (by rw [hv]; simp))
    have HM0' := Sec.mk (HM2.out.mono (T := fun k => w.heap.size ≤ k) (fun i hlt h => h.elim))
    clear hv
    have HFB := Sec.mk (set7_blk HC2.out (.slice none 0 0) (.slice none 0 0) (.slice none 0 0) (.slice none 0 0) (.int .i64 0) (.int .i64 0) (.int .i64 1))
    have HFM := set7_mod w2 (w.heap.size + 1) (.slice none 0 0) (.slice none 0 0) (.slice none 0 0) (.slice none 0 0) (.int .i64 0) (.int .i64 0) (.int .i64 1)
    have HMG := Sec.mk (HM0'.out.trans HFM (fun i hi hlt => by omega))
    clear HFM
    go_wp2
    refine bodyPost_ret (results_blk rfl rfl HFB.out Tryd.underlying32 (by kernel_rfl)) rfl ?_
    rw [HE.out]; exact ⟨_, _, _, _, rfl, ⟨[], [], [], [], Own.nil _ _ _, Own.nil _ _ _, Own.nil _ _ _, Own.nil _ _ _, ⟨fun k h => by simp at h, fun k h => by simp at h, fun k h => by simp at h⟩, fun k h => by simp [In4] at h, by decide⟩, HMG.out.mono (fun i hlt h => by omega)⟩
  by_cases hop : 2000 < ops.length
  · have hopi : (2000 : Int) < (ops.length : Int) := by omega
    have HE := Sec.mk (HRL0.out (by omega))
    have HM0' := Sec.mk (HM2.out.mono (T := fun k => w.heap.size ≤ k) (fun i hlt h => h.elim))
    clear hv
    have HFB := Sec.mk (set7_blk HC2.out (.slice none 0 0) (.slice none 0 0) (.slice none 0 0) (.slice none 0 0) (.int .i64 0) (.int .i64 0) (.int .i64 1))
    have HFM := set7_mod w2 (w.heap.size + 1) (.slice none 0 0) (.slice none 0 0) (.slice none 0 0) (.slice none 0 0) (.int .i64 0) (.int .i64 0) (.int .i64 1)
    have HMG := Sec.mk (HM0'.out.trans HFM (fun i hi hlt => by omega))
    clear HFM
    go_wp2
    refine bodyPost_ret (results_blk rfl rfl HFB.out Tryd.underlying32 (by kernel_rfl)) rfl ?_
    rw [HE.out]; exact ⟨_, _, _, _, rfl, ⟨[], [], [], [], Own.nil _ _ _, Own.nil _ _ _, Own.nil _ _ _, Own.nil _ _ _, ⟨fun k h => by simp at h, fun k h => by simp at h, fun k h => by simp at h⟩, fun k h => by simp [In4] at h, by decide⟩, HMG.out.mono (fun i hlt h => by omega)⟩
  have hopi : ¬ (2000 : Int) < (ops.length : Int) := by omega
  have HE := Sec.mk (HRL1.out ⟨by omega, hv⟩)
  have hI := DInv.of_valid hv
  have hk3 := ((inOrdL_iff d.2.2.1 d.1.length).1 ((DiskValidL_iff d).1 hv).2.2.2.2.2.2.2.1).1
  have HI := Sec.mk hI
  have hki : d.2.2.1.length ≤ 100000 := by omega
  have HUN := Sec.mk (nodU_of ((DiskValidL_iff d).1 hv).2.2.2.2.2.2.1)
  clear hv HRL0 HRL1 hI hk3
  go_wp2_with fail
  refine (copyI_v (HX.out.step HM2.out) HI.out (by omega) hki).mono ?_
  rintro e w3 ⟨u0, u1, u2, u3, rfl, ho3, hm3⟩
  obtain ⟨u0, u0', u1, u1', u2, u2', u3, u3', rfl, rfl, rfl, rfl, -⟩ := ho3.forms
  have HO3 := Sec.mk ho3
  have HM3 := Sec.mk (HM2.out.transN hm3)
  have HC3 := Sec.mk (HC2.out.mod hm3 id)
  have hs3 := hm3.size
  have HIW : Sec (IntKind.i64.wrap d.2.2.2.2 = d.2.2.2.2) := ⟨okDisk HX.out⟩
  clear ho3 hm3 HB2 HC2 HM2 xc0 xc1 xc2 xc3 xc4 rc0 rc1 rc2 rc3 rc4 rc5 rc6 rf0 rf1 rf2 rf3 rf4 rf5 rf6
  have HBG := Sec.mk (Blk.new w3 32 [.slice u0 d.1.length u0', .slice u1 d.2.1.length u1', .slice u2 d.2.2.1.length u2', .slice u3 d.2.2.2.1.length u3', .int .i64 d.2.2.2.2, .int .i64 0, .int .i64 0])
  have hmg : New w3 (w3.alloc (.cells #[.slice u0 d.1.length u0', .slice u1 d.2.1.length u1', .slice u2 d.2.2.1.length u2', .slice u3 d.2.2.2.1.length u3', .int .i64 d.2.2.2.2, .int .i64 0, .int .i64 0] 32)) := (Mod.refl _ _).alloc _
  have HOG := Sec.mk ((HO3.out.wide (X' := fun k => wz.heap.size ≤ k ∧ k ≠ w3.heap.size) (fun k hlt h => ⟨by omega, by omega⟩)).new hmg)
  have HMG := Sec.mk (HM3.out.transN hmg)
  have HCG := Sec.mk (HC3.out.mod hmg id)
  have hsg : w3.heap.size < (w3.alloc (.cells #[.slice u0 d.1.length u0', .slice u1 d.2.1.length u1', .slice u2 d.2.2.1.length u2', .slice u3 d.2.2.2.1.length u3', .int .i64 d.2.2.2.2, .int .i64 0, .int .i64 0] 32)).heap.size := by simp
  clear hmg HO3 HM3 HC3
  have HX0 := Sec.mk (And.intro HX.out HRO.out)
  go_upto_region 4 with (fail)
  generalize hg : w3.heap.size = g at *
  clear hg
  have hgz : wz.heap.size ≤ g := by omega
  generalize (w3.alloc (.cells #[.slice u0 d.1.length u0', .slice u1 d.2.1.length u1', .slice u2 d.2.2.1.length u2', .slice u3 d.2.2.2.1.length u3', .int .i64 d.2.2.2.2, .int .i64 0, .int .i64 0] 32)) = w4 at *
  go_wp2
  have HST : Sec (DSt wz.heap.size g [.int .i64 (0 : Int), .int .i64 0] w4 d) := ⟨_, _, _, _, _, HBG.out, HOG.out, hgz⟩
  clear HBG HOG
  go_loopw [23] (fun i wr => ∃ (k : Nat) (q : DiskT), k ≤ ops.length ∧ i = .int .i64 (k : Int) ∧ Sec (res = doL q (ops.drop k) k) ∧ Sec (DInv (300 + k) q) ∧ Sec (NodU q.2.1) ∧ Sec (DSt wz.heap.size g [.int .i64 (k : Int), .int .i64 0] wr q) ∧ Sec (Blk wr (w.heap.size + 1) 32 [.slice none 0 0, .slice none 0 0, .slice none 0 0, .slice none 0 0, .int .i64 0, .int .i64 0, .int .i64 0]) ∧ Sec (New w wr)) (fun i _ => ops.length - (intOf i).toNat)
  case atStart => exact ⟨0, d, Nat.zero_le _, rfl, ⟨by rw [List.drop_zero]; exact HE.out⟩, HI, HUN, HST, HCG, HMG⟩
  case round =>
    clear HE HI HUN HST HCG HMG HIW
    obtain ⟨k, q, hk, rfl, HE, HI, HU, HST, HC, HM⟩ := hrel
    have hcl := HC.out.lt
    by_cases hlt : k < ops.length
    rotate_left
    · obtain rfl : k = ops.length := by omega
      have HE' : Sec (res = (q, ((ops.length : Int), 0))) := ⟨HE.out.trans (doL_end q ops ops.length)⟩
      have HM' := Sec.mk (HM.out.mono (T := fun k => w.heap.size ≤ k) (fun i hlt h => h.elim))
      obtain ⟨tt, y0, y0', y1, y1', y2, y2', y3, y3', hG, hO, -, -, -, -, -, -, -⟩ := HST.out.rows
      have HG := Sec.mk hG
      have HO := Sec.mk hO
      have hgl := hG.lt
      clear HE hG hO HST
      have gc0 : wr.cell? ⟨g, 0, none⟩ = some (.slice y0 q.1.length y0') := HG.out.cell 0
      have gc1 : wr.cell? ⟨g, 1, none⟩ = some (.slice y1 q.2.1.length y1') := HG.out.cell 1
      have gc2 : wr.cell? ⟨g, 2, none⟩ = some (.slice y2 q.2.2.1.length y2') := HG.out.cell 2
      have gc3 : wr.cell? ⟨g, 3, none⟩ = some (.slice y3 q.2.2.2.1.length y3') := HG.out.cell 3
      have gc4 : wr.cell? ⟨g, 4, none⟩ = some (.int .i64 q.2.2.2.2) := HG.out.cell 4
      have gc5 : wr.cell? ⟨g, 5, none⟩ = some (.int .i64 (ops.length : Int)) := HG.out.cell 5
      have gc6 : wr.cell? ⟨g, 6, none⟩ = some (.int .i64 0) := HG.out.cell 6
      have rc0 : wr.cell? ⟨w.heap.size + 1, 0, none⟩ = some (.slice none 0 0) := HC.out.cell 0
      have rf0 : wr.frozen? ⟨w.heap.size + 1, 0, none⟩ = false := HC.out.frozen 0
      have rc1 : wr.cell? ⟨w.heap.size + 1, 1, none⟩ = some (.slice none 0 0) := HC.out.cell 1
      have rf1 : wr.frozen? ⟨w.heap.size + 1, 1, none⟩ = false := HC.out.frozen 1
      have rc2 : wr.cell? ⟨w.heap.size + 1, 2, none⟩ = some (.slice none 0 0) := HC.out.cell 2
      have rf2 : wr.frozen? ⟨w.heap.size + 1, 2, none⟩ = false := HC.out.frozen 2
      have rc3 : wr.cell? ⟨w.heap.size + 1, 3, none⟩ = some (.slice none 0 0) := HC.out.cell 3
      have rf3 : wr.frozen? ⟨w.heap.size + 1, 3, none⟩ = false := HC.out.frozen 3
      have rc4 : wr.cell? ⟨w.heap.size + 1, 4, none⟩ = some (.int .i64 0) := HC.out.cell 4
      have rf4 : wr.frozen? ⟨w.heap.size + 1, 4, none⟩ = false := HC.out.frozen 4
      have rc5 : wr.cell? ⟨w.heap.size + 1, 5, none⟩ = some (.int .i64 0) := HC.out.cell 5
      have rf5 : wr.frozen? ⟨w.heap.size + 1, 5, none⟩ = false := HC.out.frozen 5
      have rc6 : wr.cell? ⟨w.heap.size + 1, 6, none⟩ = some (.int .i64 0) := HC.out.cell 6
      have rf6 : wr.frozen? ⟨w.heap.size + 1, 6, none⟩ = false := HC.out.frozen 6
      have HFB := Sec.mk (set7_blk HC.out (.slice y0 q.1.length y0') (.slice y1 q.2.1.length y1') (.slice y2 q.2.2.1.length y2') (.slice y3 q.2.2.2.1.length y3') (.int .i64 q.2.2.2.2) (.int .i64 (ops.length : Int)) (.int .i64 0))
      have HFM := set7_mod wr (w.heap.size + 1) (.slice y0 q.1.length y0') (.slice y1 q.2.1.length y1') (.slice y2 q.2.2.1.length y2') (.slice y3 q.2.2.2.1.length y3') (.int .i64 q.2.2.2.2) (.int .i64 (ops.length : Int)) (.int .i64 0)
      have HMG := Sec.mk (HM'.out.trans HFM (fun i hi hlt => by omega))
      have H4 := Sec.mk (HO.out.keep HFM (fun k h e => by omega))
      clear HFM
      go_wp2
      refine bodyPost_ret (results_blk rfl rfl HFB.out Tryd.underlying32 (by kernel_rfl)) rfl ?_
      rw [HE'.out]; exact ⟨_, _, _, _, rfl, H4.out.wide (fun k _ h => by omega), HMG.out.mono (fun i hlt h => by omega)⟩
    obtain ⟨ad, Ad, dc, rfl, e0, e1, e2, e3, g0, g1, g2, hrow⟩ := op_at HRO.out (w' := wr) (fun i hi => HM.out.block i hi id) hlt
    have hkl : (k : Int) < (ops.length : Int) := by omega
    have HDK := Sec.mk (HDL.out _ (List.getElem_mem hlt))
    have HE2 := Sec.mk (HE.out.trans (doL_step hlt))
    have HI2 : Sec ((oneL q ops[k]).2 = 0 → DInv (300 + (k + 1)) (oneL q ops[k]).1) := ⟨fun h => HI.out.one _ h⟩
    have HU2 := Sec.mk (nodU_one HI.out.ord HU.out ops[k])
    obtain ⟨o, hoo⟩ : ∃ o : OpT, o = ops[k] := ⟨_, rfl⟩
    rw [← hoo] at e0 e1 e2 e3 g0 g1 g2 hrow HDK HE2 HI2 HU2
    clear hoo HE
    obtain ⟨kd, nm, tn, dat⟩ := o
    simp only at e0 e1 e2 e3 g0 g1 g2 hrow HDK
    have HRW := Sec.mk hrow
    have HKW := Sec.mk (And.intro g0 (And.intro g1 g2))
    clear hrow g0 g1 g2
    have hmn : New wr (wr.alloc (.cells #[.int .i64 kd, .string ⟨nm.toArray⟩, .string ⟨tn.toArray⟩, .slice Ad dat.length dc] 39)) := (Mod.refl _ _).alloc _
    have HBO := Sec.mk (Blk.new wr 39 [.int .i64 kd, .string ⟨nm.toArray⟩, .string ⟨tn.toArray⟩, .slice Ad dat.length dc])
    have HSTn := Sec.mk (HST.out.new hmn)
    have HCn := Sec.mk (HC.out.mod hmn id)
    have HMn := Sec.mk (HM.out.transN hmn)
    have HEn := Sec.mk ((HENV.out.mod (HMn.out.mono (T := fun k => w.heap.size ≤ k) (fun i hi h => h.elim))).up (show w.heap.size ≤ wz.heap.size by omega))
    have HRn := Sec.mk (HRW.out.mod (w' := (wr.alloc (.cells #[.int .i64 kd, .string ⟨nm.toArray⟩, .string ⟨tn.toArray⟩, .slice Ad dat.length dc] 39))) (fun _ h => h) (fun k hk => hmn.block k (by have : k < w.heap.size := hk; omega) id))
    have hsn : wr.heap.size < (wr.alloc (.cells #[.int .i64 kd, .string ⟨nm.toArray⟩, .string ⟨tn.toArray⟩, .slice Ad dat.length dc] 39)).heap.size := by simp
    clear hmn HC HRW HST
    go_upto_region 7 with (fail)
    generalize (wr.alloc (.cells #[.int .i64 kd, .string ⟨nm.toArray⟩, .string ⟨tn.toArray⟩, .slice Ad dat.length dc] 39)) = wn at *
    have hcn : w.heap.size + 1 < wn.heap.size := by omega
    have oc0 : wn.cell? ⟨wr.heap.size, 0, none⟩ = some (.int .i64 kd) := HBO.out.cell 0
    have oc1 : wn.cell? ⟨wr.heap.size, 1, none⟩ = some (.string ⟨nm.toArray⟩) := HBO.out.cell 1
    have oc2 : wn.cell? ⟨wr.heap.size, 2, none⟩ = some (.string ⟨tn.toArray⟩) := HBO.out.cell 2
    have oc3 : wn.cell? ⟨wr.heap.size, 3, none⟩ = some (.slice Ad dat.length dc) := HBO.out.cell 3
    have HZQ : Sec ((oneL q (kd, nm, tn, dat)).2 ≠ 0 → (oneL q (kd, nm, tn, dat)).1 = q) := ⟨oneL_same q _⟩
    have HCD := Sec.mk (oneL_code q (kd, nm, tn, dat))
    have HDO := Sec.mk (doI_calls (cd := dc) HSTn.out HEn.out HI.out HU.out (by omega) kd HKW.out.2.1 HKW.out.2.2 HRn.out (fun k hk => by have : k < w.heap.size := hk; omega) HDK.out)
    generalize oneL q (kd, nm, tn, dat) = r at *
    go_wp2_with fail
    refine HDO.out.mono ?_
    rintro e w5 ⟨rfl, hd5, hm5⟩
    obtain ⟨dn, code⟩ := r
    simp only at HZQ HCD HE2 HI2 HU2
    have HM5 := Sec.mk (HMn.out.trans hm5 (fun i hi hlt => by omega))
    have HC5 := Sec.mk (HCn.out.mod hm5 (fun h => by omega))
    have hs5 := hm5.size
    obtain ⟨tt, y0, y0', y1, y1', y2, y2', y3, y3', hG, hO, -, -, -, -, -, -, -⟩ := DSt.rows hd5
    have HG := Sec.mk hG
    have HO := Sec.mk hO
    have hgl := hG.lt
    clear hd5 hm5 hG hO HDO HCn HSTn oc0 oc1 oc2 oc3 e0 e1 e2 e3
    simp only at HG HO
    by_cases hcode : code = 0
    · subst hcode
      simp only [errV_zero]
      have HE3 := Sec.mk (HE2.out.trans (if_pos rfl))
      have HI3 := Sec.mk (HI2.out rfl)
      have gc0 : w5.cell? ⟨g, 0, none⟩ = some (.slice y0 dn.1.length y0') := HG.out.cell 0
      have gf0 : w5.frozen? ⟨g, 0, none⟩ = false := HG.out.frozen 0
      have gc1 : w5.cell? ⟨g, 1, none⟩ = some (.slice y1 dn.2.1.length y1') := HG.out.cell 1
      have gf1 : w5.frozen? ⟨g, 1, none⟩ = false := HG.out.frozen 1
      have gc2 : w5.cell? ⟨g, 2, none⟩ = some (.slice y2 dn.2.2.1.length y2') := HG.out.cell 2
      have gf2 : w5.frozen? ⟨g, 2, none⟩ = false := HG.out.frozen 2
      have gc3 : w5.cell? ⟨g, 3, none⟩ = some (.slice y3 dn.2.2.2.1.length y3') := HG.out.cell 3
      have gf3 : w5.frozen? ⟨g, 3, none⟩ = false := HG.out.frozen 3
      have gc4 : w5.cell? ⟨g, 4, none⟩ = some (.int .i64 dn.2.2.2.2) := HG.out.cell 4
      have gf4 : w5.frozen? ⟨g, 4, none⟩ = false := HG.out.frozen 4
      have gc5 : w5.cell? ⟨g, 5, none⟩ = some (.int .i64 (k : Int)) := HG.out.cell 5
      have gf5 : w5.frozen? ⟨g, 5, none⟩ = false := HG.out.frozen 5
      have gc6 : w5.cell? ⟨g, 6, none⟩ = some (.int .i64 0) := HG.out.cell 6
      have gf6 : w5.frozen? ⟨g, 6, none⟩ = false := HG.out.frozen 6
      have HG8 := Sec.mk (HG.out.set_ 5 (.int .i64 ((k + 1 : Nat) : Int)))
      simp only [List.set_cons_zero, List.set_cons_succ] at HG8
      have hm8 : Mod (fun k => k = g) w5 (w5.setCell ⟨g, 5, none⟩ (.int .i64 ((k + 1 : Nat) : Int))) := (Mod.refl (fun k => k = g) w5).setCell (p := ⟨g, 5, none⟩) (fun _ => rfl) _
      have HC8 := Sec.mk (HC5.out.mod hm8 (fun h => by omega))
      have HM8 := Sec.mk (HM5.out.trans hm8 (fun i hi hlt => by omega))
      have HO8 := Sec.mk (HO.out.keep hm8 (fun k h e => h.2 e))
      clear hm8 HE2 HI2
      go_wp2
      go_roundw
      case rel =>
        refine ⟨k + 1, dn, by omega, by go_num, HE3, HI3, HU2, ⟨⟨tt, _, _, _, _, HG8.out, HO8.out, hgz⟩⟩, HC8, HM8⟩
      case measure => simp [intOf]; omega
    obtain ⟨c, hc2, hc6, rfl⟩ : ∃ c : Nat, 2 ≤ c ∧ c ≤ 6 ∧ code = (c : Int) := by
      rcases HCD.out with h | ⟨h1, h2⟩
      · exact absurd h hcode
      · exact ⟨code.toNat, by omega, by omega, by omega⟩
    obtain rfl : dn = q := HZQ.out hcode
    have HE3 : Sec (res = (dn, ((k : Int), (c : Int)))) := ⟨HE2.out.trans (if_neg hcode)⟩
    simp only [errV_nat ea c hc2]
    have HE5 := Sec.mk (HENV.out.mod (HM5.out.mono (T := fun k => w.heap.size ≤ k) (fun i hi h => h.elim)))
    clear HE2 HI2 HU2 hcode HZQ HCD
    go_wp2_with fail
    refine (faultOf_calls HE5.out (k : Int) c hc2 hc6).mono ?_
    rintro e w6 ⟨rfl, hm6⟩
    have HG6 := Sec.mk (HG.out.mod hm6 id)
    have HO6 := Sec.mk (HO.out.new hm6)
    have HC6 := Sec.mk (HC5.out.mod hm6 id)
    have HM6 := Sec.mk (HM5.out.transN hm6)
    have hs6 := hm6.size
    clear hm6 HG HO HC5 HM5
    have hg6 : g < w6.heap.size := by omega
    have gc6 : w6.cell? ⟨g, 6, none⟩ = some (.int .i64 0) := HG6.out.cell 6
    have gf6 : w6.frozen? ⟨g, 6, none⟩ = false := HG6.out.frozen 6
    have HG7 := Sec.mk (HG6.out.set_ 6 (.int .i64 (c : Int)))
    simp only [List.set_cons_zero, List.set_cons_succ] at HG7
    have hm7 : Mod (fun k => k = g) w6 (w6.setCell ⟨g, 6, none⟩ (.int .i64 (c : Int))) := (Mod.refl (fun k => k = g) w6).setCell (p := ⟨g, 6, none⟩) (fun _ => rfl) _
    have HC7 := Sec.mk (HC6.out.mod hm7 (fun h => by omega))
    have HM7 := Sec.mk ((HM6.out.mono (T := fun k => w.heap.size ≤ k) (fun i hlt h => h.elim)).trans hm7 (fun i hi hlt => by omega))
    have HO7 := Sec.mk (HO6.out.keep hm7 (fun k h e => h.2 e))
    have hs7 : (w6.setCell ⟨g, 6, none⟩ (.int .i64 (c : Int))).heap.size = w6.heap.size := by simp [World.setCell]
    clear hm7 HG6 HC6 HM6 HO6
    go_upto_region 10 with (fail)
    generalize w6.setCell ⟨g, 6, none⟩ (.int .i64 (c : Int)) = w7 at *
    clear gc6 gf6
    have hg7 : g < w7.heap.size := by omega
    have hc7 : w.heap.size + 1 < w7.heap.size := by omega
    have gc0 : w7.cell? ⟨g, 0, none⟩ = some (.slice y0 dn.1.length y0') := HG7.out.cell 0
    have gc1 : w7.cell? ⟨g, 1, none⟩ = some (.slice y1 dn.2.1.length y1') := HG7.out.cell 1
    have gc2 : w7.cell? ⟨g, 2, none⟩ = some (.slice y2 dn.2.2.1.length y2') := HG7.out.cell 2
    have gc3 : w7.cell? ⟨g, 3, none⟩ = some (.slice y3 dn.2.2.2.1.length y3') := HG7.out.cell 3
    have gc4 : w7.cell? ⟨g, 4, none⟩ = some (.int .i64 dn.2.2.2.2) := HG7.out.cell 4
    have gc5 : w7.cell? ⟨g, 5, none⟩ = some (.int .i64 (k : Int)) := HG7.out.cell 5
    have gc6 : w7.cell? ⟨g, 6, none⟩ = some (.int .i64 (c : Int)) := HG7.out.cell 6
    have rc0 : w7.cell? ⟨w.heap.size + 1, 0, none⟩ = some (.slice none 0 0) := HC7.out.cell 0
    have rf0 : w7.frozen? ⟨w.heap.size + 1, 0, none⟩ = false := HC7.out.frozen 0
    have rc1 : w7.cell? ⟨w.heap.size + 1, 1, none⟩ = some (.slice none 0 0) := HC7.out.cell 1
    have rf1 : w7.frozen? ⟨w.heap.size + 1, 1, none⟩ = false := HC7.out.frozen 1
    have rc2 : w7.cell? ⟨w.heap.size + 1, 2, none⟩ = some (.slice none 0 0) := HC7.out.cell 2
    have rf2 : w7.frozen? ⟨w.heap.size + 1, 2, none⟩ = false := HC7.out.frozen 2
    have rc3 : w7.cell? ⟨w.heap.size + 1, 3, none⟩ = some (.slice none 0 0) := HC7.out.cell 3
    have rf3 : w7.frozen? ⟨w.heap.size + 1, 3, none⟩ = false := HC7.out.frozen 3
    have rc4 : w7.cell? ⟨w.heap.size + 1, 4, none⟩ = some (.int .i64 0) := HC7.out.cell 4
    have rf4 : w7.frozen? ⟨w.heap.size + 1, 4, none⟩ = false := HC7.out.frozen 4
    have rc5 : w7.cell? ⟨w.heap.size + 1, 5, none⟩ = some (.int .i64 0) := HC7.out.cell 5
    have rf5 : w7.frozen? ⟨w.heap.size + 1, 5, none⟩ = false := HC7.out.frozen 5
    have rc6 : w7.cell? ⟨w.heap.size + 1, 6, none⟩ = some (.int .i64 0) := HC7.out.cell 6
    have rf6 : w7.frozen? ⟨w.heap.size + 1, 6, none⟩ = false := HC7.out.frozen 6
    have HFB := Sec.mk (set7_blk HC7.out (.slice y0 dn.1.length y0') (.slice y1 dn.2.1.length y1') (.slice y2 dn.2.2.1.length y2') (.slice y3 dn.2.2.2.1.length y3') (.int .i64 dn.2.2.2.2) (.int .i64 (k : Int)) (.int .i64 (c : Int)))
    have HFM := set7_mod w7 (w.heap.size + 1) (.slice y0 dn.1.length y0') (.slice y1 dn.2.1.length y1') (.slice y2 dn.2.2.1.length y2') (.slice y3 dn.2.2.2.1.length y3') (.int .i64 dn.2.2.2.2) (.int .i64 (k : Int)) (.int .i64 (c : Int))
    have HMG := Sec.mk (HM7.out.trans HFM (fun i hi hlt => by omega))
    have H4 := Sec.mk (HO7.out.keep HFM (fun k h e => by omega))
    clear HFM
    go_wp2
    refine bodyPost_ret (results_blk rfl rfl HFB.out Tryd.underlying32 (by kernel_rfl)) rfl ?_
    rw [HE3.out]; exact ⟨_, _, _, _, rfl, H4.out.wide (fun k _ h => by omega), HMG.out.mono (fun i hlt h => by omega)⟩
end Go.Proofs.YtkkgighgnbbgiaaDoor
