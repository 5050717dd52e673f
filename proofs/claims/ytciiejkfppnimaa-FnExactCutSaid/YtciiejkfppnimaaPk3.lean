/- Steps by hand through a region that draws its order. Strings: read at a place, joined, cut; rows of strings. Numbers of both sides: digits read. -/
import Derived.Test.YtciiejkfppnimaaPk1
import Derived.Deep.RegionHeld3
import Derived.Test.YtciiejkfppnimaaProg
import Derived.WalkKit
import Derived.Test.YtciiejkfppnimaaPk2
namespace Go.Proofs.Ytciiejkfppnimaa.Mem
open Go.RowKit
set_option linter.unusedVariables false

section
variable {P : Program} {md : Region.Mode} {ops : Array Oper} {T : World → Prop} {L : List Nat} {Q : Exit → Act → World → Prop} {o : Oper} {a : Act} {w : World} {v : Value}
/-- whatever order comes: T holds behind every operation but those of L -/
def RegR (P : Program) (md : Region.Mode) (ops : Array Oper) (Q : Exit → Act → World → Prop) (L : List Nat) (T : World → Prop) : Nat → Array Bool → Act → World → Prop
  | 0, ls, a, w => Region.ready md ops ls = [] ∧ Q .normal a w
  | n + 1, ls, a, w => (Region.ready md ops ls = [] → Q .normal a w) ∧ ∀ i ∈ Region.ready md ops ls, wpOp P ops Q i (fun a' w' => (i ∉ L → T w') ∧ RegR P md ops Q L T n (ls.setIfInBounds i true) a' w') a w
theorem RegR.any : ∀ (n : Nat) (ls : Array Bool) (a : Act) (w : World), RegR P md ops Q L T n ls a w → wpAny P md ops Q n ls a w
  | 0, _, _, _, h => h
  | n + 1, _, _, _, h => ⟨h.1, fun i hi => wpOp_mono (fun a' w' h' => RegR.any n _ a' w' h'.2) (h.2 i hi)⟩
/-- does each of L wait for number i -/
def Waits (md : Region.Mode) (ops : Array Oper) (L : List Nat) (i : Nat) : Bool := L.all fun j => ((ops[j]?).map fun o => o.after.any fun e => Region.binds md e && e.on == i).getD false
theorem RegR.first {i : Nat} {oi : Oper} (hi : ops[i]? = some oi) (hsel : ∀ (j : Nat) (o : Oper) cs b, ops[j]? = some o → o.op ≠ .select cs b)
    (hQ : ∀ c a w, Q (.panic c) (a.put oi.dst v) w → Q (.panic c) a w) (hL : Waits md ops L i = true) (n : Nat) : ∀ (ls : Array Bool) (a : Act) (w : World),
      (∀ j oj, ops[j]? = some oj → j ≠ i → ls.getD j true = false → (∀ e ∈ oj.after, Region.binds md e = true → e.on ≠ i) → oi.apart ops oj = true) →
      i ∈ Region.ready md ops ls → YieldsIf P ops T oi v a → T w → RegR P md ops Q L T n (ls.setIfInBounds i true) (a.put oi.dst v) w → RegR P md ops Q L T (n + 1) ls a w := by
  -- who comes ahead of number i does not wait for it
  have hno : ∀ (ls : Array Bool) (j : Nat) (oj : Oper), ops[j]? = some oj → i ∈ Region.ready md ops ls → (∀ e ∈ oj.after, Region.binds md e = true → ls.getD e.on false = true) → ∀ e ∈ oj.after, Region.binds md e = true → e.on ≠ i := by
    intro ls j oj _ hir hall e he hb heq
    have hl := hall e he hb
    have h0 := (mem_ready.1 hir).1
    rw [heq] at hl
    by_cases hsz : i < ls.size
    · simp [hsz] at h0 hl; simp [h0] at hl
    · simp [Array.getElem?_eq_none (Nat.le_of_not_lt hsz)] at hl
  have hnL : ∀ j oj, ops[j]? = some oj → (∀ e ∈ oj.after, Region.binds md e = true → e.on ≠ i) → j ∉ L := by
    intro j oj hj hn hmem
    have h1 := List.all_eq_true.1 hL j hmem
    simp only [hj, Option.map_some, Option.getD_some] at h1
    obtain ⟨e, he, hb⟩ := Array.any_eq_true'.1 h1
    rw [Bool.and_eq_true, beq_iff_eq] at hb
    exact hn e he hb.1 hb.2
  induction n with
  | zero =>
    intro ls a w _ hr hy hT H
    refine ⟨fun h0 => absurd (h0 ▸ hr) List.not_mem_nil, fun j hj => ?_⟩
    rcases Decidable.em (j = i) with rfl | hne
    · exact hy.wpOp hi hT ⟨fun _ => hT, H⟩
    · exact absurd (H.1 ▸ ready_mono hj hne) List.not_mem_nil
  | succ n ih =>
    intro ls a w hfree hr hy hT H
    refine ⟨fun h0 => absurd (h0 ▸ hr) List.not_mem_nil, fun j hj => ?_⟩
    rcases Decidable.em (j = i) with rfl | hne
    · exact hy.wpOp hi hT ⟨fun _ => hT, H⟩
    obtain ⟨hun, oj, hoj, hall⟩ := mem_ready.1 hj
    have hn := hno ls j oj hoj hr hall
    refine wpOp_mono ?_ (wpOp_putIf hoj (hfree j oj hoj hne hun hn) (fun cs b => hsel i oi cs b hi) (fun cs b => hsel j oj cs b hoj) hQ hy (H.2 j (ready_mono hj hne)))
    intro a' w' h
    refine ⟨h.2.1, ih _ a' w' ?_ (ready_mono hr (Ne.symm hne)) h.1 (h.2.1 (hnL j oj hoj hn)) ?_⟩
    · intro k ok hk hki hku hkn
      refine hfree k ok hk hki ?_ hkn
      rcases Decidable.em (j = k) with rfl | hjk
      · exact hun
      · rw [getD_set_ne true hjk] at hku; exact hku
    · have h3 := h.2.2
      rwa [Array.setIfInBounds_comm _ _ (Ne.symm hne)] at h3
/-- the beginning -/
theorem reg_start (L : List Nat) (T : World → Prop) {id : Nat} (hm : P.follows .mixedOrders = true) (h : RegR P .any ops Q L T ops.size (Array.replicate ops.size false) a w.drew) : (Code.region id ops true).wp P Q a w :=
  wp_region_any hm (RegR.any _ _ _ _ h)
/-- number i, into slot n, first -/
theorem reg_take {i n : Nat} {op : Op} {ty : TypeId} {pos : String} {af : Array Edge} {fuel : Nat} {ls : Array Bool} (v : Value) (hT : T w) (hi : ops[i]? = some ⟨some n, op, ty, pos, af, none⟩) (hs : Region.noSelect ops = true) (hL : Waits md ops L i = true) (hf : Region.free md ops ls i = true) (hr : (Region.ready md ops ls).contains i = true)
    (hQ : ∀ c a w, Q (.panic c) (a.put (some n) v) w → Q (.panic c) a w) (hy : ∀ w, T w → (execOp a.eval ⟨some n, op, ty, pos, af, none⟩).run P w = .ok (.value v) w)
    (h : RegR P md ops Q L T fuel (ls.setIfInBounds i true) (a.put (some n) v) w) : RegR P md ops Q L T (fuel + 1) ls a w :=
  RegR.first hi (Region.noSelect_spec hs) hQ hL fuel ls a w (Region.free_spec hi hf) (by simpa using hr) (.inl ⟨by simp [Region.wanted], hy⟩) hT h
/-- number i, alone ready -/
theorem reg_step {i : Nat} {d : Option Nat} {op : Op} {ty : TypeId} {pos : String} {af : Array Edge} {fuel : Nat} {ls : Array Bool} (hi : ops[i]? = some ⟨d, op, ty, pos, af, none⟩) (hr : Region.ready md ops ls = [i])
    (h : ∀ K : Act → World → Prop, Shut (∀ a w, (i ∉ L → T w) → RegR P md ops Q L T fuel (ls.setIfInBounds i true) a w → K a w) → Oper.wp P ⟨d, op, ty, pos, af, none⟩ a w K Q) : RegR P md ops Q L T (fuel + 1) ls a w := by
  refine ⟨fun h0 => absurd (hr.symm.trans h0) (by simp), ?_⟩
  rw [hr]
  intro j hj
  obtain rfl := List.mem_singleton.1 hj
  refine wpOp_step hi fun K' hK => ?_
  rw [if_pos (by simp [Region.wanted])]
  exact h K' fun a w h1 h2 => hK a w ⟨h1, h2⟩
/-- the same for an operation that stands under a guard which holds -/
theorem reg_takeG {i n : Nat} {op : Op} {ty : TypeId} {pos : String} {af : Array Edge} {gd : Option (Nat × Bool)} {fuel : Nat} {ls : Array Bool} (v : Value) (hT : T w) (hi : ops[i]? = some ⟨some n, op, ty, pos, af, gd⟩) (hw : Region.wanted ⟨some n, op, ty, pos, af, gd⟩ (yielded ops a.tmps) = true) (hs : Region.noSelect ops = true) (hL : Waits md ops L i = true) (hf : Region.free md ops ls i = true) (hr : (Region.ready md ops ls).contains i = true)
    (hQ : ∀ c a w, Q (.panic c) (a.put (some n) v) w → Q (.panic c) a w) (hy : ∀ w, T w → (execOp a.eval ⟨some n, op, ty, pos, af, gd⟩).run P w = .ok (.value v) w)
    (h : RegR P md ops Q L T fuel (ls.setIfInBounds i true) (a.put (some n) v) w) : RegR P md ops Q L T (fuel + 1) ls a w :=
  RegR.first hi (Region.noSelect_spec hs) hQ hL fuel ls a w (Region.free_spec hi hf) (by simpa using hr) (.inl ⟨hw, hy⟩) hT h
theorem reg_stepG {i : Nat} {d : Option Nat} {op : Op} {ty : TypeId} {pos : String} {af : Array Edge} {gd : Option (Nat × Bool)} {fuel : Nat} {ls : Array Bool} (hi : ops[i]? = some ⟨d, op, ty, pos, af, gd⟩) (hw : Region.wanted ⟨d, op, ty, pos, af, gd⟩ (yielded ops a.tmps) = true) (hr : Region.ready md ops ls = [i])
    (h : ∀ K : Act → World → Prop, Shut (∀ a w, (i ∉ L → T w) → RegR P md ops Q L T fuel (ls.setIfInBounds i true) a w → K a w) → Oper.wp P ⟨d, op, ty, pos, af, gd⟩ a w K Q) : RegR P md ops Q L T (fuel + 1) ls a w := by
  refine ⟨fun h0 => absurd (hr.symm.trans h0) (by simp), ?_⟩
  rw [hr]
  intro j hj
  obtain rfl := List.mem_singleton.1 hj
  refine wpOp_step hi fun K' hK => ?_
  rw [if_pos hw]
  exact h K' fun a w h1 h2 => hK a w ⟨h1, h2⟩
theorem reg_done {ls : Array Bool} (hr : Region.ready md ops ls = []) (h : Q .normal a w) : ∀ n, RegR P md ops Q L T n ls a w
  | 0 => ⟨hr, h⟩
  | _ + 1 => ⟨fun _ => h, by rw [hr]; simp⟩
theorem wp_val (hx : (execOp a.eval o).run P w = .ok (.value v) w) {n : Nat} (hd : o.dst = some n) {K : Act → World → Prop} (h : K (a.put (some n) v) w) : Oper.wp P o a w K Q := by
  unfold Oper.wp
  rw [hx, Oper.upon_value, hd]; exact h
theorem exec_convert {src dst : TypeId} {x : Operand} (ho : o.op = .convert src dst x) (h : (convert src dst (a.eval x)).run P w = .ok v w) : (execOp a.eval o).run P w = .ok (.value v) w := by
  unfold execOp; simp only [ho, Sem.run_bind, h, Result.andThen_ok, Sem.run_pure]
theorem exec_move {x : Operand} (ho : o.op = .move x) (h : a.eval x = v) : (execOp a.eval o).run P w = .ok (.value v) w := by
  unfold execOp; simp only [ho, h, Sem.run_pure]
theorem exec_bin {op : BinOp} {t t' : TypeId} {x y : Operand} (ho : o.op = .binOp op t x y t') {vx vy : Value} (hx : a.eval x = vx) (hy : a.eval y = vy) (h : (do eqGuard op t x y vx vy; binOp op t vx vy : Sem Value).run P w = .ok v w) : (execOp a.eval o).run P w = .ok (.value v) w := by
  unfold execOp; simp only [ho, hx, hy]
  rw [Sem.run_bind, h]; rfl
theorem slice_to {t e : TypeId} {n c k : Nat} {A : Option Addr} (hu : P.underlying t = some (.slice e)) (hk : k ≤ c) (he : (P.info? e).isSome = true) : (Instr.sliceAt t (.slice A n c) none (some (.int .i64 k)) none).run P w = .ok (.slice A k c) w := by
  obtain ⟨i, hi⟩ := Option.isSome_iff_exists.1 he
  have hel : P.elem t = e := by simp [Program.elem, hu]
  have hu' : P.underlying t = some (.slice (P.elem t)) := by rw [hel]; exact hu
  rw [run_sliceAt_slice w t _ _ _ _ hu', run_slice_h w t A n c hu' .i64 (k : Int) (by omega) (by omega)]
  have hs : (sizeOf e).run P w = .ok i.size w := by
    simp only [sizeOf, typeInfo, Sem.run_bind, run_program, hi, Result.andThen, Sem.run_pure]
  rw [hel, hs]
  simp [Result.andThen, sliced]
  cases A <;> simp [Addr.add]
theorem exec_slice {t : TypeId} {x : Operand} {lo hi mx : Option Operand} (ho : o.op = .slice t x lo hi mx) {vx : Value} {vl vh vm : Option Value} (hx : a.eval x = vx) (hl : lo.map a.eval = vl) (hh : hi.map a.eval = vh) (hm : mx.map a.eval = vm) (h : (Instr.sliceAt t vx vl vh vm).run P w = .ok v w) : (execOp a.eval o).run P w = .ok (.value v) w := by
  unfold execOp; simp only [ho, hx, hl, hh, hm, Sem.run_bind, h, Result.andThen_ok, Sem.run_pure]
/-- a call of a Go function -/
theorem exec_call {f : FuncId} {args : List Operand} {ts : Array TypeId} {vals : List Value} (ho : o.op = .call { callee := .value (.func f), args := args.toArray, argTypes := ts }) (hv : args.map a.eval = vals)
    (hf : ((P.funcs[f]?).map fun fn => fn.name == "runtime.NumGoroutine" || fn.body.isNone) = some false) : (execOp a.eval o).run P w = .ok (.enter f vals.toArray) w := by
  obtain ⟨fn, hfn, hb⟩ := Option.map_eq_some_iff.1 hf
  rw [Bool.or_eq_false_iff] at hb
  have h1 : fn.name ≠ "runtime.NumGoroutine" := fun h => by rw [h] at hb; simp at hb
  have h2 : fn.body ≠ none := fun h => by rw [h] at hb; simp at hb
  unfold execOp
  simp only [ho, resolve, List.map_toArray, hv, Act.eval, Deferred.ofValue]
  simp [Sem.run_bind, Result.andThen, invoke, callFunc, hfn, h1, h2]
theorem wp_call {f : FuncId} {args : List Operand} {ts : Array TypeId} {vals : List Value} {R : Ending → World → Prop} {n : Nat} (ho : o.op = .call { callee := .value (.func f), args := args.toArray, argTypes := ts }) (hd : o.dst = some n) (hv : args.map a.eval = vals)
    (hf : ((P.funcs[f]?).map fun fn => fn.name == "runtime.NumGoroutine" || fn.body.isNone) = some false) {K : Act → World → Prop} (hc : Calls P f vals.toArray w R) (hK : ∀ e w', R e w' → ∃ v, e = .returned v ∧ K (a.put (some n) v) w') : Oper.wp P o a w K Q := by
  unfold Oper.wp
  rw [exec_call ho hv hf, Oper.upon_enter]
  refine hc.mono ?_
  intro e w' hR
  obtain ⟨v, rfl, h⟩ := hK e w' hR
  rw [hd]; exact h
theorem exec_load {t : TypeId} {x : Operand} (ho : o.op = .load t x) {vx : Value} (hx : a.eval x = vx) (h : (Instr.loadAt t vx).run P w = .ok v w) : (execOp a.eval o).run P w = .ok (.value v) w := by
  unfold execOp; simp only [ho, hx, Sem.run_bind, h, Result.andThen_ok, Sem.run_pure]
theorem exec_field {t : TypeId} {x : Operand} {f : Nat} (ho : o.op = .fieldAddr t x f) {vx : Value} (hx : a.eval x = vx) (h : (Instr.fieldAt t vx f).run P w = .ok v w) : (execOp a.eval o).run P w = .ok (.value v) w := by
  unfold execOp; simp only [ho, hx, Sem.run_bind, h, Result.andThen_ok, Sem.run_pure]
theorem exec_index {t : TypeId} {x i : Operand} (ho : o.op = .index t x i) {vx vi : Value} (hx : a.eval x = vx) (hi : a.eval i = vi) (h : (Instr.index t vx vi).run P w = .ok v w) : (execOp a.eval o).run P w = .ok (.value v) w := by
  unfold execOp; simp only [ho, hx, hi, Sem.run_bind, h, Result.andThen_ok, Sem.run_pure]
theorem exec_indexAddr {t : TypeId} {x i : Operand} (ho : o.op = .indexAddr t x i) {vx vi : Value} (hx : a.eval x = vx) (hi : a.eval i = vi) (h : (Instr.indexAt t vx vi).run P w = .ok v w) : (execOp a.eval o).run P w = .ok (.value v) w := by
  unfold execOp; simp only [ho, hx, hi, Sem.run_bind, h, Result.andThen_ok, Sem.run_pure]
theorem exec_un {op : UnOp} {t : TypeId} {x : Operand} (ho : o.op = .unOp op t x) {vx : Value} (hx : a.eval x = vx) (h : (Op.unary op vx).run P w = .ok v w) : (execOp a.eval o).run P w = .ok (.value v) w := by
  unfold execOp; simp only [ho, hx, Sem.run_bind, h, Result.andThen_ok, Sem.run_pure]
theorem exec_pick {c x y : Operand} (ho : o.op = .pick c x y) {b : Bool} {vx vy : Value} (hc : a.eval c = .bool b) (hx : a.eval x = vx) (hy : a.eval y = vy) (hv : v = if b then vx else vy) : (execOp a.eval o).run P w = .ok (.value v) w := by
  unfold execOp; subst hv; simp [ho, hc, hx, hy, asBool, Sem.run_pure]
theorem exec_buildSlice {t : TypeId} {n : Nat} {parts : List (Nat × Operand)} {w' : World} (ho : o.op = .buildSlice t n parts.toArray) {vs : List (Nat × Value)} (hx : parts.map (fun (i, x) => (i, a.eval x)) = vs) (h : (Instr.buildSlice t n vs.toArray).run P w = .ok v w') : (execOp a.eval o).run P w = .ok (.value v) w' := by
  unfold execOp; simp only [ho, List.map_toArray, hx, Sem.run_bind, h, Result.andThen_ok, Sem.run_pure]
theorem wp_valw {w' : World} (hx : (execOp a.eval o).run P w = .ok (.value v) w') {n : Nat} (hd : o.dst = some n) {K : Act → World → Prop} (h : K (a.put (some n) v) w') : Oper.wp P o a w K Q := by
  unfold Oper.wp
  rw [hx, Oper.upon_value, hd]; exact h
theorem wp_store {t : TypeId} {x y : Operand} {w' : World} (ho : o.op = .store t x y) (hd : o.dst = none) {vx vy : Value} (hx : a.eval x = vx) (hy : a.eval y = vy) (h : (Instr.storeAt t vx vy).run P w = .ok () w') {K : Act → World → Prop} (hK : K a w') : Oper.wp P o a w K Q := by
  unfold Oper.wp execOp; simp only [ho, hx, hy, Sem.run_bind, h, Result.andThen_ok, Sem.run_pure, Oper.upon_skip, hd]
  exact hK
end
end Go.Proofs.Ytciiejkfppnimaa.Mem

namespace Go.Proofs.Ytciiejkfppnimaa
open Go.RowKit Mem
set_option linter.unusedVariables false
theorem strIdx_run (xs : Bytes) (k : Nat) (h : k < xs.length) (w : World) : (Instr.index 9 (.string ⟨xs.toArray⟩) (.int .i64 (k : Int))).run Try.prog w = .ok (.int .u8 (xs[k].toNat : Int)) w := by
  have h0 : (0 : Int) ≤ (k : Int) := by omega
  have h1 : (k : Int) < (xs.length : Int) := by omega
  have hsz : (⟨xs.toArray⟩ : ByteArray).size = xs.length := by simp [ByteArray.size]
  have hg : (⟨xs.toArray⟩ : ByteArray).get! k = xs[k] := by simp [ByteArray.get!, h]
  go_simp
  show ((xs.toArray[k]'(by simpa using h)).toNat : Int) = _
  simp
theorem ba_app (xs ys : Bytes) : (⟨xs.toArray⟩ : ByteArray) ++ ⟨ys.toArray⟩ = ⟨(xs ++ ys).toArray⟩ := ByteArray.ext (by rw [ByteArray.data_append]; simp)
theorem elt_str : Elt Try.prog 9 Ty.string.sz (.string ⟨#[]⟩) := Elt.of (b := 16) (by kernel_rfl) rfl (by decide) (by decide)
def toS (xs : Bytes) : ByteArray := ⟨xs.toArray⟩
theorem row_str (w : World) (e : TypeId) (s : ByteArray) : Row Ty.string (w.alloc (.cells #[.string s] e)) (· = w.heap.size) (some ⟨w.heap.size, 0, none⟩) 1 [s] := by
  refine ⟨rfl, by omega, fun _ => ⟨_, rfl, rfl, fun j x hj => ?_⟩⟩
  have hj0 : j = 0 := by have := (List.getElem?_eq_some_iff.1 hj).1; simp at this; exact this
  subst hj0
  have hx : x = s := by simpa using hj.symm
  subst hx
  refine ⟨[.string x], rfl, fun i u hu => ?_⟩
  rw [show 0 * Ty.string.sz + i = i by omega, add_own, cell_of_row _ _ i _ e (0, 0) (heap_alloc_new w _)]
  simpa using hu
theorem ba_ext (xs : Bytes) (i j : Nat) : (⟨xs.toArray⟩ : ByteArray).extract i j = ⟨((xs.take j).drop i).toArray⟩ := by
  apply ByteArray.ext
  rw [ByteArray.data_extract]
  simp [List.drop_take]
theorem row_of_strings (w : World) (e : TypeId) (ss : List ByteArray) (h : ss.length ≤ 9223372036854775807) : Row Ty.string (w.alloc (.cells (ss.map Value.string).toArray e)) (· = w.heap.size) (some ⟨w.heap.size, 0, none⟩) ss.length ss := by
  refine ⟨rfl, h, fun _ => ⟨_, rfl, rfl, fun j x hj => ⟨[.string x], rfl, fun i u hu => ?_⟩⟩⟩
  have hi : i = 0 := by have := (List.getElem?_eq_some_iff.1 hu).1; simpa using this
  subst hi
  rw [show j * Ty.string.sz + 0 = j from Nat.mul_one j, add_own, cell_of_row _ _ j _ e (0, 0) (heap_alloc_new w _)]
  rw [List.getElem?_toArray, List.getElem?_map, hj]
  simpa using hu
end Go.Proofs.Ytciiejkfppnimaa

namespace Go.Proofs.Ytciiejkfppnimaa
open Go.RowKit Mem
set_option linter.unusedVariables false

set_option maxHeartbeats 1000000 in
set_option maxRecDepth 100000 in
theorem decimal_calls (m : Nat) (hm : m ≤ 18) (xs : Bytes) (hx : xs.length ≤ 34359738368) (w : World) : Calls Try.prog 51 #[.string ⟨xs.toArray⟩, .int .i64 (m : Int)] w (Ret (.tuple #[.int .i64 ((decL m xs).1 : Int), .bool (decL m xs).2]) w) := by
  have hsz : (⟨xs.toArray⟩ : ByteArray).size = xs.length := by simp [ByteArray.size]
  have HD : Sec (decL m xs = if 1 ≤ xs.length ∧ xs.length ≤ m ∧ ¬ (xs[0]? = some 48 ∧ 1 < xs.length) ∧ ∀ b, b ∈ xs → digB b then (valL xs, true) else (0, false)) := ⟨rfl⟩
  by_cases h1 : xs.length < 1
  · have h1i : (xs.length : Int) < 1 := by omega
    have HE : Sec (decL m xs = (0, false)) := ⟨by rw [HD.out, if_neg (by omega)]⟩
    go_enter Try.func51, Try.ntmps51
    go_wp2
    go_ret2
    rw [HE.out]
    exact ⟨rfl, Mod.refl _ _⟩
  have h1i : ¬ (xs.length : Int) < 1 := by omega
  by_cases h2 : m < xs.length
  · have h2i : (m : Int) < (xs.length : Int) := by omega
    have HE : Sec (decL m xs = (0, false)) := ⟨by rw [HD.out, if_neg (by omega)]⟩
    go_enter Try.func51, Try.ntmps51
    go_wp2
    go_ret2
    rw [HE.out]
    exact ⟨rfl, Mod.refl _ _⟩
  have h2i : ¬ (m : Int) < (xs.length : Int) := by omega
  have hg0 := strIdx_run xs 0 (by omega)
  simp only [Int.ofNat_zero] at hg0
  have E0 : Sec (xs[0]? = some xs[0]) := ⟨List.getElem?_eq_getElem _⟩
  generalize xs[0] = b0 at *
  by_cases hbad : b0 = 48 ∧ 1 < xs.length
  · obtain ⟨rfl, h3⟩ := hbad
    have h3i : (1 : Int) < (xs.length : Int) := by omega
    have HE : Sec (decL m xs = (0, false)) := ⟨by rw [HD.out, if_neg]; rintro ⟨_, _, h, _⟩; exact h ⟨E0.out, h3⟩⟩
    have hq0 : ((48 : UInt8).toNat : Int) = 48 := rfl
    rw [hq0] at hg0
    go_enter Try.func51, Try.ntmps51
    go_wp2
    go_ret2
    rw [HE.out]
    exact ⟨rfl, Mod.refl _ _⟩
  have HOK : Sec (¬ (xs[0]? = some 48 ∧ 1 < xs.length)) := ⟨fun h => hbad ⟨Option.some.inj (E0.out.symm.trans h.1), h.2⟩⟩
  have HNO : Sec (∀ j, (hj : j < xs.length) → ¬ digB xs[j] → decL m xs = (0, false)) := ⟨fun j hj h => by rw [HD.out, if_neg]; rintro ⟨_, _, _, hd⟩; exact h (hd _ (List.getElem_mem hj))⟩
  have HYES : Sec ((∀ j, (hj : j < xs.length) → j < xs.length → digB xs[j]) → decL m xs = (valL xs, true)) := ⟨fun h => by rw [HD.out, if_pos ⟨by omega, by omega, HOK.out, fun b hb => by obtain ⟨j, hj, rfl⟩ := List.getElem_of_mem hb; exact h j hj hj⟩]⟩
  have HLT := Sec.mk (valL_lt xs)
  clear E0 HD HOK
  rcases (show (b0 = 48 ∧ xs.length = 1) ∨ b0 ≠ 48 by by_cases h : b0 = 48; exact .inl ⟨h, by have : ¬ (1 < xs.length) := fun h' => hbad ⟨h, h'⟩; omega⟩; exact .inr h) with ⟨rfl, h3⟩ | h3
  · have h3i : ¬ (1 : Int) < (xs.length : Int) := by omega
    have hq0 : ((48 : UInt8).toNat : Int) = 48 := rfl
    rw [hq0] at hg0
    clear hbad
    go_enter Try.func51, Try.ntmps51
    go_wp2
    go_loopw [6, 29] (fun n i wr => ∃ k : Nat, k ≤ xs.length ∧ i = .int .i64 (k : Int) ∧ n = .int .i64 ((valL (xs.take k) : Nat) : Int) ∧ Sec (∀ j, (hj : j < xs.length) → j < k → digB xs[j]) ∧ Sec (New w wr)) (fun _ i _ => xs.length - (intOf i).toNat)
    case atStart => exact ⟨0, Nat.zero_le _, rfl, rfl, ⟨fun j _ h => absurd h (Nat.not_lt_zero _)⟩, ⟨Mod.refl _ _⟩⟩
    case round =>
      obtain ⟨k, hk, rfl, rfl, HA, HM⟩ := hrel
      clear hg0
      by_cases hlt : k < xs.length
      · have hki : (k : Int) < (xs.length : Int) := by omega
        have hgx := strIdx_run xs k hlt
        have hv := Nat.lt_of_lt_of_le (HLT.out k hk HA.out) (pow_le18 (k := k) (by omega))
        have HVT := Sec.mk (valL_take xs hlt)
        have HNK := Sec.mk (HNO.out k hlt)
        have HA2 : Sec (digB xs[k] → ∀ j, (hj : j < xs.length) → j < k + 1 → digB xs[j]) := ⟨fun h j hj hjk => by rcases Nat.lt_succ_iff_lt_or_eq.1 hjk with h' | rfl; exact HA.out j hj h'; exact h⟩
        have hb := UInt8.toNat_lt xs[k]
        generalize xs[k] = b at *
        generalize valL (xs.take k) = v at *
        by_cases ha : b.toNat < 48
        · have hai : (b.toNat : Int) < 48 := by omega
          have HE := Sec.mk (HNK.out (fun h => by have := h.1; omega))
          go_wp2
          go_ret2
          rw [HE.out]
          exact ⟨rfl, HM.out⟩
        have hai : ¬ (b.toNat : Int) < 48 := by omega
        by_cases hc : 57 < b.toNat
        · have hci : (57 : Int) < (b.toNat : Int) := by omega
          have HE := Sec.mk (HNK.out (fun h => by have := h.2; omega))
          go_wp2
          go_ret2
          rw [HE.out]
          exact ⟨rfl, HM.out⟩
        have hci : ¬ (57 : Int) < (b.toNat : Int) := by omega
        have HA3 := Sec.mk (HA2.out ⟨by omega, by omega⟩)
        go_wp2
        go_roundw
        case rel => exact ⟨k + 1, by omega, by go_num, by rw [HVT.out]; go_num, HA3, HM⟩
        case measure => simp [intOf]; omega
      · obtain rfl : k = xs.length := by omega
        have HE := Sec.mk (HYES.out HA.out)
        rw [List.take_length]
        go_wp2
        go_ret2
        rw [HE.out]
        exact ⟨rfl, HM.out⟩
  · have h3i : ¬ ((b0.toNat : Int) = 48) := fun h => h3 (UInt8.toNat.inj (by show b0.toNat = 48; omega))
    clear h3 hbad
    go_enter Try.func51, Try.ntmps51
    go_wp2
    go_loopw [6, 29] (fun n i wr => ∃ k : Nat, k ≤ xs.length ∧ i = .int .i64 (k : Int) ∧ n = .int .i64 ((valL (xs.take k) : Nat) : Int) ∧ Sec (∀ j, (hj : j < xs.length) → j < k → digB xs[j]) ∧ Sec (New w wr)) (fun _ i _ => xs.length - (intOf i).toNat)
    case atStart => exact ⟨0, Nat.zero_le _, rfl, rfl, ⟨fun j _ h => absurd h (Nat.not_lt_zero _)⟩, ⟨Mod.refl _ _⟩⟩
    case round =>
      obtain ⟨k, hk, rfl, rfl, HA, HM⟩ := hrel
      clear hg0
      by_cases hlt : k < xs.length
      · have hki : (k : Int) < (xs.length : Int) := by omega
        have hgx := strIdx_run xs k hlt
        have hv := Nat.lt_of_lt_of_le (HLT.out k hk HA.out) (pow_le18 (k := k) (by omega))
        have HVT := Sec.mk (valL_take xs hlt)
        have HNK := Sec.mk (HNO.out k hlt)
        have HA2 : Sec (digB xs[k] → ∀ j, (hj : j < xs.length) → j < k + 1 → digB xs[j]) := ⟨fun h j hj hjk => by rcases Nat.lt_succ_iff_lt_or_eq.1 hjk with h' | rfl; exact HA.out j hj h'; exact h⟩
        have hb := UInt8.toNat_lt xs[k]
        generalize xs[k] = b at *
        generalize valL (xs.take k) = v at *
        by_cases ha : b.toNat < 48
        · have hai : (b.toNat : Int) < 48 := by omega
          have HE := Sec.mk (HNK.out (fun h => by have := h.1; omega))
          go_wp2
          go_ret2
          rw [HE.out]
          exact ⟨rfl, HM.out⟩
        have hai : ¬ (b.toNat : Int) < 48 := by omega
        by_cases hc : 57 < b.toNat
        · have hci : (57 : Int) < (b.toNat : Int) := by omega
          have HE := Sec.mk (HNK.out (fun h => by have := h.2; omega))
          go_wp2
          go_ret2
          rw [HE.out]
          exact ⟨rfl, HM.out⟩
        have hci : ¬ (57 : Int) < (b.toNat : Int) := by omega
        have HA3 := Sec.mk (HA2.out ⟨by omega, by omega⟩)
        go_wp2
        go_roundw
        case rel => exact ⟨k + 1, by omega, by go_num, by rw [HVT.out]; go_num, HA3, HM⟩
        case measure => simp [intOf]; omega
      · obtain rfl : k = xs.length := by omega
        have HE := Sec.mk (HYES.out HA.out)
        rw [List.take_length]
        go_wp2
        go_ret2
        rw [HE.out]
        exact ⟨rfl, HM.out⟩


set_option maxHeartbeats 1000000 in
set_option maxRecDepth 100000 in
theorem l4Number_calls (xs : Bytes) (hx : xs.length ≤ 34359738368) (w : World) : Calls Try.prog 59 #[.string ⟨xs.toArray⟩] w (Ret (.tuple #[.int .i64 ((numL xs).1 : Int), .bool (numL xs).2]) w) := by
  have hsz : (⟨xs.toArray⟩ : ByteArray).size = xs.length := by simp [ByteArray.size]
  have HD : Sec (numL xs = if 1 ≤ xs.length ∧ xs.length ≤ 13 ∧ ∀ b, b ∈ xs → digB b then (valL xs, decide (Lib.decDigits (valL xs) = xs)) else (0, false)) := ⟨rfl⟩
  by_cases h1 : xs.length < 1
  · have h1i : (xs.length : Int) < 1 := by omega
    have HE : Sec (numL xs = (0, false)) := ⟨by rw [HD.out, if_neg (by omega)]⟩
    go_enter Try.func59, Try.ntmps59
    go_wp2
    go_ret2
    rw [HE.out]
    exact ⟨rfl, Mod.refl _ _⟩
  have h1i : ¬ (xs.length : Int) < 1 := by omega
  by_cases h2 : 13 < xs.length
  · have h2i : (13 : Int) < (xs.length : Int) := by omega
    have HE : Sec (numL xs = (0, false)) := ⟨by rw [HD.out, if_neg (by omega)]⟩
    go_enter Try.func59, Try.ntmps59
    go_wp2
    go_ret2
    rw [HE.out]
    exact ⟨rfl, Mod.refl _ _⟩
  have h2i : ¬ (13 : Int) < (xs.length : Int) := by omega
  have HNO : Sec (∀ j, (hj : j < xs.length) → ¬ digB xs[j] → numL xs = (0, false)) := ⟨fun j hj h => by rw [HD.out, if_neg]; rintro ⟨_, _, hd⟩; exact h (hd _ (List.getElem_mem hj))⟩
  have HYES : Sec ((∀ j, (hj : j < xs.length) → j < xs.length → digB xs[j]) → numL xs = (valL xs, decide (Lib.decDigits (valL xs) = xs))) := ⟨fun h => by rw [HD.out, if_pos ⟨by omega, by omega, fun b hb => by obtain ⟨j, hj, rfl⟩ := List.getElem_of_mem hb; exact h j hj hj⟩]⟩
  have HLT := Sec.mk (valL_lt xs)
  clear HD
  go_enter Try.func59, Try.ntmps59
  go_wp2
  go_loopw [4, 5] (fun n i wr => ∃ k : Nat, k ≤ xs.length ∧ i = .int .i64 (k : Int) ∧ n = .int .i64 ((valL (xs.take k) : Nat) : Int) ∧ Sec (∀ j, (hj : j < xs.length) → j < k → digB xs[j]) ∧ Sec (New w wr)) (fun _ i _ => xs.length - (intOf i).toNat)
  case atStart => exact ⟨0, Nat.zero_le _, rfl, rfl, ⟨fun j _ h => absurd h (Nat.not_lt_zero _)⟩, ⟨Mod.refl _ _⟩⟩
  case round =>
    obtain ⟨k, hk, rfl, rfl, HA, HM⟩ := hrel
    by_cases hlt : k < xs.length
    · have hki : (k : Int) < (xs.length : Int) := by omega
      have hgx := strIdx_run xs k hlt
      have hv := Nat.lt_of_lt_of_le (HLT.out k hk HA.out) (pow_le18 (k := k) (by omega))
      have HVT := Sec.mk (valL_take xs hlt)
      have HNK := Sec.mk (HNO.out k hlt)
      have HA2 : Sec (digB xs[k] → ∀ j, (hj : j < xs.length) → j < k + 1 → digB xs[j]) := ⟨fun h j hj hjk => by rcases Nat.lt_succ_iff_lt_or_eq.1 hjk with h' | rfl; exact HA.out j hj h'; exact h⟩
      have hb := UInt8.toNat_lt xs[k]
      generalize xs[k] = b at *
      generalize valL (xs.take k) = v at *
      by_cases ha : b.toNat < 48
      · have hai : (b.toNat : Int) < 48 := by omega
        have HE := Sec.mk (HNK.out (fun h => by have := h.1; omega))
        go_wp2
        go_ret2
        rw [HE.out]
        exact ⟨rfl, HM.out⟩
      have hai : ¬ (b.toNat : Int) < 48 := by omega
      by_cases hc : 57 < b.toNat
      · have hci : (57 : Int) < (b.toNat : Int) := by omega
        have HE := Sec.mk (HNK.out (fun h => by have := h.2; omega))
        go_wp2
        go_ret2
        rw [HE.out]
        exact ⟨rfl, HM.out⟩
      have hci : ¬ (57 : Int) < (b.toNat : Int) := by omega
      have HA3 := Sec.mk (HA2.out ⟨by omega, by omega⟩)
      go_wp2
      go_roundw
      case rel => exact ⟨k + 1, by omega, by go_num, by rw [HVT.out]; go_num, HA3, HM⟩
      case measure => simp [intOf]; omega
    · obtain rfl : k = xs.length := by omega
      have HE := Sec.mk (HYES.out HA.out)
      have hv := HLT.out xs.length (Nat.le_refl _) HA.out
      have hp : (10 : Nat) ^ xs.length ≤ 10000000000000 := Nat.le_trans (Nat.pow_le_pow_right (by decide) (show xs.length ≤ 13 by omega)) (by decide)
      rw [List.take_length] at hv ⊢
      have HL := Sec.mk (fun w => l1Dec_calls (valL xs) (by omega) w)
      generalize valL xs = v at *
      go_wp2_with fail
      refine (HL.out _).mono ?_
      rintro e w2 ⟨rfl, hm2⟩
      have HM2 := Sec.mk (HM.out.transN hm2)
      clear hm2 HL
      by_cases hd : Lib.decDigits v = xs
      · have HE2 : Sec (numL xs = (v, true)) := ⟨by rw [HE.out]; simp [hd]⟩
        have hz : (Lib.decDigits v == xs) = true := by simp [hd]
        clear hd
        go_wp2
        go_ret2
        rw [HE2.out]
        exact ⟨by simp, HM2.out⟩
      · have HE2 : Sec (numL xs = (v, false)) := ⟨by rw [HE.out]; simp [hd]⟩
        have hz : (Lib.decDigits v == xs) = false := by simpa using hd
        clear hd
        go_wp2
        go_ret2
        rw [HE2.out]
        exact ⟨by simp, HM2.out⟩

end Go.Proofs.Ytciiejkfppnimaa
