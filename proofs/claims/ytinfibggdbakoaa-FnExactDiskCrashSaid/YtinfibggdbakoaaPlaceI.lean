/- The program's place of a name: nameOf, the closure, sort.Search, place. -/
import Derived.Test.YtinfibggdbakoaaDiskC
import Derived.Test.YtinfibggdbakoaaReg2D
import Derived.Test.YtinfibggdbakoaaOrderS
namespace Go.Proofs.Ytinfibggdbakoaa
open Go.RowKit Mem
set_option linter.unusedVariables false
set_option linter.unusedSimpArgs false
namespace Mem
variable {P : Program} {o : Oper} {a : Act} {w : World} {v : Value} {Q : Exit → Act → World → Prop}
/-- a call of a Go function that lies in a slot -/
theorem exec_callF {x : Operand} {f : FuncId} {args : List Operand} {ts : Array TypeId} {vals : List Value} (ho : o.op = .call { callee := .value x, args := args.toArray, argTypes := ts }) (hx : a.eval x = .func (.func f) #[] #[]) (hv : args.map a.eval = vals)
    (hf : ((P.funcs[f]?).map fun fn => fn.name == "runtime.NumGoroutine" || fn.body.isNone) = some false) : (execOp a.eval o).run P w = .ok (.enter f vals.toArray) w := by
  obtain ⟨fn, hfn, hb⟩ := Option.map_eq_some_iff.1 hf
  rw [Bool.or_eq_false_iff] at hb
  have h1 : fn.name ≠ "runtime.NumGoroutine" := fun h => by rw [h] at hb; simp at hb
  have h2 : fn.body ≠ none := fun h => by rw [h] at hb; simp at hb
  unfold execOp
  simp only [ho, resolve, List.map_toArray, hv, hx, Deferred.ofValue]
  simp [Sem.run_bind, Result.andThen, invoke, callFunc, hfn, h1, h2]
theorem wp_callF {x : Operand} {f : FuncId} {args : List Operand} {ts : Array TypeId} {vals : List Value} {R : Ending → World → Prop} {n : Nat} (ho : o.op = .call { callee := .value x, args := args.toArray, argTypes := ts }) (hx : a.eval x = .func (.func f) #[] #[]) (hd : o.dst = some n) (hv : args.map a.eval = vals)
    (hf : ((P.funcs[f]?).map fun fn => fn.name == "runtime.NumGoroutine" || fn.body.isNone) = some false) {K : Act → World → Prop} (hc : Calls P f vals.toArray w R) (hK : ∀ e w', R e w' → ∃ v, e = .returned v ∧ K (a.put (some n) v) w') : Oper.wp P o a w K Q := by
  unfold Oper.wp
  rw [exec_callF ho hx hv hf, Oper.upon_enter]
  refine hc.mono ?_
  intro e w' hR
  obtain ⟨v, rfl, h⟩ := hK e w' hR
  rw [hd]; exact h
end Mem
theorem lenES (A : Option Addr) (n c : Nat) (w : World) : ∀ ty, (invoke (.builtin .len #[30] ty #[false]) #[.slice A n c]).run Try.prog w = .ok (.value (.int .i64 (n : Int))) w := by intro ty; go_simp
theorem exec_lenE {P : Program} {o : Oper} {a : Act} {w : World} {k : Nat} {t : TypeId} {A : Option Addr} {n c : Nat} (ho : o.op = .call { callee := .builtin .len, args := #[.tmp k], argTypes := #[t] }) (hx : a.eval (.tmp k) = .slice A n c) (h : ∀ ty, (invoke (.builtin .len #[t] ty #[false]) #[.slice A n c]).run P w = .ok (.value (.int .i64 (n : Int))) w) : (execOp a.eval o).run P w = .ok (.value (.int .i64 (n : Int))) w := by
  unfold execOp; simp only [ho, resolve, Sem.run_bind, Sem.run_pure, Result.andThen_ok, List.map_toArray, List.map_cons, List.map_nil, hx, h]
theorem ldSlE {w : World} {p : Addr} {v : Value} (h : w.cell? p = some v) : (Instr.loadAt 30 (.pointer (some p))).run Try.prog w = .ok v w := by go_simp
theorem ldFn {w : World} {p : Addr} {v : Value} (h : w.cell? p = some v) : (Instr.loadAt 95 (.pointer (some p))).run Try.prog w = .ok v w := by go_simp
theorem ldEntry {w : World} {ad : Addr} {z : Bytes} {u : Int} (h0 : w.cell? ad = some (.string ⟨z.toArray⟩)) (h1 : w.cell? ⟨ad.block, ad.off + 1, none⟩ = some (.int .i64 u)) : (Instr.loadAt 70 (.pointer (some ad))).run Try.prog w = .ok (.agg #[.string ⟨z.toArray⟩, .int .i64 u]) w := by go_simp
theorem geqE (xs ys : Bytes) (x y : Operand) (w : World) : (do eqGuard .geq 9 x y (.string ⟨xs.toArray⟩) (.string ⟨ys.toArray⟩); binOp .geq 9 (.string ⟨xs.toArray⟩) (.string ⟨ys.toArray⟩) : Sem Value).run Try.prog w = .ok (.bool (decide (¬ xs < ys))) w := by
  have h := strGe xs ys w
  go_simp
theorem nameOf_calls (z : Bytes) (u : Int) (w : World) : Calls Try.prog 62 #[.agg #[.string ⟨z.toArray⟩, .int .i64 u]] w (Ret (.string ⟨z.toArray⟩) w) := by
  go_enter Try.func62, Try.ntmps62
  go_wp2
  go_ret
  exact ⟨rfl, (Mod.refl _ _).alloc _⟩
set_option maxHeartbeats 4000000 in
set_option maxRecDepth 100000 in
theorem placeF_calls {A : Option Addr} {c : Nat} {xs : List EntryT} {B : Nat → Prop} {w : World} (h : Row dEntry w B A xs.length xs) (hB : ∀ k, B k → k < w.heap.size) (nm : Bytes) {pf pl pk : Addr} (hf : w.cell? pf = some (.func (.func 62) #[] #[])) (hl : w.cell? pl = some (.slice A xs.length c)) (hk : w.cell? pk = some (.string ⟨nm.toArray⟩)) (k : Nat) (hlt : k < xs.length) :
    Calls Try.prog 73 #[.int .i64 (k : Int), .pointer (some pf), .pointer (some pl), .pointer (some pk)] w (Ret (.bool (decide (¬ xs[k].1 < nm))) w) := by
  have HR := Sec.mk h
  have HB := Sec.mk hB
  have HC : Sec (∀ W, New w W → W.cell? pf = some (.func (.func 62) #[] #[]) ∧ W.cell? pl = some (.slice A xs.length c) ∧ W.cell? pk = some (.string ⟨nm.toArray⟩)) := ⟨fun W hW => ⟨hW.cell_of hf, hW.cell_of hl, hW.cell_of hk⟩⟩
  obtain ⟨ad, rfl, -, -, -, -⟩ := ent_at HR.out (w' := w) (fun _ _ => rfl) hlt
  have HE : Sec (∀ W, New w W → W.cell? (ad.add (k * 2)) = some (.string ⟨xs[k].1.toArray⟩) ∧ W.cell? ⟨(ad.add (k * 2)).block, (ad.add (k * 2)).off + 1, none⟩ = some (.int .i64 xs[k].2)) := ⟨fun W hW => by
    obtain ⟨ad', hA, h0, h1, _, _⟩ := ent_at HR.out (w' := W) (fun i hi => hW.block i (HB.out i hi) id) hlt
    obtain rfl := Option.some.inj hA
    exact ⟨h0, h1⟩⟩
  generalize xs[k].1 = z at *
  generalize xs[k].2 = u at *
  clear h hB hf hl hk HR
  go_enter Try.func73, Try.ntmps73
  go_wp2
  refine reg_start [] (fun W => Sec (New w W)) (by kernel_rfl) ?_
  have HSS : Sec (New w w.drew) := ⟨(Mod.refl _ _).drew⟩
  refine reg_take (.func (.func 62) #[] #[]) (i := 0) (n := 6) HSS rfl (by kernel_rfl) (by kernel_rfl) (by kernel_rfl) (by kernel_rfl) (fun _ _ _ h => h) (fun W hW => exec_load rfl rfl (ldFn (HC.out W hW.out).1)) ?_
  simp only [Act.put, List.setIfInBounds_toArray, List.set_cons_zero, List.set_cons_succ]
  refine reg_take (.slice (some ad) xs.length c) (i := 1) (n := 7) HSS rfl (by kernel_rfl) (by kernel_rfl) (by kernel_rfl) (by kernel_rfl) (fun _ _ _ h => h) (fun W hW => exec_load rfl rfl (ldSlE (HC.out W hW.out).2.1)) ?_
  simp only [Act.put, List.setIfInBounds_toArray, List.set_cons_zero, List.set_cons_succ]
  refine reg_take (.int .i64 (k : Int)) (i := 2) (n := 8) HSS rfl (by kernel_rfl) (by kernel_rfl) (by kernel_rfl) (by kernel_rfl) (fun _ _ _ h => h) (fun W hW => exec_move rfl rfl) ?_
  simp only [Act.put, List.setIfInBounds_toArray, List.set_cons_zero, List.set_cons_succ]
  refine reg_take (.pointer (some (ad.add (k * 2)))) (i := 3) (n := 9) HSS rfl (by kernel_rfl) (by kernel_rfl) (by kernel_rfl) (by kernel_rfl) (fun _ _ _ h => h) (fun W hW => exec_indexAddr rfl rfl rfl (idxEntryS _ _ _ _ hlt _)) ?_
  simp only [Act.put, List.setIfInBounds_toArray, List.set_cons_zero, List.set_cons_succ]
  refine reg_take (.agg #[.string ⟨z.toArray⟩, .int .i64 u]) (i := 4) (n := 10) HSS rfl (by kernel_rfl) (by kernel_rfl) (by kernel_rfl) (by kernel_rfl) (fun _ _ _ h => h) (fun W hW => exec_load rfl rfl (ldEntry (HE.out W hW.out).1 (HE.out W hW.out).2)) ?_
  simp only [Act.put, List.setIfInBounds_toArray, List.set_cons_zero, List.set_cons_succ]
  refine reg_take (.string ⟨nm.toArray⟩) (i := 6) (n := 12) HSS rfl (by kernel_rfl) (by kernel_rfl) (by kernel_rfl) (by kernel_rfl) (fun _ _ _ h => h) (fun W hW => exec_load rfl rfl (ldStr (HC.out W hW.out).2.2)) ?_
  simp only [Act.put, List.setIfInBounds_toArray, List.set_cons_zero, List.set_cons_succ]
  refine reg_step (i := 5) rfl (by kernel_rfl) (fun K hK => ?_)
  refine wp_callF (n := 11) (vals := [.agg #[.string ⟨z.toArray⟩, .int .i64 u]]) rfl rfl rfl rfl (by kernel_rfl) (nameOf_calls z u _) ?_
  rintro e w3 ⟨rfl, hm3⟩
  have HSS : Sec (New w w3) := ⟨HSS.out.transN hm3⟩
  refine ⟨_, rfl, hK.out _ _ (fun _ => HSS) ?_⟩
  clear hm3
  clear hK K
  simp only [Act.put, List.setIfInBounds_toArray, List.set_cons_zero, List.set_cons_succ]
  refine reg_take (.bool (decide (¬ z < nm))) (i := 7) (n := 13) HSS rfl (by kernel_rfl) (by kernel_rfl) (by kernel_rfl) (by kernel_rfl) (fun _ _ _ h => h) (fun W hW => exec_bin rfl rfl rfl (geqE _ _ _ _ _)) ?_
  simp only [Act.put, List.setIfInBounds_toArray, List.set_cons_zero, List.set_cons_succ]
  refine reg_take (.bool (decide (¬ z < nm))) (i := 8) (n := 5) HSS rfl (by kernel_rfl) (by kernel_rfl) (by kernel_rfl) (by kernel_rfl) (fun _ _ _ h => h) (fun W hW => exec_assign rfl rfl) ?_
  simp only [Act.put, List.setIfInBounds_toArray, List.set_cons_zero, List.set_cons_succ]
  refine reg_done (by kernel_rfl) ?_ _
  go_wp2
  go_ret
  exact ⟨rfl, HSS.out⟩
theorem countP_bound {p : Nat → Bool} {n hi : Nat} (hin : hi ≤ n) (h1 : ∀ t, t < hi → p t = false) (h2 : ∀ t, hi ≤ t → t < n → p t = true) : (List.range n).countP (fun i => !p i) = hi := by
  obtain ⟨m, rfl⟩ := Nat.exists_eq_add_of_le hin
  rw [List.range_add, List.countP_append, List.countP_eq_length.2 (fun a ha => by rw [h1 a (List.mem_range.1 ha)]; rfl), List.length_range, List.countP_eq_zero.2 (fun a ha => by
    obtain ⟨b, hb, rfl⟩ := List.mem_map.1 ha
    have := List.mem_range.1 hb
    rw [h2 _ (by omega) (by omega)]; simp)]
  rfl
set_option maxHeartbeats 4000000 in
set_option maxRecDepth 100000 in
theorem search_calls {c1 c2 c3 : Value} (n : Nat) (p : Nat → Bool) (w : World) (hsz : n ≤ 1048576) (hf : ∀ (W : World) (i : Nat), New w W → i < n → Calls Try.prog 73 #[.int .i64 (i : Int), c1, c2, c3] W (Ret (.bool (p i)) W))
    (hmono : ∀ a b, a ≤ b → b < n → p a = true → p b = true) :
    Calls Try.prog 72 #[.int .i64 (n : Int), .func (.func 73) #[] #[c1, c2, c3]] w (Ret (.int .i64 (((List.range n).countP (fun i => !p i) : Nat) : Int)) w) := by
  have HF := Sec.mk hf
  have M := Sec.mk hmono
  clear hf hmono
  generalize hcnt : (List.range n).countP (fun i => !p i) = cnt
  have CN := Sec.mk hcnt
  clear hcnt
  go_enter Try.func72, Try.ntmps72
  go_wp2
  go_loopw [5, 6] (fun s5 s6 wr => ∃ (lo hi : Nat), s5 = .int .i64 (lo : Int) ∧ s6 = .int .i64 (hi : Int) ∧ lo ≤ hi ∧ hi ≤ n ∧ Sec (New w wr) ∧ Sec ((∀ t, t < lo → p t = false) ∧ (∀ t, hi ≤ t → t < n → p t = true))) (fun s5 s6 _ => (intOf s6).toNat - (intOf s5).toNat)
  case atStart => exact ⟨0, n, rfl, rfl, Nat.zero_le _, Nat.le_refl _, ⟨Mod.refl _ _⟩, ⟨⟨fun t ht => absurd ht (Nat.not_lt_zero _), fun t h1 h2 => by omega⟩⟩⟩
  case round =>
    obtain ⟨lo, hi, rfl, rfl, hlh, hin, HM, I⟩ := hrel
    by_cases hlt : lo < hi
    · have hlti : (lo : Int) < (hi : Int) := by omega
      have hc := HF.out wr ((lo + hi) / 2) HM.out (by omega)
      rw [show (((lo + hi) / 2 : Nat) : Int) = ((lo : Int) + (hi : Int)) / 2 by omega] at hc
      cases hp : p ((lo + hi) / 2) <;> rw [hp] at hc
      · have I2 : Sec ((∀ t, t < (lo + hi) / 2 + 1 → p t = false) ∧ (∀ t, hi ≤ t → t < n → p t = true)) := ⟨fun t ht => (by
            cases h : p t with
            | false => rfl
            | true => have := M.out t ((lo + hi) / 2) (by omega) (by omega) h; rw [hp] at this; cases this), I.out.2⟩
        have HC := Sec.mk hc
        clear hc hp
        go_wp2_with fail
        refine HC.out.mono ?_
        rintro e w' ⟨rfl, hm⟩
        have HM2 := Sec.mk (HM.out.transN hm)
        clear hm HC
        go_wp2
        go_roundw
        case rel => exact ⟨(lo + hi) / 2 + 1, hi, by rw [show ((lo : Int) + (hi : Int)) / 2 + 1 = (((lo + hi) / 2 + 1 : Nat) : Int) by omega], rfl, by omega, hin, HM2, I2⟩
        case measure => simp [intOf]; omega
      · have I2 : Sec ((∀ t, t < lo → p t = false) ∧ (∀ t, (lo + hi) / 2 ≤ t → t < n → p t = true)) := ⟨I.out.1, fun t ht htn => M.out ((lo + hi) / 2) t ht htn hp⟩
        have HC := Sec.mk hc
        clear hc hp
        go_wp2_with fail
        refine HC.out.mono ?_
        rintro e w' ⟨rfl, hm⟩
        have HM2 := Sec.mk (HM.out.transN hm)
        clear hm HC
        go_wp2
        go_roundw
        case rel => exact ⟨lo, (lo + hi) / 2, rfl, by rw [show ((lo : Int) + (hi : Int)) / 2 = (((lo + hi) / 2 : Nat) : Int) by omega], by omega, by omega, HM2, I2⟩
        case measure => simp [intOf]; omega
    · obtain rfl : hi = lo := by omega
      have ecnt : cnt = hi := by
        rw [← CN.out]
        exact countP_bound hin I.out.1 I.out.2
      subst ecnt
      have hlti : ¬ (cnt : Int) < (cnt : Int) := by omega
      go_wp2
      go_ret
      exact ⟨rfl, HM.out⟩
theorem placeE_range (xs : List EntL) (nm : LB) : (List.range xs.length).countP (fun i => !(if h : i < xs.length then decide (¬ xs[i].1 < nm) else true)) = placeE xs nm := by
  have h : xs.map (fun e => decide (e.1 < nm)) = (List.range xs.length).map (fun i => !(if h : i < xs.length then decide (¬ xs[i].1 < nm) else true)) := by
    apply List.ext_getElem
    · simp
    · intro i h1 h2
      have hi : i < xs.length := by simpa using h1
      simp only [List.getElem_map, List.getElem_range]
      rw [dif_pos hi, decide_not, Bool.not_not]
  unfold placeE
  have e1 : ∀ {α : Type} (l : List α) (f : α → Bool), l.countP f = (l.map f).countP id := by intro α l f; rw [List.countP_map]; rfl
  rw [e1 (List.range xs.length), ← h, ← e1]
set_option maxHeartbeats 4000000 in
set_option maxRecDepth 100000 in
theorem place_calls {A : Option Addr} {c : Nat} {xs : List EntryT} {B : Nat → Prop} {w : World} (h : Row dEntry w B A xs.length xs) (hB : ∀ k, B k → k < w.heap.size) (hl : xs.length ≤ 1048576) (ho : Ord xs) (nm : Bytes) :
    Calls Try.prog 61 #[.slice A xs.length c, .string ⟨nm.toArray⟩, .func (.func 62) #[] #[]] w (Ret (.tuple #[.int .i64 (placeE xs nm : Int), .bool (hasE xs nm)]) w) := by
  have HR := Sec.mk h
  have HB := Sec.mk hB
  have HO := Sec.mk ho
  have HMON : Sec (∀ a b, a ≤ b → b < xs.length → (if h : a < xs.length then decide (¬ xs[a].1 < nm) else true) = true → (if h : b < xs.length then decide (¬ xs[b].1 < nm) else true) = true) := ⟨fun a b hab hb hp => by
    rw [dif_pos (by omega)] at hp
    rw [dif_pos hb]
    simp only [decide_eq_true_eq] at hp ⊢
    intro hlt
    rcases Nat.lt_or_eq_of_le hab with hh | rfl
    · exact hp (lb_trans (List.pairwise_iff_getElem.1 HO.out a b (by omega) hb hh) hlt)
    · exact hp hlt⟩
  have HRG := Sec.mk (placeE_range xs nm)
  clear h hB ho
  have HBX : Sec (∀ W3, New (((w.alloc (.cells #[.slice A xs.length c] 30)).alloc (.cells #[.string ⟨nm.toArray⟩] 9)).alloc (.cells #[.func (.func 62) #[] #[]] 95)) W3 → W3.cell? ⟨w.heap.size + 1 + 1, 0, none⟩ = some (.func (.func 62) #[] #[]) ∧ W3.cell? ⟨w.heap.size, 0, none⟩ = some (.slice A xs.length c) ∧ W3.cell? ⟨w.heap.size + 1, 0, none⟩ = some (.string ⟨nm.toArray⟩)) := ⟨fun W3 hW => ⟨by
    have hb := (Blk.new ((w.alloc (.cells #[.slice A xs.length c] 30)).alloc (.cells #[.string ⟨nm.toArray⟩] 9)) 95 [.func (.func 62) #[] #[]]).cell 0
    simp at hb
    exact hW.cell_of hb, by
    have hb := (((Blk.new w 30 [.slice A xs.length c]).alloc (.cells #[.string ⟨nm.toArray⟩] 9)).alloc (.cells #[.func (.func 62) #[] #[]] 95)).cell 0
    simp at hb
    exact hW.cell_of hb, by
    have hb := ((Blk.new (w.alloc (.cells #[.slice A xs.length c] 30)) 9 [.string ⟨nm.toArray⟩]).alloc (.cells #[.func (.func 62) #[] #[]] 95)).cell 0
    simp at hb
    exact hW.cell_of hb⟩⟩
  have HM3 : Sec (New w (((w.alloc (.cells #[.slice A xs.length c] 30)).alloc (.cells #[.string ⟨nm.toArray⟩] 9)).alloc (.cells #[.func (.func 62) #[] #[]] 95))) := ⟨(((Mod.refl _ _).alloc _).alloc _).alloc _⟩
  go_enter Try.func61, Try.ntmps61
  go_wp2_with fail
  refine (search_calls xs.length (fun i => if h : i < xs.length then decide (¬ xs[i].1 < nm) else true) _ hl (fun W i hW hi => ?_) HMON.out).mono ?_
  · rw [show (if h : i < xs.length then decide (¬ xs[i].1 < nm) else true) = decide (¬ xs[i].1 < nm) from dif_pos hi]
    obtain ⟨p1, p2, p3⟩ := HBX.out W hW
    exact placeF_calls (HR.out.mod (w' := W) (fun _ h => h) (fun k hk => (HM3.out.transN hW).block k (HB.out k hk) id)) (fun k hk => Nat.lt_of_lt_of_le (HB.out k hk) (HM3.out.transN hW).size) nm p1 p2 p3 i hi
  rw [HRG.out]
  rintro e w4 ⟨rfl, hm4⟩
  have HC : Sec (∀ W, New w4 W → W.cell? ⟨w.heap.size + 1 + 1, 0, none⟩ = some (.func (.func 62) #[] #[]) ∧ W.cell? ⟨w.heap.size, 0, none⟩ = some (.slice A xs.length c) ∧ W.cell? ⟨w.heap.size + 1, 0, none⟩ = some (.string ⟨nm.toArray⟩)) := ⟨fun W hW => HBX.out W (hm4.transN hW)⟩
  have HM4 := Sec.mk (HM3.out.transN hm4)
  clear hm4 HMON HRG HBX HM3
  obtain ⟨x1, x2, x3⟩ := HC.out w4 (Mod.refl _ _)
  have HPL := Sec.mk (place_at HO.out nm).1
  generalize placeE xs nm = pl at *
  by_cases hlt : pl < xs.length
  rotate_left
  · have HE : Sec (hasE xs nm = false) := ⟨by
      cases hh : hasE xs nm with
      | false => rfl
      | true => exact absurd (HPL.out.1 hh).1 hlt⟩
    have hli : ¬ (pl : Int) < (xs.length : Int) := by omega
    go_wp2
    go_quiet (fail)
    go_wp2
    go_ret2
    exact ⟨by rw [HE.out]; rfl, HM4.out.drewN _⟩
  have HEQ : Sec (hasE xs nm = decide (xs[pl].1 = nm)) := ⟨by
    by_cases hh : xs[pl].1 = nm
    · rw [decide_eq_true hh]; exact HPL.out.2 ⟨hlt, hh⟩
    · rw [decide_eq_false hh]
      cases hx : hasE xs nm with
      | false => rfl
      | true => obtain ⟨_, hy⟩ := HPL.out.1 hx; exact absurd hy hh⟩
  have hli : (pl : Int) < (xs.length : Int) := by omega
  obtain ⟨ad, rfl, -, -, -, -⟩ := ent_at HR.out (w' := w) (fun _ _ => rfl) hlt
  have HE : Sec (∀ W, New w4 W → W.cell? (ad.add (pl * 2)) = some (.string ⟨xs[pl].1.toArray⟩) ∧ W.cell? ⟨(ad.add (pl * 2)).block, (ad.add (pl * 2)).off + 1, none⟩ = some (.int .i64 xs[pl].2)) := ⟨fun W hW => by
    obtain ⟨ad', hA, h0, h1, _, _⟩ := ent_at HR.out (w' := W) (fun i hi => (HM4.out.transN hW).block i (HB.out i hi) id) hlt
    obtain rfl := Option.some.inj hA
    exact ⟨h0, h1⟩⟩
  generalize xs[pl].1 = z at *
  generalize xs[pl].2 = u at *
  generalize hasE xs nm = hs at *
  clear HR HB HO HPL x1 x2 x3
  go_wp2
  refine reg_start [] (fun W => Sec (New w4 W)) (by kernel_rfl) ?_
  have HSS : Sec (New w4 w4.drew) := ⟨(Mod.refl _ _).drew⟩
  refine reg_take (.int .i64 (pl : Int)) (i := 0) (n := 13) HSS rfl (by kernel_rfl) (by kernel_rfl) (by kernel_rfl) (by kernel_rfl) (fun _ _ _ h => h) (fun W hW => exec_move rfl rfl) ?_
  simp only [Act.put, List.setIfInBounds_toArray, List.set_cons_zero, List.set_cons_succ]
  refine reg_take (.int .i64 (pl : Int)) (i := 1) (n := 14) HSS rfl (by kernel_rfl) (by kernel_rfl) (by kernel_rfl) (by kernel_rfl) (fun _ _ _ h => h) (fun W hW => exec_move rfl rfl) ?_
  simp only [Act.put, List.setIfInBounds_toArray, List.set_cons_zero, List.set_cons_succ]
  refine reg_take (.slice (some ad) xs.length c) (i := 2) (n := 15) HSS rfl (by kernel_rfl) (by kernel_rfl) (by kernel_rfl) (by kernel_rfl) (fun _ _ _ h => h) (fun W hW => exec_load rfl rfl (ldSlE (HC.out W hW.out).2.1)) ?_
  simp only [Act.put, List.setIfInBounds_toArray, List.set_cons_zero, List.set_cons_succ]
  refine reg_take (.int .i64 (xs.length : Int)) (i := 3) (n := 16) HSS rfl (by kernel_rfl) (by kernel_rfl) (by kernel_rfl) (by kernel_rfl) (fun _ _ _ h => h) (fun W hW => exec_lenE rfl rfl (lenES _ _ _ _)) ?_
  simp only [Act.put, List.setIfInBounds_toArray, List.set_cons_zero, List.set_cons_succ]
  refine reg_take (.bool true) (i := 4) (n := 17) HSS rfl (by kernel_rfl) (by kernel_rfl) (by kernel_rfl) (by kernel_rfl) (fun _ _ _ h => h) (fun W hW => exec_bin rfl rfl rfl (by go_simp)) ?_
  simp only [Act.put, List.setIfInBounds_toArray, List.set_cons_zero, List.set_cons_succ]
  refine reg_take (.bool true) (i := 5) (n := 18) HSS rfl (by kernel_rfl) (by kernel_rfl) (by kernel_rfl) (by kernel_rfl) (fun _ _ _ h => h) (fun W hW => exec_move rfl rfl) ?_
  simp only [Act.put, List.setIfInBounds_toArray, List.set_cons_zero, List.set_cons_succ]
  refine reg_takeG (.func (.func 62) #[] #[]) (i := 6) (n := 19) HSS rfl (by rfl) (by kernel_rfl) (by kernel_rfl) (by kernel_rfl) (by kernel_rfl) (fun _ _ _ h => h) (fun W hW => exec_load rfl rfl (ldFn (HC.out W hW.out).1)) ?_
  simp only [Act.put, List.setIfInBounds_toArray, List.set_cons_zero, List.set_cons_succ]
  refine reg_takeG (.slice (some ad) xs.length c) (i := 7) (n := 20) HSS rfl (by rfl) (by kernel_rfl) (by kernel_rfl) (by kernel_rfl) (by kernel_rfl) (fun _ _ _ h => h) (fun W hW => exec_load rfl rfl (ldSlE (HC.out W hW.out).2.1)) ?_
  simp only [Act.put, List.setIfInBounds_toArray, List.set_cons_zero, List.set_cons_succ]
  refine reg_takeG (.int .i64 (pl : Int)) (i := 8) (n := 21) HSS rfl (by rfl) (by kernel_rfl) (by kernel_rfl) (by kernel_rfl) (by kernel_rfl) (fun _ _ _ h => h) (fun W hW => exec_move rfl rfl) ?_
  simp only [Act.put, List.setIfInBounds_toArray, List.set_cons_zero, List.set_cons_succ]
  refine reg_takeG (.pointer (some (ad.add (pl * 2)))) (i := 9) (n := 22) HSS rfl (by rfl) (by kernel_rfl) (by kernel_rfl) (by kernel_rfl) (by kernel_rfl) (fun _ _ _ h => h) (fun W hW => exec_indexAddr rfl rfl rfl (idxEntryS _ _ _ _ hlt _)) ?_
  simp only [Act.put, List.setIfInBounds_toArray, List.set_cons_zero, List.set_cons_succ]
  refine reg_takeG (.agg #[.string ⟨z.toArray⟩, .int .i64 u]) (i := 10) (n := 23) HSS rfl (by rfl) (by kernel_rfl) (by kernel_rfl) (by kernel_rfl) (by kernel_rfl) (fun _ _ _ h => h) (fun W hW => exec_load rfl rfl (ldEntry (HE.out W hW.out).1 (HE.out W hW.out).2)) ?_
  simp only [Act.put, List.setIfInBounds_toArray, List.set_cons_zero, List.set_cons_succ]
  refine reg_takeG (.string ⟨nm.toArray⟩) (i := 12) (n := 25) HSS rfl (by rfl) (by kernel_rfl) (by kernel_rfl) (by kernel_rfl) (by kernel_rfl) (fun _ _ _ h => h) (fun W hW => exec_load rfl rfl (ldStr (HC.out W hW.out).2.2)) ?_
  simp only [Act.put, List.setIfInBounds_toArray, List.set_cons_zero, List.set_cons_succ]
  refine reg_stepG (i := 11) rfl (by rfl) (by kernel_rfl) (fun K hK => ?_)
  refine wp_callF (n := 24) (vals := [.agg #[.string ⟨z.toArray⟩, .int .i64 u]]) rfl rfl rfl rfl (by kernel_rfl) (nameOf_calls z u _) ?_
  rintro e w3 ⟨rfl, hm3⟩
  have HSS : Sec (New w4 w3) := ⟨HSS.out.transN hm3⟩
  refine ⟨_, rfl, hK.out _ _ (fun _ => HSS) ?_⟩
  clear hm3
  clear hK K
  simp only [Act.put, List.setIfInBounds_toArray, List.set_cons_zero, List.set_cons_succ]
  refine reg_takeG (.bool (z == nm)) (i := 13) (n := 26) HSS rfl (by rfl) (by kernel_rfl) (by kernel_rfl) (by kernel_rfl) (by kernel_rfl) (fun _ _ _ h => h) (fun W hW => exec_bin rfl rfl rfl (by go_simp)) ?_
  simp only [Act.put, List.setIfInBounds_toArray, List.set_cons_zero, List.set_cons_succ]
  refine reg_take (.bool (z == nm)) (i := 14) (n := 27) HSS rfl (by kernel_rfl) (by kernel_rfl) (by kernel_rfl) (by kernel_rfl) (fun _ _ _ h => h) (fun W hW => exec_pick (b := true) (vx := .bool (z == nm)) (vy := .bool false) rfl rfl rfl rfl rfl) ?_
  simp only [Act.put, List.setIfInBounds_toArray, List.set_cons_zero, List.set_cons_succ]
  refine reg_take (.int .i64 (pl : Int)) (i := 15) (n := 6) HSS rfl (by kernel_rfl) (by kernel_rfl) (by kernel_rfl) (by kernel_rfl) (fun _ _ _ h => h) (fun W hW => exec_assign rfl rfl) ?_
  simp only [Act.put, List.setIfInBounds_toArray, List.set_cons_zero, List.set_cons_succ]
  refine reg_take (.bool (z == nm)) (i := 16) (n := 7) HSS rfl (by kernel_rfl) (by kernel_rfl) (by kernel_rfl) (by kernel_rfl) (fun _ _ _ h => h) (fun W hW => exec_assign rfl rfl) ?_
  simp only [Act.put, List.setIfInBounds_toArray, List.set_cons_zero, List.set_cons_succ]
  refine reg_done (by kernel_rfl) ?_ _
  go_wp2
  go_ret2
  exact ⟨by rw [HEQ.out, show decide (z = nm) = (z == nm) from Bool.eq_iff_iff.2 ⟨fun h => beq_iff_eq.2 (of_decide_eq_true h), fun h => decide_eq_true (beq_iff_eq.1 h)⟩]; rfl, HM4.out.transN HSS.out⟩
end Go.Proofs.Ytinfibggdbakoaa
