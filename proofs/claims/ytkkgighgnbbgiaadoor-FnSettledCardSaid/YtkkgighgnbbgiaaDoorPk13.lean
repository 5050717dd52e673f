/- An element of an own row, its part and its cell changed together. The program's operations on a disk that lies in a cell: bytes appended to a node. The parts of an own row, each with its blocks; names renumbered in place. -/
import Derived.Test.YtkkgighgnbbgiaaDoorPk5
import Derived.Test.YtkkgighgnbbgiaaDoorPk2
import Derived.Test.YtkkgighgnbbgiaaDoorPk12
import Derived.Test.YtkkgighgnbbgiaaDoorPk6
namespace Go.Proofs.YtkkgighgnbbgiaaDoor.Mem
open Go.RowKit
set_option linter.unusedVariables false
theorem Own.swap {α : Type} {d : Ty α} {e : TypeId} {w : World} {F : List Nat} {A : Option Addr} {n cp : Nat} {xs : List α} (h : Own d e w F (.slice A n cp) xs) {j : Nat} (hj : j < xs.length) :
    ∃ g cs f, A = some ⟨g, 0, none⟩ ∧ g ∈ F ∧ g ∉ f ∧ (∀ k, k ∈ f → k ∈ F) ∧ d.M w f xs[j] cs ∧ cs.length = d.sz ∧ (∀ i, i < d.sz → w.cell? ⟨g, j * d.sz + i, none⟩ = cs[i]?) ∧ (∀ i, w.frozen? ⟨g, i, none⟩ = false) ∧
      ∀ (w' : World) i u x' f', i < d.sz → Mod (· ∈ f) w w' → d.M (w'.setCell ⟨g, j * d.sz + i, none⟩ u) f' x' (cs.set i u) → (∀ k, k ∈ f' → k ∈ f ∨ w.heap.size ≤ k) →
        ∃ F', Own d e (w'.setCell ⟨g, j * d.sz + i, none⟩ u) F' (.slice A n cp) (xs.set j x') ∧ g ∈ F' ∧ ∀ k, k ∈ F' → k ∈ F ∨ k ∈ f' := by
  have hlt := h.lt
  obtain ⟨inner, Fs, ho, hE, rfl, hnd⟩ := h
  have ho' := ho
  rcases ho.2 with ⟨_, h0⟩ | ⟨g, cap, cur, hv, hg, hh, hnc, hm, hs, ht⟩
  · omega
  · injection hv with e1 e2 e3
    subst e1; subst e2; subst e3
    obtain ⟨c, f, hf, hM, hcl, l, r, hcs, hl⟩ := hE.at_ (List.getElem?_eq_getElem hj)
    have hgF : g ∈ (Value.slice (some ⟨g, 0, none⟩) xs.length cp).ownBlock.toList ++ Fs.flatten := by simp [Value.ownBlock]
    have hfin : ∀ k, k ∈ f → k ∈ Fs.flatten := fun k hk => List.mem_flatten.2 ⟨f, List.mem_of_getElem? hf, hk⟩
    have hgf : g ∉ f := fun hk => (List.nodup_append.1 hnd).2.2 g (by simp [Value.ownBlock]) g (hfin g hk) rfl
    have hill : inner.length = xs.length * d.sz := hE.clen
    have hjF : j < Fs.length := by rw [hE.flen]; exact hj
    refine ⟨g, c, f, rfl, hgF, hgf, fun k hk => List.mem_append_right _ (hfin k hk), hM, hcl, fun i hi => ?_, fun i => ho'.frozenAt i, fun w' i u x' f' hi hmod hM' hf' => ?_⟩
    · rw [ho'.cellAt _ (by have := Nat.mul_le_mul_right d.sz (show j + 1 ≤ xs.length from hj); rw [Nat.add_mul] at this; omega), hcs,
        List.getElem?_append_right (by omega), List.getElem?_append_left (by omega), hl, Nat.add_sub_cancel_left]
    · have hdis : ∀ k, k ∈ f' → k ∈ f ∨ k ∉ (Value.slice (some ⟨g, 0, none⟩) xs.length cp).ownBlock.toList ++ Fs.flatten := fun k hk => by
        rcases hf' k hk with h1 | h1
        · exact .inl h1
        · exact .inr fun h2 => absurd (hlt k h2) (by omega)
      obtain ⟨n1, n2⟩ := nodup_set hnd hf (d.M_nd hM') hdis
      refine ⟨_, ⟨l ++ (c.set i u ++ r), Fs.set j f', ?_, ?_, rfl, n1⟩, by simp [Value.ownBlock], n2⟩
      · have ho2 := Own.ownsRow_mod ho' (w' := w') (fun k hk => by
          have : g = k := by simpa [Value.ownBlock] using hk
          subst this
          exact hmod.block _ (hlt _ hgF) hgf)
        have hst := ho2.stored (j * d.sz + i) u
        rw [List.length_set]
        have : inner.set (j * d.sz + i) u = l ++ (c.set i u ++ r) := by
          rw [hcs, List.set_append_right _ _ (by omega), hl, Nat.add_sub_cancel_left, List.set_append_left _ _ (by omega)]
        rw [← this]
        exact hst.1
      · -- the other elements stay
        obtain ⟨css, rfl, h1, h2, h3⟩ := hE
        have hff := List.nodup_append.1 hnd
        have hsplit : Fs = Fs.take j ++ f :: Fs.drop (j + 1) := by
          rw [← (List.getElem?_eq_some_iff.1 hf).2, ← List.drop_eq_getElem_cons hjF, List.take_append_drop]
        have hall := Elems.all_len h1 h3
        have hjc : j < css.length := by rw [h1]; exact hj
        obtain ⟨c0, f0, e1, e2, hM0, hl0⟩ := h3 j xs[j] (List.getElem?_eq_getElem hj)
        obtain ⟨g1, g2⟩ := flatten_chunk css hall j _ e1
        have hin := List.append_inj (g1.symm.trans hcs) (by rw [g2, hl])
        have hin2 := List.append_inj hin.2 (by rw [hl0, hcl])
        have hall' : ∀ c', c' ∈ css.set j (c.set i u) → c'.length = d.sz := fun c' hc' => by
          rcases List.mem_or_eq_of_mem_set hc' with h5 | rfl
          · exact hall _ h5
          · rw [List.length_set]; exact hcl
        obtain ⟨g3, g4⟩ := flatten_chunk (css.set j (c.set i u)) hall' j _ (List.getElem?_set_self hjc)
        refine ⟨css.set j (c.set i u), ?_, by rw [List.length_set, List.length_set]; exact h1, by rw [List.length_set, List.length_set]; exact h2, fun i' x hi' => ?_⟩
        · rw [g3, List.take_set_of_le (Nat.le_refl j), List.drop_set_of_lt (Nat.lt_succ_self j), hin.1, hin2.2]
        · by_cases hij : j = i'
          · subst hij
            rw [List.getElem?_set_self (by omega)] at hi'
            obtain rfl := Option.some.inj hi'
            exact ⟨c.set i u, f', List.getElem?_set_self hjc, List.getElem?_set_self hjF, hM', by rw [List.length_set]; exact hcl⟩
          · rw [List.getElem?_set_ne hij] at hi'
            obtain ⟨c1, f1, e3, e4, hM1, hl1⟩ := h3 i' x hi'
            refine ⟨c1, f1, by rw [List.getElem?_set_ne hij]; exact e3, by rw [List.getElem?_set_ne hij]; exact e4, d.M_mod hM1 fun k hk => ?_, hl1⟩
            have hk2 : k ∈ Fs.flatten := List.mem_flatten.2 ⟨f1, List.mem_of_getElem? e4, hk⟩
            have hkg : k ≠ g := fun e => hff.2.2 g (by simp [Value.ownBlock]) k hk2 e.symm
            refine (Below.heap_setCell _ _ _ _ hkg).trans (hmod.block k (hlt k (List.mem_append_right _ hk2)) fun hkf => ?_)
            have hfl := hff.2.1
            rcases Nat.lt_or_gt_of_ne hij with hlt' | hgt'
            · have : f1 ∈ Fs.drop (j + 1) := List.mem_of_getElem? (i := i' - (j + 1)) (by rw [List.getElem?_drop]; rw [show j + 1 + (i' - (j + 1)) = i' by omega]; exact e4)
              rw [hsplit] at hfl
              simp only [List.flatten_append, List.flatten_cons, List.nodup_append] at hfl
              exact hfl.2.1.2.2 k hkf k (List.mem_flatten.2 ⟨f1, this, hk⟩) rfl
            · have : f1 ∈ Fs.take j := List.mem_of_getElem? (i := i') (by rw [List.getElem?_take, if_pos hgt']; exact e4)
              rw [hsplit] at hfl
              simp only [List.flatten_append, List.flatten_cons, List.nodup_append] at hfl
              exact hfl.2.2 k (List.mem_flatten.2 ⟨f1, this, hk⟩) k (List.mem_append_left _ hkf) rfl
end Go.Proofs.YtkkgighgnbbgiaaDoor.Mem

namespace Go.Proofs.YtkkgighgnbbgiaaDoor
open Go.RowKit Mem
set_option linter.unusedVariables false
set_option linter.unusedSimpArgs false
theorem Out4.appData {X : Nat → Prop} {w : World} {A : Option Addr} {n c : Nat} {v1 v2 v3 : Value} {d : DiskT} (h : Out4 X w (.slice A n c) v1 v2 v3 d) {i : Nat} (hi : i < d.1.length) (hXn : ∀ k, w.heap.size ≤ k → X k) :
    ∃ gb v' f, A = some ⟨gb, 0, none⟩ ∧ X gb ∧ gb ∉ f ∧ (∀ k, k ∈ f → X k) ∧ Own Ty.byte 5 w f v' d.1[i].1 ∧ w.cell? ⟨gb, i * 2, none⟩ = some v' ∧ w.cell? ⟨gb, i * 2 + 1, none⟩ = some (.int .i64 d.1[i].2) ∧ (∀ j, w.frozen? ⟨gb, j, none⟩ = false) ∧ gb < w.heap.size ∧
      ∀ (w' : World) (u : Value) (F2 : List Nat) (ys : Bytes), Mod (· ∈ f) w w' → Own Ty.byte 5 w' F2 u ys → (∀ k, k ∈ F2 → k ∈ f ∨ w.heap.size ≤ k) → Out4 X (w'.setCell ⟨gb, i * 2, none⟩ u) (.slice A n c) v1 v2 v3 (d.1.set i (ys, d.1[i].2), d.2) := by
  obtain ⟨F0, F1, F2, F3, o0, o1, o2, o3, hd, hX, hq⟩ := h
  obtain ⟨g, cs, f, rfl, hg, hgf, hfF, hM, hcl, hcell, hfz, hst⟩ := o0.swap hi
  obtain ⟨v', rfl, ho', hw⟩ := node_inv hM
  have hs2 : dNode.sz = 2 := rfl
  have hc0 := hcell 0 (by rw [hs2]; decide)
  have hc1 := hcell 1 (by rw [hs2]; decide)
  rw [hs2] at hc0 hc1
  have hglt := o0.lt g hg
  refine ⟨g, v', f, rfl, hX g (Or.inl hg), hgf, fun k hk => hX k (Or.inl (hfF k hk)), ho', hc0, hc1, hfz, hglt, fun w' u Fn ys hm hou hFn => ?_⟩
  have hgn : ∀ k, k ∈ Fn → k ≠ g := fun k hk e => by
    subst e
    rcases hFn k hk with h1 | h1
    · exact hgf h1
    · omega
  have hms := (Mod.refl (fun k => k = g) w').setCell (p := ⟨g, i * 2, none⟩) (fun _ => rfl) u
  have houS : Own Ty.byte 5 (w'.setCell ⟨g, i * 2, none⟩ u) Fn u ys := hou.keep hms hgn
  obtain ⟨F', hO, -, hF'⟩ := hst w' 0 u (ys, d.1[i].2) (Fn ++ []) (by rw [hs2]; decide) hm (by rw [hs2, Nat.add_zero]; exact mNode (x := (ys, d.1[i].2)) hw houS) (fun k hk => hFn k (by simpa using hk))
  rw [hs2, Nat.add_zero] at hO
  have hmem : ∀ k, k ∈ F' → k ∈ F0 ∨ w.heap.size ≤ k := fun k hk => by
    rcases hF' k hk with h1 | h1
    · exact Or.inl h1
    · rcases hFn k (by simpa using h1) with h2 | h2
      · exact Or.inl (hfF k h2)
      · exact Or.inr h2
  have hm1 : ∀ k, k ∈ F1 ∨ k ∈ F2 ∨ k ∈ F3 → k ∉ f ∧ k ≠ g := fun k hk => by
    have key : k ∉ F0 := fun h0 => by
      rcases hk with hk | hk | hk
      · exact (hd.1 _ h0).1 hk
      · exact (hd.1 _ h0).2.1 hk
      · exact (hd.1 _ h0).2.2 hk
    exact ⟨fun h => key (hfF k h), fun e => key (e ▸ hg)⟩
  have hlt := Out4.lt o0 o1 o2 o3
  refine ⟨F', F1, F2, F3, hO, (o1.keep hm (fun k hk => (hm1 k (Or.inl hk)).1)).keep hms (fun k hk => (hm1 k (Or.inl hk)).2), (o2.keep hm (fun k hk => (hm1 k (Or.inr (Or.inl hk))).1)).keep hms (fun k hk => (hm1 k (Or.inr (Or.inl hk))).2), (o3.keep hm (fun k hk => (hm1 k (Or.inr (Or.inr hk))).1)).keep hms (fun k hk => (hm1 k (Or.inr (Or.inr hk))).2), hd.upd0 (fun k hk => (hmem k hk).imp id (fun h1 => ⟨fun h => by have := hlt k (Or.inr (Or.inl h)); omega, fun h => by have := hlt k (Or.inr (Or.inr (Or.inl h))); omega, fun h => by have := hlt k (Or.inr (Or.inr (Or.inr h))); omega⟩)), ?_, hq⟩
  rintro k (hk | hk)
  · exact (hmem k hk).elim (fun h => hX k (Or.inl h)) (hXn k)
  · exact hX k (Or.inr hk)
theorem wpList_appF {P : Program} (w : World) {ops : Array Oper} {rest : List Oper} {o : Oper} {a : Act} {Q : Exit → Act → World → Prop} (hgd : o.guard = none) (s x : Operand) (t : TypeId)
    (ho : o.op = .call { callee := .builtin .append, args := #[s, x], argTypes := #[t, t] })
    {α : Type} {d : Ty α} {e : TypeId} {z : Value} (ht : P.underlying t = some (.slice e)) (hE : Elt P e d.sz z) (hf : Flat d)
    {A A' : Option Addr} {n m c c' : Nat} {xs ys : List α} {B : Nat → Prop} {F : List Nat} (hs : a.eval s = .slice A n c) (hx : a.eval x = .slice A' m c') (hown : Own d e w F (.slice A n c) xs) (hy : Row d w B A' m ys)
    (hlen : xs.length + ys.length ≤ 34359738368)
    (h : ∀ A' n' c' w' F', Own d e w' F' (.slice A' n' c') (xs ++ ys) → (∀ k, k ∈ F' → k ∈ F ∨ w.heap.size ≤ k) → Mod (fun k => k ∈ F) w w' → wpList P ops Q rest (a.put o.dst (.slice A' n' c')) w') : wpList P ops Q (o :: rest) a w := by
  obtain ⟨news, hel, hA⟩ := hy.flat hf
  refine wpList_append w hgd s x t ho d e ht hE hs hown hx hel hy.1 hA (by rw [flat_nil]; exact List.nodup_nil) (by rw [flat_nil]; intro k hk; cases hk) (by have := hy.1; omega) ?_
  intro A2 n2 c2 w2 F2 ho3 hn2 hm2 hF2
  refine h _ _ _ _ F2 ho3 (fun k hk => ?_) (hm2.mono fun i _ hi => hown.own_mem i hi)
  rcases hF2 k hk with h1 | h1 | h1
  · exact .inl h1
  · rw [flat_nil] at h1; cases h1
  · exact .inr h1
theorem fptDisk4I (p : Addr) (w : World) : (Instr.fieldAt 27 (.pointer (some p)) 4).run Tryd.prog w = .ok (.pointer (some ⟨p.block, p.off + 4, none⟩)) w := by go_simp
theorem lenBI (A : Option Addr) (n c : Nat) (w : World) : ∀ ty, (invoke (.builtin .len #[22] ty #[false]) #[.slice A n c]).run Tryd.prog w = .ok (.value (.int .i64 (n : Int))) w := by intro ty; go_simp
theorem addI (x y : Operand) (a b : Nat) (h : a + b ≤ 1000000000) (w : World) : (do eqGuard .add 3 x y (.int .i64 (a : Int)) (.int .i64 (b : Int)); binOp .add 3 (.int .i64 (a : Int)) (.int .i64 (b : Int)) : Sem Value).run Tryd.prog w = .ok (.int .i64 ((a : Int) + (b : Int))) w := by
  have hw : IntKind.i64.wrap ((a : Int) + (b : Int)) = (a : Int) + (b : Int) := by rw [IntKind.wrap_i64]; omega
  go_simp
theorem gtrI (x y : Operand) (a b : Int) (w : World) : (do eqGuard .gtr 3 x y (.int .i64 a) (.int .i64 b); binOp .gtr 3 (.int .i64 a) (.int .i64 b) : Sem Value).run Tryd.prog w = .ok (.bool (decide (b < a))) w := by
  go_simp
set_option maxHeartbeats 8000000 in
set_option maxRecDepth 100000 in
theorem appendI_calls {lo g : Nat} {tl : List Value} {w : World} {d : DiskT} {ea : Nat → Addr} {N : Nat} (h : DSt lo g tl w d) (hE : ErrEnv lo w ea) (hI : DInv N d) (hN : N ≤ 5000) {bd : Addr} {nd c0 : Nat} (hcell : w.cell? ⟨g, 0, none⟩ = some (.slice (some bd) d.1.length c0)) (hnd : nd < d.1.length)
    {Ad : Option Addr} {cd : Nat} {dat : Bytes} {B : Nat → Prop} (hr : Row Ty.byte w B Ad dat.length dat) (hB : ∀ k, B k → k < w.heap.size) (hdl : dat.length ≤ 1048576) :
    Calls Tryd.prog 47 #[.pointer (some ⟨g, 0, none⟩), .pointer (some (bd.add (nd * 2))), .slice Ad dat.length cd] w (RetDo lo g tl ea w (if d.2.2.2.2 < (usedL d : Int) + (dat.length : Int) then (d, 5)
     else if 40000 < d.1[nd].1.length + dat.length ∨ 200000 < sumD d.1 + dat.length then (d, 6)
     else ((d.1.set nd (d.1[nd].1 ++ dat, d.1[nd].2), d.2), 0))) := by
  have HR5 : Sec (d.2.2.2.2 < (usedL d : Int) + (dat.length : Int) → (if d.2.2.2.2 < (usedL d : Int) + (dat.length : Int) then (d, (5 : Int)) else if 40000 < d.1[nd].1.length + dat.length ∨ 200000 < sumD d.1 + dat.length then (d, 6) else ((d.1.set nd (d.1[nd].1 ++ dat, d.1[nd].2), d.2), 0)) = (d, 5)) := ⟨fun h => if_pos h⟩
  have HR6 : Sec (¬ d.2.2.2.2 < (usedL d : Int) + (dat.length : Int) → (40000 < d.1[nd].1.length + dat.length ∨ 200000 < sumD d.1 + dat.length) → (if d.2.2.2.2 < (usedL d : Int) + (dat.length : Int) then (d, (5 : Int)) else if 40000 < d.1[nd].1.length + dat.length ∨ 200000 < sumD d.1 + dat.length then (d, 6) else ((d.1.set nd (d.1[nd].1 ++ dat, d.1[nd].2), d.2), 0)) = (d, 6)) := ⟨fun h h2 => (if_neg h).trans (if_pos h2)⟩
  have HR0 : Sec (¬ d.2.2.2.2 < (usedL d : Int) + (dat.length : Int) → ¬ (40000 < d.1[nd].1.length + dat.length ∨ 200000 < sumD d.1 + dat.length) → (if d.2.2.2.2 < (usedL d : Int) + (dat.length : Int) then (d, (5 : Int)) else if 40000 < d.1[nd].1.length + dat.length ∨ 200000 < sumD d.1 + dat.length then (d, 6) else ((d.1.set nd (d.1[nd].1 ++ dat, d.1[nd].2), d.2), 0)) = ((d.1.set nd (d.1[nd].1 ++ dat, d.1[nd].2), d.2), 0)) := ⟨fun h h2 => (if_neg h).trans (if_neg h2)⟩
  generalize (if d.2.2.2.2 < (usedL d : Int) + (dat.length : Int) then (d, (5 : Int)) else if 40000 < d.1[nd].1.length + dat.length ∨ 200000 < sumD d.1 + dat.length then (d, 6) else ((d.1.set nd (d.1[nd].1 ++ dat, d.1[nd].2), d.2), 0)) = res at *
  have hn := hI.names
  have hnn := hI.nodes
  have HU : Sec (∀ W, Mod (fun _ => False) w W → Calls Tryd.prog 57 #[.pointer (some ⟨g, 0, none⟩)] W (Ret (.int .i64 ((usedL d : Nat) : Int)) W)) := ⟨fun W hW => usedI_calls (h.new hW) hI (by omega)⟩
  have hub : usedL d ≤ 40000 * d.2.1.length := by have := used_le hI d.2.1.length; rw [List.take_length] at this; exact this
  have HST := Sec.mk (sumD_take_le hI.len)
  have hsb := sumD_le hI
  have HL := Sec.mk hI.len
  have HDS := Sec.mk h
  have HENV := Sec.mk hE
  have HRD := Sec.mk hr
  have HBD := Sec.mk hB
  obtain ⟨t, A0, c0', A1, c1, A2, c2, A3, c3, hb, ho, hlg, hr0, hr1, b0, b1, b2, b3⟩ := h.rows
  have hA0 : A0 = some bd ∧ c0' = c0 := by
    have h0 : w.cell? ⟨g, 0, none⟩ = some (.slice A0 d.1.length c0') := hb.cell 0
    rw [hcell] at h0
    have := Option.some.inj h0
    injection this with e1 _ e3
    exact ⟨e1.symm, e3.symm⟩
  obtain ⟨rfl, rfl⟩ := hA0
  have hgw := hb.lt
  have HBK := Sec.mk hb
  have HO := Sec.mk ho
  obtain ⟨gb, v0', f0, hbd, -⟩ := ho.appData hnd (fun k hk => by omega)
  obtain rfl : bd = ⟨gb, 0, none⟩ := Option.some.inj hbd
  rw [add_own]
  clear hbd
  have HR0N := Sec.mk hr0
  clear h hE hI hr hB hb ho hr0 hr1 hcell
  go_enter Tryd.func47, Tryd.ntmps47
  go_upto_region 1 with (fail)
  go_cut [19] (fun v wx => v = .bool (decide (d.2.2.2.2 < (usedL d : Int) + (dat.length : Int))) ∧ Sec (New w wx))
  case first =>
    refine reg_start [] (fun W => Sec (New w W)) (by kernel_rfl) ?_
    have HSS : Sec (New w w.drew) := ⟨(Mod.refl _ _).drew⟩
    refine reg_take (.pointer (some ⟨g, 0, none⟩)) (i := 0) (n := 10) HSS rfl (by kernel_rfl) (by kernel_rfl) (by kernel_rfl) (by kernel_rfl) (fun _ _ _ h => h) (fun W hW => exec_move rfl rfl) ?_
    simp only [Act.put, List.setIfInBounds_toArray, List.set_cons_zero, List.set_cons_succ]
    refine reg_take (.slice Ad dat.length cd) (i := 2) (n := 12) HSS rfl (by kernel_rfl) (by kernel_rfl) (by kernel_rfl) (by kernel_rfl) (fun _ _ _ h => h) (fun W hW => exec_move rfl rfl) ?_
    simp only [Act.put, List.setIfInBounds_toArray, List.set_cons_zero, List.set_cons_succ]
    refine reg_take (.int .i64 (dat.length : Int)) (i := 3) (n := 13) HSS rfl (by kernel_rfl) (by kernel_rfl) (by kernel_rfl) (by kernel_rfl) (fun _ _ _ h => h) (fun W hW => exec_lenD rfl rfl (lenBI _ _ _ _)) ?_
    simp only [Act.put, List.setIfInBounds_toArray, List.set_cons_zero, List.set_cons_succ]
    refine reg_take (.pointer (some ⟨g, 0, none⟩)) (i := 5) (n := 15) HSS rfl (by kernel_rfl) (by kernel_rfl) (by kernel_rfl) (by kernel_rfl) (fun _ _ _ h => h) (fun W hW => exec_move rfl rfl) ?_
    simp only [Act.put, List.setIfInBounds_toArray, List.set_cons_zero, List.set_cons_succ]
    refine reg_take (.pointer (some ⟨g, 0, none⟩)) (i := 6) (n := 16) HSS rfl (by kernel_rfl) (by kernel_rfl) (by kernel_rfl) (by kernel_rfl) (fun _ _ _ h => h) (fun W hW => exec_nil rfl rfl) ?_
    simp only [Act.put, List.setIfInBounds_toArray, List.set_cons_zero, List.set_cons_succ]
    refine reg_take (.pointer (some ⟨g, 4, none⟩)) (i := 7) (n := 17) HSS rfl (by kernel_rfl) (by kernel_rfl) (by kernel_rfl) (by kernel_rfl) (fun _ _ _ h => h) (fun W hW => exec_field rfl rfl (fptDisk4I _ _)) ?_
    simp only [Act.put, List.setIfInBounds_toArray, List.set_cons_zero, List.set_cons_succ]
    refine reg_take (.int .i64 d.2.2.2.2) (i := 8) (n := 18) HSS rfl (by kernel_rfl) (by kernel_rfl) (by kernel_rfl) (by kernel_rfl) (fun _ _ _ h => h) (fun W hW => exec_load rfl rfl (ldIntD ((HBK.out.mod hW.out id).cell 4))) ?_
    simp only [Act.put, List.setIfInBounds_toArray, List.set_cons_zero, List.set_cons_succ]
    refine reg_step (i := 1) rfl (by kernel_rfl) (fun K hK => ?_)
    refine wp_call (n := 11) (vals := [.pointer (some ⟨g, 0, none⟩)]) rfl rfl rfl (by kernel_rfl) (HU.out _ HSS.out) ?_
    rintro e w2 ⟨rfl, hm2⟩
    have HSS : Sec (New w w2) := ⟨HSS.out.transN hm2⟩
    refine ⟨_, rfl, hK.out _ _ (fun _ => HSS) ?_⟩
    clear hm2
    clear hK K
    simp only [Act.put, List.setIfInBounds_toArray, List.set_cons_zero, List.set_cons_succ]
    have hub2 : usedL d + dat.length ≤ 1000000000 := by omega
    refine reg_take (.int .i64 ((usedL d : Int) + (dat.length : Int))) (i := 4) (n := 14) HSS rfl (by kernel_rfl) (by kernel_rfl) (by kernel_rfl) (by kernel_rfl) (fun _ _ _ h => h) (fun W hW => exec_bin rfl rfl rfl (addI _ _ _ _ hub2 _)) ?_
    simp only [Act.put, List.setIfInBounds_toArray, List.set_cons_zero, List.set_cons_succ]
    refine reg_take (.bool (decide (d.2.2.2.2 < (usedL d : Int) + (dat.length : Int)))) (i := 9) (n := 19) HSS rfl (by kernel_rfl) (by kernel_rfl) (by kernel_rfl) (by kernel_rfl) (fun _ _ _ h => h) (fun W hW => exec_bin rfl rfl rfl (gtrI _ _ _ _ _)) ?_
    simp only [Act.put, List.setIfInBounds_toArray, List.set_cons_zero, List.set_cons_succ]
    refine reg_done (by kernel_rfl) ?_ _
    go_wp2
    go_meet
    exact ⟨rfl, HSS⟩
  case rest =>
    rename World => w1
    obtain ⟨rfl, HN1⟩ := hcut
    by_cases hq : d.2.2.2.2 < (usedL d : Int) + (dat.length : Int)
    · have e5 := (HENV.out.mod (HN1.out.mono (T := fun k => lo ≤ k) (fun i hi h => h.elim))).c5
      have HRES := Sec.mk (HR5.out hq)
      have hqd : decide (d.2.2.2.2 < (usedL d : Int) + (dat.length : Int)) = true := by simpa using hq
      rw [hqd]
      clear HR5 HR6 HR0 hqd hq
      go_wp2
      go_ret
      rw [HRES.out]
      exact ⟨rfl, HDS.out.new HN1.out, HN1.out.mono (fun i hi h => h.elim)⟩
    have hqd : decide (d.2.2.2.2 < (usedL d : Int) + (dat.length : Int)) = false := by simpa using hq
    rw [hqd]
    have HR6' : Sec ((40000 < d.1[nd].1.length + dat.length ∨ 200000 < sumD d.1 + dat.length) → res = (d, 6)) := ⟨HR6.out hq⟩
    have HR0' : Sec (¬ (40000 < d.1[nd].1.length + dat.length ∨ 200000 < sumD d.1 + dat.length) → res = ((d.1.set nd (d.1[nd].1 ++ dat, d.1[nd].2), d.2), 0)) := ⟨HR0.out hq⟩
    clear HR5 HR6 HR0 hqd hq
    have y0 : w1.cell? ⟨g, 0, none⟩ = some (.slice (some ⟨gb, 0, none⟩) d.1.length c0') := (HBK.out.mod HN1.out id).cell 0
    go_wp2
    clear y0
    go_loopw [7, 28] (fun t i wr => ∃ k : Nat, k ≤ d.1.length ∧ i = .int .i64 (k : Int) ∧ t = .int .i64 ((dat.length : Int) + (sumD (d.1.take k) : Int)) ∧ Sec (New w wr)) (fun _ i _ => d.1.length - (intOf i).toNat)
    case atStart => exact ⟨0, Nat.zero_le _, rfl, by simp [sumD], HN1⟩
    case round =>
      clear HN1
      obtain ⟨k, hk, rfl, rfl, HM⟩ := hrel
      by_cases hlt : k < d.1.length
      · obtain ⟨bd', An, cn, hbd', n0, n1, hcc, hcm, hrow, hw⟩ := node_at (HR0N.out.mod (w' := wr) (fun _ h => h) (fun k hk => HM.out.block k hk id)) (w' := wr) (fun _ _ => rfl) hlt
        obtain rfl : (⟨gb, 0, none⟩ : Addr) = bd' := Option.some.inj hbd'
        rw [add_own] at n0 n1
        have hki : (k : Int) < (d.1.length : Int) := by omega
        have HT := Sec.mk (sumD_take hlt)
        have hs := HST.out k
        have hl := HL.out _ (List.getElem_mem hlt)
        have HMA := Sec.mk (HM.out.alloc (.cells #[.slice An d.1[k].1.length cn, .int .i64 d.1[k].2] 49))
        clear hrow hw
        generalize hz : d.1[k] = z at *
        generalize sumD (d.1.take k) = s at *
        obtain ⟨zd, safe⟩ := z
        simp only at n0 n1 hcc hl HT HMA
        clear hz
        go_wp2
        go_roundw
        case rel => exact ⟨k + 1, by omega, by go_num, by rw [HT.out]; go_num, HMA⟩
        case measure => simp [intOf]; omega
      · obtain rfl : k = d.1.length := by omega
        rw [List.take_length]
        have HO1 := HO.out.new HM.out
        have hgbw : gb < w.heap.size := by
          obtain ⟨gb', v', f', e1, -, -, -, -, hc, -, -, -, -⟩ := HO.out.appData hnd (fun k hk => by omega)
          obtain rfl : gb = gb' := by have := Option.some.inj e1; injection this
          exact World.block_lt_of_cell? _ _ hc
        have hsw := HM.out.size
        obtain ⟨gb', v', f, hbd, hXg, hgf, hXf, hov, hc0, hc1, hfz, hgbl, HAPP⟩ := HO1.appData hnd (fun k hk => by omega)
        obtain rfl : gb = gb' := by have := Option.some.inj hbd; injection this
        have HAP := Sec.mk HAPP
        obtain ⟨Av, cv, rfl, hcv1, hcv2⟩ := hov.form
        have HOV := Sec.mk hov
        have HXF := Sec.mk hXf
        have HGF := Sec.mk hgf
        have HB1 := Sec.mk (HBK.out.mod HM.out id)
        have hl := HL.out _ (List.getElem_mem hnd)
        have HFZ := Sec.mk hfz
        clear HAPP hov hXf hgf hbd HO1 hfz HL HST HU
        have HDR := Sec.mk (HRD.out.mod (w' := wr) (B' := B) (fun _ h => h) (fun k hk => HM.out.block k (HBD.out k hk) id))
        have HMODL := Sec.mk (HM.out.mono (T := fun k => lo ≤ k) (fun i hi h => h.elim))
        have hgl : g < wr.heap.size := by omega
        have hfin : (40000 < d.1[nd].1.length + dat.length) ∨ (¬ 40000 < d.1[nd].1.length + dat.length ∧ 200000 < sumD d.1 + dat.length) ∨ ¬ (40000 < d.1[nd].1.length + dat.length ∨ 200000 < sumD d.1 + dat.length) := by omega
        generalize hz : d.1[nd] = z at *
        obtain ⟨zd, safe⟩ := z
        simp only at hc0 hc1 hl hfin HOV HR6' HR0' HAP hcv1 hcv2
        clear hz
        rcases hfin with h4 | ⟨h4, h2⟩ | h24
        · have e6 := (HENV.out.mod HMODL.out).c6
          have h4i : (40000 : Int) < (zd.length : Int) + (dat.length : Int) := by omega
          have HRES := Sec.mk (HR6'.out (Or.inl h4))
          clear HR6' HR0' h4
          go_wp2
          go_ret
          rw [HRES.out]
          exact ⟨rfl, HDS.out.new HM.out, HMODL.out⟩
        · have e6 := (HENV.out.mod HMODL.out).c6
          have h4i : ¬ (40000 : Int) < (zd.length : Int) + (dat.length : Int) := by omega
          have h2i : (200000 : Int) < (dat.length : Int) + (sumD d.1 : Int) := by omega
          have HRES := Sec.mk (HR6'.out (Or.inr h2))
          clear HR6' HR0' h4 h2
          go_wp2
          go_ret
          rw [HRES.out]
          exact ⟨rfl, HDS.out.new HM.out, HMODL.out⟩
        · have h4i : ¬ (40000 : Int) < (zd.length : Int) + (dat.length : Int) := by omega
          have h2i : ¬ (200000 : Int) < (dat.length : Int) + (sumD d.1 : Int) := by omega
          have hlen : zd.length + dat.length ≤ 34359738368 := by omega
          have HRES := Sec.mk (HR0'.out h24)
          clear HR6' HR0' h24
          go_wp2_with (at_builtin; go_loud (refine wpList_appF _ rfl (.tmp 56) (.tmp 57) _ rfl Tryd.underlying22 elt_byte flat_byte rfl rfl HOV.out HDR.out hlen ?_; intro A6 n6 c6 w6 F6 ho6 hF6 hm6; have HO6 := Sec.mk ho6; have HF6 := Sec.mk hF6; have HM6 := Sec.mk hm6; have d0 : w6.cell? ⟨gb, nd * 2, none⟩ = some (.slice Av zd.length cv) := (hm6.cell hgbl HGF.out).trans hc0; have d1 : w6.cell? ⟨gb, nd * 2 + 1, none⟩ = some (.int .i64 safe) := (hm6.cell hgbl HGF.out).trans hc1; have g0 : w6.frozen? ⟨gb, nd * 2, none⟩ = false := (hm6.frozen hgbl HGF.out).trans (HFZ.out _); have g1 : w6.frozen? ⟨gb, nd * 2 + 1, none⟩ = false := (hm6.frozen hgbl HGF.out).trans (HFZ.out _); have hb6 : gb < w6.heap.size := Nat.lt_of_lt_of_le hgbl hm6.size; clear ho6 hF6 hm6))
          go_ret
          have hmc : Mod (fun k => k = gb) w6 (w6.setCell ⟨gb, nd * 2, none⟩ (.slice A6 n6 c6)) := (Mod.refl (fun k => k = gb) w6).setCell (p := ⟨gb, nd * 2, none⟩) (fun _ => rfl) _
          have HO7 := HAP.out w6 (.slice A6 n6 c6) F6 (zd ++ dat) HM6.out HO6.out HF6.out
          have hgg : g ≠ gb := fun e => hXg.2 e.symm
          have HB7 := (HB1.out.mod HM6.out (fun h => (HXF.out g h).2 rfl)).mod hmc hgg
          rw [HRES.out]
          exact ⟨rfl, ⟨t, _, _, _, _, HB7, HO7, hlg⟩, (HMODL.out.trans HM6.out (fun i hi _ => (HXF.out i hi).1)).trans hmc (fun i hi _ => by rw [hi]; exact hXg.1)⟩
end Go.Proofs.YtkkgighgnbbgiaaDoor

namespace Go.Proofs.YtkkgighgnbbgiaaDoor
open Go.RowKit Mem
set_option linter.unusedVariables false
theorem nodup_parts {Fs : List (List Nat)} (h : Fs.flatten.Nodup) {i j : Nat} {fi fj : List Nat} (hi : Fs[i]? = some fi) (hj : Fs[j]? = some fj) (hij : i < j) : ∀ k, k ∈ fi → k ∉ fj := by
  intro k hk hk2
  have hiF : i < Fs.length := (List.getElem?_eq_some_iff.1 hi).1
  have hsplit : Fs = Fs.take i ++ fi :: Fs.drop (i + 1) := by
    rw [← (List.getElem?_eq_some_iff.1 hi).2, ← List.drop_eq_getElem_cons hiF, List.take_append_drop]
  have hm : fj ∈ Fs.drop (i + 1) := List.mem_of_getElem? (i := j - (i + 1)) (by rw [List.getElem?_drop]; rw [show i + 1 + (j - (i + 1)) = j by omega]; exact hj)
  rw [hsplit] at h
  simp only [List.flatten_append, List.flatten_cons, List.nodup_append] at h
  exact h.2.1.2.2 k hk k (List.mem_flatten.2 ⟨fj, hm, hk2⟩) rfl
theorem Own.parts {α : Type} {d : Ty α} {e : TypeId} {w : World} {F : List Nat} {A : Option Addr} {n cp : Nat} {xs : List α} (h : Own d e w F (.slice A n cp) xs) :
    ∃ (g : Nat) (fo : Nat → List Nat) (co : Nat → List Value), (0 < xs.length → A = some ⟨g, 0, none⟩ ∧ g ∈ F) ∧
      (∀ j (hj : j < xs.length), d.M w (fo j) xs[j] (co j) ∧ (∀ k, k ∈ fo j → k ∈ F ∧ k ≠ g) ∧ (∀ i, i < d.sz → w.cell? ⟨g, j * d.sz + i, none⟩ = (co j)[i]?)) ∧
      (∀ i j, i < xs.length → j < xs.length → i ≠ j → ∀ k, k ∈ fo i → k ∉ fo j) := by
  have h0 := h
  obtain rfl : n = xs.length := by
    obtain ⟨A', c', e, _⟩ := h.form
    injection e
  obtain ⟨inner, Fs, ho, hE, rfl, hnd⟩ := h
  by_cases hz : xs.length = 0
  · exact ⟨0, fun _ => [], fun _ => [], fun h => by omega, fun j hj => by omega, fun i j hi => by omega⟩
  obtain ⟨g, cs0, f0, hA, hg, -⟩ := h0.elem (show 0 < xs.length by omega)
  refine ⟨g, fun j => Fs[j]?.getD [], fun j => ?_, fun _ => ⟨hA, hg⟩, ?_, ?_⟩
  · exact ((inner.drop (j * d.sz)).take d.sz)
  · intro j hj
    obtain ⟨c, f, hf, hM, hcl, l, r, hcs, hl⟩ := hE.at_ (List.getElem?_eq_getElem hj)
    have hc : (inner.drop (j * d.sz)).take d.sz = c := by
      rw [hcs, ← hl, List.drop_left, List.take_append_of_le_length (by omega), List.take_of_length_le (by omega)]
    simp only [hf, Option.getD_some, hc]
    have hfin : ∀ k, k ∈ f → k ∈ Fs.flatten := fun k hk => List.mem_flatten.2 ⟨f, List.mem_of_getElem? hf, hk⟩
    have hown : g ∈ (Value.slice A xs.length cp).ownBlock.toList := by rw [hA]; simp [Value.ownBlock]
    refine ⟨hM, fun k hk => ⟨List.mem_append_right _ (hfin k hk), fun e => (List.nodup_append.1 hnd).2.2 g hown k (hfin k hk) e.symm⟩, fun i hi => ?_⟩
    have hill : inner.length = xs.length * d.sz := hE.clen
    have ho' := ho
    rw [hA] at ho'
    have hb := ho'.cellAt (j * d.sz + i) (by have := Nat.mul_le_mul_right d.sz (show j + 1 ≤ xs.length from hj); rw [Nat.add_mul] at this; omega)
    rw [hb, hcs,
        List.getElem?_append_right (by omega), List.getElem?_append_left (by omega), hl, Nat.add_sub_cancel_left]
  · intro i j hi hj hij k hk
    obtain ⟨ci, fi, hfi, -⟩ := hE.at_ (List.getElem?_eq_getElem hi)
    obtain ⟨cj, fj, hfj, -⟩ := hE.at_ (List.getElem?_eq_getElem hj)
    simp only [hfi, hfj, Option.getD_some] at hk ⊢
    have hfl := (List.nodup_append.1 hnd).2.1
    rcases Nat.lt_or_gt_of_ne hij with h1 | h1
    · exact nodup_parts hfl hfi hfj h1 k hk
    · exact fun hk2 => nodup_parts hfl hfj hfi h1 k hk2 hk
theorem ent_inv {w : World} {f : List Nat} {x : EntryT} {cs : List Value} (h : dEntry.M w f x cs) : f = [] ∧ cs = [.string ⟨x.1.toArray⟩, .int .i64 x.2] ∧ x.1.length ≤ 9223372036854775807 ∧ IntKind.i64.wrap x.2 = x.2 := by
  obtain ⟨c0, c1, f0, f1, rfl, rfl, hnd, ⟨rfl, rfl, h0⟩, ⟨rfl, rfl, h1⟩⟩ := h
  exact ⟨rfl, rfl, h0, h1⟩
theorem entSet {w : World} {F : List Nat} {A : Option Addr} {n c : Nat} {es : EntryST} (h : Own dEntry 37 w F (.slice A n c) es) {k : Nat} (hk : k < es.length) :
    ∃ g, A = some ⟨g, 0, none⟩ ∧ g ∈ F ∧ w.cell? ⟨g, k * 2, none⟩ = some (.string ⟨es[k].1.toArray⟩) ∧ w.cell? ⟨g, k * 2 + 1, none⟩ = some (.int .i64 es[k].2) ∧ (∀ i, w.frozen? ⟨g, i, none⟩ = false) ∧
      ∀ m : Int, IntKind.i64.wrap m = m → ∃ F', Own dEntry 37 (w.setCell ⟨g, k * 2 + 1, none⟩ (.int .i64 m)) F' (.slice A n c) (es.set k (es[k].1, m)) ∧ ∀ i, i ∈ F' → i ∈ F := by
  obtain ⟨g, cs, f, hA, hg, hgf, hfF, hM, hcl, hcell, hfz, hst⟩ := h.elem hk
  obtain ⟨rfl, rfl, h0, h1⟩ := ent_inv hM
  have hs2 : dEntry.sz = 2 := rfl
  have hc0 := hcell 0 (by rw [hs2]; decide)
  have hc1 := hcell 1 (by rw [hs2]; decide)
  rw [hs2] at hc0 hc1
  refine ⟨g, hA, hg, hc0, hc1, hfz, fun m hm => ?_⟩
  obtain ⟨F', hO, -, hF'⟩ := hst 1 (.int .i64 m) (es[k].1, m) [] (by rw [hs2]; decide) (mEntry (x := (es[k].1, m)) h0 hm) (fun k hk => by cases hk)
  rw [hs2] at hO
  exact ⟨F', hO, fun i hi => (hF' i hi).elim id (fun h => by cases h)⟩
def numE (l : List EntL) (k : Nat) : List EntL := (crashEs l).take k ++ l.drop k
theorem numE_len (l : List EntL) (k : Nat) : (numE l k).length = l.length := by
  unfold numE; rw [List.length_append, List.length_take, List.length_drop, crashEs_len]; omega
theorem numE_end (l : List EntL) : numE l l.length = crashEs l := by
  unfold numE
  rw [List.drop_length, List.append_nil, List.take_of_length_le (by rw [crashEs_len]; omega)]
theorem numE_at (l : List EntL) {k : Nat} (hk : k < l.length) : (numE l k)[k]? = some l[k] := by
  unfold numE
  rw [List.getElem?_append_right (by rw [List.length_take]; omega), List.length_take, crashEs_len, List.getElem?_drop]
  rw [show k + (k - min k l.length) = k by omega]
  exact List.getElem?_eq_getElem hk
theorem numE_step (l : List EntL) {k : Nat} (hk : k < l.length) : (numE l k).set k (l[k].1, (k : Int)) = numE l (k + 1) := by
  have h1 : (crashEs l)[k]? = some (l[k].1, (k : Int)) := by
    unfold crashEs
    rw [List.getElem?_mapIdx, List.getElem?_eq_getElem hk]; rfl
  have hkc : k < (crashEs l).length := by rw [crashEs_len]; exact hk
  unfold numE
  rw [List.set_append_right _ _ (by rw [List.length_take]; omega), List.length_take, crashEs_len, show k - min k l.length = 0 by omega, List.drop_eq_getElem_cons hk, List.set_cons_zero, List.take_succ_eq_append_getElem hkc, List.append_assoc]
  rw [(List.getElem?_eq_some_iff.1 h1).2]
  rfl
end Go.Proofs.YtkkgighgnbbgiaaDoor
