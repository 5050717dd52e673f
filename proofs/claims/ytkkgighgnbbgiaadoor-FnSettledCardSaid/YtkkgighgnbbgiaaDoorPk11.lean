/- The program's binding and leaving of a name. The program's replay of an operation on names. DiskValid of the program. -/
import Derived.Test.YtkkgighgnbbgiaaDoorPk10
import Derived.Test.YtkkgighgnbbgiaaDoorPk4
import Derived.Test.YtkkgighgnbbgiaaDoorPk7
namespace Go.Proofs.YtkkgighgnbbgiaaDoor
open Go.RowKit Mem
set_option linter.unusedVariables false
set_option linter.unusedSimpArgs false
namespace Mem
theorem wp_app {P : Program} (w : World) {o : Oper} {a : Act} {K : Act → World → Prop} {Q : Exit → Act → World → Prop} (s x : Operand) (t : TypeId)
    (ho : o.op = .call { callee := .builtin .append, args := #[s, x], argTypes := #[t, t] })
    {α : Type} {d : Ty α} {e : TypeId} {z : Value} (ht : P.underlying t = some (.slice e)) (hE : Elt P e d.sz z) (hf : Flat d)
    {w0 : World} {A A' : Option Addr} {n m c c' : Nat} {xs ys : List α} {B : Nat → Prop} (hs : a.eval s = .slice A n c) (hx : a.eval x = .slice A' m c') (hown : Mine d e w0 w (.slice A n c) xs) (hy : Row d w B A' m ys)
    (hlen : xs.length + ys.length ≤ 34359738368)
    (h : ∀ A' n' c' w', Mine d e w0 w' (.slice A' n' c') (xs ++ ys) → K (a.put o.dst (.slice A' n' c')) w') : o.wp P a w K Q := by
  obtain ⟨news, hel, hA⟩ := hy.flat hf
  obtain ⟨⟨F, ho2, hF⟩, hn⟩ := hown
  refine wp_append w s x t ho d e ht hE hs ho2 hx hel hy.1 hA (by rw [flat_nil]; exact List.nodup_nil) (by rw [flat_nil]; intro k hk; cases hk) (by have := hy.1; omega) ?_
  intro A2 n2 c2 w2 F2 ho3 hn2 hm2 hF2
  exact h _ _ _ _ ⟨⟨F2, ho3, far_app hn hF (by rw [flat_nil]; simp) hF2⟩, New.app hn ho2 hF hm2⟩
end Mem
theorem place_lt2 {l : List EntL} (h : Ord l) {n : LB} (hn : hasE l n = true) : placeE l n < l.length := ((place_at h n).1.mp hn).1
theorem addOne (x y : Operand) (k : Nat) (hk : k ≤ 1048576) (w : World) : (do eqGuard .add 3 x y (.int .i64 (k : Int)) (.int .i64 1); binOp .add 3 (.int .i64 (k : Int)) (.int .i64 1) : Sem Value).run Tryd.prog w = .ok (.int .i64 ((k + 1 : Nat) : Int)) w := by
  have hw : IntKind.i64.wrap ((k : Int) + 1) = (k : Int) + 1 := by rw [IntKind.wrap_i64]; omega
  go_simp
theorem buildEnt (z : Bytes) (u : Int) (w : World) : (Instr.build 37 #[(0, .string ⟨z.toArray⟩), (1, .int .i64 u)]).run Tryd.prog w = .ok (.agg #[.string ⟨z.toArray⟩, .int .i64 u]) w := by go_simp
theorem buildEnt1 (z : Bytes) (u : Int) (w : World) : (Instr.buildSlice 24 1 #[(0, .agg #[.string ⟨z.toArray⟩, .int .i64 u])]).run Tryd.prog w = .ok (.slice (some ⟨w.heap.size, 0, none⟩) 1 1) (w.alloc (.cells #[.string ⟨z.toArray⟩, .int .i64 u] 37)) := by go_simp
theorem buildEnt0 (w : World) : (Instr.buildSlice 24 0 #[]).run Tryd.prog w = .ok (.slice (some ⟨w.heap.size, 0, none⟩) 0 0) (w.alloc (.cells #[] 37)) := by go_simp
theorem slcTo {A : Option Addr} {n c k : Nat} (hk : k ≤ c) (w : World) : (Instr.sliceAt 24 (.slice A n c) none (some (.int .i64 (k : Int))) none).run Tryd.prog w = .ok (.slice A k c) w := slice_to Tryd.underlying24 hk (by kernel_rfl)
theorem slcFrom {A : Option Addr} {n c k : Nat} (hk : k ≤ n) (hc : n ≤ c) (w : World) : (Instr.sliceAt 24 (.slice A n c) (some (.int .i64 (k : Int))) none none).run Tryd.prog w = .ok (.slice (if c = k then A else A.map (fun x => x.add (k * 2))) (n - k) (c - k)) w := by
  by_cases h : c = k
  · subst h; go_simp
  · go_simp
set_option maxHeartbeats 4000000 in
set_option maxRecDepth 100000 in
theorem leave_calls {A : Option Addr} {c : Nat} {xs : List EntryT} {B : Nat → Prop} {w : World} (h : Row dEntry w B A xs.length xs) (hB : ∀ k, B k → k < w.heap.size) (hc : xs.length ≤ c) (hl : xs.length ≤ 1048576) (ho : Ord xs) (nm : Bytes) (hh : hasE xs nm = true) :
    Calls Tryd.prog 54 #[.slice A xs.length c, .string ⟨nm.toArray⟩] w (RetOwn dEntry 37 w (outE xs nm)) := by
  have HR := Sec.mk h
  have HB := Sec.mk hB
  have HP := Sec.mk (place_calls (c := c) h hB hl ho nm)
  have HLV := Sec.mk (leave_is ho nm hh)
  have hpl := place_lt2 ho hh
  clear h hB ho
  go_enter Tryd.func54, Tryd.ntmps54
  go_wp2_with fail
  refine HP.out.mono ?_
  rintro e w1 ⟨rfl, hm1⟩
  have HM1 := Sec.mk hm1
  have HR1 : Sec (∀ W, New w1 W → Row dEntry W B A xs.length xs) := ⟨fun W hW => HR.out.mod (fun _ h => h) (fun k hk => (HM1.out.transN hW).block k (HB.out k hk) id)⟩
  clear hm1 HP HR HB hh
  generalize placeE xs nm = pl at *
  go_wp2
  have HSS : True := trivial
  obtain ⟨AT, hAT⟩ : ∃ AT, AT = (if c = pl + 1 then A else A.map (fun x => x.add ((pl + 1) * 2))) := ⟨_, rfl⟩
  refine reg_start [] (fun _ => True) (by kernel_rfl) ?_
  refine reg_take (.slice A xs.length c) (i := 1) (n := 14) HSS rfl (by kernel_rfl) (by kernel_rfl) (by kernel_rfl) (by kernel_rfl) (fun _ _ _ h => h) (fun W hW => exec_move rfl rfl) ?_
  simp only [Act.put, List.setIfInBounds_toArray, List.set_cons_zero, List.set_cons_succ]
  refine reg_take (.int .i64 (pl : Int)) (i := 2) (n := 15) HSS rfl (by kernel_rfl) (by kernel_rfl) (by kernel_rfl) (by kernel_rfl) (fun _ _ _ h => h) (fun W hW => exec_move rfl rfl) ?_
  simp only [Act.put, List.setIfInBounds_toArray, List.set_cons_zero, List.set_cons_succ]
  refine reg_take (.slice A pl c) (i := 3) (n := 16) HSS rfl (by kernel_rfl) (by kernel_rfl) (by kernel_rfl) (by kernel_rfl) (fun _ _ _ h => h) (fun W hW => exec_slice rfl rfl rfl rfl rfl (slcTo (by omega) _)) ?_
  simp only [Act.put, List.setIfInBounds_toArray, List.set_cons_zero, List.set_cons_succ]
  refine reg_take (.slice A xs.length c) (i := 5) (n := 18) HSS rfl (by kernel_rfl) (by kernel_rfl) (by kernel_rfl) (by kernel_rfl) (fun _ _ _ h => h) (fun W hW => exec_move rfl rfl) ?_
  simp only [Act.put, List.setIfInBounds_toArray, List.set_cons_zero, List.set_cons_succ]
  refine reg_take (.int .i64 (pl : Int)) (i := 6) (n := 19) HSS rfl (by kernel_rfl) (by kernel_rfl) (by kernel_rfl) (by kernel_rfl) (fun _ _ _ h => h) (fun W hW => exec_move rfl rfl) ?_
  simp only [Act.put, List.setIfInBounds_toArray, List.set_cons_zero, List.set_cons_succ]
  refine reg_take (.int .i64 ((pl + 1 : Nat) : Int)) (i := 7) (n := 20) HSS rfl (by kernel_rfl) (by kernel_rfl) (by kernel_rfl) (by kernel_rfl) (fun _ _ _ h => h) (fun W hW => exec_bin rfl rfl rfl (addOne _ _ _ (by omega) _)) ?_
  simp only [Act.put, List.setIfInBounds_toArray, List.set_cons_zero, List.set_cons_succ]
  refine reg_take (.slice AT (xs.length - (pl + 1)) (c - (pl + 1))) (i := 8) (n := 21) HSS rfl (by kernel_rfl) (by kernel_rfl) (by kernel_rfl) (by kernel_rfl) (fun _ _ _ h => h) (fun W hW => exec_slice rfl rfl rfl rfl rfl (hAT ▸ slcFrom (by omega) hc _)) ?_
  simp only [Act.put, List.setIfInBounds_toArray, List.set_cons_zero, List.set_cons_succ]
  refine reg_step (i := 0) rfl (by kernel_rfl) (fun K hK => ?_)
  refine wp_valw (n := 13) (v := .slice (some ⟨w1.drew.heap.size, 0, none⟩) 0 0) (w' := w1.drew.alloc (.cells #[] 37)) (exec_buildSlice (parts := []) (vs := []) rfl rfl (buildEnt0 _)) rfl ?_
  refine hK.out _ _ (fun _ => trivial) ?_
  clear hK K
  simp only [Act.put, List.setIfInBounds_toArray, List.set_cons_zero, List.set_cons_succ]
  have HO0 : Mine dEntry 37 w1 (w1.drew.alloc (.cells #[] 37)) (.slice (some ⟨w1.drew.heap.size, 0, none⟩) 0 0) [] := Mine.empty _ _ rfl (Mod.refl _ _).drew
  refine reg_step (i := 4) rfl (by kernel_rfl) (fun K hK => ?_)
  refine wp_app _ (.tmp 13) (.tmp 16) _ rfl Tryd.underlying24 elt_entry flatEntry rfl rfl HO0 ((HR1.out _ HO0.new).take (m := pl) (by omega)) (by rw [List.length_take]; simp; omega) ?_
  intro A2 n2 c2 w2 HO2
  refine hK.out _ _ (fun _ => trivial) ?_
  clear hK K
  simp only [Act.put, List.setIfInBounds_toArray, List.set_cons_zero, List.set_cons_succ]
  refine reg_step (i := 9) rfl (by kernel_rfl) (fun K hK => ?_)
  have hcut := (HR1.out _ HO2.new).cut (k := pl + 1) (m := xs.length) (cap := c) (by omega) (Nat.le_refl _) hc
  rw [List.take_length, show (if c = pl + 1 then A else A.map (fun x => x.add ((pl + 1) * dEntry.sz))) = AT from hAT.symm] at hcut
  refine wp_app _ (.tmp 17) (.tmp 21) _ rfl Tryd.underlying24 elt_entry flatEntry rfl rfl HO2 hcut (by rw [List.nil_append, List.length_take, List.length_drop]; omega) ?_
  intro A3 n3 c3 w3 HO3
  refine hK.out _ _ (fun _ => trivial) ?_
  rw [List.nil_append, HLV.out] at HO3
  have HO4 := Sec.mk HO3
  clear HO3 HO2 HO0 hcut
  clear hK K
  simp only [Act.put, List.setIfInBounds_toArray, List.set_cons_zero, List.set_cons_succ]
  refine reg_take (.slice A3 n3 c3) (i := 10) (n := 4) HSS rfl (by kernel_rfl) (by kernel_rfl) (by kernel_rfl) (by kernel_rfl) (fun _ _ _ h => h) (fun W hW => exec_assign rfl rfl) ?_
  simp only [Act.put, List.setIfInBounds_toArray, List.set_cons_zero, List.set_cons_succ]
  refine reg_done (by kernel_rfl) ?_ _
  go_wp2
  go_ret
  exact (HO4.out.base HM1.out).ret
set_option maxHeartbeats 4000000 in
set_option maxRecDepth 100000 in
theorem bind_calls {A : Option Addr} {c : Nat} {xs : List EntryT} {B : Nat → Prop} {w : World} (h : Row dEntry w B A xs.length xs) (hB : ∀ k, B k → k < w.heap.size) (hc : xs.length ≤ c) (hl : xs.length ≤ 1048576) (ho : Ord xs) (nm : Bytes) (hn : nm.length ≤ 9223372036854775807) (v : Int) (hv : IntKind.i64.wrap v = v) :
    Calls Tryd.prog 53 #[.slice A xs.length c, .string ⟨nm.toArray⟩, .int .i64 v] w (RetOwn dEntry 37 w (withE xs nm v)) := by
  have HR := Sec.mk h
  have HB := Sec.mk hB
  have HN := Sec.mk hn
  have HV := Sec.mk hv
  have HP := Sec.mk (place_calls (c := c) h hB hl ho nm)
  have HBT := Sec.mk (bind_there ho nm v)
  have HBN := Sec.mk (bind_not ho nm v)
  have hple := placeE_le xs nm
  have HPA := Sec.mk (place_at ho nm).1
  clear h hB ho hn hv
  go_enter Tryd.func53, Tryd.ntmps53
  go_wp2_with fail
  refine HP.out.mono ?_
  rintro e w1 ⟨rfl, hm1⟩
  have HM1 := Sec.mk hm1
  have HR1 : Sec (∀ W, New w1 W → Row dEntry W B A xs.length xs) := ⟨fun W hW => HR.out.mod (fun _ h => h) (fun k hk => (HM1.out.transN hW).block k (HB.out k hk) id)⟩
  clear hm1 HP HR HB
  generalize placeE xs nm = pl at *
  cases hh : hasE xs nm
  · have HB2 := Sec.mk (HBN.out hh)
    have HT := Sec.mk fun W hW => (HR1.out W hW).take (m := pl) hple
    have htl : (xs.take pl).length = pl := by rw [List.length_take]; omega
    generalize htk : xs.take pl = tk at *
    have HE0 := Sec.mk fun g (hg : g = w1.heap.size) => (Mine.empty (w := w1) dEntry 37 hg (Mod.refl _ _) : Mine dEntry 37 w1 _ _ [])
    have hpc : (pl : Int) ≤ (c : Int) := by omega
    clear hh HBT HPA
    go_wp2_with (at_builtin; go_loud (refine wpList_app _ rfl (.tmp 27) (.tmp 30) _ rfl Tryd.underlying24 elt_entry flatEntry rfl rfl (HE0.out _ (by simp)) (HT.out _ (HE0.out _ rfl).new) (show ([] : List EntryT).length + tk.length ≤ 34359738368 by simp; omega) ?_; intro A2 n2 c2 w2 HO2))
    rw [List.nil_append] at HO2
    have HO2s := Sec.mk HO2
    clear HO2
    have HSS : True := trivial
    obtain ⟨AT, hAT⟩ : ∃ AT, AT = (if c = pl then A else A.map (fun x => x.add (pl * 2))) := ⟨_, rfl⟩
    refine reg_start [] (fun _ => True) (by kernel_rfl) ?_
    refine reg_take (.slice A2 n2 c2) (i := 0) (n := 32) HSS rfl (by kernel_rfl) (by kernel_rfl) (by kernel_rfl) (by kernel_rfl) (fun _ _ _ h => h) (fun W hW => exec_move rfl rfl) ?_
    simp only [Act.put, List.setIfInBounds_toArray, List.set_cons_zero, List.set_cons_succ]
    refine reg_take (.string ⟨nm.toArray⟩) (i := 1) (n := 33) HSS rfl (by kernel_rfl) (by kernel_rfl) (by kernel_rfl) (by kernel_rfl) (fun _ _ _ h => h) (fun W hW => exec_move rfl rfl) ?_
    simp only [Act.put, List.setIfInBounds_toArray, List.set_cons_zero, List.set_cons_succ]
    refine reg_take (.int .i64 v) (i := 2) (n := 34) HSS rfl (by kernel_rfl) (by kernel_rfl) (by kernel_rfl) (by kernel_rfl) (fun _ _ _ h => h) (fun W hW => exec_move rfl rfl) ?_
    simp only [Act.put, List.setIfInBounds_toArray, List.set_cons_zero, List.set_cons_succ]
    refine reg_take (.agg #[.string ⟨nm.toArray⟩, .int .i64 v]) (i := 3) (n := 35) HSS rfl (by kernel_rfl) (by kernel_rfl) (by kernel_rfl) (by kernel_rfl) (fun _ _ _ h => h) (fun W hW => exec_build (parts := [(0, .tmp 33), (1, .tmp 34)]) rfl rfl (buildEnt _ _ _)) ?_
    simp only [Act.put, List.setIfInBounds_toArray, List.set_cons_zero, List.set_cons_succ]
    refine reg_take (.slice A xs.length c) (i := 6) (n := 38) HSS rfl (by kernel_rfl) (by kernel_rfl) (by kernel_rfl) (by kernel_rfl) (fun _ _ _ h => h) (fun W hW => exec_move rfl rfl) ?_
    simp only [Act.put, List.setIfInBounds_toArray, List.set_cons_zero, List.set_cons_succ]
    refine reg_take (.int .i64 (pl : Int)) (i := 7) (n := 39) HSS rfl (by kernel_rfl) (by kernel_rfl) (by kernel_rfl) (by kernel_rfl) (fun _ _ _ h => h) (fun W hW => exec_move rfl rfl) ?_
    simp only [Act.put, List.setIfInBounds_toArray, List.set_cons_zero, List.set_cons_succ]
    refine reg_take (.slice AT (xs.length - pl) (c - pl)) (i := 8) (n := 40) HSS rfl (by kernel_rfl) (by kernel_rfl) (by kernel_rfl) (by kernel_rfl) (fun _ _ _ h => h) (fun W hW => exec_slice rfl rfl rfl rfl rfl (hAT ▸ slcFrom (by omega) hc _)) ?_
    simp only [Act.put, List.setIfInBounds_toArray, List.set_cons_zero, List.set_cons_succ]
    refine reg_step (i := 4) rfl (by kernel_rfl) (fun K hK => ?_)
    refine wp_valw (n := 36) (v := .slice (some ⟨w2.drew.heap.size, 0, none⟩) 1 1) (w' := w2.drew.alloc (.cells #[.string ⟨nm.toArray⟩, .int .i64 v] 37)) (exec_buildSlice (parts := [(0, .tmp 35)]) (vs := [(0, .agg #[.string ⟨nm.toArray⟩, .int .i64 v])]) rfl rfl (buildEnt1 _ _ _)) rfl ?_
    refine hK.out _ _ (fun _ => trivial) ?_
    clear hK K
    simp only [Act.put, List.setIfInBounds_toArray, List.set_cons_zero, List.set_cons_succ]
    have HO3 := HO2s.out.step (Mod.refl _ _).drew
    refine reg_step (i := 5) rfl (by kernel_rfl) (fun K hK => ?_)
    refine wp_app _ (.tmp 32) (.tmp 36) _ rfl Tryd.underlying24 elt_entry flatEntry rfl rfl (HO3.alloc _) (rowEnt _ HN.out HV.out rfl) (show tk.length + [((nm, v) : EntryT)].length ≤ 34359738368 by simp only [List.length_singleton]; omega) ?_
    intro A4 n4 c4 w4 HO4
    refine hK.out _ _ (fun _ => trivial) ?_
    clear hK K
    simp only [Act.put, List.setIfInBounds_toArray, List.set_cons_zero, List.set_cons_succ]
    refine reg_step (i := 9) rfl (by kernel_rfl) (fun K hK => ?_)
    have hcut := (HR1.out _ HO4.new).cut (k := pl) (m := xs.length) (cap := c) (by omega) (Nat.le_refl _) hc
    rw [List.take_length, show (if c = pl then A else A.map (fun x => x.add (pl * dEntry.sz))) = AT from hAT.symm] at hcut
    refine wp_app _ (.tmp 37) (.tmp 40) _ rfl Tryd.underlying24 elt_entry flatEntry rfl rfl HO4 hcut (by rw [List.length_append, List.length_singleton, List.length_drop]; omega) ?_
    intro A5 n5 c5 w5 HO5
    refine hK.out _ _ (fun _ => trivial) ?_
    rw [List.append_assoc, List.singleton_append, HB2.out] at HO5
    have HO6 := Sec.mk HO5
    clear HO5 HO4 HO3 hcut
    clear hK K
    simp only [Act.put, List.setIfInBounds_toArray, List.set_cons_zero, List.set_cons_succ]
    refine reg_take (.slice A5 n5 c5) (i := 10) (n := 6) HSS rfl (by kernel_rfl) (by kernel_rfl) (by kernel_rfl) (by kernel_rfl) (fun _ _ _ h => h) (fun W hW => exec_assign rfl rfl) ?_
    simp only [Act.put, List.setIfInBounds_toArray, List.set_cons_zero, List.set_cons_succ]
    refine reg_done (by kernel_rfl) ?_ _
    go_wp2
    go_ret
    exact (HO6.out.base HM1.out).ret
  · have HB2 := Sec.mk (HBT.out hh)
    obtain ⟨hlt, hnm⟩ := HPA.out.1 hh
    have HNM := Sec.mk hnm
    have HE0 := Sec.mk fun g (hg : g = w1.heap.size) => (Mine.empty (w := w1) dEntry 37 hg (Mod.refl _ _) : Mine dEntry 37 w1 _ _ [])
    have hli : (pl : Int) < (xs.length : Int) := by omega
    clear hh HBN HPA hnm
    go_wp2_with (at_builtin; go_loud (refine wpList_app _ rfl (.tmp 18) (.tmp 19) _ rfl Tryd.underlying24 elt_entry flatEntry rfl rfl (HE0.out _ (by simp)) (HR1.out _ (HE0.out _ rfl).new) (show ([] : List EntryT).length + xs.length ≤ 34359738368 by simp; omega) ?_; intro A2 n2 c2 w2 HO2))
    rw [List.nil_append] at HO2
    obtain ⟨hnl, hncc, -⟩ := HO2.len
    have hnn := HO2.new
    obtain ⟨⟨F, ho, hF⟩, hn0⟩ := HO2
    obtain ⟨g, z, rfl, hgF, hcell, hKK, hfz, hst⟩ := Own.fstore fldEntry1 (fun _ _ _ _ h => h.1) ho hlt
    obtain ⟨_, hA0, -, hcell0, hfz0⟩ := ho.cellsAt (j := pl) hlt
    injection hA0 with hA0
    injection hA0 with hA0
    subst hA0
    simp only [show dEntry.sz = 2 from rfl] at hcell0
    obtain ⟨p0, hc0⟩ := hcell0 0 (by decide)
    have hf0 := hfz0 (pl * 2 + 0)
    simp only [Nat.add_zero] at hc0 hf0
    clear hcell0 hfz0
    obtain ⟨F', ho', hF'⟩ := hst (.int .i64 v) v (fun _ => ⟨rfl, rfl, HV.out⟩)
    rw [HNM.out, HB2.out] at ho'
    simp only [show dEntry.sz = 2 from rfl] at hcell hfz ho'
    have hgw := hF g hgF
    have HOW := Sec.mk ho'
    have HFW := Sec.mk (fun k hk => hF k (hF' k hk))
    have HMW := Sec.mk (hnn.setCell (p := ⟨g, pl * 2 + 1, none⟩) (fun h => absurd h (Nat.not_lt.2 hgw)) (.int .i64 v))
    subst hnl
    have hgl : g < w2.heap.size := World.block_lt_of_cell? _ _ hcell
    clear ho ho' hF hF' hst hKK hn0 hnn hple hncc
    go_wp2
    go_ret
    exact RetOwn.of HOW.out (fun k hk => Nat.le_trans HM1.out.size (HFW.out k hk)) (HM1.out.transN HMW.out)
end Go.Proofs.YtkkgighgnbbgiaaDoor

namespace Go.Proofs.YtkkgighgnbbgiaaDoor
open Go.RowKit Mem
set_option linter.unusedVariables false
set_option linter.unusedSimpArgs false
theorem ldIntR {w : World} {p : Addr} {v : Value} (h : w.cell? p = some v) : (Instr.loadAt 3 (.pointer (some p))).run Tryd.prog w = .ok v w := by go_simp
theorem fptEntry1R (p : Addr) (w : World) : (Instr.fieldAt 37 (.pointer (some p)) 1).run Tryd.prog w = .ok (.pointer (some ⟨p.block, p.off + 1, none⟩)) w := by go_simp
set_option maxHeartbeats 4000000 in
set_option maxRecDepth 100000 in
theorem replay_calls {A : Option Addr} {c : Nat} {xs : List EntryT} {B : Nat → Prop} {w : World} (h : Row dEntry w B A xs.length xs) (hB : ∀ k, B k → k < w.heap.size) (hc : xs.length ≤ c) (hl : xs.length ≤ 1048576) (ho : Ord xs) (q : DirOpT) (hq1 : q.2.1.length ≤ 9223372036854775807) (hq2 : q.2.2.1.length ≤ 9223372036854775807) (hq3 : IntKind.i64.wrap q.2.2.2 = q.2.2.2) (nodes : Int) :
    Calls Tryd.prog 24 #[.slice A xs.length c, .agg #[.int .i64 q.1, .string ⟨q.2.1.toArray⟩, .string ⟨q.2.2.1.toArray⟩, .int .i64 q.2.2.2], .int .i64 nodes] w (ReplR (replayL xs q nodes) w) := by
  obtain ⟨kd, nm, tq, nd⟩ := q
  simp only at hq1 hq2 hq3 ⊢
  have HW := Sec.mk hq3
  have HR := Sec.mk h
  have HB := Sec.mk hB
  have HOR := Sec.mk ho
  have HRL : Sec (replayL xs (kd, nm, tq, nd) nodes = if kd = 1 then (if goodL nm = true ∧ tq = [] ∧ 0 ≤ nd ∧ nd < nodes ∧ hasNode xs nd = false then some (withE xs nm nd) else none)
    else if kd = 4 then (if hasE xs nm = true ∧ goodL tq = true ∧ tq ≠ nm ∧ nd = 0 then some (withE (outE xs nm) tq ((xs[placeE xs nm]?.getD ([], 0)).2)) else none)
    else if kd = 5 then (if hasE xs nm = true ∧ tq = [] ∧ nd = 0 then some (outE xs nm) else none) else none) := ⟨rfl⟩
  generalize replayL xs (kd, nm, tq, nd) nodes = res at *
  have HBX := Sec.mk (Blk.new w 66 [.int .i64 kd, .string ⟨nm.toArray⟩, .string ⟨tq.toArray⟩, .int .i64 nd])
  have HM0 := Sec.mk ((Mod.refl (fun _ => False) w).alloc (.cells #[.int .i64 kd, .string ⟨nm.toArray⟩, .string ⟨tq.toArray⟩, .int .i64 nd] 66))
  have HR0 : Sec (∀ W, New w W → Row dEntry W B A xs.length xs) := ⟨fun W hW => HR.out.mod (fun _ h => h) (fun k hk => hW.block k (HB.out k hk) id)⟩
  have HB0 : Sec (∀ W, New w W → ∀ k, B k → k < W.heap.size) := ⟨fun W hW k hk => Nat.lt_of_lt_of_le (HB.out k hk) hW.size⟩
  clear h hB ho hq3
  go_enter Tryd.func24, Tryd.ntmps24
  go_wp2_with fail
  refine (place_calls (c := c) (HR0.out _ HM0.out) (HB0.out _ HM0.out) hl HOR.out nm).mono ?_
  rintro e w1 ⟨rfl, hw1⟩
  have HM1 := Sec.mk (HM0.out.transN hw1)
  have HX1 := Sec.mk (HBX.out.mod hw1 id)
  have b0 : w1.cell? ⟨w.heap.size, 0, none⟩ = some (.int .i64 kd) := HX1.out.cell 0
  have b1 : w1.cell? ⟨w.heap.size, 1, none⟩ = some (.string ⟨nm.toArray⟩) := HX1.out.cell 1
  have b2 : w1.cell? ⟨w.heap.size, 2, none⟩ = some (.string ⟨tq.toArray⟩) := HX1.out.cell 2
  have b3 : w1.cell? ⟨w.heap.size, 3, none⟩ = some (.int .i64 nd) := HX1.out.cell 3
  have hO : w.heap.size < w1.heap.size := HX1.out.lt
  clear hw1 HBX HM0
  by_cases hk1 : kd = 1
  · subst hk1
    have HR1 : Sec (res = if goodL nm = true ∧ tq = [] ∧ 0 ≤ nd ∧ nd < nodes ∧ hasNode xs nd = false then some (withE xs nm nd) else none) := ⟨HRL.out.trans (if_pos rfl)⟩
    clear HRL
    go_wp2_with fail
    refine (goodI_calls nm hq1 w1).mono ?_
    rintro e w2 ⟨rfl, rfl⟩
    by_cases hg : goodL nm = true
    rotate_left
    · have HE : Sec (res = none) := ⟨HR1.out.trans (if_neg (fun h => hg h.1))⟩
      have hg' : goodL nm = false := by simpa using hg
      rw [hg']
      clear hg hg'
      go_wp2
      go_ret2
      exact ReplR.bad HE.out HM1.out
    rw [hg]
    by_cases ht : tq = []
    rotate_left
    · have HE : Sec (res = none) := ⟨HR1.out.trans (if_neg (fun h => ht h.2.1))⟩
      have ht' : tq.isEmpty = false := by simpa using ht
      clear ht
      go_wp2
      go_ret2
      exact ReplR.bad HE.out HM1.out
    subst ht
    have hte : ([] : Bytes).isEmpty = true := rfl
    by_cases hn0 : 0 ≤ nd
    rotate_left
    · have HE : Sec (res = none) := ⟨HR1.out.trans (if_neg (fun h => hn0 h.2.2.1))⟩
      have hn0' : nd < 0 := by omega
      clear hn0
      go_wp2
      go_ret2
      exact ReplR.bad HE.out HM1.out
    have hn0' : ¬ nd < 0 := by omega
    by_cases hn1 : nd < nodes
    rotate_left
    · have HE : Sec (res = none) := ⟨HR1.out.trans (if_neg (fun h => hn1 h.2.2.2.1))⟩
      have hn1' : nodes ≤ nd := by omega
      clear hn1
      go_wp2
      go_ret2
      exact ReplR.bad HE.out HM1.out
    have hn1' : ¬ nodes ≤ nd := by omega
    have HR2 : Sec (res = if hasNode xs nd = false then some (withE xs nm nd) else none) := ⟨by
      rw [HR1.out]
      by_cases hh : hasNode xs nd = false
      · rw [if_pos hh, if_pos ⟨hg, rfl, hn0, hn1, hh⟩]
      · rw [if_neg hh, if_neg (fun h => hh h.2.2.2.2)]⟩
    clear HR1 hg
    go_wp2_with fail
    refine (boundTo_calls (c := c) (HR0.out _ HM1.out) (HB0.out _ HM1.out) nd).mono ?_
    rintro e w3 ⟨rfl, hm3⟩
    have HM3 := Sec.mk (HM1.out.transN hm3)
    have HX3 := Sec.mk (HX1.out.mod hm3 id)
    have d1 : w3.cell? ⟨w.heap.size, 1, none⟩ = some (.string ⟨nm.toArray⟩) := HX3.out.cell 1
    have d3 : w3.cell? ⟨w.heap.size, 3, none⟩ = some (.int .i64 nd) := HX3.out.cell 3
    have hO3 : w.heap.size < w3.heap.size := HX3.out.lt
    clear hm3 b0 b1 b2 b3
    cases hh : hasNode xs nd
    rotate_left
    · have HE : Sec (res = none) := ⟨HR2.out.trans (if_neg (by rw [hh]; simp))⟩
      clear hh
      go_wp2
      go_ret2
      exact ReplR.bad HE.out HM3.out
    have HE : Sec (res = some (withE xs nm nd)) := ⟨HR2.out.trans (if_pos hh)⟩
    clear hh
    go_wp2_with fail
    refine (bind_calls (HR0.out _ HM3.out) (HB0.out _ HM3.out) hc hl HOR.out nm hq1 nd HW.out).mono ?_
    intro e w5 hret
    obtain ⟨A5, c5, rfl, hmine⟩ := hret.mine
    have HMI := Sec.mk (hmine.base HM3.out)
    clear hret hmine
    go_wp2
    go_ret2
    exact ReplR.good HE.out HMI.out
  have hk1b : (kd == 1) = false := by simpa using hk1
  have HRL2 := Sec.mk (HRL.out.trans (if_neg hk1))
  clear HRL hk1
  by_cases hk4 : kd = 4
  · subst hk4
    have HR1 := Sec.mk (HRL2.out.trans (if_pos rfl))
    clear HRL2
    cases hh : hasE xs nm
    · have HE : Sec (res = none) := ⟨HR1.out.trans (if_neg (by rw [hh]; simp))⟩
      clear hh HR1
      go_wp2
      go_ret2
      exact ReplR.bad HE.out HM1.out
    have hpl := place_lt HOR.out hh
    have HH := Sec.mk hh
    have HGD : Sec ((xs[placeE xs nm]?.getD ([], 0)).2 = (xs[placeE xs nm]'hpl).2) := ⟨by rw [List.getElem?_eq_getElem hpl]; rfl⟩
    obtain ⟨ad, rfl, -, -, -, hxw⟩ := ent_at (HR0.out _ HM1.out) (w' := w1) (fun _ _ => rfl) hpl
    have HXW := Sec.mk hxw
    have HE1 : Sec (∀ W, New w1 W → W.cell? ⟨(ad.add (placeE xs nm * 2)).block, (ad.add (placeE xs nm * 2)).off + 1, none⟩ = some (.int .i64 (xs[placeE xs nm]'hpl).2)) := ⟨fun W hW => by
      obtain ⟨ad', hA, h0, h1, _, _⟩ := ent_at (HR0.out _ (HM1.out.transN hW)) (w' := W) (fun _ _ => rfl) hpl
      obtain rfl := Option.some.inj hA
      exact h1⟩
    generalize (xs[placeE xs nm]'hpl).2 = u at *
    generalize placeE xs nm = pl at *
    clear hxw hh
    go_wp2_with fail
    refine (goodI_calls tq hq2 w1).mono ?_
    rintro e w2 ⟨rfl, rfl⟩
    by_cases hg : goodL tq = true
    rotate_left
    · have HE : Sec (res = none) := ⟨HR1.out.trans (if_neg (fun h => hg h.2.1))⟩
      have hg' : goodL tq = false := by simpa using hg
      rw [hg']
      clear hg hg'
      go_wp2
      go_ret2
      exact ReplR.bad HE.out HM1.out
    rw [hg]
    by_cases ht : tq = nm
    · have HE : Sec (res = none) := ⟨HR1.out.trans (if_neg (fun h => h.2.2.1 ht))⟩
      have ht' : (tq == nm) = true := by simp [ht]
      clear ht
      go_wp2
      go_ret2
      exact ReplR.bad HE.out HM1.out
    have ht' : (tq == nm) = false := by simpa using ht
    by_cases hn : nd = 0
    rotate_left
    · have HE : Sec (res = none) := ⟨HR1.out.trans (if_neg (fun h => hn h.2.2.2))⟩
      have hn' : (nd != 0) = true := by simpa using hn
      clear hn
      go_wp2
      go_ret2
      exact ReplR.bad HE.out HM1.out
    have HE : Sec (res = some (withE (outE xs nm) tq u)) := ⟨by rw [HR1.out, if_pos ⟨HH.out, hg, ht, hn⟩, HGD.out]⟩
    subst hn
    clear hg ht HR1 HGD
    go_wp2
    have HWO := Sec.mk (fun W (hW : New w W) => leave_calls (c := c) (HR0.out W hW) (HB0.out W hW) hc hl HOR.out nm HH.out)
    have HORO := Sec.mk (ord_out HOR.out nm)
    have hol := outE_len xs nm
    generalize outE xs nm = ys at *
    have HX2 : Sec (∀ W, New w2 W → W.cell? ⟨w.heap.size, 1, none⟩ = some (.string ⟨nm.toArray⟩) ∧ W.cell? ⟨w.heap.size, 2, none⟩ = some (.string ⟨tq.toArray⟩)) := ⟨fun W h => ⟨h.cell_of b1, h.cell_of b2⟩⟩
    have HSS : Sec (New w2 w2.drew) := ⟨(Mod.refl _ _).drew⟩
    refine reg_start [] (fun W => Sec (New w2 W)) (by kernel_rfl) ?_
    refine reg_take (.slice (some ad) xs.length c) (i := 0) (n := 75) HSS rfl (by kernel_rfl) (by kernel_rfl) (by kernel_rfl) (by kernel_rfl) (fun _ _ _ h => h) (fun W hW => exec_move rfl rfl) ?_
    simp only [Act.put, List.setIfInBounds_toArray, List.set_cons_zero, List.set_cons_succ]
    refine reg_take (.pointer (some ⟨w.heap.size, 1, none⟩)) (i := 1) (n := 76) HSS rfl (by kernel_rfl) (by kernel_rfl) (by kernel_rfl) (by kernel_rfl) (fun _ _ _ h => h) (fun W hW => exec_field rfl rfl (fptDirOp1 _ _)) ?_
    simp only [Act.put, List.setIfInBounds_toArray, List.set_cons_zero, List.set_cons_succ]
    refine reg_take (.string ⟨nm.toArray⟩) (i := 2) (n := 77) HSS rfl (by kernel_rfl) (by kernel_rfl) (by kernel_rfl) (by kernel_rfl) (fun _ _ _ h => h) (fun W hW => exec_load rfl rfl (ldStr (HX2.out W hW.out).1)) ?_
    simp only [Act.put, List.setIfInBounds_toArray, List.set_cons_zero, List.set_cons_succ]
    refine reg_take (.pointer (some ⟨w.heap.size, 2, none⟩)) (i := 4) (n := 79) HSS rfl (by kernel_rfl) (by kernel_rfl) (by kernel_rfl) (by kernel_rfl) (fun _ _ _ h => h) (fun W hW => exec_field rfl rfl (fptDirOp2 _ _)) ?_
    simp only [Act.put, List.setIfInBounds_toArray, List.set_cons_zero, List.set_cons_succ]
    refine reg_take (.string ⟨tq.toArray⟩) (i := 5) (n := 80) HSS rfl (by kernel_rfl) (by kernel_rfl) (by kernel_rfl) (by kernel_rfl) (fun _ _ _ h => h) (fun W hW => exec_load rfl rfl (ldStr (HX2.out W hW.out).2)) ?_
    simp only [Act.put, List.setIfInBounds_toArray, List.set_cons_zero, List.set_cons_succ]
    refine reg_take (.slice (some ad) xs.length c) (i := 6) (n := 81) HSS rfl (by kernel_rfl) (by kernel_rfl) (by kernel_rfl) (by kernel_rfl) (fun _ _ _ h => h) (fun W hW => exec_move rfl rfl) ?_
    simp only [Act.put, List.setIfInBounds_toArray, List.set_cons_zero, List.set_cons_succ]
    refine reg_take (.int .i64 (pl : Int)) (i := 7) (n := 82) HSS rfl (by kernel_rfl) (by kernel_rfl) (by kernel_rfl) (by kernel_rfl) (fun _ _ _ h => h) (fun W hW => exec_move rfl rfl) ?_
    simp only [Act.put, List.setIfInBounds_toArray, List.set_cons_zero, List.set_cons_succ]
    refine reg_take (.pointer (some (ad.add (pl * 2)))) (i := 8) (n := 83) HSS rfl (by kernel_rfl) (by kernel_rfl) (by kernel_rfl) (by kernel_rfl) (fun _ _ _ h => h) (fun W hW => exec_indexAddr rfl rfl rfl (idxEntryS _ _ _ _ hpl _)) ?_
    simp only [Act.put, List.setIfInBounds_toArray, List.set_cons_zero, List.set_cons_succ]
    refine reg_take (.pointer (some ⟨(ad.add (pl * 2)).block, (ad.add (pl * 2)).off + 1, none⟩)) (i := 9) (n := 84) HSS rfl (by kernel_rfl) (by kernel_rfl) (by kernel_rfl) (by kernel_rfl) (fun _ _ _ h => h) (fun W hW => exec_field rfl rfl (fptEntry1R _ _)) ?_
    simp only [Act.put, List.setIfInBounds_toArray, List.set_cons_zero, List.set_cons_succ]
    refine reg_take (.int .i64 u) (i := 10) (n := 85) HSS rfl (by kernel_rfl) (by kernel_rfl) (by kernel_rfl) (by kernel_rfl) (fun _ _ _ h => h) (fun W hW => exec_load rfl rfl (ldIntR (HE1.out W hW.out))) ?_
    simp only [Act.put, List.setIfInBounds_toArray, List.set_cons_zero, List.set_cons_succ]
    refine reg_step (i := 3) rfl (by kernel_rfl) (fun K hK => ?_)
    refine wp_call (n := 78) (vals := [.slice (some ad) xs.length c, .string ⟨nm.toArray⟩]) rfl rfl rfl (by kernel_rfl) (HWO.out _ (HM1.out.transN HSS.out)) ?_
    intro e w3 hret
    obtain ⟨A3, c3, rfl, hmine⟩ := hret.mine
    have HSS : Sec (New w2 w3) := ⟨HSS.out.transN hmine.new⟩
    have HY := Sec.mk hmine.row
    have hyc := hmine.len.2.1
    refine ⟨_, rfl, hK.out _ _ (fun _ => HSS) ?_⟩
    clear hret hmine
    clear hK K
    simp only [Act.put, List.setIfInBounds_toArray, List.set_cons_zero, List.set_cons_succ]
    refine reg_step (i := 11) rfl (by kernel_rfl) (fun K hK => ?_)
    refine wp_call (n := 86) (vals := [.slice A3 ys.length c3, .string ⟨tq.toArray⟩, .int .i64 u]) rfl rfl rfl (by kernel_rfl) (bind_calls (c := c3) HY.out (fun k hk => hk.2) hyc (by omega) HORO.out tq hq2 u HXW.out) ?_
    intro e w4 hret
    obtain ⟨A4, c4, rfl, hmine⟩ := hret.mine
    have HMI := Sec.mk (hmine.base (HM1.out.transN HSS.out))
    have HSS : Sec (New w2 w4) := ⟨HSS.out.transN hmine.new⟩
    refine ⟨_, rfl, hK.out _ _ (fun _ => HSS) ?_⟩
    clear hret hmine
    clear hK K
    simp only [Act.put, List.setIfInBounds_toArray, List.set_cons_zero, List.set_cons_succ]
    refine reg_take (.slice A4 (withE ys tq u).length c4) (i := 12) (n := 6) HSS rfl (by kernel_rfl) (by kernel_rfl) (by kernel_rfl) (by kernel_rfl) (fun _ _ _ h => h) (fun W hW => exec_assign rfl rfl) ?_
    simp only [Act.put, List.setIfInBounds_toArray, List.set_cons_zero, List.set_cons_succ]
    refine reg_take (.bool true) (i := 13) (n := 7) HSS rfl (by kernel_rfl) (by kernel_rfl) (by kernel_rfl) (by kernel_rfl) (fun _ _ _ h => h) (fun W hW => exec_assign rfl rfl) ?_
    simp only [Act.put, List.setIfInBounds_toArray, List.set_cons_zero, List.set_cons_succ]
    refine reg_done (by kernel_rfl) ?_ _
    go_wp2
    go_ret2
    exact ReplR.good HE.out HMI.out
  have hk4b : (kd == 4) = false := by simpa using hk4
  have HRL3 := Sec.mk (HRL2.out.trans (if_neg hk4))
  clear HRL2 hk4
  by_cases hk5 : kd = 5
  · subst hk5
    have HR1 := Sec.mk (HRL3.out.trans (if_pos rfl))
    clear HRL3
    cases hh : hasE xs nm
    · have HE : Sec (res = none) := ⟨HR1.out.trans (if_neg (by rw [hh]; simp))⟩
      clear hh HR1
      go_wp2
      go_ret2
      exact ReplR.bad HE.out HM1.out
    have HH := Sec.mk hh
    clear hh
    generalize placeE xs nm = pl at *
    by_cases ht : tq = []
    rotate_left
    · have HE : Sec (res = none) := ⟨HR1.out.trans (if_neg (fun h => ht h.2.1))⟩
      have ht' : tq.isEmpty = false := by simpa using ht
      clear ht
      go_wp2
      go_ret2
      exact ReplR.bad HE.out HM1.out
    subst ht
    by_cases hn : nd = 0
    rotate_left
    · have HE : Sec (res = none) := ⟨HR1.out.trans (if_neg (fun h => hn h.2.2))⟩
      have hn' : (nd != 0) = true := by simpa using hn
      clear hn
      go_wp2
      go_ret2
      exact ReplR.bad HE.out HM1.out
    have HE : Sec (res = some (outE xs nm)) := ⟨by rw [HR1.out, if_pos ⟨HH.out, rfl, hn⟩]⟩
    subst hn
    clear HR1
    go_wp2_with fail
    refine (leave_calls (HR0.out _ HM1.out) (HB0.out _ HM1.out) hc hl HOR.out nm HH.out).mono ?_
    intro e w4 hret
    obtain ⟨A4, c4, rfl, hmine⟩ := hret.mine
    have HMI := Sec.mk (hmine.base HM1.out)
    clear hret hmine
    go_wp2
    go_ret2
    exact ReplR.good HE.out HMI.out
  have hk5b : (kd == 5) = false := by simpa using hk5
  have HE : Sec (res = none) := ⟨HRL3.out.trans (if_neg hk5)⟩
  clear hk5
  go_wp2
  go_ret2
  exact ReplR.bad HE.out HM1.out
end Go.Proofs.YtkkgighgnbbgiaaDoor

namespace Go.Proofs.YtkkgighgnbbgiaaDoor
open Go.RowKit Mem
set_option linter.unusedVariables false
set_option linter.unusedSimpArgs false
set_option maxHeartbeats 8000000 in
set_option maxRecDepth 100000 in
theorem diskValidI_v {w : World} {v : Value} {x : DiskT} (h : RdV true dDisk w v x) : Calls Tryd.prog 8 #[v] w (Ret (.bool (DiskValidL x)) w) := by
  have hqw := okDisk h
  obtain ⟨v0, v1, v2, v3, rfl, k0, k1, k2, k3⟩ := rdDisk h
  obtain ⟨nodes, names, kept, pend, quota⟩ := x
  simp only at k0 k1 k2 k3 hqw ⊢
  have HI := Sec.mk (DiskValidL_iff (nodes, names, kept, pend, quota))
  have HF : Sec (¬ diskOk (nodes, names, kept, pend, quota) → DiskValidL (nodes, names, kept, pend, quota) = false) := ⟨DiskValidL_not⟩
  have HD : Sec (diskOk (nodes, names, kept, pend, quota) ↔ (0 ≤ quota ∧ quota ≤ 1000000 ∧ nodes.length ≤ 600 ∧ pend.length ≤ 1000 ∧ (∀ k, (hk : k < nodes.length) → nodeOk nodes[k] = true) ∧ sumD nodes ≤ 200000 ∧ inOrdL names nodes.length = true ∧ inOrdL kept nodes.length = true ∧ replaysL nodes.length kept pend = some names)) := ⟨Iff.rfl⟩
  generalize diskOk (nodes, names, kept, pend, quota) = OKD at *
  generalize DiskValidL (nodes, names, kept, pend, quota) = r at *
  obtain ⟨A0, c0, rfl, hc0, hr0⟩ := k0.slice
  obtain ⟨A1, c1, rfl, hc1, hr1⟩ := k1.slice
  obtain ⟨A2, c2, rfl, hc2, hr2⟩ := k2.slice
  obtain ⟨A3, c3, rfl, hc3, hr3⟩ := k3.slice
  have hm0 := hr0.2.1
  have hm1 := hr1.2.1
  have hm2 := hr2.2.1
  have hm3 := hr3.2.1
  have HR0 := Sec.mk hr0
  have HR1 := Sec.mk hr1
  have HR2 := Sec.mk hr2
  have HR3 := Sec.mk hr3
  have HBX := Sec.mk (Blk.new w 27 [.slice A0 nodes.length c0, .slice A1 names.length c1, .slice A2 kept.length c2, .slice A3 pend.length c3, .int .i64 quota])
  have HM0 := Sec.mk ((Mod.refl (fun _ => False) w).alloc (.cells #[.slice A0 nodes.length c0, .slice A1 names.length c1, .slice A2 kept.length c2, .slice A3 pend.length c3, .int .i64 quota] 27))
  clear h k0 k1 k2 k3 hr0 hr1 hr2 hr3 hqw
  by_cases hq0 : 0 ≤ quota
  rotate_left
  · have HE : Sec (r = false) := ⟨HF.out (fun h => hq0 (HD.out.1 h).1)⟩
    have hq0' : quota < 0 := by omega
    clear hq0
    go_enter Tryd.func8, Tryd.ntmps8
    go_wp2
    go_ret
    exact ⟨by rw [HE.out]; rfl, HM0.out⟩
  have hq0' : ¬ quota < 0 := by omega
  by_cases hq1 : quota ≤ 1000000
  rotate_left
  · have HE : Sec (r = false) := ⟨HF.out (fun h => hq1 (HD.out.1 h).2.1)⟩
    have hq1' : 1000000 < quota := by omega
    clear hq1
    go_enter Tryd.func8, Tryd.ntmps8
    go_wp2
    go_ret
    exact ⟨by rw [HE.out]; rfl, HM0.out⟩
  have hq1' : ¬ 1000000 < quota := by omega
  by_cases hn : nodes.length ≤ 600
  rotate_left
  · have HE : Sec (r = false) := ⟨HF.out (fun h => hn (HD.out.1 h).2.2.1)⟩
    have hn' : (600 : Int) < (nodes.length : Int) := by omega
    clear hn
    go_enter Tryd.func8, Tryd.ntmps8
    go_wp2
    go_ret
    exact ⟨by rw [HE.out]; rfl, HM0.out⟩
  have hn' : ¬ (600 : Int) < (nodes.length : Int) := by omega
  by_cases hp : pend.length ≤ 1000
  rotate_left
  · have HE : Sec (r = false) := ⟨HF.out (fun h => hp (HD.out.1 h).2.2.2.1)⟩
    have hp' : (1000 : Int) < (pend.length : Int) := by omega
    clear hp
    go_enter Tryd.func8, Tryd.ntmps8
    go_wp2
    go_ret
    exact ⟨by rw [HE.out]; rfl, HM0.out⟩
  have hp' : ¬ (1000 : Int) < (pend.length : Int) := by omega
  go_enter Tryd.func8, Tryd.ntmps8
  go_wp2
  go_loopw [3, 33] (fun t i wr => ∃ k : Nat, k ≤ nodes.length ∧ i = .int .i64 (k : Int) ∧ t = .int .i64 ((sumD (nodes.take k) : Nat) : Int) ∧ sumD (nodes.take k) ≤ k * 40000 ∧ Sec (∀ j, j < k → (hj : j < nodes.length) → nodeOk nodes[j] = true) ∧ Sec (Blk wr w.heap.size 27 [.slice A0 nodes.length c0, .slice A1 names.length c1, .slice A2 kept.length c2, .slice A3 pend.length c3, .int .i64 quota]) ∧ Sec (New w wr)) (fun _ i _ => nodes.length - (intOf i).toNat)
  case atStart => exact ⟨0, Nat.zero_le _, rfl, rfl, by simp [sumD], ⟨fun j h => absurd h (Nat.not_lt_zero _)⟩, HBX, HM0⟩
  case round =>
    obtain ⟨k, hk, rfl, rfl, hsum, HN, HBr, HMr⟩ := hrel
    clear HBX HM0
    by_cases hlt : k < nodes.length
    · obtain ⟨ad, A', c', rfl, h0, h1, hcc, hcm, hrow, hw⟩ := node_at HR0.out (w' := wr) (fun i hi => HMr.out.block i hi id) hlt
      have hki : (k : Int) < (nodes.length : Int) := by omega
      have HST := Sec.mk (sumD_take hlt)
      have HOKN : Sec (nodeOk nodes[k] = decide (nodes[k].1.length ≤ 40000 ∧ 0 ≤ nodes[k].2 ∧ nodes[k].2 ≤ nodes[k].1.length)) := ⟨rfl⟩
      have HBAD : Sec (¬ nodeOk nodes[k] = true → r = false) := ⟨fun h => HF.out (fun hh => h ((HD.out.1 hh).2.2.2.2.1 k hlt))⟩
      have HNX : Sec (nodeOk nodes[k] = true → ∀ j, j < k + 1 → (hj : j < nodes.length) → nodeOk nodes[j] = true) := ⟨fun h j hj hjl => by rcases Nat.lt_succ_iff_lt_or_eq.1 hj with h' | rfl; exact HN.out j h' hjl; exact h⟩
      obtain ⟨⟨dt, sf⟩, hx⟩ : ∃ q, q = nodes[k] := ⟨_, rfl⟩
      rw [← hx] at h0 h1 HST HOKN HBAD HNX
      clear hx hrow hw
      simp only at h0 h1 HST HOKN
      generalize hss : sumD (nodes.take k) = s at *
      generalize nodeOk (dt, sf) = okn at *
      have HMa := Sec.mk (HMr.out.alloc (.cells #[.slice A' dt.length c', .int .i64 sf] 49))
      by_cases g0 : dt.length ≤ 40000
      rotate_left
      · have HE : Sec (r = false) := ⟨HBAD.out (by rw [HOKN.out]; simp only [decide_eq_true_eq]; exact fun h => g0 h.1)⟩
        have g0' : (40000 : Int) < (dt.length : Int) := by omega
        clear g0
        go_wp2
        go_ret
        exact ⟨by rw [HE.out]; rfl, HMa.out⟩
      have g0' : ¬ (40000 : Int) < (dt.length : Int) := by omega
      by_cases g1 : 0 ≤ sf
      rotate_left
      · have HE : Sec (r = false) := ⟨HBAD.out (by rw [HOKN.out]; simp only [decide_eq_true_eq]; exact fun h => g1 h.2.1)⟩
        have g1' : sf < 0 := by omega
        clear g1
        go_wp2
        go_ret
        exact ⟨by rw [HE.out]; rfl, HMa.out⟩
      have g1' : ¬ sf < 0 := by omega
      by_cases g2 : sf ≤ (dt.length : Int)
      rotate_left
      · have HE : Sec (r = false) := ⟨HBAD.out (by rw [HOKN.out]; simp only [decide_eq_true_eq]; exact fun h => g2 h.2.2)⟩
        have g2' : (dt.length : Int) < sf := by omega
        clear g2
        go_wp2
        go_ret
        exact ⟨by rw [HE.out]; rfl, HMa.out⟩
      have g2' : ¬ (dt.length : Int) < sf := by omega
      have HNX2 := Sec.mk (HNX.out (by rw [HOKN.out]; exact decide_eq_true ⟨g0, g1, g2⟩))
      have HBa := Sec.mk (HBr.out.alloc (.cells #[.slice A' dt.length c', .int .i64 sf] 49))
      go_wp2
      go_roundw
      case rel => exact ⟨k + 1, by omega, by go_num, by rw [HST.out]; congr 1, by rw [HST.out]; omega, HNX2, HBa, HMa⟩
      case measure => simp [intOf]; omega
    · obtain rfl : k = nodes.length := by omega
      have hsl : nodes.take nodes.length = nodes := List.take_length
      rw [hsl] at hsum ⊢
      clear hsl
      have hwr : w.heap.size < wr.heap.size := HBr.out.lt
      have p1 : wr.cell? ⟨w.heap.size, 1, none⟩ = some (.slice A1 names.length c1) := HBr.out.cell 1
      have p0 : wr.cell? ⟨w.heap.size, 0, none⟩ = some (.slice A0 nodes.length c0) := HBr.out.cell 0
      have p2 : wr.cell? ⟨w.heap.size, 2, none⟩ = some (.slice A2 kept.length c2) := HBr.out.cell 2
      have p3 : wr.cell? ⟨w.heap.size, 3, none⟩ = some (.slice A3 pend.length c3) := HBr.out.cell 3
      by_cases hs2 : sumD nodes ≤ 200000
      rotate_left
      · have HE : Sec (r = false) := ⟨HF.out (fun h => hs2 (HD.out.1 h).2.2.2.2.2.1)⟩
        have hs2' : (200000 : Int) < ((sumD nodes : Nat) : Int) := by omega
        clear hs2
        go_wp2
        go_ret
        exact ⟨by rw [HE.out]; rfl, HMr.out⟩
      have hs2' : ¬ (200000 : Int) < ((sumD nodes : Nat) : Int) := by omega
      have HNALL : Sec (∀ j, (hj : j < nodes.length) → nodeOk nodes[j] = true) := ⟨fun j hj => HN.out j hj hj⟩
      clear HN
      generalize hsd : sumD nodes = sd at *
      go_wp2_with fail
      refine (inOrder_calls (HR1.out.mod (w' := wr) (fun _ h => h) (fun k hk => HMr.out.block k hk id)) (fun k hk => Nat.lt_of_lt_of_le hk HMr.out.size) (nodes.length : Int)).mono ?_
      rintro e w2 ⟨rfl, hm2⟩
      have HM2 := Sec.mk (HMr.out.transN hm2)
      have HB2 := Sec.mk (HBr.out.mod hm2 id)
      clear hm2 p0 p1 p2 p3
      have p0 : w2.cell? ⟨w.heap.size, 0, none⟩ = some (.slice A0 nodes.length c0) := HB2.out.cell 0
      have p2 : w2.cell? ⟨w.heap.size, 2, none⟩ = some (.slice A2 kept.length c2) := HB2.out.cell 2
      by_cases hio : inOrdL names (nodes.length : Int) = true
      rotate_left
      · have HE : Sec (r = false) := ⟨HF.out (fun h => hio (HD.out.1 h).2.2.2.2.2.2.1)⟩
        have hio' : inOrdL names (nodes.length : Int) = false := by simpa using hio
        rw [hio']
        clear hio hio'
        go_wp2
        go_ret
        exact ⟨by rw [HE.out]; rfl, HM2.out⟩
      rw [hio]
      go_wp2_with fail
      refine (inOrder_calls (HR2.out.mod (w' := w2) (fun _ h => h) (fun k hk => HM2.out.block k hk id)) (fun k hk => Nat.lt_of_lt_of_le hk HM2.out.size) (nodes.length : Int)).mono ?_
      rintro e w3 ⟨rfl, hm3⟩
      have HM3 := Sec.mk (HM2.out.transN hm3)
      have HB3 := Sec.mk (HB2.out.mod hm3 id)
      clear hm3 p0 p2
      have p0 : w3.cell? ⟨w.heap.size, 0, none⟩ = some (.slice A0 nodes.length c0) := HB3.out.cell 0
      have p1 : w3.cell? ⟨w.heap.size, 1, none⟩ = some (.slice A1 names.length c1) := HB3.out.cell 1
      have p2 : w3.cell? ⟨w.heap.size, 2, none⟩ = some (.slice A2 kept.length c2) := HB3.out.cell 2
      have p3 : w3.cell? ⟨w.heap.size, 3, none⟩ = some (.slice A3 pend.length c3) := HB3.out.cell 3
      by_cases hik : inOrdL kept (nodes.length : Int) = true
      rotate_left
      · have HE : Sec (r = false) := ⟨HF.out (fun h => hik (HD.out.1 h).2.2.2.2.2.2.2.1)⟩
        have hik' : inOrdL kept (nodes.length : Int) = false := by simpa using hik
        rw [hik']
        clear hik hik'
        go_wp2
        go_ret
        exact ⟨by rw [HE.out]; rfl, HM3.out⟩
      rw [hik]
      have HALL : Sec (replaysL nodes.length kept pend = some names → r = true) := ⟨fun h => HI.out.2 (HD.out.2 ⟨hq0, hq1, hn, hp, HNALL.out, hs2, hio, hik, h⟩)⟩
      have HNON : Sec (replaysL nodes.length kept pend ≠ some names → r = false) := ⟨fun h => HF.out (fun hh => h (HD.out.1 hh).2.2.2.2.2.2.2.2)⟩
      have HOK := Sec.mk (inOrdL_ord hik)
      have hk300 : kept.length ≤ 300 := ((inOrdL_iff kept nodes.length).1 hik).1
      have hn300 : names.length ≤ 300 := ((inOrdL_iff names nodes.length).1 hio).1
      clear hio hik HI HF HD HNALL HMr HBr HM2 HB2
      go_wp2
      go_loopw [6, 85] (fun l i wr => ∃ (k : Nat) (A' : Option Addr) (c' : Nat) (cur : List EntryT), k ≤ pend.length ∧ i = .int .i64 (k : Int) ∧ l = .slice A' cur.length c' ∧ Sec (Row dEntry wr (· < wr.heap.size) A' cur.length cur) ∧ Sec (Ord cur) ∧ cur.length ≤ 300 ∧ cur.length ≤ c' ∧ Sec (replaysL nodes.length kept pend = replaysL nodes.length cur (pend.drop k)) ∧ Sec (Blk wr w.heap.size 27 [.slice A0 nodes.length c0, .slice A1 names.length c1, .slice A2 kept.length c2, .slice A3 pend.length c3, .int .i64 quota]) ∧ Sec (New w wr)) (fun _ i _ => pend.length - (intOf i).toNat)
      case atStart => exact ⟨0, A2, c2, kept, Nat.zero_le _, rfl, rfl, ⟨HR2.out.mod (fun k hk => Nat.lt_of_lt_of_le hk HM3.out.size) (fun k hk => HM3.out.block k hk id)⟩, HOK, hk300, hc2, ⟨by rw [List.drop_zero]⟩, HB3, HM3⟩
      case round =>
        obtain ⟨k, A', c', cur, hk, rfl, rfl, HC, HOC, hcl, hcc, HP, HBr, HMr⟩ := hrel
        have hwr : w.heap.size < wr.heap.size := HBr.out.lt
        have q0 : wr.cell? ⟨w.heap.size, 0, none⟩ = some (.slice A0 nodes.length c0) := HBr.out.cell 0
        have q1 : wr.cell? ⟨w.heap.size, 1, none⟩ = some (.slice A1 names.length c1) := HBr.out.cell 1
        by_cases hlt : k < pend.length
        · obtain ⟨ad, rfl, d0, d1, d2, d3, g0, g1, g2, g3⟩ := dop_at HR3.out (w' := wr) (fun i hi => HMr.out.block i hi id) hlt
          have hki : (k : Int) < (pend.length : Int) := by omega
          have HS := Sec.mk (HP.out.trans (replaysL_at hlt))
          have HG := Sec.mk (And.intro g0 (And.intro g1 (And.intro g2 g3)))
          clear g0 g1 g2 g3 HP
          have HPX : Sec (∃ q : DirOpT, q = pend[k]) := ⟨⟨_, rfl⟩⟩
          obtain ⟨q, hq⟩ := HPX.out
          rw [← hq] at d0 d1 d2 d3 HG HS
          clear hq HPX
          have HBa := Sec.mk (HBr.out.alloc (.cells #[.int .i64 q.1, .string ⟨q.2.1.toArray⟩, .string ⟨q.2.2.1.toArray⟩, .int .i64 q.2.2.2] 66))
          have HMa := Sec.mk (HMr.out.alloc (.cells #[.int .i64 q.1, .string ⟨q.2.1.toArray⟩, .string ⟨q.2.2.1.toArray⟩, .int .i64 q.2.2.2] 66))
          have HCa := Sec.mk (HC.out.mod (w' := wr.alloc (.cells #[.int .i64 q.1, .string ⟨q.2.1.toArray⟩, .string ⟨q.2.2.1.toArray⟩, .int .i64 q.2.2.2] 66)) (B' := (· < wr.heap.size)) (fun _ h => h) (fun k hk => Below.heap_alloc _ _ _ hk))
          go_wp2_with fail
          refine (replay_calls HCa.out (fun k hk => Nat.lt_of_lt_of_le hk (by simp)) hcc (by omega) HOC.out q HG.out.2.1 HG.out.2.2.1 HG.out.2.2.2 (nodes.length : Int)).mono ?_
          intro e w5 hr5
          have HRO := Sec.mk (fun m (h : replayL cur q nodes.length = some m) => replayL_ord HOC.out h)
          generalize replayL cur q (nodes.length : Int) = res at *
          cases res with
          | none =>
            obtain ⟨rfl, hm5⟩ := hr5
            have HE : Sec (r = false) := ⟨HNON.out (by rw [HS.out]; simp)⟩
            have HM5 := Sec.mk (HMa.out.transN hm5)
            clear hm5
            go_wp2
            go_ret
            exact ⟨by rw [HE.out]; rfl, HM5.out⟩
          | some m =>
            obtain ⟨A5, c5, rfl, hmine⟩ := hr5
            have HM5 := Sec.mk (HMa.out.transN hmine.new)
            have HB5 := Sec.mk (HBa.out.mod hmine.new id)
            have HC5 := Sec.mk (hmine.row.mod (B' := (· < w5.heap.size)) (fun _ h => h.2) (fun _ _ => rfl))
            have hyc := hmine.len.2.1
            clear hmine
            by_cases hml : m.length ≤ 300
            rotate_left
            · have HE : Sec (r = false) := ⟨HNON.out (by rw [HS.out]; simp only [if_neg hml]; simp)⟩
              have hml' : (300 : Int) < (m.length : Int) := by omega
              clear hml
              go_wp2
              go_ret
              exact ⟨by rw [HE.out]; rfl, HM5.out⟩
            have hml' : ¬ (300 : Int) < (m.length : Int) := by omega
            have HS' : Sec (replaysL nodes.length kept pend = replaysL nodes.length m (pend.drop (k + 1))) := ⟨by rw [HS.out]; simp only [if_pos hml]⟩
            have HO5 := Sec.mk (HRO.out m rfl)
            go_wp2
            go_roundw
            case rel => exact ⟨k + 1, A5, c5, m, by omega, by go_num, rfl, HC5, HO5, hml, hyc, HS', HB5, HM5⟩
            case measure => simp [intOf]; omega
        · obtain rfl : k = pend.length := by omega
          rw [List.drop_length] at HP
          have HS : Sec (replaysL nodes.length kept pend = some cur) := ⟨HP.out⟩
          go_wp2_with fail
          refine (sameEntries_calls HC.out (HR1.out.mod (w' := wr) (fun k hk => Nat.lt_of_lt_of_le hk HMr.out.size) (fun k hk => HMr.out.block k hk id)) (fun k hk => hk)).mono ?_
          rintro e w5 ⟨rfl, hm5⟩
          have HM5 := Sec.mk (HMr.out.transN hm5)
          clear hm5
          by_cases hcn : cur = names
          · have HE : Sec (r = true) := ⟨HALL.out (by rw [HS.out, hcn])⟩
            rw [decide_eq_true hcn]
            clear hcn
            go_wp2
            go_ret
            exact ⟨by rw [HE.out]; rfl, HM5.out⟩
          · have HE : Sec (r = false) := ⟨HNON.out (by rw [HS.out]; intro h; exact hcn (Option.some.inj h))⟩
            rw [decide_eq_false hcn]
            clear hcn
            go_wp2
            go_ret
            exact ⟨by rw [HE.out]; rfl, HM5.out⟩
end Go.Proofs.YtkkgighgnbbgiaaDoor
