/- The program's binding and leaving of a name. -/
import Derived.Test.YtinfibggdbakoaaPlaceI
namespace Go.Proofs.Ytinfibggdbakoaa
open Go.RowKit Mem
set_option linter.unusedVariables false
set_option linter.unusedSimpArgs false
namespace Mem
/-- append of elements that lead nowhere, as one operation -/
theorem wp_app {P : Program} (w : World) {o : Oper} {a : Act} {K : Act → World → Prop} {Q : Exit → Act → World → Prop} (s x : Operand) (t : TypeId)
    (ho : o.op = .call { callee := .builtin .append, args := #[s, x], argTypes := #[t, t] })
    {α : Type} {d : Ty α} {e : TypeId} {z : Value} (ht : P.underlying t = some (.slice e)) (hE : Elt P e d.sz z) (hf : Flat d)
    {w0 : World} {A A' : Option Addr} {n m c c' : Nat} {xs ys : List α} {B : Nat → Prop} (hs : a.eval s = .slice A n c) (hx : a.eval x = .slice A' m c') (hown : Mine d e w0 w (.slice A n c) xs) (hy : Row d w B A' m ys)
    (hlen : xs.length + ys.length ≤ 34359738368)
    (h : ∀ A' n' c' w', Mine d e w0 w' (.slice A' n' c') (xs ++ ys) → K (a.put o.dst (.slice A' n' c')) w') : o.wp P a w K Q := by
  obtain ⟨news, hel, hA⟩ := hy.flat hf
  obtain ⟨⟨F, ho2, hF⟩, hn⟩ := hown
  refine wp_append w s x t ho d e ht hE hs ho2 hx hel hy.1 hA (by rw [flat_nil]; exact List.nodup_nil) (by rw [flat_nil]; intro k hk; cases hk) (by have := hy.1; omega) ?_
  intro A2 n2 c2 w2 F2 ho3 hn2 hm2 hF2
  exact h _ _ _ _ ⟨⟨F2, ho3, far_app hn hF (by rw [flat_nil]; simp) hF2⟩, New.app hn ho2 hF hm2⟩
end Mem
theorem place_lt2 {l : List EntL} (h : Ord l) {n : LB} (hn : hasE l n = true) : placeE l n < l.length := ((place_at h n).1.mp hn).1
theorem addOne (x y : Operand) (k : Nat) (hk : k ≤ 1048576) (w : World) : (do eqGuard .add 3 x y (.int .i64 (k : Int)) (.int .i64 1); binOp .add 3 (.int .i64 (k : Int)) (.int .i64 1) : Sem Value).run Try.prog w = .ok (.int .i64 ((k + 1 : Nat) : Int)) w := by
  have hw : IntKind.i64.wrap ((k : Int) + 1) = (k : Int) + 1 := by rw [IntKind.wrap_i64]; omega
  go_simp
theorem buildEnt (z : Bytes) (u : Int) (w : World) : (Instr.build 70 #[(0, .string ⟨z.toArray⟩), (1, .int .i64 u)]).run Try.prog w = .ok (.agg #[.string ⟨z.toArray⟩, .int .i64 u]) w := by go_simp
theorem buildEnt1 (z : Bytes) (u : Int) (w : World) : (Instr.buildSlice 30 1 #[(0, .agg #[.string ⟨z.toArray⟩, .int .i64 u])]).run Try.prog w = .ok (.slice (some ⟨w.heap.size, 0, none⟩) 1 1) (w.alloc (.cells #[.string ⟨z.toArray⟩, .int .i64 u] 70)) := by go_simp
theorem buildEnt0 (w : World) : (Instr.buildSlice 30 0 #[]).run Try.prog w = .ok (.slice (some ⟨w.heap.size, 0, none⟩) 0 0) (w.alloc (.cells #[] 70)) := by go_simp
theorem slcTo {A : Option Addr} {n c k : Nat} (hk : k ≤ c) (w : World) : (Instr.sliceAt 30 (.slice A n c) none (some (.int .i64 (k : Int))) none).run Try.prog w = .ok (.slice A k c) w := slice_to Try.underlying30 hk (by kernel_rfl)
theorem slcFrom {A : Option Addr} {n c k : Nat} (hk : k ≤ n) (hc : n ≤ c) (w : World) : (Instr.sliceAt 30 (.slice A n c) (some (.int .i64 (k : Int))) none none).run Try.prog w = .ok (.slice (if c = k then A else A.map (fun x => x.add (k * 2))) (n - k) (c - k)) w := by
  by_cases h : c = k
  · subst h; go_simp
  · go_simp
set_option maxHeartbeats 4000000 in
set_option maxRecDepth 100000 in
theorem leave_calls {A : Option Addr} {c : Nat} {xs : List EntryT} {B : Nat → Prop} {w : World} (h : Row dEntry w B A xs.length xs) (hB : ∀ k, B k → k < w.heap.size) (hc : xs.length ≤ c) (hl : xs.length ≤ 1048576) (ho : Ord xs) (nm : Bytes) (hh : hasE xs nm = true) :
    Calls Try.prog 65 #[.slice A xs.length c, .string ⟨nm.toArray⟩] w (RetOwn dEntry 70 w (outE xs nm)) := by
  have HR := Sec.mk h
  have HB := Sec.mk hB
  have HP := Sec.mk (place_calls (c := c) h hB hl ho nm)
  have HLV := Sec.mk (leave_is ho nm hh)
  have hpl := place_lt2 ho hh
  clear h hB ho
  go_enter Try.func65, Try.ntmps65
  go_wp2_with fail
  refine HP.out.mono ?_
  rintro e w1 ⟨rfl, hm1⟩
  have HM1 := Sec.mk hm1
  have HR1 : Sec (∀ W, New w1 W → Row dEntry W B A xs.length xs) := ⟨fun W hW => HR.out.mod (fun _ h => h) (fun k hk => (HM1.out.transN hW).block k (HB.out k hk) id)⟩
  clear hm1 HP HR HB hh
  generalize placeE xs nm = pl at *
  go_wp2
  have HSS : True := trivial
  obtain ⟨AT, hAT⟩ : ∃ AT, AT = (if c = pl + 1 then A else A.map (fun x => x.add ((pl + 1) * 2))) := ⟨_, rfl⟩
  refine reg_start [] (fun _ => True) (by kernel_rfl) ?_
  refine reg_take (.slice A xs.length c) (i := 1) (n := 14) HSS rfl (by kernel_rfl) (by kernel_rfl) (by kernel_rfl) (by kernel_rfl) (fun _ _ _ h => h) (fun W hW => exec_move rfl rfl) ?_
  simp only [Act.put, List.setIfInBounds_toArray, List.set_cons_zero, List.set_cons_succ]
  refine reg_take (.int .i64 (pl : Int)) (i := 2) (n := 15) HSS rfl (by kernel_rfl) (by kernel_rfl) (by kernel_rfl) (by kernel_rfl) (fun _ _ _ h => h) (fun W hW => exec_move rfl rfl) ?_
  simp only [Act.put, List.setIfInBounds_toArray, List.set_cons_zero, List.set_cons_succ]
  refine reg_take (.slice A pl c) (i := 3) (n := 16) HSS rfl (by kernel_rfl) (by kernel_rfl) (by kernel_rfl) (by kernel_rfl) (fun _ _ _ h => h) (fun W hW => exec_slice rfl rfl rfl rfl rfl (slcTo (by omega) _)) ?_
  simp only [Act.put, List.setIfInBounds_toArray, List.set_cons_zero, List.set_cons_succ]
  refine reg_take (.slice A xs.length c) (i := 5) (n := 18) HSS rfl (by kernel_rfl) (by kernel_rfl) (by kernel_rfl) (by kernel_rfl) (fun _ _ _ h => h) (fun W hW => exec_move rfl rfl) ?_
  simp only [Act.put, List.setIfInBounds_toArray, List.set_cons_zero, List.set_cons_succ]
  refine reg_take (.int .i64 (pl : Int)) (i := 6) (n := 19) HSS rfl (by kernel_rfl) (by kernel_rfl) (by kernel_rfl) (by kernel_rfl) (fun _ _ _ h => h) (fun W hW => exec_move rfl rfl) ?_
  simp only [Act.put, List.setIfInBounds_toArray, List.set_cons_zero, List.set_cons_succ]
  refine reg_take (.int .i64 ((pl + 1 : Nat) : Int)) (i := 7) (n := 20) HSS rfl (by kernel_rfl) (by kernel_rfl) (by kernel_rfl) (by kernel_rfl) (fun _ _ _ h => h) (fun W hW => exec_bin rfl rfl rfl (addOne _ _ _ (by omega) _)) ?_
  simp only [Act.put, List.setIfInBounds_toArray, List.set_cons_zero, List.set_cons_succ]
  refine reg_take (.slice AT (xs.length - (pl + 1)) (c - (pl + 1))) (i := 8) (n := 21) HSS rfl (by kernel_rfl) (by kernel_rfl) (by kernel_rfl) (by kernel_rfl) (fun _ _ _ h => h) (fun W hW => exec_slice rfl rfl rfl rfl rfl (hAT ▸ slcFrom (by omega) hc _)) ?_
  simp only [Act.put, List.setIfInBounds_toArray, List.set_cons_zero, List.set_cons_succ]
  refine reg_step (i := 0) rfl (by kernel_rfl) (fun K hK => ?_)
  refine wp_valw (n := 13) (v := .slice (some ⟨w1.drew.heap.size, 0, none⟩) 0 0) (w' := w1.drew.alloc (.cells #[] 70)) (exec_buildSlice (parts := []) (vs := []) rfl rfl (buildEnt0 _)) rfl ?_
  refine hK.out _ _ (fun _ => trivial) ?_
  clear hK K
  simp only [Act.put, List.setIfInBounds_toArray, List.set_cons_zero, List.set_cons_succ]
  have HO0 : Mine dEntry 70 w1 (w1.drew.alloc (.cells #[] 70)) (.slice (some ⟨w1.drew.heap.size, 0, none⟩) 0 0) [] := Mine.empty _ _ rfl (Mod.refl _ _).drew
  refine reg_step (i := 4) rfl (by kernel_rfl) (fun K hK => ?_)
  refine wp_app _ (.tmp 13) (.tmp 16) _ rfl Try.underlying30 elt_entry flatEntry rfl rfl HO0 ((HR1.out _ HO0.new).take (m := pl) (by omega)) (by rw [List.length_take]; simp; omega) ?_
  intro A2 n2 c2 w2 HO2
  refine hK.out _ _ (fun _ => trivial) ?_
  clear hK K
  simp only [Act.put, List.setIfInBounds_toArray, List.set_cons_zero, List.set_cons_succ]
  refine reg_step (i := 9) rfl (by kernel_rfl) (fun K hK => ?_)
  have hcut := (HR1.out _ HO2.new).cut (k := pl + 1) (m := xs.length) (cap := c) (by omega) (Nat.le_refl _) hc
  rw [List.take_length, show (if c = pl + 1 then A else A.map (fun x => x.add ((pl + 1) * dEntry.sz))) = AT from hAT.symm] at hcut
  refine wp_app _ (.tmp 17) (.tmp 21) _ rfl Try.underlying30 elt_entry flatEntry rfl rfl HO2 hcut (by rw [List.nil_append, List.length_take, List.length_drop]; omega) ?_
  intro A3 n3 c3 w3 HO3
  refine hK.out _ _ (fun _ => trivial) ?_
  rw [List.nil_append, HLV.out] at HO3
  have HO4 := Sec.mk HO3
  clear HO3 HO2 HO0 hcut
  clear hK K
  simp only [Act.put, List.setIfInBounds_toArray, List.set_cons_zero, List.set_cons_succ]
  refine reg_take (.slice A3 n3 c3) (i := 10) (n := 4) HSS rfl (by kernel_rfl) (by kernel_rfl) (by kernel_rfl) (by kernel_rfl) (fun _ _ _ h => h) (fun W hW => exec_assign rfl rfl) ?_
  simp only [Act.put, List.setIfInBounds_toArray, List.set_cons_zero, List.set_cons_succ]
  refine reg_done (by kernel_rfl) ?_ _
  go_wp2
  go_ret
  exact (HO4.out.base HM1.out).ret
set_option maxHeartbeats 4000000 in
set_option maxRecDepth 100000 in
theorem bind_calls {A : Option Addr} {c : Nat} {xs : List EntryT} {B : Nat → Prop} {w : World} (h : Row dEntry w B A xs.length xs) (hB : ∀ k, B k → k < w.heap.size) (hc : xs.length ≤ c) (hl : xs.length ≤ 1048576) (ho : Ord xs) (nm : Bytes) (hn : nm.length ≤ 9223372036854775807) (v : Int) (hv : IntKind.i64.wrap v = v) :
    Calls Try.prog 64 #[.slice A xs.length c, .string ⟨nm.toArray⟩, .int .i64 v] w (RetOwn dEntry 70 w (withE xs nm v)) := by
  have HR := Sec.mk h
  have HB := Sec.mk hB
  have HN := Sec.mk hn
  have HV := Sec.mk hv
  have HP := Sec.mk (place_calls (c := c) h hB hl ho nm)
  have HBT := Sec.mk (bind_there ho nm v)
  have HBN := Sec.mk (bind_not ho nm v)
  have hple := placeE_le xs nm
  have HPA := Sec.mk (place_at ho nm).1
  clear h hB ho hn hv
  go_enter Try.func64, Try.ntmps64
  go_wp2_with fail
  refine HP.out.mono ?_
  rintro e w1 ⟨rfl, hm1⟩
  have HM1 := Sec.mk hm1
  have HR1 : Sec (∀ W, New w1 W → Row dEntry W B A xs.length xs) := ⟨fun W hW => HR.out.mod (fun _ h => h) (fun k hk => (HM1.out.transN hW).block k (HB.out k hk) id)⟩
  clear hm1 HP HR HB
  generalize placeE xs nm = pl at *
  cases hh : hasE xs nm
  · have HB2 := Sec.mk (HBN.out hh)
    have HT := Sec.mk fun W hW => (HR1.out W hW).take (m := pl) hple
    have htl : (xs.take pl).length = pl := by rw [List.length_take]; omega
    generalize htk : xs.take pl = tk at *
    have HE0 := Sec.mk fun g (hg : g = w1.heap.size) => (Mine.empty (w := w1) dEntry 70 hg (Mod.refl _ _) : Mine dEntry 70 w1 _ _ [])
    have hpc : (pl : Int) ≤ (c : Int) := by omega
    clear hh HBT HPA
    go_wp2_with (at_builtin; go_loud (refine wpList_app _ rfl (.tmp 27) (.tmp 30) _ rfl Try.underlying30 elt_entry flatEntry rfl rfl (HE0.out _ (by simp)) (HT.out _ (HE0.out _ rfl).new) (show ([] : List EntryT).length + tk.length ≤ 34359738368 by simp; omega) ?_; intro A2 n2 c2 w2 HO2))
    rw [List.nil_append] at HO2
    have HO2s := Sec.mk HO2
    clear HO2
    have HSS : True := trivial
    obtain ⟨AT, hAT⟩ : ∃ AT, AT = (if c = pl then A else A.map (fun x => x.add (pl * 2))) := ⟨_, rfl⟩
    refine reg_start [] (fun _ => True) (by kernel_rfl) ?_
    refine reg_take (.slice A2 n2 c2) (i := 0) (n := 32) HSS rfl (by kernel_rfl) (by kernel_rfl) (by kernel_rfl) (by kernel_rfl) (fun _ _ _ h => h) (fun W hW => exec_move rfl rfl) ?_
    simp only [Act.put, List.setIfInBounds_toArray, List.set_cons_zero, List.set_cons_succ]
    refine reg_take (.string ⟨nm.toArray⟩) (i := 1) (n := 33) HSS rfl (by kernel_rfl) (by kernel_rfl) (by kernel_rfl) (by kernel_rfl) (fun _ _ _ h => h) (fun W hW => exec_move rfl rfl) ?_
    simp only [Act.put, List.setIfInBounds_toArray, List.set_cons_zero, List.set_cons_succ]
    refine reg_take (.int .i64 v) (i := 2) (n := 34) HSS rfl (by kernel_rfl) (by kernel_rfl) (by kernel_rfl) (by kernel_rfl) (fun _ _ _ h => h) (fun W hW => exec_move rfl rfl) ?_
    simp only [Act.put, List.setIfInBounds_toArray, List.set_cons_zero, List.set_cons_succ]
    refine reg_take (.agg #[.string ⟨nm.toArray⟩, .int .i64 v]) (i := 3) (n := 35) HSS rfl (by kernel_rfl) (by kernel_rfl) (by kernel_rfl) (by kernel_rfl) (fun _ _ _ h => h) (fun W hW => exec_build (parts := [(0, .tmp 33), (1, .tmp 34)]) rfl rfl (buildEnt _ _ _)) ?_
    simp only [Act.put, List.setIfInBounds_toArray, List.set_cons_zero, List.set_cons_succ]
    refine reg_take (.slice A xs.length c) (i := 6) (n := 38) HSS rfl (by kernel_rfl) (by kernel_rfl) (by kernel_rfl) (by kernel_rfl) (fun _ _ _ h => h) (fun W hW => exec_move rfl rfl) ?_
    simp only [Act.put, List.setIfInBounds_toArray, List.set_cons_zero, List.set_cons_succ]
    refine reg_take (.int .i64 (pl : Int)) (i := 7) (n := 39) HSS rfl (by kernel_rfl) (by kernel_rfl) (by kernel_rfl) (by kernel_rfl) (fun _ _ _ h => h) (fun W hW => exec_move rfl rfl) ?_
    simp only [Act.put, List.setIfInBounds_toArray, List.set_cons_zero, List.set_cons_succ]
    refine reg_take (.slice AT (xs.length - pl) (c - pl)) (i := 8) (n := 40) HSS rfl (by kernel_rfl) (by kernel_rfl) (by kernel_rfl) (by kernel_rfl) (fun _ _ _ h => h) (fun W hW => exec_slice rfl rfl rfl rfl rfl (hAT ▸ slcFrom (by omega) hc _)) ?_
    simp only [Act.put, List.setIfInBounds_toArray, List.set_cons_zero, List.set_cons_succ]
    refine reg_step (i := 4) rfl (by kernel_rfl) (fun K hK => ?_)
    refine wp_valw (n := 36) (v := .slice (some ⟨w2.drew.heap.size, 0, none⟩) 1 1) (w' := w2.drew.alloc (.cells #[.string ⟨nm.toArray⟩, .int .i64 v] 70)) (exec_buildSlice (parts := [(0, .tmp 35)]) (vs := [(0, .agg #[.string ⟨nm.toArray⟩, .int .i64 v])]) rfl rfl (buildEnt1 _ _ _)) rfl ?_
    refine hK.out _ _ (fun _ => trivial) ?_
    clear hK K
    simp only [Act.put, List.setIfInBounds_toArray, List.set_cons_zero, List.set_cons_succ]
    have HO3 := HO2s.out.step (Mod.refl _ _).drew
    refine reg_step (i := 5) rfl (by kernel_rfl) (fun K hK => ?_)
    refine wp_app _ (.tmp 32) (.tmp 36) _ rfl Try.underlying30 elt_entry flatEntry rfl rfl (HO3.alloc _) (rowEnt _ HN.out HV.out rfl) (show tk.length + [((nm, v) : EntryT)].length ≤ 34359738368 by simp only [List.length_singleton]; omega) ?_
    intro A4 n4 c4 w4 HO4
    refine hK.out _ _ (fun _ => trivial) ?_
    clear hK K
    simp only [Act.put, List.setIfInBounds_toArray, List.set_cons_zero, List.set_cons_succ]
    refine reg_step (i := 9) rfl (by kernel_rfl) (fun K hK => ?_)
    have hcut := (HR1.out _ HO4.new).cut (k := pl) (m := xs.length) (cap := c) (by omega) (Nat.le_refl _) hc
    rw [List.take_length, show (if c = pl then A else A.map (fun x => x.add (pl * dEntry.sz))) = AT from hAT.symm] at hcut
    refine wp_app _ (.tmp 37) (.tmp 40) _ rfl Try.underlying30 elt_entry flatEntry rfl rfl HO4 hcut (by rw [List.length_append, List.length_singleton, List.length_drop]; omega) ?_
    intro A5 n5 c5 w5 HO5
    refine hK.out _ _ (fun _ => trivial) ?_
    rw [List.append_assoc, List.singleton_append, HB2.out] at HO5
    have HO6 := Sec.mk HO5
    clear HO5 HO4 HO3 hcut
    clear hK K
    simp only [Act.put, List.setIfInBounds_toArray, List.set_cons_zero, List.set_cons_succ]
    refine reg_take (.slice A5 n5 c5) (i := 10) (n := 6) HSS rfl (by kernel_rfl) (by kernel_rfl) (by kernel_rfl) (by kernel_rfl) (fun _ _ _ h => h) (fun W hW => exec_assign rfl rfl) ?_
    simp only [Act.put, List.setIfInBounds_toArray, List.set_cons_zero, List.set_cons_succ]
    refine reg_done (by kernel_rfl) ?_ _
    go_wp2
    go_ret
    exact (HO6.out.base HM1.out).ret
  · have HB2 := Sec.mk (HBT.out hh)
    obtain ⟨hlt, hnm⟩ := HPA.out.1 hh
    have HNM := Sec.mk hnm
    have HE0 := Sec.mk fun g (hg : g = w1.heap.size) => (Mine.empty (w := w1) dEntry 70 hg (Mod.refl _ _) : Mine dEntry 70 w1 _ _ [])
    have hli : (pl : Int) < (xs.length : Int) := by omega
    clear hh HBN HPA hnm
    go_wp2_with (at_builtin; go_loud (refine wpList_app _ rfl (.tmp 18) (.tmp 19) _ rfl Try.underlying30 elt_entry flatEntry rfl rfl (HE0.out _ (by simp)) (HR1.out _ (HE0.out _ rfl).new) (show ([] : List EntryT).length + xs.length ≤ 34359738368 by simp; omega) ?_; intro A2 n2 c2 w2 HO2))
    rw [List.nil_append] at HO2
    obtain ⟨hnl, hncc, -⟩ := HO2.len
    have hnn := HO2.new
    obtain ⟨⟨F, ho, hF⟩, hn0⟩ := HO2
    obtain ⟨g, z, rfl, hgF, hcell, hKK, hfz, hst⟩ := Own.fstore fldEntry1 (fun _ _ _ _ h => h.1) ho hlt
    obtain ⟨_, hA0, -, hcell0, hfz0⟩ := ho.cellsAt (j := pl) hlt
    injection hA0 with hA0
    injection hA0 with hA0
    subst hA0
    simp only [show dEntry.sz = 2 from rfl] at hcell0
    obtain ⟨p0, hc0⟩ := hcell0 0 (by decide)
    have hf0 := hfz0 (pl * 2 + 0)
    simp only [Nat.add_zero] at hc0 hf0
    clear hcell0 hfz0
    obtain ⟨F', ho', hF'⟩ := hst (.int .i64 v) v (fun _ => ⟨rfl, rfl, HV.out⟩)
    rw [HNM.out, HB2.out] at ho'
    simp only [show dEntry.sz = 2 from rfl] at hcell hfz ho'
    have hgw := hF g hgF
    have HOW := Sec.mk ho'
    have HFW := Sec.mk (fun k hk => hF k (hF' k hk))
    have HMW := Sec.mk (hnn.setCell (p := ⟨g, pl * 2 + 1, none⟩) (fun h => absurd h (Nat.not_lt.2 hgw)) (.int .i64 v))
    subst hnl
    have hgl : g < w2.heap.size := World.block_lt_of_cell? _ _ hcell
    clear ho ho' hF hF' hst hKK hn0 hnn hple hncc
    go_wp2
    go_ret
    exact RetOwn.of HOW.out (fun k hk => Nat.le_trans HM1.out.size (HFW.out k hk)) (HM1.out.transN HMW.out)
end Go.Proofs.Ytinfibggdbakoaa
