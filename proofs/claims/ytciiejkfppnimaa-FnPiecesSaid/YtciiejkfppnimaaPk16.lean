/- The laws' own comparisons. The walk of the law FnPieces. -/
import Derived.Test.YtciiejkfppnimaaPk4
import Derived.Test.YtciiejkfppnimaaPk2
import Derived.Test.YtciiejkfppnimaaPk10
import Derived.Test.YtciiejkfppnimaaPk15
import Derived.Test.YtciiejkfppnimaaPk7
import Derived.Test.YtciiejkfppnimaaPk8
import Derived.Deep.DeepCutAuto
import Derived.Deep.Cut
namespace Go.Proofs.Ytciiejkfppnimaa
open Go.RowKit Mem
set_option linter.unusedVariables false


set_option maxHeartbeats 400000 in
theorem sameBytes_calls {A A' : Option Addr} {n m c c' : Nat} {xs ys : Bytes} {B B' : Nat → Prop} {w : World} (h : Row Ty.byte w B A n xs) (h' : Row Ty.byte w B' A' m ys) :
    Calls Try.prog 7 #[.slice A n c, .slice A' m c'] w fun e w' => e = .returned (.bool (decide (xs = ys))) ∧ w' = w := by
  have h1 := h.conv (P := Try.prog) Try.underlying22 Try.underlying5 Try.underlying9 c
  have h2 := h'.conv (P := Try.prog) Try.underlying22 Try.underlying5 Try.underlying9 c'
  clear h h'
  by_cases he : xs = ys
  · subst he
    go_enter Try.func7, Try.ntmps7
    go_wp2
    go_ret
    exact ⟨by simp, rfl⟩
  · have hz : (xs == ys) = false := by simpa using he
    have HE := Sec.mk he
    clear he
    go_enter Try.func7, Try.ntmps7
    go_wp2
    go_ret
    exact ⟨by simp [HE.out], rfl⟩














































































end Go.Proofs.Ytciiejkfppnimaa

namespace Go.Proofs.Ytciiejkfppnimaa
open Go.RowKit Mem
set_option linter.unusedVariables false
set_option linter.unusedSimpArgs false
theorem unit_at {w w' : World} {B : Nat → Prop} {A : Option Addr} {n : Nat} {xs : List UnitT} (h : Row dUnit w B A n xs) (hb : ∀ k, B k → w'.heap[k]? = w.heap[k]?) {k : Nat} (hk : k < xs.length) :
    ∃ ad A0 c0 A1 c1, A = some ad ∧ w'.cell? (ad.add (k * 4)) = some (.slice A0 xs[k].1.length c0) ∧ w'.cell? ⟨(ad.add (k * 4)).block, (ad.add (k * 4)).off + 1, none⟩ = some (.slice A1 xs[k].2.1.length c1) ∧ w'.cell? ⟨(ad.add (k * 4)).block, (ad.add (k * 4)).off + 2, none⟩ = some (.bool xs[k].2.2.1) ∧ w'.cell? ⟨(ad.add (k * 4)).block, (ad.add (k * 4)).off + 3, none⟩ = some (.bool xs[k].2.2.2) ∧
      Row Ty.byte w' B A0 xs[k].1.length xs[k].1 ∧ Row Ty.byte w' B A1 xs[k].2.1.length xs[k].2.1 := by
  obtain ⟨ad, cs, rfl, hK, h0, h1⟩ := h.cells_at hb hk
  obtain ⟨c0, r0, rfl, ⟨A0, cp0, rfl, g0⟩, c1, r1, rfl, ⟨A1, cp1, rfl, g1⟩, c2, c3, rfl, rfl, rfl⟩ := hK
  exact ⟨ad, A0, cp0, A1, cp1, rfl, h0 _ rfl, h1 0 _ rfl, h1 1 _ rfl, h1 2 _ rfl, g0.2.2.mod (fun _ h => h) hb, g1.2.2.mod (fun _ h => h) hb⟩
theorem fptUnitsP1 (b : Nat) (w : World) : (Instr.fieldAt 35 (.pointer (some ⟨b, 0, none⟩)) 1).run Try.prog w = .ok (.pointer (some ⟨b, 1, none⟩)) w := by go_simp
theorem ldBsP {w : World} {p : Addr} {v : Value} (h : w.cell? p = some v) : (Instr.loadAt 22 (.pointer (some p))).run Try.prog w = .ok v w := by go_simp
theorem bldBytes0P (w : World) : (Instr.buildSlice 22 0 #[]).run Try.prog w = .ok (.slice (some ⟨w.heap.size, 0, none⟩) 0 0) (w.alloc (.cells #[] 5)) := by go_simp
theorem allocUnitsP (w : World) : (Instr.alloc 35 true (.tuple #[])).run Try.prog w = .ok (.pointer (some ⟨w.heap.size, 0, none⟩)) (w.alloc (.cells #[.slice none 0 0, .slice none 0 0] 35)) := by go_simp
theorem stUnitsP (w : World) (A0 A1 : Option Addr) (n0 c0 n1 c1 : Nat) : (Instr.storeAt 35 (.pointer (some ⟨w.heap.size, 0, none⟩)) (.agg #[.slice A0 n0 c0, .slice A1 n1 c1])).run Try.prog (w.alloc (.cells #[.slice none 0 0, .slice none 0 0] 35)) = .ok () (w.alloc (.cells #[.slice A0 n0 c0, .slice A1 n1 c1] 35)) := by go_simp
theorem slcBytesToP {A : Option Addr} {n c k : Nat} (hk : k ≤ c) (w : World) : (Instr.sliceAt 22 (.slice A n c) none (some (.int .i64 (k : Int))) none).run Try.prog w = .ok (.slice A k c) w := slice_to Try.underlying22 hk (by kernel_rfl)
theorem slcBytesFrom {A : Option Addr} {n c k : Nat} (hk : k ≤ n) (hc : n ≤ c) (w : World) : (Instr.sliceAt 22 (.slice A n c) (some (.int .i64 (k : Int))) none none).run Try.prog w = .ok (.slice (if c = k then A else A.map (fun x => x.add (k * 1))) (n - k) (c - k)) w := by
  by_cases h : c = k
  · subst h; go_simp
  · go_simp
section
variable {P : Program} {o : Oper} {a : Act} {w w' : World} {v : Value}
theorem exec_alloc {t : TypeId} (ho : o.op = .alloc t) (h : (Instr.alloc t true (.tuple #[])).run P w = .ok v w') : (execOp a.eval o).run P w = .ok (.value v) w' := by
  unfold execOp; simp only [ho, Sem.run_bind, h, Result.andThen_ok, Sem.run_pure]
end
theorem wp_appP {P : Program} (w : World) {o : Oper} {a : Act} {K : Act → World → Prop} {Q : Exit → Act → World → Prop} (s x : Operand) (t : TypeId)
    (ho : o.op = .call { callee := .builtin .append, args := #[s, x], argTypes := #[t, t] })
    {α : Type} {d : Ty α} {e : TypeId} {z : Value} (ht : P.underlying t = some (.slice e)) (hE : Elt P e d.sz z) (hf : Flat d)
    {w0 : World} {A A' : Option Addr} {n m c c' : Nat} {xs ys : List α} {B : Nat → Prop} (hs : a.eval s = .slice A n c) (hx : a.eval x = .slice A' m c') (hown : Mine d e w0 w (.slice A n c) xs) (hy : Row d w B A' m ys)
    (hlen : xs.length + ys.length ≤ 34359738368)
    (h : ∀ A' n' c' w', Mine d e w0 w' (.slice A' n' c') (xs ++ ys) → K (a.put o.dst (.slice A' n' c')) w') : o.wp P a w K Q := by
  obtain ⟨news, hel, hA⟩ := hy.flat hf
  obtain ⟨⟨F, ho2, hF⟩, hn⟩ := hown
  refine wp_append w s x t ho d e ht hE hs ho2 hx hel hy.1 hA (by rw [flat_nil]; exact List.nodup_nil) (by rw [flat_nil]; intro k hk; cases hk) (by have := hy.1; omega) ?_
  intro A2 n2 c2 w2 F2 ho3 hn2 hm2 hF2
  exact h _ _ _ _ ⟨⟨F2, ho3, far_app hn hF (by rw [flat_nil]; simp) hF2⟩, New.app hn ho2 hF hm2⟩
-- LAW
theorem cellsU {w : World} {v : Value} {us : List UnitT} {rs : Bytes} (h : RdV true dUnits w v (us, rs)) : ∃ A0 q0 A1 q1, v = .agg #[.slice A0 us.length q0, .slice A1 rs.length q1] := cellsUnits h
theorem rd_take {w : World} {A : Option Addr} {c n : Nat} {zs : Bytes} (h : RdV false dBS w (.slice A zs.length c) zs) (hn : n ≤ zs.length) : RdV false dBS w (.slice A n c) (zs.take n) ∧ zs.length ≤ c ∧ Row Ty.byte w (· < w.heap.size) A zs.length zs := by
  obtain ⟨A', c', e, hc, hm, hr⟩ := RdV.slice3 (e := 5) h
  injection e with e1 e2 e3
  subst e1; subst e3
  have hl : (zs.take n).length = n := by simp; omega
  have h3 : Row Ty.byte w (· < w.heap.size) A (zs.take n).length (zs.take n) := by rw [hl]; exact hr.take hn
  have h4 := RdV.of_row (e := 5) h3 (c := c) (by omega) hm
  rw [hl] at h4
  exact ⟨h4, hc, hr⟩
theorem rd_own {w : World} {F : List Nat} {v : Value} {zs : Bytes} (h : Own Ty.byte 5 w F v zs) : RdV false dBS w v zs := by
  obtain ⟨A, c, rfl, hc, hm⟩ := h.form
  exact RdV.of_row ((h.row rfl).mod (fun k hk => h.lt k hk) (fun _ _ => rfl)) hc hm
theorem unitsRows {w : World} {A0 A1 : Option Addr} {n0 c0 n1 c1 : Nat} {us : List UnitT} {rs : Bytes} (h : RdV true dUnits w (.agg #[.slice A0 n0 c0, .slice A1 n1 c1]) (us, rs)) :
    Row dUnit w (· < w.heap.size) A0 us.length us ∧ Row Ty.byte w (· < w.heap.size) A1 rs.length rs := by
  obtain ⟨v0, v1, e, k0, k1⟩ := rdUnits h
  have e' : v0 = .slice A0 n0 c0 ∧ v1 = .slice A1 n1 c1 := by injection e with e; simpa [eq_comm] using e
  obtain ⟨rfl, rfl⟩ := e'
  obtain ⟨B0, d0, e0, _, r0⟩ := RdV.slice (e := 44) k0
  obtain ⟨B1, d1, e1, _, r1⟩ := RdV.slice (e := 5) k1
  injection e0 with e0 _ _
  injection e1 with e1 _ _
  subst e0; subst e1
  exact ⟨r0, r1⟩
theorem stU8 {w : World} {g : Nat} (h : Blk w g 35 [.slice none 0 0, .slice none 0 0]) (A0 A1 : Option Addr) (n0 c0 n1 c1 : Nat) : (Instr.storeAt 35 (.pointer (some ⟨g, 0, none⟩)) (.agg #[.slice A0 n0 c0, .slice A1 n1 c1])).run Try.prog w = .ok () ((w.setCell ⟨g, 0, none⟩ (.slice A0 n0 c0)).setCell ⟨g, 1, none⟩ (.slice A1 n1 c1)) := by
  have h0 : w.cell? ⟨g, 0, none⟩ = some (.slice none 0 0) := h.cell 0
  have h1 : w.cell? ⟨g, 1, none⟩ = some (.slice none 0 0) := h.cell 1
  have f0 := h.frozen 0
  have f1 := h.frozen 1
  go_simp
theorem stored8 {w4 w : World} {g8 lo hi : Nat} {Ab Abr : Option Addr} {cb cbr : Nat} {ub : List UnitT} {br : Bytes} (hB : Blk w g8 35 [.slice none 0 0, .slice none 0 0]) (hR : OwV true dUnits w lo hi (.agg #[.slice Ab ub.length cb, .slice Abr br.length cbr]) (ub, br)) (hX : ∀ k, lo ≤ k → k < hi → ¬ k = g8) (hN : New w4 w) (hg : w4.heap.size ≤ g8) :
    ∃ (g8' : Nat) (Ab' Abr' : Option Addr) (cb' cbr' : Nat), Value.pointer (some ⟨g8, 0, none⟩) = .pointer (some ⟨g8', 0, none⟩) ∧ Sec (Blk ((w.setCell ⟨g8, 0, none⟩ (.slice Ab ub.length cb)).setCell ⟨g8, 1, none⟩ (.slice Abr br.length cbr)) g8' 35 [.slice Ab' ub.length cb', .slice Abr' br.length cbr']) ∧
      Sec (RdV true dUnits ((w.setCell ⟨g8, 0, none⟩ (.slice Ab ub.length cb)).setCell ⟨g8, 1, none⟩ (.slice Abr br.length cbr)) (.agg #[.slice Ab' ub.length cb', .slice Abr' br.length cbr']) (ub, br)) ∧ Sec (New w4 ((w.setCell ⟨g8, 0, none⟩ (.slice Ab ub.length cb)).setCell ⟨g8, 1, none⟩ (.slice Abr br.length cbr))) := by
  have hm := set2_mod w g8 (.slice Ab ub.length cb) (.slice Abr br.length cbr)
  exact ⟨g8, Ab, Abr, cb, cbr, rfl, ⟨set2_blk hB _ _⟩, ⟨(hR.keep hm hX).rd⟩, ⟨hN.trans hm (fun i hi hlt => by omega)⟩⟩
theorem sameBytes_same {A A' : Option Addr} {n m c c' : Nat} {xs : Bytes} {B B' : Nat → Prop} {w : World} (h : Row Ty.byte w B A n xs) (h' : Row Ty.byte w B' A' m xs) :
    Calls Try.prog 7 #[.slice A n c, .slice A' m c'] w fun e w' => e = .returned (.bool true) ∧ w' = w := (sameBytes_calls h h').mono fun e w' ⟨h1, h2⟩ => ⟨by simpa using h1, h2⟩
theorem pieces (lits : Bool) (zs : Bytes) (n : Nat) (hn : n ≤ zs.length) : ∃ (ua : List UnitT) (ar : Bytes) (ub : List UnitT) (br : Bytes), CutL lits (zs.take n) = (ua, ar) ∧ CutL lits (ar ++ zs.drop n) = (ub, br) ∧ CutL lits zs = (ua ++ ub, br) ∧ ar.length ≤ n ∧ ua.length ≤ n := by
  have h1 := cuts_app lits (zs.drop n) zs.length (zs.take n) (by simp; omega)
  rw [List.take_append_drop] at h1
  have h2 := cutsL_len lits (zs.take n)
  rw [List.length_take] at h2
  exact ⟨(cutsL lits (zs.take n)).1, (cutsL lits (zs.take n)).2, _, _, rfl, rfl, h1, by omega, by omega⟩
set_option maxHeartbeats 8000000 in
set_option maxRecDepth 100000 in
theorem lawFnPieces_walk {w : World} (hE : IntAt0 w) {A : Option Addr} {c : Nat} {xs : Bytes} (h : Row Ty.byte w (· < w.heap.size) A xs.length xs) (hc : xs.length ≤ c) : Calls Try.prog 5 #[.slice A xs.length c] w (Ret (.bool true) w) := by
  have HENV := Sec.mk hE
  have HR := Sec.mk h
  have hmax := h.2.1
  clear h hE
  by_cases hlong : 1048576 < xs.length
  · have hlb : ((1048576 : Int) < (xs.length : Int)) := by omega
    go_enter Try.func5, Try.ntmps5
    go_wp2
    go_ret
    exact ⟨by simp, Mod.refl _ _⟩
  have hlb : ¬ ((1048576 : Int) < (xs.length : Int)) := by omega
  go_enter Try.func5, Try.ntmps5
  go_wp2_with fail
  refine (drawCut_calls HR.out (fun k h => h) (by omega)).mono ?_
  rintro e w1 ⟨lits, A1, c1, zs, rfl, hzl, hrd1, hm1⟩
  have HZ1 := Sec.mk hrd1
  have HM1 := Sec.mk hm1
  clear hrd1 hm1 HR hlb hlong hmax
  go_wp2_with fail
  have hul := cutsL_len lits zs
  change (CutL lits zs).1.length + (CutL lits zs).2.length ≤ zs.length at hul
  obtain ⟨us, rs, hus⟩ : ∃ us rs, CutL lits zs = (us, rs) := ⟨_, _, rfl⟩
  have HCU := Sec.mk hus
  have hcs := specCut_v (w := w1) lits HZ1.out (show zs.length ≤ 1048576 by omega)
  rw [hus] at hul hcs
  simp only at hul
  refine hcs.mono ?_
  clear hus hcs
  rintro e w2 ⟨v2, rfl, ho2, hm2⟩
  obtain ⟨Au, cu, Ar, cr, rfl⟩ := cellsU ho2.rd
  have HU2 := Sec.mk ho2.rd
  have HZ2 := Sec.mk (HZ1.out.step hm2)
  have HM2 := Sec.mk (HM1.out.transN hm2)
  clear ho2 hm2 HZ1 HM1
  go_upto_region 5 with (fail)
  have hma := ((Mod.refl (fun _ => False) w2).alloc (.cells #[.slice Au us.length cu, .slice Ar rs.length cr] 35))
  have HBW := Sec.mk (Blk.new w2 35 [.slice Au us.length cu, .slice Ar rs.length cr])
  have HUW := Sec.mk (HU2.out.step hma)
  have HZW := Sec.mk (HZ2.out.step hma)
  have HMW := Sec.mk (HM2.out.transN hma)
  have hgw : w2.heap.size < (w2.alloc (.cells #[.slice Au us.length cu, .slice Ar rs.length cr] 35)).heap.size := by simp
  clear hma HU2 HZ2 HM2
  generalize w2.alloc (.cells #[.slice Au us.length cu, .slice Ar rs.length cr] 35) = wW at *
  generalize w2.heap.size = gw at *
  have HENW : Sec (IntAt0 wW) := ⟨HENV.out.new HMW.out⟩
  clear HENV
  go_wp2
  go_loopw [6] (fun v wr => ∃ n : Nat, v = .int .i64 (n : Int) ∧ n ≤ zs.length + 1 ∧ n ≤ 301 ∧ Sec (New wW wr)) (fun v _ => 302 - (intOf v).toNat)
  case atStart => exact ⟨0, rfl, by omega, by omega, ⟨Mod.refl _ _⟩⟩
  case round =>
    obtain ⟨n, rfl, hnz, hn3, HNR⟩ := hrel
    by_cases hn : n ≤ zs.length
    rotate_left
    · have hni : ¬ (n : Int) ≤ (zs.length : Int) := by omega
      go_wp2
      go_ret
      exact ⟨rfl, HMW.out.transN HNR.out⟩
    have hni : (n : Int) ≤ (zs.length : Int) := by omega
    by_cases hm : n ≤ 300
    rotate_left
    · have hmi : ¬ (n : Int) ≤ 300 := by omega
      go_wp2
      go_ret
      exact ⟨rfl, HMW.out.transN HNR.out⟩
    have hmi : (n : Int) ≤ 300 := by omega
    obtain ⟨hrdt, hc1, -⟩ := rd_take (HZW.out.step HNR.out) hn
    have HTK := Sec.mk hrdt
    clear hrdt
    obtain ⟨ua, ar, ub, br, hA, hB, hU, harl, hasl⟩ := pieces lits zs n hn
    have HBC := Sec.mk hB
    obtain ⟨hu1, hu2⟩ : us = ua ++ ub ∧ rs = br := by have := HCU.out.symm.trans hU; simpa using this
    subst hu2
    have HUE := Sec.mk hu1
    clear hU hu1 hB
    have hcall := implCut_v (w := wr) lits HTK.out (show (zs.take n).length ≤ 1048576 by simp; omega) (HENW.out.new HNR.out)
    rw [hA] at hcall
    have HCALL := Sec.mk hcall
    clear hcall hA
    have hnc : n ≤ c1 := by omega
    go_wp2_with fail
    refine HCALL.out.mono ?_
    rintro e w3 ⟨v3, rfl, ho3, hm3⟩
    obtain ⟨Aa, ca, Ar2, cr2, rfl⟩ := cellsU ho3.rd
    have HU3 := Sec.mk ho3.rd
    have HN3 := Sec.mk (HNR.out.transN hm3)
    clear ho3 hm3 HCALL HTK HNR
    go_upto_region 9 with (fail)
    have hma := ((Mod.refl (fun _ => False) w3).alloc (.cells #[.slice Aa ua.length ca, .slice Ar2 ar.length cr2] 35))
    have HB7 := Sec.mk (Blk.new w3 35 [.slice Aa ua.length ca, .slice Ar2 ar.length cr2])
    have HU4 := Sec.mk (HU3.out.step hma)
    have HN4 := Sec.mk (HN3.out.transN hma)
    have hg7 : w3.heap.size < (w3.alloc (.cells #[.slice Aa ua.length ca, .slice Ar2 ar.length cr2] 35)).heap.size := by simp
    have hs37 := HN3.out.size
    clear hma HU3 HN3
    generalize w3.alloc (.cells #[.slice Aa ua.length ca, .slice Ar2 ar.length cr2] 35) = w4 at *
    generalize w3.heap.size = g7 at *
    have HAR := Sec.mk (unitsRows HU4.out).2
    have HAU := Sec.mk (unitsRows HU4.out).1
    have HENV4 : Sec (IntAt0 w4) := ⟨HENW.out.new HN4.out⟩
    obtain ⟨Ad, hAd⟩ : ∃ Ad, Ad = (if c1 = n then A1 else A1.map (fun x => x.add (n * 1))) := ⟨_, rfl⟩
    obtain ⟨ds, hds, hdl⟩ : ∃ ds : Bytes, ds = zs.drop n ∧ ds.length = zs.length - n := ⟨_, rfl, by simp⟩
    have HDR : Sec (Row Ty.byte w4 (· < w4.heap.size) Ad (zs.length - n) ds) := by
      have hr := (rd_take (HZW.out.step HN4.out) hn).2.2
      have hr2 := hr.cut (k := n) (m := zs.length) (cap := c1) hn (Nat.le_refl _) hc1
      rw [List.take_length] at hr2
      rw [hAd, hds]
      exact ⟨hr2⟩
    have HAD := Sec.mk hAd
    rw [← hds] at HBC
    have hlen1 : Sec (([] : Bytes).length + ar.length ≤ 34359738368) := ⟨by simp; omega⟩
    have hlen2 : Sec (ar.length + ds.length ≤ 34359738368) := ⟨by omega⟩
    have hsz2 : Sec (szBS (ar ++ ds) ≤ 1048576) := ⟨by show (ar ++ ds).length ≤ 1048576; rw [List.length_append]; omega⟩
    clear hAd hds hdl
    go_cut [8] (fun v wx => ∃ (g8 : Nat) (Ab Abr : Option Addr) (cb cbr : Nat), v = .pointer (some ⟨g8, 0, none⟩) ∧ Sec (Blk wx g8 35 [.slice Ab ub.length cb, .slice Abr rs.length cbr]) ∧ Sec (RdV true dUnits wx (.agg #[.slice Ab ub.length cb, .slice Abr rs.length cbr]) (ub, rs)) ∧ Sec (New w4 wx))
    case first =>
      refine reg_start [11] (fun W => Sec (New w4 W)) (by kernel_rfl) ?_
      have HSS : Sec (New w4 w4.drew) := ⟨(Mod.refl _ _).drew⟩
      refine reg_take (.bool lits) (i := 0) (n := 38) HSS rfl (by kernel_rfl) (by kernel_rfl) (by kernel_rfl) (by kernel_rfl) (fun _ _ _ h => h) (fun W hW => exec_move rfl rfl) ?_
      simp only [Act.put, List.setIfInBounds_toArray, List.set_cons_zero, List.set_cons_succ]
      refine reg_take (.pointer (some ⟨g7, 1, none⟩)) (i := 2) (n := 40) HSS rfl (by kernel_rfl) (by kernel_rfl) (by kernel_rfl) (by kernel_rfl) (fun _ _ _ h => h) (fun W hW => exec_field rfl rfl (fptUnitsP1 _ _)) ?_
      simp only [Act.put, List.setIfInBounds_toArray, List.set_cons_zero, List.set_cons_succ]
      refine reg_take (.slice Ar2 ar.length cr2) (i := 3) (n := 41) HSS rfl (by kernel_rfl) (by kernel_rfl) (by kernel_rfl) (by kernel_rfl) (fun _ _ _ h => h) (fun W hW => exec_load rfl rfl (ldBsP ((HB7.out.mod hW.out id).cell 1))) ?_
      simp only [Act.put, List.setIfInBounds_toArray, List.set_cons_zero, List.set_cons_succ]
      refine reg_take (.slice A1 zs.length c1) (i := 5) (n := 43) HSS rfl (by kernel_rfl) (by kernel_rfl) (by kernel_rfl) (by kernel_rfl) (fun _ _ _ h => h) (fun W hW => exec_move rfl rfl) ?_
      simp only [Act.put, List.setIfInBounds_toArray, List.set_cons_zero, List.set_cons_succ]
      refine reg_take (.int .i64 (n : Int)) (i := 6) (n := 44) HSS rfl (by kernel_rfl) (by kernel_rfl) (by kernel_rfl) (by kernel_rfl) (fun _ _ _ h => h) (fun W hW => exec_move rfl rfl) ?_
      simp only [Act.put, List.setIfInBounds_toArray, List.set_cons_zero, List.set_cons_succ]
      refine reg_take (.slice Ad (zs.length - n) (c1 - n)) (i := 7) (n := 45) HSS rfl (by kernel_rfl) (by kernel_rfl) (by kernel_rfl) (by kernel_rfl) (fun _ _ _ h => h) (fun W hW => exec_slice rfl rfl rfl rfl rfl (by rw [HAD.out]; exact slcBytesFrom hn hc1 _)) ?_
      simp only [Act.put, List.setIfInBounds_toArray, List.set_cons_zero, List.set_cons_succ]
      have HN_v0 : Sec (New w4 w4.drew) := ⟨(Mod.refl _ _).drew⟩
      generalize w4.drew = v0 at *
      refine reg_step2 (i := 1) (j := 10) rfl rfl (by kernel_rfl) (fun K hK => ?_) (fun K hK => ?_)
      · obtain ⟨v1, hV⟩ : ∃ V, V = v0.alloc (.cells #[] 5) := ⟨_, rfl⟩
        have hma : New v0 v1 := by rw [hV]; exact (Mod.refl _ _).alloc _
        have HN_v1 : Sec (New w4 v1) := ⟨HN_v0.out.transN hma⟩
        have hsL : w4.heap.size ≤ v0.heap.size := HN_v0.out.size
        obtain ⟨F_v1, hFe⟩ : ∃ F, F = [v0.heap.size] := ⟨_, rfl⟩
        have HO_v1 : Sec (Own Ty.byte 5 v1 F_v1 (.slice (some ⟨v0.heap.size, 0, none⟩) 0 0) []) := ⟨by rw [hV, hFe]; exact Own.lit v0 5 [] (by simp)⟩
        have HF_v1 : Sec (∀ i, i ∈ F_v1 → w4.heap.size ≤ i) := ⟨fun i hi => by rw [hFe] at hi; have := List.mem_singleton.1 hi; omega⟩
        have HSS := HN_v1
        refine wp_valw (n := 39) (v := .slice (some ⟨v0.heap.size, 0, none⟩) 0 0) (w' := v1) (exec_buildSlice (parts := []) (vs := []) rfl rfl (by rw [hV]; exact bldBytes0P _)) rfl ?_
        refine hK.out _ _ (fun _ => HSS) ?_
        clear hma hV hFe
        clear hK K
        simp only [Act.put, List.setIfInBounds_toArray, List.set_cons_zero, List.set_cons_succ]
        refine reg_step2 (i := 4) (j := 10) rfl rfl (by kernel_rfl) (fun K hK => ?_) (fun K hK => ?_)
        · refine wp_appF _ (.tmp 39) (.tmp 41) _ rfl Try.underlying22 elt_byte flat_byte rfl rfl HO_v1.out (HAR.out.mod (w' := v1) (B' := (· < w4.heap.size)) (fun _ h => h) (fun i hi => HN_v1.out.block i hi id)) hlen1.out ?_
          intro A6 n6 c6 v2 F_v2 hoA hfA hmA
          have HN_v2 : Sec (New w4 v2) := ⟨HN_v1.out.trans hmA (fun i hi hlt => by have := HF_v1.out i hi; omega)⟩
          have hsL2 : w4.heap.size ≤ v1.heap.size := HN_v1.out.size
          have HO_v2 := Sec.mk hoA
          have HF_v2 : Sec (∀ i, i ∈ F_v2 → w4.heap.size ≤ i) := ⟨fun i hi => (hfA i hi).elim (fun h => HF_v1.out i h) (fun h => by omega)⟩
          rw [List.nil_append] at HO_v2
          have HSS := HN_v2
          refine hK.out _ _ (fun _ => HSS) ?_
          clear hoA hfA hmA
          clear hK K
          simp only [Act.put, List.setIfInBounds_toArray, List.set_cons_zero, List.set_cons_succ]
          refine reg_step2 (i := 8) (j := 10) rfl rfl (by kernel_rfl) (fun K hK => ?_) (fun K hK => ?_)
          · refine wp_appF _ (.tmp 42) (.tmp 45) _ rfl Try.underlying22 elt_byte flat_byte rfl rfl HO_v2.out (HDR.out.mod (w' := v2) (B' := (· < w4.heap.size)) (fun _ h => h) (fun i hi => HN_v2.out.block i hi id)) hlen2.out ?_
            intro A7 n7 c7 v3 F_v3 hoA hfA hmA
            have HN_v3 : Sec (New w4 v3) := ⟨HN_v2.out.trans hmA (fun i hi hlt => by have := HF_v2.out i hi; omega)⟩
            have hsL2 : w4.heap.size ≤ v2.heap.size := HN_v2.out.size
            have HO_v3 := Sec.mk hoA
            have HF_v3 : Sec (∀ i, i ∈ F_v3 → w4.heap.size ≤ i) := ⟨fun i hi => (hfA i hi).elim (fun h => HF_v2.out i h) (fun h => by omega)⟩
            have HSS := HN_v3
            refine hK.out _ _ (fun _ => HSS) ?_
            clear hoA hfA hmA
            clear hK K
            simp only [Act.put, List.setIfInBounds_toArray, List.set_cons_zero, List.set_cons_succ]
            refine reg_step2 (i := 9) (j := 10) rfl rfl (by kernel_rfl) (fun K hK => ?_) (fun K hK => ?_)
            · have hcall := implCut_v (w := v3) lits (rd_own HO_v3.out) hsz2.out (HENV4.out.new HN_v3.out)
              rw [HBC.out] at hcall
              refine wp_call (n := 47) (vals := [.bool lits, .slice A7 n7 c7]) rfl rfl rfl (by kernel_rfl) hcall ?_
              rintro e v4 ⟨v47, rfl, ho47, hma⟩
              have HN_v4 : Sec (New w4 v4) := ⟨HN_v3.out.transN hma⟩
              obtain ⟨Ab, cb, Abr, cbr, rfl⟩ := cellsU ho47.rd
              obtain ⟨lo, hlo⟩ : ∃ x, x = v3.heap.size := ⟨_, rfl⟩
              obtain ⟨hi, hhi⟩ : ∃ x, x = v4.heap.size := ⟨_, rfl⟩
              rw [← hlo, ← hhi] at ho47
              have HR_v4 := Sec.mk ho47
              have HSS := HN_v4
              refine ⟨_, rfl, hK.out _ _ (fun _ => HSS) ?_⟩
              clear hma ho47 hcall
              clear hK K
              simp only [Act.put, List.setIfInBounds_toArray, List.set_cons_zero, List.set_cons_succ]
              refine reg_step (i := 10) rfl (by kernel_rfl) (fun K hK => ?_)
              obtain ⟨v5, hV⟩ : ∃ V, V = v4.alloc (.cells #[.slice none 0 0, .slice none 0 0] 35) := ⟨_, rfl⟩
              have hma : New v4 v5 := by rw [hV]; exact (Mod.refl _ _).alloc _
              have HN_v5 : Sec (New w4 v5) := ⟨HN_v4.out.transN hma⟩
              have hsL : w4.heap.size ≤ v4.heap.size := HN_v4.out.size
              obtain ⟨g8, hg8⟩ : ∃ g, g = v4.heap.size := ⟨_, rfl⟩
              have hg84 : w4.heap.size ≤ g8 := by omega
              have HB_v5 : Sec (Blk v5 g8 35 [.slice none 0 0, .slice none 0 0]) := ⟨by rw [hV, hg8]; exact Blk.new v4 35 [.slice none 0 0, .slice none 0 0]⟩
              have HR_v5 := Sec.mk (HR_v4.out.step hma)
              have HX : Sec (∀ k, lo ≤ k → k < hi → ¬ k = g8) := ⟨fun k h1 h2 => by omega⟩
              have HSS := HN_v5
              refine wp_valw (n := 8) (v := .pointer (some ⟨g8, 0, none⟩)) (w' := v5) (exec_alloc rfl (by rw [hV, hg8]; exact allocUnitsP _)) rfl ?_
              refine hK.out _ _ (fun _ => HSS) ?_
              clear hma hV hg8
              clear hK K
              simp only [Act.put, List.setIfInBounds_toArray, List.set_cons_zero, List.set_cons_succ]
              refine reg_step (i := 11) rfl (by kernel_rfl) (fun K hK => ?_)
              refine wp_store rfl rfl rfl rfl (stU8 HB_v5.out Ab Abr _ cb _ cbr) (hK.out _ _ (fun h => absurd (List.mem_singleton.2 rfl) h) ?_)
              clear hK K
              refine reg_done (by kernel_rfl) ?_ _
              go_wp2
              go_meet
              exact stored8 HB_v5.out HR_v5.out HX.out HN_v5.out hg84
            · obtain ⟨v4, hV⟩ : ∃ V, V = v3.alloc (.cells #[.slice none 0 0, .slice none 0 0] 35) := ⟨_, rfl⟩
              have hma : New v3 v4 := by rw [hV]; exact (Mod.refl _ _).alloc _
              have HN_v4 : Sec (New w4 v4) := ⟨HN_v3.out.transN hma⟩
              have hsL : w4.heap.size ≤ v3.heap.size := HN_v3.out.size
              obtain ⟨g8, hg8⟩ : ∃ g, g = v3.heap.size := ⟨_, rfl⟩
              have hg84 : w4.heap.size ≤ g8 := by omega
              have HB_v4 : Sec (Blk v4 g8 35 [.slice none 0 0, .slice none 0 0]) := ⟨by rw [hV, hg8]; exact Blk.new v3 35 [.slice none 0 0, .slice none 0 0]⟩
              have HO_v4 := Sec.mk (HO_v3.out.keep hma (fun _ _ h => h))
              have HF_v4 := HF_v3
              have HD_v4 : Sec (∀ i, i ∈ F_v3 → i ≠ g8) := ⟨fun i hi e => by have := HO_v3.out.lt i hi; omega⟩
              have HSS := HN_v4
              refine wp_valw (n := 8) (v := .pointer (some ⟨g8, 0, none⟩)) (w' := v4) (exec_alloc rfl (by rw [hV, hg8]; exact allocUnitsP _)) rfl ?_
              refine hK.out _ _ (fun _ => HSS) ?_
              clear hma hV hg8
              clear hK K
              simp only [Act.put, List.setIfInBounds_toArray, List.set_cons_zero, List.set_cons_succ]
              refine reg_step (i := 9) rfl (by kernel_rfl) (fun K hK => ?_)
              have hcall := implCut_v (w := v4) lits (rd_own HO_v4.out) hsz2.out (HENV4.out.new HN_v4.out)
              rw [HBC.out] at hcall
              refine wp_call (n := 47) (vals := [.bool lits, .slice A7 n7 c7]) rfl rfl rfl (by kernel_rfl) hcall ?_
              rintro e v5 ⟨v47, rfl, ho47, hma⟩
              have HN_v5 : Sec (New w4 v5) := ⟨HN_v4.out.transN hma⟩
              obtain ⟨Ab, cb, Abr, cbr, rfl⟩ := cellsU ho47.rd
              obtain ⟨lo, hlo⟩ : ∃ x, x = v4.heap.size := ⟨_, rfl⟩
              obtain ⟨hi, hhi⟩ : ∃ x, x = v5.heap.size := ⟨_, rfl⟩
              rw [← hlo, ← hhi] at ho47
              have HR_v5 := Sec.mk ho47
              have HB_v5 := Sec.mk (HB_v4.out.mod hma id)
              have HX : Sec (∀ k, lo ≤ k → k < hi → ¬ k = g8) := ⟨fun k h1 h2 => by have := HB_v4.out.lt; omega⟩
              have HSS := HN_v5
              refine ⟨_, rfl, hK.out _ _ (fun _ => HSS) ?_⟩
              clear hma ho47 hcall
              clear hK K
              simp only [Act.put, List.setIfInBounds_toArray, List.set_cons_zero, List.set_cons_succ]
              refine reg_step (i := 11) rfl (by kernel_rfl) (fun K hK => ?_)
              refine wp_store rfl rfl rfl rfl (stU8 HB_v5.out Ab Abr _ cb _ cbr) (hK.out _ _ (fun h => absurd (List.mem_singleton.2 rfl) h) ?_)
              clear hK K
              refine reg_done (by kernel_rfl) ?_ _
              go_wp2
              go_meet
              exact stored8 HB_v5.out HR_v5.out HX.out HN_v5.out hg84
          · obtain ⟨v3, hV⟩ : ∃ V, V = v2.alloc (.cells #[.slice none 0 0, .slice none 0 0] 35) := ⟨_, rfl⟩
            have hma : New v2 v3 := by rw [hV]; exact (Mod.refl _ _).alloc _
            have HN_v3 : Sec (New w4 v3) := ⟨HN_v2.out.transN hma⟩
            have hsL : w4.heap.size ≤ v2.heap.size := HN_v2.out.size
            obtain ⟨g8, hg8⟩ : ∃ g, g = v2.heap.size := ⟨_, rfl⟩
            have hg84 : w4.heap.size ≤ g8 := by omega
            have HB_v3 : Sec (Blk v3 g8 35 [.slice none 0 0, .slice none 0 0]) := ⟨by rw [hV, hg8]; exact Blk.new v2 35 [.slice none 0 0, .slice none 0 0]⟩
            have HO_v3 := Sec.mk (HO_v2.out.keep hma (fun _ _ h => h))
            have HF_v3 := HF_v2
            have HD_v3 : Sec (∀ i, i ∈ F_v2 → i ≠ g8) := ⟨fun i hi e => by have := HO_v2.out.lt i hi; omega⟩
            have HSS := HN_v3
            refine wp_valw (n := 8) (v := .pointer (some ⟨g8, 0, none⟩)) (w' := v3) (exec_alloc rfl (by rw [hV, hg8]; exact allocUnitsP _)) rfl ?_
            refine hK.out _ _ (fun _ => HSS) ?_
            clear hma hV hg8
            clear hK K
            simp only [Act.put, List.setIfInBounds_toArray, List.set_cons_zero, List.set_cons_succ]
            refine reg_step (i := 8) rfl (by kernel_rfl) (fun K hK => ?_)
            refine wp_appF _ (.tmp 42) (.tmp 45) _ rfl Try.underlying22 elt_byte flat_byte rfl rfl HO_v3.out (HDR.out.mod (w' := v3) (B' := (· < w4.heap.size)) (fun _ h => h) (fun i hi => HN_v3.out.block i hi id)) hlen2.out ?_
            intro A7 n7 c7 v4 F_v4 hoA hfA hmA
            have HN_v4 : Sec (New w4 v4) := ⟨HN_v3.out.trans hmA (fun i hi hlt => by have := HF_v3.out i hi; omega)⟩
            have hsL2 : w4.heap.size ≤ v3.heap.size := HN_v3.out.size
            have HO_v4 := Sec.mk hoA
            have HF_v4 : Sec (∀ i, i ∈ F_v4 → w4.heap.size ≤ i) := ⟨fun i hi => (hfA i hi).elim (fun h => HF_v3.out i h) (fun h => by omega)⟩
            have HB_v4 := Sec.mk (HB_v3.out.mod hmA (fun h => HD_v3.out g8 h rfl))
            have HD_v4 : Sec (∀ i, i ∈ F_v4 → i ≠ g8) := ⟨fun i hi e => (hfA i hi).elim (fun h => HD_v3.out i h e) (fun h => by have := HB_v3.out.lt; omega)⟩
            have HSS := HN_v4
            refine hK.out _ _ (fun _ => HSS) ?_
            clear hoA hfA hmA
            clear hK K
            simp only [Act.put, List.setIfInBounds_toArray, List.set_cons_zero, List.set_cons_succ]
            refine reg_step (i := 9) rfl (by kernel_rfl) (fun K hK => ?_)
            have hcall := implCut_v (w := v4) lits (rd_own HO_v4.out) hsz2.out (HENV4.out.new HN_v4.out)
            rw [HBC.out] at hcall
            refine wp_call (n := 47) (vals := [.bool lits, .slice A7 n7 c7]) rfl rfl rfl (by kernel_rfl) hcall ?_
            rintro e v5 ⟨v47, rfl, ho47, hma⟩
            have HN_v5 : Sec (New w4 v5) := ⟨HN_v4.out.transN hma⟩
            obtain ⟨Ab, cb, Abr, cbr, rfl⟩ := cellsU ho47.rd
            obtain ⟨lo, hlo⟩ : ∃ x, x = v4.heap.size := ⟨_, rfl⟩
            obtain ⟨hi, hhi⟩ : ∃ x, x = v5.heap.size := ⟨_, rfl⟩
            rw [← hlo, ← hhi] at ho47
            have HR_v5 := Sec.mk ho47
            have HB_v5 := Sec.mk (HB_v4.out.mod hma id)
            have HX : Sec (∀ k, lo ≤ k → k < hi → ¬ k = g8) := ⟨fun k h1 h2 => by have := HB_v4.out.lt; omega⟩
            have HSS := HN_v5
            refine ⟨_, rfl, hK.out _ _ (fun _ => HSS) ?_⟩
            clear hma ho47 hcall
            clear hK K
            simp only [Act.put, List.setIfInBounds_toArray, List.set_cons_zero, List.set_cons_succ]
            refine reg_step (i := 11) rfl (by kernel_rfl) (fun K hK => ?_)
            refine wp_store rfl rfl rfl rfl (stU8 HB_v5.out Ab Abr _ cb _ cbr) (hK.out _ _ (fun h => absurd (List.mem_singleton.2 rfl) h) ?_)
            clear hK K
            refine reg_done (by kernel_rfl) ?_ _
            go_wp2
            go_meet
            exact stored8 HB_v5.out HR_v5.out HX.out HN_v5.out hg84
        · obtain ⟨v2, hV⟩ : ∃ V, V = v1.alloc (.cells #[.slice none 0 0, .slice none 0 0] 35) := ⟨_, rfl⟩
          have hma : New v1 v2 := by rw [hV]; exact (Mod.refl _ _).alloc _
          have HN_v2 : Sec (New w4 v2) := ⟨HN_v1.out.transN hma⟩
          have hsL : w4.heap.size ≤ v1.heap.size := HN_v1.out.size
          obtain ⟨g8, hg8⟩ : ∃ g, g = v1.heap.size := ⟨_, rfl⟩
          have hg84 : w4.heap.size ≤ g8 := by omega
          have HB_v2 : Sec (Blk v2 g8 35 [.slice none 0 0, .slice none 0 0]) := ⟨by rw [hV, hg8]; exact Blk.new v1 35 [.slice none 0 0, .slice none 0 0]⟩
          have HO_v2 := Sec.mk (HO_v1.out.keep hma (fun _ _ h => h))
          have HF_v2 := HF_v1
          have HD_v2 : Sec (∀ i, i ∈ F_v1 → i ≠ g8) := ⟨fun i hi e => by have := HO_v1.out.lt i hi; omega⟩
          have HSS := HN_v2
          refine wp_valw (n := 8) (v := .pointer (some ⟨g8, 0, none⟩)) (w' := v2) (exec_alloc rfl (by rw [hV, hg8]; exact allocUnitsP _)) rfl ?_
          refine hK.out _ _ (fun _ => HSS) ?_
          clear hma hV hg8
          clear hK K
          simp only [Act.put, List.setIfInBounds_toArray, List.set_cons_zero, List.set_cons_succ]
          refine reg_step (i := 4) rfl (by kernel_rfl) (fun K hK => ?_)
          refine wp_appF _ (.tmp 39) (.tmp 41) _ rfl Try.underlying22 elt_byte flat_byte rfl rfl HO_v2.out (HAR.out.mod (w' := v2) (B' := (· < w4.heap.size)) (fun _ h => h) (fun i hi => HN_v2.out.block i hi id)) hlen1.out ?_
          intro A6 n6 c6 v3 F_v3 hoA hfA hmA
          have HN_v3 : Sec (New w4 v3) := ⟨HN_v2.out.trans hmA (fun i hi hlt => by have := HF_v2.out i hi; omega)⟩
          have hsL2 : w4.heap.size ≤ v2.heap.size := HN_v2.out.size
          have HO_v3 := Sec.mk hoA
          have HF_v3 : Sec (∀ i, i ∈ F_v3 → w4.heap.size ≤ i) := ⟨fun i hi => (hfA i hi).elim (fun h => HF_v2.out i h) (fun h => by omega)⟩
          rw [List.nil_append] at HO_v3
          have HB_v3 := Sec.mk (HB_v2.out.mod hmA (fun h => HD_v2.out g8 h rfl))
          have HD_v3 : Sec (∀ i, i ∈ F_v3 → i ≠ g8) := ⟨fun i hi e => (hfA i hi).elim (fun h => HD_v2.out i h e) (fun h => by have := HB_v2.out.lt; omega)⟩
          have HSS := HN_v3
          refine hK.out _ _ (fun _ => HSS) ?_
          clear hoA hfA hmA
          clear hK K
          simp only [Act.put, List.setIfInBounds_toArray, List.set_cons_zero, List.set_cons_succ]
          refine reg_step (i := 8) rfl (by kernel_rfl) (fun K hK => ?_)
          refine wp_appF _ (.tmp 42) (.tmp 45) _ rfl Try.underlying22 elt_byte flat_byte rfl rfl HO_v3.out (HDR.out.mod (w' := v3) (B' := (· < w4.heap.size)) (fun _ h => h) (fun i hi => HN_v3.out.block i hi id)) hlen2.out ?_
          intro A7 n7 c7 v4 F_v4 hoA hfA hmA
          have HN_v4 : Sec (New w4 v4) := ⟨HN_v3.out.trans hmA (fun i hi hlt => by have := HF_v3.out i hi; omega)⟩
          have hsL2 : w4.heap.size ≤ v3.heap.size := HN_v3.out.size
          have HO_v4 := Sec.mk hoA
          have HF_v4 : Sec (∀ i, i ∈ F_v4 → w4.heap.size ≤ i) := ⟨fun i hi => (hfA i hi).elim (fun h => HF_v3.out i h) (fun h => by omega)⟩
          have HB_v4 := Sec.mk (HB_v3.out.mod hmA (fun h => HD_v3.out g8 h rfl))
          have HD_v4 : Sec (∀ i, i ∈ F_v4 → i ≠ g8) := ⟨fun i hi e => (hfA i hi).elim (fun h => HD_v3.out i h e) (fun h => by have := HB_v3.out.lt; omega)⟩
          have HSS := HN_v4
          refine hK.out _ _ (fun _ => HSS) ?_
          clear hoA hfA hmA
          clear hK K
          simp only [Act.put, List.setIfInBounds_toArray, List.set_cons_zero, List.set_cons_succ]
          refine reg_step (i := 9) rfl (by kernel_rfl) (fun K hK => ?_)
          have hcall := implCut_v (w := v4) lits (rd_own HO_v4.out) hsz2.out (HENV4.out.new HN_v4.out)
          rw [HBC.out] at hcall
          refine wp_call (n := 47) (vals := [.bool lits, .slice A7 n7 c7]) rfl rfl rfl (by kernel_rfl) hcall ?_
          rintro e v5 ⟨v47, rfl, ho47, hma⟩
          have HN_v5 : Sec (New w4 v5) := ⟨HN_v4.out.transN hma⟩
          obtain ⟨Ab, cb, Abr, cbr, rfl⟩ := cellsU ho47.rd
          obtain ⟨lo, hlo⟩ : ∃ x, x = v4.heap.size := ⟨_, rfl⟩
          obtain ⟨hi, hhi⟩ : ∃ x, x = v5.heap.size := ⟨_, rfl⟩
          rw [← hlo, ← hhi] at ho47
          have HR_v5 := Sec.mk ho47
          have HB_v5 := Sec.mk (HB_v4.out.mod hma id)
          have HX : Sec (∀ k, lo ≤ k → k < hi → ¬ k = g8) := ⟨fun k h1 h2 => by have := HB_v4.out.lt; omega⟩
          have HSS := HN_v5
          refine ⟨_, rfl, hK.out _ _ (fun _ => HSS) ?_⟩
          clear hma ho47 hcall
          clear hK K
          simp only [Act.put, List.setIfInBounds_toArray, List.set_cons_zero, List.set_cons_succ]
          refine reg_step (i := 11) rfl (by kernel_rfl) (fun K hK => ?_)
          refine wp_store rfl rfl rfl rfl (stU8 HB_v5.out Ab Abr _ cb _ cbr) (hK.out _ _ (fun h => absurd (List.mem_singleton.2 rfl) h) ?_)
          clear hK K
          refine reg_done (by kernel_rfl) ?_ _
          go_wp2
          go_meet
          exact stored8 HB_v5.out HR_v5.out HX.out HN_v5.out hg84
      · obtain ⟨v1, hV⟩ : ∃ V, V = v0.alloc (.cells #[.slice none 0 0, .slice none 0 0] 35) := ⟨_, rfl⟩
        have hma : New v0 v1 := by rw [hV]; exact (Mod.refl _ _).alloc _
        have HN_v1 : Sec (New w4 v1) := ⟨HN_v0.out.transN hma⟩
        have hsL : w4.heap.size ≤ v0.heap.size := HN_v0.out.size
        obtain ⟨g8, hg8⟩ : ∃ g, g = v0.heap.size := ⟨_, rfl⟩
        have hg84 : w4.heap.size ≤ g8 := by omega
        have HB_v1 : Sec (Blk v1 g8 35 [.slice none 0 0, .slice none 0 0]) := ⟨by rw [hV, hg8]; exact Blk.new v0 35 [.slice none 0 0, .slice none 0 0]⟩
        have HSS := HN_v1
        refine wp_valw (n := 8) (v := .pointer (some ⟨g8, 0, none⟩)) (w' := v1) (exec_alloc rfl (by rw [hV, hg8]; exact allocUnitsP _)) rfl ?_
        refine hK.out _ _ (fun _ => HSS) ?_
        clear hma hV hg8
        clear hK K
        simp only [Act.put, List.setIfInBounds_toArray, List.set_cons_zero, List.set_cons_succ]
        refine reg_step (i := 1) rfl (by kernel_rfl) (fun K hK => ?_)
        obtain ⟨v2, hV⟩ : ∃ V, V = v1.alloc (.cells #[] 5) := ⟨_, rfl⟩
        have hma : New v1 v2 := by rw [hV]; exact (Mod.refl _ _).alloc _
        have HN_v2 : Sec (New w4 v2) := ⟨HN_v1.out.transN hma⟩
        have hsL : w4.heap.size ≤ v1.heap.size := HN_v1.out.size
        obtain ⟨F_v2, hFe⟩ : ∃ F, F = [v1.heap.size] := ⟨_, rfl⟩
        have HO_v2 : Sec (Own Ty.byte 5 v2 F_v2 (.slice (some ⟨v1.heap.size, 0, none⟩) 0 0) []) := ⟨by rw [hV, hFe]; exact Own.lit v1 5 [] (by simp)⟩
        have HF_v2 : Sec (∀ i, i ∈ F_v2 → w4.heap.size ≤ i) := ⟨fun i hi => by rw [hFe] at hi; have := List.mem_singleton.1 hi; omega⟩
        have HB_v2 := Sec.mk (HB_v1.out.mod hma id)
        have HD_v2 : Sec (∀ i, i ∈ F_v2 → i ≠ g8) := ⟨fun i hi e => by rw [hFe] at hi; have := List.mem_singleton.1 hi; have := HB_v1.out.lt; omega⟩
        have HSS := HN_v2
        refine wp_valw (n := 39) (v := .slice (some ⟨v1.heap.size, 0, none⟩) 0 0) (w' := v2) (exec_buildSlice (parts := []) (vs := []) rfl rfl (by rw [hV]; exact bldBytes0P _)) rfl ?_
        refine hK.out _ _ (fun _ => HSS) ?_
        clear hma hV hFe
        clear hK K
        simp only [Act.put, List.setIfInBounds_toArray, List.set_cons_zero, List.set_cons_succ]
        refine reg_step (i := 4) rfl (by kernel_rfl) (fun K hK => ?_)
        refine wp_appF _ (.tmp 39) (.tmp 41) _ rfl Try.underlying22 elt_byte flat_byte rfl rfl HO_v2.out (HAR.out.mod (w' := v2) (B' := (· < w4.heap.size)) (fun _ h => h) (fun i hi => HN_v2.out.block i hi id)) hlen1.out ?_
        intro A6 n6 c6 v3 F_v3 hoA hfA hmA
        have HN_v3 : Sec (New w4 v3) := ⟨HN_v2.out.trans hmA (fun i hi hlt => by have := HF_v2.out i hi; omega)⟩
        have hsL2 : w4.heap.size ≤ v2.heap.size := HN_v2.out.size
        have HO_v3 := Sec.mk hoA
        have HF_v3 : Sec (∀ i, i ∈ F_v3 → w4.heap.size ≤ i) := ⟨fun i hi => (hfA i hi).elim (fun h => HF_v2.out i h) (fun h => by omega)⟩
        rw [List.nil_append] at HO_v3
        have HB_v3 := Sec.mk (HB_v2.out.mod hmA (fun h => HD_v2.out g8 h rfl))
        have HD_v3 : Sec (∀ i, i ∈ F_v3 → i ≠ g8) := ⟨fun i hi e => (hfA i hi).elim (fun h => HD_v2.out i h e) (fun h => by have := HB_v2.out.lt; omega)⟩
        have HSS := HN_v3
        refine hK.out _ _ (fun _ => HSS) ?_
        clear hoA hfA hmA
        clear hK K
        simp only [Act.put, List.setIfInBounds_toArray, List.set_cons_zero, List.set_cons_succ]
        refine reg_step (i := 8) rfl (by kernel_rfl) (fun K hK => ?_)
        refine wp_appF _ (.tmp 42) (.tmp 45) _ rfl Try.underlying22 elt_byte flat_byte rfl rfl HO_v3.out (HDR.out.mod (w' := v3) (B' := (· < w4.heap.size)) (fun _ h => h) (fun i hi => HN_v3.out.block i hi id)) hlen2.out ?_
        intro A7 n7 c7 v4 F_v4 hoA hfA hmA
        have HN_v4 : Sec (New w4 v4) := ⟨HN_v3.out.trans hmA (fun i hi hlt => by have := HF_v3.out i hi; omega)⟩
        have hsL2 : w4.heap.size ≤ v3.heap.size := HN_v3.out.size
        have HO_v4 := Sec.mk hoA
        have HF_v4 : Sec (∀ i, i ∈ F_v4 → w4.heap.size ≤ i) := ⟨fun i hi => (hfA i hi).elim (fun h => HF_v3.out i h) (fun h => by omega)⟩
        have HB_v4 := Sec.mk (HB_v3.out.mod hmA (fun h => HD_v3.out g8 h rfl))
        have HD_v4 : Sec (∀ i, i ∈ F_v4 → i ≠ g8) := ⟨fun i hi e => (hfA i hi).elim (fun h => HD_v3.out i h e) (fun h => by have := HB_v3.out.lt; omega)⟩
        have HSS := HN_v4
        refine hK.out _ _ (fun _ => HSS) ?_
        clear hoA hfA hmA
        clear hK K
        simp only [Act.put, List.setIfInBounds_toArray, List.set_cons_zero, List.set_cons_succ]
        refine reg_step (i := 9) rfl (by kernel_rfl) (fun K hK => ?_)
        have hcall := implCut_v (w := v4) lits (rd_own HO_v4.out) hsz2.out (HENV4.out.new HN_v4.out)
        rw [HBC.out] at hcall
        refine wp_call (n := 47) (vals := [.bool lits, .slice A7 n7 c7]) rfl rfl rfl (by kernel_rfl) hcall ?_
        rintro e v5 ⟨v47, rfl, ho47, hma⟩
        have HN_v5 : Sec (New w4 v5) := ⟨HN_v4.out.transN hma⟩
        obtain ⟨Ab, cb, Abr, cbr, rfl⟩ := cellsU ho47.rd
        obtain ⟨lo, hlo⟩ : ∃ x, x = v4.heap.size := ⟨_, rfl⟩
        obtain ⟨hi, hhi⟩ : ∃ x, x = v5.heap.size := ⟨_, rfl⟩
        rw [← hlo, ← hhi] at ho47
        have HR_v5 := Sec.mk ho47
        have HB_v5 := Sec.mk (HB_v4.out.mod hma id)
        have HX : Sec (∀ k, lo ≤ k → k < hi → ¬ k = g8) := ⟨fun k h1 h2 => by have := HB_v4.out.lt; omega⟩
        have HSS := HN_v5
        refine ⟨_, rfl, hK.out _ _ (fun _ => HSS) ?_⟩
        clear hma ho47 hcall
        clear hK K
        simp only [Act.put, List.setIfInBounds_toArray, List.set_cons_zero, List.set_cons_succ]
        refine reg_step (i := 11) rfl (by kernel_rfl) (fun K hK => ?_)
        refine wp_store rfl rfl rfl rfl (stU8 HB_v5.out Ab Abr _ cb _ cbr) (hK.out _ _ (fun h => absurd (List.mem_singleton.2 rfl) h) ?_)
        clear hK K
        refine reg_done (by kernel_rfl) ?_ _
        go_wp2
        go_meet
        exact stored8 HB_v5.out HR_v5.out HX.out HN_v5.out hg84
    case rest =>
      rename World => w5
      obtain ⟨g8, Ab, Abr, cb, cbr, rfl, HB8, HUB, HN5⟩ := hcut
      have HNW5 := Sec.mk (HN4.out.transN HN5.out)
      have HB75 := Sec.mk (HB7.out.mod HN5.out id)
      have HBW5 := Sec.mk (HBW.out.mod HNW5.out id)
      have HRU := Sec.mk (unitsRows (HUW.out.step HNW5.out)).1
      have HRR := Sec.mk (unitsRows (HUW.out.step HNW5.out)).2
      have HRA := Sec.mk (unitsRows (HU4.out.step HN5.out)).1
      have HRB := Sec.mk (unitsRows HUB.out).1
      have HRS := Sec.mk (unitsRows HUB.out).2
      have hlen : (ua.length : Int) + (ub.length : Int) = (us.length : Int) := by rw [HUE.out, List.length_append]; omega
      clear HB7 HBW HUW HU4 HUB HAR HAU HAD HDR HBC HENV4 hlen1 hlen2 hsz2
      have a0 : w5.cell? ⟨g7, 0, none⟩ = some (.slice Aa ua.length ca) := HB75.out.cell 0
      have a1 : w5.cell? ⟨g7, 1, none⟩ = some (.slice Ar2 ar.length cr2) := HB75.out.cell 1
      have b0 : w5.cell? ⟨g8, 0, none⟩ = some (.slice Ab ub.length cb) := HB8.out.cell 0
      have b1 : w5.cell? ⟨g8, 1, none⟩ = some (.slice Abr rs.length cbr) := HB8.out.cell 1
      have x0 : w5.cell? ⟨gw, 0, none⟩ = some (.slice Au us.length cu) := HBW5.out.cell 0
      have x1 : w5.cell? ⟨gw, 1, none⟩ = some (.slice Ar rs.length cr) := HBW5.out.cell 1
      go_wp2_with fail
      refine (sameBytes_same HRS.out HRR.out).mono ?_
      rintro e w5' ⟨rfl, rfl⟩
      clear a0 a1 b0 b1 x1
      go_wp2
      go_loopw [70] (fun v wk => ∃ k : Nat, v = .int .i64 (k : Int) ∧ k ≤ us.length ∧ Sec (New w5' wk)) (fun v _ => us.length - (intOf v).toNat)
      case atStart => exact ⟨0, rfl, Nat.zero_le _, ⟨Mod.refl _ _⟩⟩
      case round =>
        obtain ⟨k, rfl, hku, HNK⟩ := hrel
        by_cases hk : k < us.length
        rotate_left
        · have hki : ¬ (k : Int) < (us.length : Int) := by omega
          go_wp2
          go_roundw
          case rel => exact ⟨n + 1, by go_num, by omega, by omega, ⟨HNW5.out.transN HNK.out⟩⟩
          case measure => simp [intOf]; omega
        have hki : (k : Int) < (us.length : Int) := by omega
        obtain ⟨ad, E0, d0, E1, d1, rfl, e0, e1, e2, e3, r0, r1⟩ := unit_at HRU.out (fun i hi => HNK.out.block i hi id) hk
        have HXK : Sec (us[k]? = some us[k]) := ⟨List.getElem?_eq_getElem hk⟩
        generalize us[k] = x at *
        obtain ⟨xl, xb, xh, xd⟩ := x
        simp only at e0 e1 e2 e3 r0 r1
        have hsk := HNK.out.size
        have HR0 := Sec.mk (r0.mod (w' := ((wr.alloc (.cells #[.slice E0 xl.length d0, .slice E1 xb.length d1, .bool xh, .bool xd] 44)).alloc (.cells #[.slice none 0 0, .slice none 0 0, .bool false, .bool false] 44))) (B' := (· < w5'.heap.size)) (fun _ h => h) (fun i hi => (((Mod.refl (fun _ => False) wr).alloc _).alloc _).block i (by have : i < w5'.heap.size := hi; omega) id))
        have HR1 := Sec.mk (r1.mod (w' := ((wr.alloc (.cells #[.slice E0 xl.length d0, .slice E1 xb.length d1, .bool xh, .bool xd] 44)).alloc (.cells #[.slice none 0 0, .slice none 0 0, .bool false, .bool false] 44))) (B' := (· < w5'.heap.size)) (fun _ h => h) (fun i hi => (((Mod.refl (fun _ => False) wr).alloc _).alloc _).block i (by have : i < w5'.heap.size := hi; omega) id))
        go_upto_region 16 with (fail)
        have HB10 := Sec.mk ((Blk.new wr 44 [.slice E0 xl.length d0, .slice E1 xb.length d1, .bool xh, .bool xd]).alloc (.cells #[.slice none 0 0, .slice none 0 0, .bool false, .bool false] 44))
        have HB11 := Sec.mk (Blk.new (wr.alloc (.cells #[.slice E0 xl.length d0, .slice E1 xb.length d1, .bool xh, .bool xd] 44)) 44 [.slice none 0 0, .slice none 0 0, .bool false, .bool false])
        rw [show (wr.alloc (.cells #[.slice E0 xl.length d0, .slice E1 xb.length d1, .bool xh, .bool xd] 44)).heap.size = wr.heap.size + 1 by simp] at HB11
        have HNZ := Sec.mk ((HNK.out.alloc (.cells #[.slice E0 xl.length d0, .slice E1 xb.length d1, .bool xh, .bool xd] 44)).alloc (.cells #[.slice none 0 0, .slice none 0 0, .bool false, .bool false] 44))
        have hsz : ((wr.alloc (.cells #[.slice E0 xl.length d0, .slice E1 xb.length d1, .bool xh, .bool xd] 44)).alloc (.cells #[.slice none 0 0, .slice none 0 0, .bool false, .bool false] 44)).heap.size = wr.heap.size + 2 := by simp
        clear r0 r1 e0 e1 e2 e3 HNK
        generalize ((wr.alloc (.cells #[.slice E0 xl.length d0, .slice E1 xb.length d1, .bool xh, .bool xd] 44)).alloc (.cells #[.slice none 0 0, .slice none 0 0, .bool false, .bool false] 44)) = wz at *
        have hg10 : w5'.heap.size ≤ wr.heap.size := hsk
        generalize wr.heap.size = g10 at *
        have a0 : wz.cell? ⟨g7, 0, none⟩ = some (.slice Aa ua.length ca) := (HB75.out.mod HNZ.out id).cell 0
        have b0 : wz.cell? ⟨g8, 0, none⟩ = some (.slice Ab ub.length cb) := (HB8.out.mod HNZ.out id).cell 0
        go_upto_if 79 with (fail)
        go_cut [11] (fun v wx => ∃ (G0 G1 : Option Addr) (q0 q1 : Nat), v = .pointer (some ⟨g10 + 1, 0, none⟩) ∧ Sec (Blk wx (g10 + 1) 44 [.slice G0 xl.length q0, .slice G1 xb.length q1, .bool xh, .bool xd]) ∧ Sec (Row Ty.byte wx (· < w5'.heap.size) G0 xl.length xl) ∧ Sec (Row Ty.byte wx (· < w5'.heap.size) G1 xb.length xb) ∧ Sec (Mod (fun i => i = g10 + 1) wz wx))
        case first =>
          by_cases hka : k < ua.length
          · have hkai : (k : Int) < (ua.length : Int) := by omega
            have hxa : ua[k] = (xl, xb, xh, xd) := by have := HXK.out; rw [HUE.out, List.getElem?_append_left hka, List.getElem?_eq_getElem hka] at this; exact Option.some.inj this
            obtain ⟨ad2, G0, q0, G1, q1, rfl, e0, e1, e2, e3, r0, r1⟩ := unit_at HRA.out (fun i hi => HNZ.out.block i hi id) hka
            rw [hxa] at e0 e1 e2 e3 r0 r1
            clear hxa
            simp only at e0 e1 e2 e3 r0 r1
            have f0 : wz.frozen? ⟨g10 + 1, 0, none⟩ = false := HB11.out.frozen 0
            have f1 : wz.frozen? ⟨g10 + 1, 1, none⟩ = false := HB11.out.frozen 1
            have f2 : wz.frozen? ⟨g10 + 1, 2, none⟩ = false := HB11.out.frozen 2
            have f3 : wz.frozen? ⟨g10 + 1, 3, none⟩ = false := HB11.out.frozen 3
            have z0 : wz.cell? ⟨g10 + 1, 0, none⟩ = some (.slice none 0 0) := HB11.out.cell 0
            have z1 : wz.cell? ⟨g10 + 1, 1, none⟩ = some (.slice none 0 0) := HB11.out.cell 1
            have z2 : wz.cell? ⟨g10 + 1, 2, none⟩ = some (.bool false) := HB11.out.cell 2
            have z3 : wz.cell? ⟨g10 + 1, 3, none⟩ = some (.bool false) := HB11.out.cell 3
            have HMZ := Sec.mk (set4_mod wz (g10 + 1) (.slice G0 xl.length q0) (.slice G1 xb.length q1) (.bool xh) (.bool xd))
            have HBZ := Sec.mk (set4_blk HB11.out (.slice G0 xl.length q0) (.slice G1 xb.length q1) (.bool xh) (.bool xd))
            have HRZ0 := Sec.mk (r0.mod (w' := set4 wz (g10 + 1) (.slice G0 xl.length q0) (.slice G1 xb.length q1) (.bool xh) (.bool xd)) (B' := (· < w5'.heap.size)) (fun _ h => h) (fun i hi => HMZ.out.block i (by have : i < w5'.heap.size := hi; omega) (by have : i < w5'.heap.size := hi; omega)))
            have HRZ1 := Sec.mk (r1.mod (w' := set4 wz (g10 + 1) (.slice G0 xl.length q0) (.slice G1 xb.length q1) (.bool xh) (.bool xd)) (B' := (· < w5'.heap.size)) (fun _ h => h) (fun i hi => HMZ.out.block i (by have : i < w5'.heap.size := hi; omega) (by have : i < w5'.heap.size := hi; omega)))
            clear r0 r1
            go_wp2
            go_meet
            exact ⟨G0, G1, q0, q1, rfl, HBZ, HRZ0, HRZ1, HMZ⟩
          · have hkai : ¬ (k : Int) < (ua.length : Int) := by omega
            obtain ⟨kb, hkb⟩ : ∃ kb, k = ua.length + kb := ⟨k - ua.length, by omega⟩
            have hkb1 : kb < ub.length := by have := HUE.out; have h2 := congrArg List.length this; rw [List.length_append] at h2; omega
            have hxa : ub[kb] = (xl, xb, xh, xd) := by have := HXK.out; rw [HUE.out, hkb, List.getElem?_append_right (by omega), show ua.length + kb - ua.length = kb by omega, List.getElem?_eq_getElem hkb1] at this; exact Option.some.inj this
            obtain ⟨ad2, G0, q0, G1, q1, rfl, e0, e1, e2, e3, r0, r1⟩ := unit_at HRB.out (fun i hi => HNZ.out.block i hi id) hkb1
            rw [hxa] at e0 e1 e2 e3 r0 r1
            clear hxa
            simp only at e0 e1 e2 e3 r0 r1
            have hkbi : (k : Int) - (ua.length : Int) = (kb : Int) := by omega
            have hkb2 : (kb : Int) < (ub.length : Int) := by omega
            clear hkb
            have f0 : wz.frozen? ⟨g10 + 1, 0, none⟩ = false := HB11.out.frozen 0
            have f1 : wz.frozen? ⟨g10 + 1, 1, none⟩ = false := HB11.out.frozen 1
            have f2 : wz.frozen? ⟨g10 + 1, 2, none⟩ = false := HB11.out.frozen 2
            have f3 : wz.frozen? ⟨g10 + 1, 3, none⟩ = false := HB11.out.frozen 3
            have z0 : wz.cell? ⟨g10 + 1, 0, none⟩ = some (.slice none 0 0) := HB11.out.cell 0
            have z1 : wz.cell? ⟨g10 + 1, 1, none⟩ = some (.slice none 0 0) := HB11.out.cell 1
            have z2 : wz.cell? ⟨g10 + 1, 2, none⟩ = some (.bool false) := HB11.out.cell 2
            have z3 : wz.cell? ⟨g10 + 1, 3, none⟩ = some (.bool false) := HB11.out.cell 3
            have HMZ := Sec.mk (set4_mod wz (g10 + 1) (.slice G0 xl.length q0) (.slice G1 xb.length q1) (.bool xh) (.bool xd))
            have HBZ := Sec.mk (set4_blk HB11.out (.slice G0 xl.length q0) (.slice G1 xb.length q1) (.bool xh) (.bool xd))
            have HRZ0 := Sec.mk (r0.mod (w' := set4 wz (g10 + 1) (.slice G0 xl.length q0) (.slice G1 xb.length q1) (.bool xh) (.bool xd)) (B' := (· < w5'.heap.size)) (fun _ h => h) (fun i hi => HMZ.out.block i (by have : i < w5'.heap.size := hi; omega) (by have : i < w5'.heap.size := hi; omega)))
            have HRZ1 := Sec.mk (r1.mod (w' := set4 wz (g10 + 1) (.slice G0 xl.length q0) (.slice G1 xb.length q1) (.bool xh) (.bool xd)) (B' := (· < w5'.heap.size)) (fun _ h => h) (fun i hi => HMZ.out.block i (by have : i < w5'.heap.size := hi; omega) (by have : i < w5'.heap.size := hi; omega)))
            clear r0 r1
            go_wp2
            go_meet
            exact ⟨G0, G1, q0, q1, rfl, HBZ, HRZ0, HRZ1, HMZ⟩
        case rest =>
          rename World => w6
          obtain ⟨G0, G1, q0, q1, rfl, HBX, HRX0, HRX1, HMX⟩ := hcut
          have HB106 := Sec.mk (HB10.out.mod HMX.out (by omega))
          have HRW0 := Sec.mk (HR0.out.mod (w' := w6) (B' := (· < w5'.heap.size)) (fun _ h => h) (fun i hi => HMX.out.block i (by have : i < w5'.heap.size := hi; omega) (by have : i < w5'.heap.size := hi; omega)))
          have HRW1 := Sec.mk (HR1.out.mod (w' := w6) (B' := (· < w5'.heap.size)) (fun _ h => h) (fun i hi => HMX.out.block i (by have : i < w5'.heap.size := hi; omega) (by have : i < w5'.heap.size := hi; omega)))
          have HN6 := Sec.mk (HNZ.out.trans HMX.out (fun i hi hlt => by omega))
          clear HR0 HR1 HB10 HB11 HMX HNZ a0 b0
          have c0 : w6.cell? ⟨g10, 0, none⟩ = some (.slice E0 xl.length d0) := HB106.out.cell 0
          have c1 : w6.cell? ⟨g10, 1, none⟩ = some (.slice E1 xb.length d1) := HB106.out.cell 1
          have c2 : w6.cell? ⟨g10, 2, none⟩ = some (.bool xh) := HB106.out.cell 2
          have c3 : w6.cell? ⟨g10, 3, none⟩ = some (.bool xd) := HB106.out.cell 3
          have k0 : w6.cell? ⟨g10 + 1, 0, none⟩ = some (.slice G0 xl.length q0) := HBX.out.cell 0
          have k1 : w6.cell? ⟨g10 + 1, 1, none⟩ = some (.slice G1 xb.length q1) := HBX.out.cell 1
          have k2 : w6.cell? ⟨g10 + 1, 2, none⟩ = some (.bool xh) := HBX.out.cell 2
          have k3 : w6.cell? ⟨g10 + 1, 3, none⟩ = some (.bool xd) := HBX.out.cell 3
          clear HB106 HBX
          cases xh <;> cases xd
          all_goals
            go_wp2_with fail
            refine (sameBytes_same HRX0.out HRW0.out).mono ?_
            rintro e w6' ⟨rfl, rfl⟩
            go_wp2_with fail
            refine (sameBytes_same HRX1.out HRW1.out).mono ?_
            rintro e w6'' ⟨rfl, rfl⟩
            go_wp2
            go_roundw
            case rel => exact ⟨k + 1, by go_num, by omega, HN6⟩
            case measure => simp [intOf]; omega
end Go.Proofs.Ytciiejkfppnimaa
