/- The program's replay of an operation on names. -/
import Derived.Test.YtinfibggdbakoaaReplayS
import Derived.Test.YtinfibggdbakoaaBindI
namespace Go.Proofs.Ytinfibggdbakoaa
open Go.RowKit Mem
set_option linter.unusedVariables false
set_option linter.unusedSimpArgs false
theorem ldIntR {w : World} {p : Addr} {v : Value} (h : w.cell? p = some v) : (Instr.loadAt 3 (.pointer (some p))).run Try.prog w = .ok v w := by go_simp
theorem fptEntry1R (p : Addr) (w : World) : (Instr.fieldAt 70 (.pointer (some p)) 1).run Try.prog w = .ok (.pointer (some ⟨p.block, p.off + 1, none⟩)) w := by go_simp
set_option maxHeartbeats 4000000 in
set_option maxRecDepth 100000 in
theorem replay_calls {A : Option Addr} {c : Nat} {xs : List EntryT} {B : Nat → Prop} {w : World} (h : Row dEntry w B A xs.length xs) (hB : ∀ k, B k → k < w.heap.size) (hc : xs.length ≤ c) (hl : xs.length ≤ 1048576) (ho : Ord xs) (q : DirOpT) (hq1 : q.2.1.length ≤ 9223372036854775807) (hq2 : q.2.2.1.length ≤ 9223372036854775807) (hq3 : IntKind.i64.wrap q.2.2.2 = q.2.2.2) (nodes : Int) :
    Calls Try.prog 33 #[.slice A xs.length c, .agg #[.int .i64 q.1, .string ⟨q.2.1.toArray⟩, .string ⟨q.2.2.1.toArray⟩, .int .i64 q.2.2.2], .int .i64 nodes] w (ReplR (replayL xs q nodes) w) := by
  obtain ⟨kd, nm, to, nd⟩ := q
  simp only at hq1 hq2 hq3 ⊢
  have HW := Sec.mk hq3
  have HR := Sec.mk h
  have HB := Sec.mk hB
  have HOR := Sec.mk ho
  have HRL : Sec (replayL xs (kd, nm, to, nd) nodes = if kd = 1 then (if goodL nm = true ∧ to = [] ∧ 0 ≤ nd ∧ nd < nodes ∧ hasNode xs nd = false then some (withE xs nm nd) else none)
    else if kd = 4 then (if hasE xs nm = true ∧ goodL to = true ∧ to ≠ nm ∧ nd = 0 then some (withE (outE xs nm) to ((xs[placeE xs nm]?.getD ([], 0)).2)) else none)
    else if kd = 5 then (if hasE xs nm = true ∧ to = [] ∧ nd = 0 then some (outE xs nm) else none) else none) := ⟨rfl⟩
  generalize replayL xs (kd, nm, to, nd) nodes = res at *
  have HBX := Sec.mk (Blk.new w 58 [.int .i64 kd, .string ⟨nm.toArray⟩, .string ⟨to.toArray⟩, .int .i64 nd])
  have HM0 := Sec.mk ((Mod.refl (fun _ => False) w).alloc (.cells #[.int .i64 kd, .string ⟨nm.toArray⟩, .string ⟨to.toArray⟩, .int .i64 nd] 58))
  have HR0 : Sec (∀ W, New w W → Row dEntry W B A xs.length xs) := ⟨fun W hW => HR.out.mod (fun _ h => h) (fun k hk => hW.block k (HB.out k hk) id)⟩
  have HB0 : Sec (∀ W, New w W → ∀ k, B k → k < W.heap.size) := ⟨fun W hW k hk => Nat.lt_of_lt_of_le (HB.out k hk) hW.size⟩
  clear h hB ho hq3
  go_enter Try.func33, Try.ntmps33
  go_wp2_with fail
  refine (place_calls (c := c) (HR0.out _ HM0.out) (HB0.out _ HM0.out) hl HOR.out nm).mono ?_
  rintro e w1 ⟨rfl, hw1⟩
  have HM1 := Sec.mk (HM0.out.transN hw1)
  have HX1 := Sec.mk (HBX.out.mod hw1 id)
  have b0 : w1.cell? ⟨w.heap.size, 0, none⟩ = some (.int .i64 kd) := HX1.out.cell 0
  have b1 : w1.cell? ⟨w.heap.size, 1, none⟩ = some (.string ⟨nm.toArray⟩) := HX1.out.cell 1
  have b2 : w1.cell? ⟨w.heap.size, 2, none⟩ = some (.string ⟨to.toArray⟩) := HX1.out.cell 2
  have b3 : w1.cell? ⟨w.heap.size, 3, none⟩ = some (.int .i64 nd) := HX1.out.cell 3
  have hO : w.heap.size < w1.heap.size := HX1.out.lt
  clear hw1 HBX HM0
  by_cases hk1 : kd = 1
  · subst hk1
    have HR1 : Sec (res = if goodL nm = true ∧ to = [] ∧ 0 ≤ nd ∧ nd < nodes ∧ hasNode xs nd = false then some (withE xs nm nd) else none) := ⟨HRL.out.trans (if_pos rfl)⟩
    clear HRL
    go_wp2_with fail
    refine (goodI_calls nm hq1 w1).mono ?_
    rintro e w2 ⟨rfl, rfl⟩
    by_cases hg : goodL nm = true
    rotate_left
    · have HE : Sec (res = none) := ⟨HR1.out.trans (if_neg (fun h => hg h.1))⟩
      have hg' : goodL nm = false := by simpa using hg
      rw [hg']
      clear hg hg'
      go_wp2
      go_ret2
      exact ReplR.bad HE.out HM1.out
    rw [hg]
    by_cases ht : to = []
    rotate_left
    · have HE : Sec (res = none) := ⟨HR1.out.trans (if_neg (fun h => ht h.2.1))⟩
      have ht' : to.isEmpty = false := by simpa using ht
      clear ht
      go_wp2
      go_ret2
      exact ReplR.bad HE.out HM1.out
    subst ht
    have hte : ([] : Bytes).isEmpty = true := rfl
    by_cases hn0 : 0 ≤ nd
    rotate_left
    · have HE : Sec (res = none) := ⟨HR1.out.trans (if_neg (fun h => hn0 h.2.2.1))⟩
      have hn0' : nd < 0 := by omega
      clear hn0
      go_wp2
      go_ret2
      exact ReplR.bad HE.out HM1.out
    have hn0' : ¬ nd < 0 := by omega
    by_cases hn1 : nd < nodes
    rotate_left
    · have HE : Sec (res = none) := ⟨HR1.out.trans (if_neg (fun h => hn1 h.2.2.2.1))⟩
      have hn1' : nodes ≤ nd := by omega
      clear hn1
      go_wp2
      go_ret2
      exact ReplR.bad HE.out HM1.out
    have hn1' : ¬ nodes ≤ nd := by omega
    have HR2 : Sec (res = if hasNode xs nd = false then some (withE xs nm nd) else none) := ⟨by
      rw [HR1.out]
      by_cases hh : hasNode xs nd = false
      · rw [if_pos hh, if_pos ⟨hg, rfl, hn0, hn1, hh⟩]
      · rw [if_neg hh, if_neg (fun h => hh h.2.2.2.2)]⟩
    clear HR1 hg
    go_wp2_with fail
    refine (boundTo_calls (c := c) (HR0.out _ HM1.out) (HB0.out _ HM1.out) nd).mono ?_
    rintro e w3 ⟨rfl, hm3⟩
    have HM3 := Sec.mk (HM1.out.transN hm3)
    have HX3 := Sec.mk (HX1.out.mod hm3 id)
    have d1 : w3.cell? ⟨w.heap.size, 1, none⟩ = some (.string ⟨nm.toArray⟩) := HX3.out.cell 1
    have d3 : w3.cell? ⟨w.heap.size, 3, none⟩ = some (.int .i64 nd) := HX3.out.cell 3
    have hO3 : w.heap.size < w3.heap.size := HX3.out.lt
    clear hm3 b0 b1 b2 b3
    cases hh : hasNode xs nd
    rotate_left
    · have HE : Sec (res = none) := ⟨HR2.out.trans (if_neg (by rw [hh]; simp))⟩
      clear hh
      go_wp2
      go_ret2
      exact ReplR.bad HE.out HM3.out
    have HE : Sec (res = some (withE xs nm nd)) := ⟨HR2.out.trans (if_pos hh)⟩
    clear hh
    go_wp2_with fail
    refine (bind_calls (HR0.out _ HM3.out) (HB0.out _ HM3.out) hc hl HOR.out nm hq1 nd HW.out).mono ?_
    intro e w5 hret
    obtain ⟨A5, c5, rfl, hmine⟩ := hret.mine
    have HMI := Sec.mk (hmine.base HM3.out)
    clear hret hmine
    go_wp2
    go_ret2
    exact ReplR.good HE.out HMI.out
  have hk1b : (kd == 1) = false := by simpa using hk1
  have HRL2 := Sec.mk (HRL.out.trans (if_neg hk1))
  clear HRL hk1
  by_cases hk4 : kd = 4
  · subst hk4
    have HR1 := Sec.mk (HRL2.out.trans (if_pos rfl))
    clear HRL2
    cases hh : hasE xs nm
    · have HE : Sec (res = none) := ⟨HR1.out.trans (if_neg (by rw [hh]; simp))⟩
      clear hh HR1
      go_wp2
      go_ret2
      exact ReplR.bad HE.out HM1.out
    have hpl := place_lt HOR.out hh
    have HH := Sec.mk hh
    have HGD : Sec ((xs[placeE xs nm]?.getD ([], 0)).2 = (xs[placeE xs nm]'hpl).2) := ⟨by rw [List.getElem?_eq_getElem hpl]; rfl⟩
    obtain ⟨ad, rfl, -, -, -, hxw⟩ := ent_at (HR0.out _ HM1.out) (w' := w1) (fun _ _ => rfl) hpl
    have HXW := Sec.mk hxw
    have HE1 : Sec (∀ W, New w1 W → W.cell? ⟨(ad.add (placeE xs nm * 2)).block, (ad.add (placeE xs nm * 2)).off + 1, none⟩ = some (.int .i64 (xs[placeE xs nm]'hpl).2)) := ⟨fun W hW => by
      obtain ⟨ad', hA, h0, h1, _, _⟩ := ent_at (HR0.out _ (HM1.out.transN hW)) (w' := W) (fun _ _ => rfl) hpl
      obtain rfl := Option.some.inj hA
      exact h1⟩
    generalize (xs[placeE xs nm]'hpl).2 = u at *
    generalize placeE xs nm = pl at *
    clear hxw hh
    go_wp2_with fail
    refine (goodI_calls to hq2 w1).mono ?_
    rintro e w2 ⟨rfl, rfl⟩
    by_cases hg : goodL to = true
    rotate_left
    · have HE : Sec (res = none) := ⟨HR1.out.trans (if_neg (fun h => hg h.2.1))⟩
      have hg' : goodL to = false := by simpa using hg
      rw [hg']
      clear hg hg'
      go_wp2
      go_ret2
      exact ReplR.bad HE.out HM1.out
    rw [hg]
    by_cases ht : to = nm
    · have HE : Sec (res = none) := ⟨HR1.out.trans (if_neg (fun h => h.2.2.1 ht))⟩
      have ht' : (to == nm) = true := by simp [ht]
      clear ht
      go_wp2
      go_ret2
      exact ReplR.bad HE.out HM1.out
    have ht' : (to == nm) = false := by simpa using ht
    by_cases hn : nd = 0
    rotate_left
    · have HE : Sec (res = none) := ⟨HR1.out.trans (if_neg (fun h => hn h.2.2.2))⟩
      have hn' : (nd != 0) = true := by simpa using hn
      clear hn
      go_wp2
      go_ret2
      exact ReplR.bad HE.out HM1.out
    have HE : Sec (res = some (withE (outE xs nm) to u)) := ⟨by rw [HR1.out, if_pos ⟨HH.out, hg, ht, hn⟩, HGD.out]⟩
    subst hn
    clear hg ht HR1 HGD
    go_wp2
    have HWO := Sec.mk (fun W (hW : New w W) => leave_calls (c := c) (HR0.out W hW) (HB0.out W hW) hc hl HOR.out nm HH.out)
    have HORO := Sec.mk (ord_out HOR.out nm)
    have hol := outE_len xs nm
    generalize outE xs nm = ys at *
    have HX2 : Sec (∀ W, New w2 W → W.cell? ⟨w.heap.size, 1, none⟩ = some (.string ⟨nm.toArray⟩) ∧ W.cell? ⟨w.heap.size, 2, none⟩ = some (.string ⟨to.toArray⟩)) := ⟨fun W h => ⟨h.cell_of b1, h.cell_of b2⟩⟩
    have HSS : Sec (New w2 w2.drew) := ⟨(Mod.refl _ _).drew⟩
    refine reg_start [] (fun W => Sec (New w2 W)) (by kernel_rfl) ?_
    refine reg_take (.slice (some ad) xs.length c) (i := 0) (n := 75) HSS rfl (by kernel_rfl) (by kernel_rfl) (by kernel_rfl) (by kernel_rfl) (fun _ _ _ h => h) (fun W hW => exec_move rfl rfl) ?_
    simp only [Act.put, List.setIfInBounds_toArray, List.set_cons_zero, List.set_cons_succ]
    refine reg_take (.pointer (some ⟨w.heap.size, 1, none⟩)) (i := 1) (n := 76) HSS rfl (by kernel_rfl) (by kernel_rfl) (by kernel_rfl) (by kernel_rfl) (fun _ _ _ h => h) (fun W hW => exec_field rfl rfl (fptDirOp1 _ _)) ?_
    simp only [Act.put, List.setIfInBounds_toArray, List.set_cons_zero, List.set_cons_succ]
    refine reg_take (.string ⟨nm.toArray⟩) (i := 2) (n := 77) HSS rfl (by kernel_rfl) (by kernel_rfl) (by kernel_rfl) (by kernel_rfl) (fun _ _ _ h => h) (fun W hW => exec_load rfl rfl (ldStr (HX2.out W hW.out).1)) ?_
    simp only [Act.put, List.setIfInBounds_toArray, List.set_cons_zero, List.set_cons_succ]
    refine reg_take (.pointer (some ⟨w.heap.size, 2, none⟩)) (i := 4) (n := 79) HSS rfl (by kernel_rfl) (by kernel_rfl) (by kernel_rfl) (by kernel_rfl) (fun _ _ _ h => h) (fun W hW => exec_field rfl rfl (fptDirOp2 _ _)) ?_
    simp only [Act.put, List.setIfInBounds_toArray, List.set_cons_zero, List.set_cons_succ]
    refine reg_take (.string ⟨to.toArray⟩) (i := 5) (n := 80) HSS rfl (by kernel_rfl) (by kernel_rfl) (by kernel_rfl) (by kernel_rfl) (fun _ _ _ h => h) (fun W hW => exec_load rfl rfl (ldStr (HX2.out W hW.out).2)) ?_
    simp only [Act.put, List.setIfInBounds_toArray, List.set_cons_zero, List.set_cons_succ]
    refine reg_take (.slice (some ad) xs.length c) (i := 6) (n := 81) HSS rfl (by kernel_rfl) (by kernel_rfl) (by kernel_rfl) (by kernel_rfl) (fun _ _ _ h => h) (fun W hW => exec_move rfl rfl) ?_
    simp only [Act.put, List.setIfInBounds_toArray, List.set_cons_zero, List.set_cons_succ]
    refine reg_take (.int .i64 (pl : Int)) (i := 7) (n := 82) HSS rfl (by kernel_rfl) (by kernel_rfl) (by kernel_rfl) (by kernel_rfl) (fun _ _ _ h => h) (fun W hW => exec_move rfl rfl) ?_
    simp only [Act.put, List.setIfInBounds_toArray, List.set_cons_zero, List.set_cons_succ]
    refine reg_take (.pointer (some (ad.add (pl * 2)))) (i := 8) (n := 83) HSS rfl (by kernel_rfl) (by kernel_rfl) (by kernel_rfl) (by kernel_rfl) (fun _ _ _ h => h) (fun W hW => exec_indexAddr rfl rfl rfl (idxEntryS _ _ _ _ hpl _)) ?_
    simp only [Act.put, List.setIfInBounds_toArray, List.set_cons_zero, List.set_cons_succ]
    refine reg_take (.pointer (some ⟨(ad.add (pl * 2)).block, (ad.add (pl * 2)).off + 1, none⟩)) (i := 9) (n := 84) HSS rfl (by kernel_rfl) (by kernel_rfl) (by kernel_rfl) (by kernel_rfl) (fun _ _ _ h => h) (fun W hW => exec_field rfl rfl (fptEntry1R _ _)) ?_
    simp only [Act.put, List.setIfInBounds_toArray, List.set_cons_zero, List.set_cons_succ]
    refine reg_take (.int .i64 u) (i := 10) (n := 85) HSS rfl (by kernel_rfl) (by kernel_rfl) (by kernel_rfl) (by kernel_rfl) (fun _ _ _ h => h) (fun W hW => exec_load rfl rfl (ldIntR (HE1.out W hW.out))) ?_
    simp only [Act.put, List.setIfInBounds_toArray, List.set_cons_zero, List.set_cons_succ]
    refine reg_step (i := 3) rfl (by kernel_rfl) (fun K hK => ?_)
    refine wp_call (n := 78) (vals := [.slice (some ad) xs.length c, .string ⟨nm.toArray⟩]) rfl rfl rfl (by kernel_rfl) (HWO.out _ (HM1.out.transN HSS.out)) ?_
    intro e w3 hret
    obtain ⟨A3, c3, rfl, hmine⟩ := hret.mine
    have HSS : Sec (New w2 w3) := ⟨HSS.out.transN hmine.new⟩
    have HY := Sec.mk hmine.row
    have hyc := hmine.len.2.1
    refine ⟨_, rfl, hK.out _ _ (fun _ => HSS) ?_⟩
    clear hret hmine
    clear hK K
    simp only [Act.put, List.setIfInBounds_toArray, List.set_cons_zero, List.set_cons_succ]
    refine reg_step (i := 11) rfl (by kernel_rfl) (fun K hK => ?_)
    refine wp_call (n := 86) (vals := [.slice A3 ys.length c3, .string ⟨to.toArray⟩, .int .i64 u]) rfl rfl rfl (by kernel_rfl) (bind_calls (c := c3) HY.out (fun k hk => hk.2) hyc (by omega) HORO.out to hq2 u HXW.out) ?_
    intro e w4 hret
    obtain ⟨A4, c4, rfl, hmine⟩ := hret.mine
    have HMI := Sec.mk (hmine.base (HM1.out.transN HSS.out))
    have HSS : Sec (New w2 w4) := ⟨HSS.out.transN hmine.new⟩
    refine ⟨_, rfl, hK.out _ _ (fun _ => HSS) ?_⟩
    clear hret hmine
    clear hK K
    simp only [Act.put, List.setIfInBounds_toArray, List.set_cons_zero, List.set_cons_succ]
    refine reg_take (.slice A4 (withE ys to u).length c4) (i := 12) (n := 6) HSS rfl (by kernel_rfl) (by kernel_rfl) (by kernel_rfl) (by kernel_rfl) (fun _ _ _ h => h) (fun W hW => exec_assign rfl rfl) ?_
    simp only [Act.put, List.setIfInBounds_toArray, List.set_cons_zero, List.set_cons_succ]
    refine reg_take (.bool true) (i := 13) (n := 7) HSS rfl (by kernel_rfl) (by kernel_rfl) (by kernel_rfl) (by kernel_rfl) (fun _ _ _ h => h) (fun W hW => exec_assign rfl rfl) ?_
    simp only [Act.put, List.setIfInBounds_toArray, List.set_cons_zero, List.set_cons_succ]
    refine reg_done (by kernel_rfl) ?_ _
    go_wp2
    go_ret2
    exact ReplR.good HE.out HMI.out
  have hk4b : (kd == 4) = false := by simpa using hk4
  have HRL3 := Sec.mk (HRL2.out.trans (if_neg hk4))
  clear HRL2 hk4
  by_cases hk5 : kd = 5
  · subst hk5
    have HR1 := Sec.mk (HRL3.out.trans (if_pos rfl))
    clear HRL3
    cases hh : hasE xs nm
    · have HE : Sec (res = none) := ⟨HR1.out.trans (if_neg (by rw [hh]; simp))⟩
      clear hh HR1
      go_wp2
      go_ret2
      exact ReplR.bad HE.out HM1.out
    have HH := Sec.mk hh
    clear hh
    generalize placeE xs nm = pl at *
    by_cases ht : to = []
    rotate_left
    · have HE : Sec (res = none) := ⟨HR1.out.trans (if_neg (fun h => ht h.2.1))⟩
      have ht' : to.isEmpty = false := by simpa using ht
      clear ht
      go_wp2
      go_ret2
      exact ReplR.bad HE.out HM1.out
    subst ht
    by_cases hn : nd = 0
    rotate_left
    · have HE : Sec (res = none) := ⟨HR1.out.trans (if_neg (fun h => hn h.2.2))⟩
      have hn' : (nd != 0) = true := by simpa using hn
      clear hn
      go_wp2
      go_ret2
      exact ReplR.bad HE.out HM1.out
    have HE : Sec (res = some (outE xs nm)) := ⟨by rw [HR1.out, if_pos ⟨HH.out, rfl, hn⟩]⟩
    subst hn
    clear HR1
    go_wp2_with fail
    refine (leave_calls (HR0.out _ HM1.out) (HB0.out _ HM1.out) hc hl HOR.out nm HH.out).mono ?_
    intro e w4 hret
    obtain ⟨A4, c4, rfl, hmine⟩ := hret.mine
    have HMI := Sec.mk (hmine.base HM1.out)
    clear hret hmine
    go_wp2
    go_ret2
    exact ReplR.good HE.out HMI.out
  have hk5b : (kd == 5) = false := by simpa using hk5
  have HE : Sec (res = none) := ⟨HRL3.out.trans (if_neg hk5)⟩
  clear hk5
  go_wp2
  go_ret2
  exact ReplR.bad HE.out HM1.out
end Go.Proofs.Ytinfibggdbakoaa
