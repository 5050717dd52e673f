/- The specification's replay of an operation on names. -/
import Derived.Test.YtinfibggdbakoaaDiskC
import Derived.Test.YtinfibggdbakoaaSDirOp
import Derived.Test.YtinfibggdbakoaaReg2D
namespace Go.Proofs.Ytinfibggdbakoaa
open Go.RowKit Mem
set_option linter.unusedVariables false
set_option linter.unusedSimpArgs false
/-- what a replay comes to -/
def ReplR (o : Option (List EntryT)) (w : World) (e : Ending) (w' : World) : Prop := match o with
  | none => e = .returned (.tuple #[.slice none 0 0, .bool false]) ∧ New w w'
  | some m => ∃ A c, e = .returned (.tuple #[.slice A m.length c, .bool true]) ∧ Mine dEntry 70 w w' (.slice A m.length c) m
theorem ReplR.bad {o : Option (List EntryT)} {w w' : World} (h : o = none) (hm : New w w') : ReplR o w (.returned (.tuple #[.slice none 0 0, .bool false])) w' := by subst h; exact ⟨rfl, hm⟩
theorem ReplR.good {o : Option (List EntryT)} {m : List EntryT} {w w' : World} {A : Option Addr} {c : Nat} (h : o = some m) (hm : Mine dEntry 70 w w' (.slice A m.length c) m) : ReplR o w (.returned (.tuple #[.slice A m.length c, .bool true])) w' := by subst h; exact ⟨A, c, rfl, hm⟩
theorem find_neg {l : List EntL} (h : Ord l) {n : LB} (hn : hasE l n = false) : findE l n = -1 := by rw [find_place h, hn]; rfl
theorem find_pos {l : List EntL} (h : Ord l) {n : LB} (hn : hasE l n = true) : findE l n = (placeE l n : Int) := by rw [find_place h, hn]; rfl
theorem place_lt {l : List EntL} (h : Ord l) {n : LB} (hn : hasE l n = true) : placeE l n < l.length := ((place_at h n).1.mp hn).1
set_option maxHeartbeats 4000000 in
set_option maxRecDepth 100000 in
theorem l1Replay_calls {A : Option Addr} {c : Nat} {xs : List EntryT} {B : Nat → Prop} {w : World} (h : Row dEntry w B A xs.length xs) (hB : ∀ k, B k → k < w.heap.size) (hl : xs.length ≤ 1048576) (ho : Ord xs) (q : DirOpT) (hq1 : q.2.1.length ≤ 9223372036854775807) (hq2 : q.2.2.1.length ≤ 9223372036854775807) (hq3 : IntKind.i64.wrap q.2.2.2 = q.2.2.2) (nodes : Int) :
    Calls Try.prog 27 #[.slice A xs.length c, .agg #[.int .i64 q.1, .string ⟨q.2.1.toArray⟩, .string ⟨q.2.2.1.toArray⟩, .int .i64 q.2.2.2], .int .i64 nodes] w (ReplR (replayL xs q nodes) w) := by
  obtain ⟨kd, nm, to, nd⟩ := q
  simp only at hq1 hq2 hq3 ⊢
  have HW := Sec.mk hq3
  have HR := Sec.mk h
  have HB := Sec.mk hB
  have HOR := Sec.mk ho
  have HRL : Sec (replayL xs (kd, nm, to, nd) nodes = if kd = 1 then (if goodL nm = true ∧ to = [] ∧ 0 ≤ nd ∧ nd < nodes ∧ hasNode xs nd = false then some (withE xs nm nd) else none)
    else if kd = 4 then (if hasE xs nm = true ∧ goodL to = true ∧ to ≠ nm ∧ nd = 0 then some (withE (outE xs nm) to ((xs[placeE xs nm]?.getD ([], 0)).2)) else none)
    else if kd = 5 then (if hasE xs nm = true ∧ to = [] ∧ nd = 0 then some (outE xs nm) else none) else none) := ⟨rfl⟩
  generalize replayL xs (kd, nm, to, nd) nodes = res at *
  have HBX := Sec.mk (Blk.new w 58 [.int .i64 kd, .string ⟨nm.toArray⟩, .string ⟨to.toArray⟩, .int .i64 nd])
  have HM0 := Sec.mk ((Mod.refl (fun _ => False) w).alloc (.cells #[.int .i64 kd, .string ⟨nm.toArray⟩, .string ⟨to.toArray⟩, .int .i64 nd] 58))
  have HR0 : Sec (∀ W, New w W → Row dEntry W B A xs.length xs) := ⟨fun W hW => HR.out.mod (fun _ h => h) (fun k hk => hW.block k (HB.out k hk) id)⟩
  have HB0 : Sec (∀ W, New w W → ∀ k, B k → k < W.heap.size) := ⟨fun W hW k hk => Nat.lt_of_lt_of_le (HB.out k hk) hW.size⟩
  clear h hB ho hq3
  go_enter Try.func27, Try.ntmps27
  go_wp2_with fail
  refine (l1Find_calls (HR0.out _ HM0.out) nm).mono ?_
  rintro e w1 ⟨rfl, hw1⟩
  have HM1 : Sec (New w w1) := ⟨by rw [hw1]; exact HM0.out⟩
  have HX1 : Sec (Blk w1 w.heap.size 58 [.int .i64 kd, .string ⟨nm.toArray⟩, .string ⟨to.toArray⟩, .int .i64 nd]) := ⟨by rw [hw1]; exact HBX.out⟩
  have b0 : w1.cell? ⟨w.heap.size, 0, none⟩ = some (.int .i64 kd) := HX1.out.cell 0
  have b1 : w1.cell? ⟨w.heap.size, 1, none⟩ = some (.string ⟨nm.toArray⟩) := HX1.out.cell 1
  have b2 : w1.cell? ⟨w.heap.size, 2, none⟩ = some (.string ⟨to.toArray⟩) := HX1.out.cell 2
  have b3 : w1.cell? ⟨w.heap.size, 3, none⟩ = some (.int .i64 nd) := HX1.out.cell 3
  clear hw1 HBX HM0
  by_cases hk1 : kd = 1
  · subst hk1
    have HR1 : Sec (res = if goodL nm = true ∧ to = [] ∧ 0 ≤ nd ∧ nd < nodes ∧ hasNode xs nd = false then some (withE xs nm nd) else none) := ⟨HRL.out.trans (if_pos rfl)⟩
    clear HRL
    go_wp2_with fail
    refine (goodS_calls nm hq1 w1).mono ?_
    rintro e w2 ⟨rfl, rfl⟩
    by_cases hg : goodL nm = true
    rotate_left
    · have HE : Sec (res = none) := ⟨HR1.out.trans (if_neg (fun h => hg h.1))⟩
      have hg' : goodL nm = false := by simpa using hg
      rw [hg']
      clear hg hg'
      go_wp2
      go_ret2
      exact ReplR.bad HE.out HM1.out
    rw [hg]
    by_cases ht : to = []
    rotate_left
    · have HE : Sec (res = none) := ⟨HR1.out.trans (if_neg (fun h => ht h.2.1))⟩
      have ht' : to.isEmpty = false := by simpa using ht
      clear ht
      go_wp2
      go_ret2
      exact ReplR.bad HE.out HM1.out
    subst ht
    have hte : ([] : Bytes).isEmpty = true := rfl
    by_cases hn0 : 0 ≤ nd
    rotate_left
    · have HE : Sec (res = none) := ⟨HR1.out.trans (if_neg (fun h => hn0 h.2.2.1))⟩
      have hn0' : nd < 0 := by omega
      clear hn0
      go_wp2
      go_ret2
      exact ReplR.bad HE.out HM1.out
    have hn0' : ¬ nd < 0 := by omega
    by_cases hn1 : nd < nodes
    rotate_left
    · have HE : Sec (res = none) := ⟨HR1.out.trans (if_neg (fun h => hn1 h.2.2.2.1))⟩
      have hn1' : nodes ≤ nd := by omega
      clear hn1
      go_wp2
      go_ret2
      exact ReplR.bad HE.out HM1.out
    have hn1' : ¬ nodes ≤ nd := by omega
    have HR2 : Sec (res = if hasNode xs nd = false then some (withE xs nm nd) else none) := ⟨by
      rw [HR1.out]
      by_cases hh : hasNode xs nd = false
      · rw [if_pos hh, if_pos ⟨hg, rfl, hn0, hn1, hh⟩]
      · rw [if_neg hh, if_neg (fun h => hh h.2.2.2.2)]⟩
    clear HR1 hg
    go_wp2
    go_loopw [42] (fun i wr => ∃ k : Nat, k ≤ xs.length ∧ i = .int .i64 (k : Int) ∧ Sec (hasNode (xs.take k) nd = false) ∧ Sec (New w2 wr)) (fun i _ => xs.length - (intOf i).toNat)
    case atStart => exact ⟨0, Nat.zero_le _, rfl, ⟨rfl⟩, ⟨Mod.refl _ _⟩⟩
    case round =>
      obtain ⟨k, hk, rfl, HN, HM⟩ := hrel
      have c1 : wr.cell? ⟨w.heap.size, 1, none⟩ = some (.string ⟨nm.toArray⟩) := HM.out.cell_of b1
      have c3 : wr.cell? ⟨w.heap.size, 3, none⟩ = some (.int .i64 nd) := HM.out.cell_of b3
      have HMr := Sec.mk (HM1.out.transN HM.out)
      have hwr : w.heap.size < wr.heap.size := Nat.lt_of_lt_of_le HX1.out.lt HM.out.size
      by_cases hlt : k < xs.length
      · obtain ⟨ad, rfl, h0, h1, _, _⟩ := ent_at (HR0.out _ HMr.out) (w' := wr) (fun _ _ => rfl) hlt
        have HS := Sec.mk (hasNode_take (v := nd) hlt)
        have HT := Sec.mk (fun (hv : xs[k].2 = nd) => (hv ▸ hasNode_mem hlt : hasNode xs nd = true))
        have hki : (k : Int) < (xs.length : Int) := by omega
        have HM2 := Sec.mk (HM.out.alloc (.cells #[.string ⟨xs[k].1.toArray⟩, .int .i64 xs[k].2] 70))
        generalize xs[k].1 = zn at *
        generalize xs[k].2 = z at *
        by_cases he : z = nd
        · have HE : Sec (res = none) := ⟨HR2.out.trans (if_neg (by rw [HT.out he]; simp))⟩
          have hz : (z == nd) = true := by simp [he]
          clear he
          go_wp2
          go_ret2
          exact ReplR.bad HE.out (HM1.out.transN HM2.out)
        · have hz : (z == nd) = false := by simpa using he
          have HN' : Sec (hasNode (xs.take (k + 1)) nd = false) := ⟨by rw [HS.out, HN.out, decide_eq_false he]; rfl⟩
          clear he
          go_wp2
          go_roundw
          case rel => exact ⟨k + 1, by omega, by go_num, HN', HM2⟩
          case measure => simp [intOf]; omega
      · obtain rfl : k = xs.length := by omega
        rw [List.take_length] at HN
        have HE : Sec (res = some (withE xs nm nd)) := ⟨HR2.out.trans (if_pos HN.out)⟩
        go_wp2_with fail
        refine (l1With_calls (HR0.out _ HMr.out) (HB0.out _ HMr.out) hl nm hq1 nd HW.out HOR.out).mono ?_
        intro e w5 hret
        obtain ⟨A5, c5, rfl, hmine⟩ := hret.mine
        have HMI := Sec.mk (hmine.base HMr.out)
        clear hret hmine
        go_wp2
        go_ret2
        exact ReplR.good HE.out HMI.out
  have hk1b : (kd == 1) = false := by simpa using hk1
  have HRL2 := Sec.mk (HRL.out.trans (if_neg hk1))
  clear HRL hk1
  by_cases hk4 : kd = 4
  · subst hk4
    have HR1 := Sec.mk (HRL2.out.trans (if_pos rfl))
    clear HRL2
    cases hh : hasE xs nm
    · have HE : Sec (res = none) := ⟨HR1.out.trans (if_neg (by rw [hh]; simp))⟩
      rw [find_neg HOR.out hh]
      clear hh HR1
      go_wp2
      go_ret2
      exact ReplR.bad HE.out HM1.out
    have hpl := place_lt HOR.out hh
    have HH := Sec.mk hh
    rw [find_pos HOR.out hh]
    clear hh
    have HGD : Sec ((xs[placeE xs nm]?.getD ([], 0)).2 = (xs[placeE xs nm]'hpl).2) := ⟨by rw [List.getElem?_eq_getElem hpl]; rfl⟩
    have hpi : (placeE xs nm : Int) < (xs.length : Int) := by omega
    have hpn : ¬ ((placeE xs nm : Int) < 0) := by omega
    obtain ⟨ad, rfl, hx0, hx1, hxn, hxw⟩ := ent_at (HR0.out _ HM1.out) (w' := w1) (fun _ _ => rfl) hpl
    have HXW := Sec.mk hxw
    generalize (xs[placeE xs nm]'hpl).2 = u at *
    generalize placeE xs nm = pl at *
    clear hxw hxn hx0
    go_wp2_with fail
    refine (goodS_calls to hq2 w1).mono ?_
    rintro e w2 ⟨rfl, rfl⟩
    by_cases hg : goodL to = true
    rotate_left
    · have HE : Sec (res = none) := ⟨HR1.out.trans (if_neg (fun h => hg h.2.1))⟩
      have hg' : goodL to = false := by simpa using hg
      rw [hg']
      clear hg hg'
      go_wp2
      go_ret2
      exact ReplR.bad HE.out HM1.out
    rw [hg]
    by_cases ht : to = nm
    · have HE : Sec (res = none) := ⟨HR1.out.trans (if_neg (fun h => h.2.2.1 ht))⟩
      have ht' : (to == nm) = true := by simp [ht]
      clear ht
      go_wp2
      go_ret2
      exact ReplR.bad HE.out HM1.out
    have ht' : (to == nm) = false := by simpa using ht
    by_cases hn : nd = 0
    rotate_left
    · have HE : Sec (res = none) := ⟨HR1.out.trans (if_neg (fun h => hn h.2.2.2))⟩
      have hn' : (nd != 0) = true := by simpa using hn
      clear hn
      go_wp2
      go_ret2
      exact ReplR.bad HE.out HM1.out
    have HE : Sec (res = some (withE (outE xs nm) to u)) := ⟨by rw [HR1.out, if_pos ⟨HH.out, hg, ht, hn⟩, HGD.out]⟩
    subst hn
    clear hg ht HR1 HGD
    go_wp2
    have HWO := Sec.mk (fun W (hW : New w W) => l1Without_calls (c := c) (HR0.out W hW) (HB0.out W hW) hl nm)
    have HORO := Sec.mk (ord_out HOR.out nm)
    have hol := outE_len xs nm
    generalize outE xs nm = ys at *
    have HX2 : Sec (∀ W, New w2 W → W.cell? ⟨w.heap.size, 1, none⟩ = some (.string ⟨nm.toArray⟩) ∧ W.cell? ⟨w.heap.size, 2, none⟩ = some (.string ⟨to.toArray⟩)) := ⟨fun W h => ⟨h.cell_of b1, h.cell_of b2⟩⟩
    have HSS : Sec (New w2 w2.drew) := ⟨(Mod.refl _ _).drew⟩
    refine reg_start [] (fun W => Sec (New w2 W)) (by kernel_rfl) ?_
    refine reg_take (.slice (some ad) xs.length c) (i := 0) (n := 85) HSS rfl (by kernel_rfl) (by kernel_rfl) (by kernel_rfl) (by kernel_rfl) (fun _ _ _ h => h) (fun W hW => exec_move rfl rfl) ?_
    simp only [Act.put, List.setIfInBounds_toArray, List.set_cons_zero, List.set_cons_succ]
    refine reg_take (.pointer (some ⟨w.heap.size, 1, none⟩)) (i := 1) (n := 86) HSS rfl (by kernel_rfl) (by kernel_rfl) (by kernel_rfl) (by kernel_rfl) (fun _ _ _ h => h) (fun W hW => exec_field rfl rfl (fptDirOp1 _ _)) ?_
    simp only [Act.put, List.setIfInBounds_toArray, List.set_cons_zero, List.set_cons_succ]
    refine reg_take (.string ⟨nm.toArray⟩) (i := 2) (n := 87) HSS rfl (by kernel_rfl) (by kernel_rfl) (by kernel_rfl) (by kernel_rfl) (fun _ _ _ h => h) (fun W hW => exec_load rfl rfl (ldStr (HX2.out W hW.out).1)) ?_
    simp only [Act.put, List.setIfInBounds_toArray, List.set_cons_zero, List.set_cons_succ]
    refine reg_take (.pointer (some ⟨w.heap.size, 2, none⟩)) (i := 4) (n := 89) HSS rfl (by kernel_rfl) (by kernel_rfl) (by kernel_rfl) (by kernel_rfl) (fun _ _ _ h => h) (fun W hW => exec_field rfl rfl (fptDirOp2 _ _)) ?_
    simp only [Act.put, List.setIfInBounds_toArray, List.set_cons_zero, List.set_cons_succ]
    refine reg_take (.string ⟨to.toArray⟩) (i := 5) (n := 90) HSS rfl (by kernel_rfl) (by kernel_rfl) (by kernel_rfl) (by kernel_rfl) (fun _ _ _ h => h) (fun W hW => exec_load rfl rfl (ldStr (HX2.out W hW.out).2)) ?_
    simp only [Act.put, List.setIfInBounds_toArray, List.set_cons_zero, List.set_cons_succ]
    refine reg_take (.int .i64 u) (i := 6) (n := 91) HSS rfl (by kernel_rfl) (by kernel_rfl) (by kernel_rfl) (by kernel_rfl) (fun _ _ _ h => h) (fun W hW => exec_move rfl rfl) ?_
    simp only [Act.put, List.setIfInBounds_toArray, List.set_cons_zero, List.set_cons_succ]
    refine reg_step (i := 3) rfl (by kernel_rfl) (fun K hK => ?_)
    refine wp_call (n := 88) (vals := [.slice (some ad) xs.length c, .string ⟨nm.toArray⟩]) rfl rfl rfl (by kernel_rfl) (HWO.out _ (HM1.out.transN HSS.out)) ?_
    intro e w3 hret
    obtain ⟨A3, c3, rfl, hmine⟩ := hret.mine
    have HSS : Sec (New w2 w3) := ⟨HSS.out.transN hmine.new⟩
    have HY := Sec.mk hmine.row
    refine ⟨_, rfl, hK.out _ _ (fun _ => HSS) ?_⟩
    clear hret hmine
    clear hK K
    simp only [Act.put, List.setIfInBounds_toArray, List.set_cons_zero, List.set_cons_succ]
    refine reg_step (i := 7) rfl (by kernel_rfl) (fun K hK => ?_)
    refine wp_call (n := 92) (vals := [.slice A3 ys.length c3, .string ⟨to.toArray⟩, .int .i64 u]) rfl rfl rfl (by kernel_rfl) (l1With_calls (c := c3) HY.out (fun k hk => hk.2) (by omega) to hq2 u HXW.out HORO.out) ?_
    intro e w4 hret
    obtain ⟨A4, c4, rfl, hmine⟩ := hret.mine
    have HMI := Sec.mk (hmine.base (HM1.out.transN HSS.out))
    have HSS : Sec (New w2 w4) := ⟨HSS.out.transN hmine.new⟩
    refine ⟨_, rfl, hK.out _ _ (fun _ => HSS) ?_⟩
    clear hret hmine
    clear hK K
    simp only [Act.put, List.setIfInBounds_toArray, List.set_cons_zero, List.set_cons_succ]
    refine reg_take (.slice A4 (withE ys to u).length c4) (i := 8) (n := 6) HSS rfl (by kernel_rfl) (by kernel_rfl) (by kernel_rfl) (by kernel_rfl) (fun _ _ _ h => h) (fun W hW => exec_assign rfl rfl) ?_
    simp only [Act.put, List.setIfInBounds_toArray, List.set_cons_zero, List.set_cons_succ]
    refine reg_take (.bool true) (i := 9) (n := 7) HSS rfl (by kernel_rfl) (by kernel_rfl) (by kernel_rfl) (by kernel_rfl) (fun _ _ _ h => h) (fun W hW => exec_assign rfl rfl) ?_
    simp only [Act.put, List.setIfInBounds_toArray, List.set_cons_zero, List.set_cons_succ]
    refine reg_done (by kernel_rfl) ?_ _
    go_wp2
    go_ret2
    exact ReplR.good HE.out HMI.out
  have hk4b : (kd == 4) = false := by simpa using hk4
  have HRL3 := Sec.mk (HRL2.out.trans (if_neg hk4))
  clear HRL2 hk4
  by_cases hk5 : kd = 5
  · subst hk5
    have HR1 := Sec.mk (HRL3.out.trans (if_pos rfl))
    clear HRL3
    cases hh : hasE xs nm
    · have HE : Sec (res = none) := ⟨HR1.out.trans (if_neg (by rw [hh]; simp))⟩
      rw [find_neg HOR.out hh]
      clear hh HR1
      go_wp2
      go_ret2
      exact ReplR.bad HE.out HM1.out
    have HH := Sec.mk hh
    rw [find_pos HOR.out hh]
    clear hh
    have hpn : ¬ ((placeE xs nm : Int) < 0) := by omega
    generalize placeE xs nm = pl at *
    by_cases ht : to = []
    rotate_left
    · have HE : Sec (res = none) := ⟨HR1.out.trans (if_neg (fun h => ht h.2.1))⟩
      have ht' : to.isEmpty = false := by simpa using ht
      clear ht
      go_wp2
      go_ret2
      exact ReplR.bad HE.out HM1.out
    subst ht
    by_cases hn : nd = 0
    rotate_left
    · have HE : Sec (res = none) := ⟨HR1.out.trans (if_neg (fun h => hn h.2.2))⟩
      have hn' : (nd != 0) = true := by simpa using hn
      clear hn
      go_wp2
      go_ret2
      exact ReplR.bad HE.out HM1.out
    have HE : Sec (res = some (outE xs nm)) := ⟨by rw [HR1.out, if_pos ⟨HH.out, rfl, hn⟩]⟩
    subst hn
    clear HR1
    go_wp2_with fail
    refine (l1Without_calls (HR0.out _ HM1.out) (HB0.out _ HM1.out) hl nm).mono ?_
    intro e w4 hret
    obtain ⟨A4, c4, rfl, hmine⟩ := hret.mine
    have HMI := Sec.mk (hmine.base HM1.out)
    clear hret hmine
    go_wp2
    go_ret2
    exact ReplR.good HE.out HMI.out
  have hk5b : (kd == 5) = false := by simpa using hk5
  have HE : Sec (res = none) := ⟨HRL3.out.trans (if_neg hk5)⟩
  clear hk5
  go_wp2
  go_ret2
  exact ReplR.bad HE.out HM1.out
end Go.Proofs.Ytinfibggdbakoaa
