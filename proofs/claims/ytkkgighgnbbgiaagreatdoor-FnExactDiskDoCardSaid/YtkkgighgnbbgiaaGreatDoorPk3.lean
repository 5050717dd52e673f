/- The laws' helpers over Entry and over slices of it. The laws' helpers over DirOp and over slices of it. -/
import Derived.Test.YtkkgighgnbbgiaaGreatDoorPk2
import Derived.Test.YtkkgighgnbbgiaaGreatDoorPk1
import Derived.Test.YtkkgighgnbbgiaaGreatDoorProg
import Derived.WalkKit
namespace Go.Proofs.YtkkgighgnbbgiaaGreatDoor
open Go.RowKit Mem
set_option linter.unusedVariables false
set_option linter.unusedSimpArgs false
abbrev EntryT := Bytes × Int
abbrev dEntry : Ty EntryT := Ty.pair Ty.str (Ty.int .i64)
set_option synthInstance.maxSize 2000
theorem rdEntry {w : World} {v : Value} {x : EntryT} (h : RdV true dEntry w v x) : v = .agg #[.string ⟨(x.1).toArray⟩, .int .i64 x.2] := by
  obtain ⟨cs, rfl, c0, c1, rfl, h0, h1⟩ := h
  obtain ⟨rfl, g0⟩ := h0
  obtain ⟨rfl, g1⟩ := h1
  rfl
theorem cellsEntry {w : World} {v : Value} {x : EntryT} (h : RdV true dEntry w v x) : v = .agg #[.string ⟨(x.1).toArray⟩, .int .i64 x.2] := by
  exact rdEntry h
theorem fldEntry0 : Fld dEntry 0 Ty.str (fun x => x.1) (fun x y => (y, x.2)) := (Fld.fst (Fld.one rfl))
theorem fldEntry1 : Fld dEntry 1 (Ty.int .i64) (fun x => x.2) (fun x y => (x.1, y)) := (Fld.snd (Fld.one rfl) rfl)
theorem eltEntry : Elt Tryz.prog 98 dEntry.sz (.agg #[.string ⟨#[]⟩, .int .i64 0]) := Elt.of (b := 24) (by kernel_rfl) rfl (by decide) (by decide)
theorem flatEntry : Flat dEntry := by
  rintro w B x cs ⟨c0, c1, rfl, h0, h1⟩
  exact ⟨_, _, [], [], rfl, rfl, List.nodup_nil, ⟨rfl, h0⟩, ⟨rfl, h1⟩⟩
theorem rowEntry (w : World) {x : EntryT} (g0 : x.1.length ≤ 9223372036854775807) (g1 : IntKind.i64.wrap x.2 = x.2) : Row dEntry (w.alloc (.cells #[.string ⟨(x.1).toArray⟩, .int .i64 x.2] 98)) (· = w.heap.size) (some ⟨w.heap.size, 0, none⟩) 1 [x] := by
  refine ⟨rfl, by omega, fun _ => ⟨_, rfl, rfl, fun j y hj => ?_⟩⟩
  have hj0 : j = 0 := by have := (List.getElem?_eq_some_iff.1 hj).1; simp at this; exact this
  subst hj0
  obtain rfl : y = x := by simpa using hj.symm
  refine ⟨[.string ⟨(y.1).toArray⟩, .int .i64 y.2], ⟨_, _, rfl, ⟨rfl, g0⟩, ⟨rfl, g1⟩⟩, fun i u hu => ?_⟩
  rw [Nat.zero_mul, Nat.zero_add, add_own, cell_of_row _ _ i _ _ (0, 0) (heap_alloc_new w _)]
  simpa using hu
theorem mEntry {w : World} {x : EntryT} (g0 : x.1.length ≤ 9223372036854775807) (g1 : IntKind.i64.wrap x.2 = x.2) : dEntry.M w ([]) x [.string ⟨(x.1).toArray⟩, .int .i64 x.2] :=
  ⟨_, _, [], _, rfl, rfl, (by simp), ⟨rfl, rfl, g0⟩, ⟨rfl, rfl, g1⟩⟩

set_option maxHeartbeats 1000000 in
set_option maxRecDepth 100000 in
theorem eqEntry_v {w : World} {v v' : Value} {x x' : EntryT} (h : RdV true dEntry w v x) (h' : RdV true dEntry w v' x') : Calls Tryz.prog 72 #[v, v'] w (Ret (.bool (decide (x = x'))) w) := by
  obtain rfl := rdEntry h
  obtain rfl := rdEntry h'
  obtain ⟨a0, a1⟩ := x
  obtain ⟨b0, b1⟩ := x'
  simp only at ⊢
  have HB0 := Sec.mk ((Blk.new w 98 [.string ⟨(a0).toArray⟩, .int .i64 a1]).alloc (.cells #[.string ⟨(b0).toArray⟩, .int .i64 b1] 98))
  have HB1 := Sec.mk (Blk.new (w.alloc (.cells #[.string ⟨(a0).toArray⟩, .int .i64 a1] 98)) 98 [.string ⟨(b0).toArray⟩, .int .i64 b1])
  rw [show (w.alloc (.cells #[.string ⟨(a0).toArray⟩, .int .i64 a1] 98)).heap.size = w.heap.size + 1 by simp] at HB1
  have HM0 := Sec.mk (((Mod.refl (fun _ => False) w).alloc (.cells #[.string ⟨(a0).toArray⟩, .int .i64 a1] 98)).alloc (.cells #[.string ⟨(b0).toArray⟩, .int .i64 b1] 98))
  clear h h' 
  by_cases e0 : a0 = b0
  rotate_left
  · have HE : Sec (decide ((a0, a1) = (b0, b1)) = false) := ⟨by simp [e0]⟩
    have hb0 : (a0 == b0) = false := by simpa using e0
    clear e0
    go_enter Tryz.func72, Tryz.ntmps72
    go_wp2
    go_ret
    exact ⟨by rw [HE.out]; rfl, HM0.out⟩
  have hb0 : (a0 == b0) = true := by simp [e0]
  have S0 := Sec.mk e0
  clear e0
  by_cases e1 : a1 = b1
  rotate_left
  · have HE : Sec (decide ((a0, a1) = (b0, b1)) = false) := ⟨by simp [e1]⟩
    have hb1 : (a1 != b1) = true := by simpa using e1
    clear e1
    go_enter Tryz.func72, Tryz.ntmps72
    go_wp2
    go_ret
    exact ⟨by rw [HE.out]; rfl, HM0.out⟩
  have hb1 : (a1 != b1) = false := by simp [e1]
  have S1 := Sec.mk e1
  clear e1
  have HE : Sec (decide ((a0, a1) = (b0, b1)) = true) := ⟨by simp [S0.out, S1.out]⟩
  go_enter Tryz.func72, Tryz.ntmps72
  go_wp2
  go_ret
  exact ⟨by rw [HE.out]; rfl, HM0.out⟩

def mkEntry1 (k : Nat) (x : EntryT) : EntryT := (markT (k), ((k : Nat) : Int) + 1)
def cntEntry (x : EntryT) : Nat := 1 + 1
theorem cntEntry_mk (k : Nat) (x : EntryT) : cntEntry (mkEntry1 k x) = cntEntry x := rfl
theorem mkEntry1_idem (k k' : Nat) (x : EntryT) : mkEntry1 k' (mkEntry1 k x) = mkEntry1 k' x := rfl
abbrev EntryST := List EntryT
abbrev dEntryS : Ty EntryST := Ty.slice 98 dEntry
def cntEntryS (xs : EntryST) : Nat := preS cntEntry xs xs.length
def mkEntryS1 (k : Nat) (xs : EntryST) : EntryST := markL mkEntry1 cntEntry k xs
theorem cntEntryS_mk (k : Nat) (xs : EntryST) : cntEntryS (mkEntryS1 k xs) = cntEntryS xs := by unfold cntEntryS mkEntryS1; rw [preS_mark _ _ cntEntry_mk, markL_len]
theorem mkEntryS1_idem (k k' : Nat) (xs : EntryST) : mkEntryS1 k' (mkEntryS1 k xs) = mkEntryS1 k' xs := markL_idem _ _ cntEntry_mk mkEntry1_idem k k' xs
theorem idxEntryS (ad : Addr) (m c k : Nat) (h : k < m) (w : World) : (Instr.indexAt 31 (.slice (some ad) m c) (.int .i64 (k : Int))).run Tryz.prog w = .ok (.pointer (some (ad.add (k * 2)))) w := by
  have h0 : (0 : Int) ≤ (k : Int) := by omega
  have h1 : (k : Int) < (m : Int) := by omega
  go_simp
theorem fptEntry0 (p : Addr) (w : World) : (Instr.fieldAt 98 (.pointer (some p)) 0).run Tryz.prog w = .ok (.pointer (some p)) w := by go_simp

set_option maxHeartbeats 1000000 in
set_option maxRecDepth 100000 in
theorem eqEntryS_v {w : World} {v v' : Value} {xs ys : EntryST} (h : RdV false dEntryS w v xs) (h' : RdV false dEntryS w v' ys) : Calls Tryz.prog 33 #[v, v'] w (Ret (.bool (decide (xs = ys))) w) := by
  obtain ⟨A, c, rfl, -, hr⟩ := h.slice
  obtain ⟨A', c', rfl, -, hr'⟩ := h'.slice
  have hl := hr.2.1
  have HR := Sec.mk hr
  have HR' := Sec.mk hr'
  clear h h' hr hr'
  by_cases hne : xs.length = ys.length
  rotate_left
  · have hnb : ((xs.length : Int) != (ys.length : Int)) = true := by simp; omega
    have HE : Sec (decide (xs = ys) = false) := ⟨by simp [show xs ≠ ys from fun e => hne (by rw [e])]⟩
    clear hne
    go_enter Tryz.func33, Tryz.ntmps33
    go_wp2
    go_ret
    exact ⟨by rw [HE.out]; rfl, Mod.refl _ _⟩
  have hnb : ((xs.length : Int) != (ys.length : Int)) = false := by simp [hne]
  have HNE := Sec.mk hne
  clear hne
  go_enter Tryz.func33, Tryz.ntmps33
  go_wp2
  go_loopw [5] (fun i wr => ∃ k : Nat, k ≤ xs.length ∧ i = .int .i64 k ∧ Sec (xs.take k = ys.take k) ∧ Sec (New w wr)) (fun i _ => xs.length - (intOf i).toNat)
  case atStart => exact ⟨0, Nat.zero_le _, rfl, Sec.mk (by simp), Sec.mk (Mod.refl _ _)⟩
  case round =>
    obtain ⟨k, hk, rfl, HT, HM⟩ := hrel
    by_cases hlt : k < xs.length
    · have hlt2 : k < ys.length := by rw [← HNE.out]; exact hlt
      obtain ⟨ad, vx, rfl, hx⟩ := HR.out.elem (P := Tryz.prog) hlt 98 Tryz.underlying98 rfl (by kernel_rfl)
      obtain ⟨ad', vy, rfl, hy⟩ := HR'.out.elem (P := Tryz.prog) hlt2 98 Tryz.underlying98 rfl (by kernel_rfl)
      have HX : Sec (∀ W, New wr W → (Instr.loadAt 98 (.pointer (some (ad.add (k * 2))))).run Tryz.prog W = .ok vx W ∧ RdV true dEntry W vx xs[k]) := ⟨fun W hW => hx W (fun i hi => (hW.block i (Nat.lt_of_lt_of_le hi HM.out.size) id).trans (HM.out.block i hi id)) (fun i hi => Nat.lt_of_lt_of_le hi (Nat.le_trans HM.out.size hW.size))⟩
      have HY : Sec (∀ W, New wr W → (Instr.loadAt 98 (.pointer (some (ad'.add (k * 2))))).run Tryz.prog W = .ok vy W ∧ RdV true dEntry W vy (ys[k]'hlt2)) := ⟨fun W hW => hy W (fun i hi => (hW.block i (Nat.lt_of_lt_of_le hi HM.out.size) id).trans (HM.out.block i hi id)) (fun i hi => Nat.lt_of_lt_of_le hi (Nat.le_trans HM.out.size hW.size))⟩
      have HXY : Sec (xs[k] = ys[k]'hlt2 → xs.take (k + 1) = ys.take (k + 1)) := ⟨fun h => by rw [List.take_succ_eq_append_getElem hlt, List.take_succ_eq_append_getElem hlt2, HT.out, h]⟩
      have HNQ : Sec (xs[k] ≠ ys[k]'hlt2 → decide (xs = ys) = false) := ⟨fun h => by simp only [decide_eq_false_iff_not]; intro e; exact h (by subst e; rfl)⟩
      clear hx hy HT
      generalize xs[k] = x at *
      generalize ys[k]'hlt2 = y at *
      have hki : (k : Int) < (xs.length : Int) := by omega
      have hkj : (k : Int) < (ys.length : Int) := by omega
      go_wp2
      refine reg_start [] (fun W => Sec (New wr W)) (by kernel_rfl) ?_
      have HSS : Sec (New wr wr.drew) := ⟨(Mod.refl _ _).drew⟩
      refine reg_take (.slice (some ad) xs.length c) (i := 0) (n := 17) HSS rfl (by kernel_rfl) (by kernel_rfl) (by kernel_rfl) (by kernel_rfl) (fun _ _ _ h => h) (fun W hW => exec_move rfl rfl) ?_
      simp only [Act.put, List.setIfInBounds_toArray, List.set_cons_zero, List.set_cons_succ]
      refine reg_take (.int .i64 (k : Int)) (i := 1) (n := 18) HSS rfl (by kernel_rfl) (by kernel_rfl) (by kernel_rfl) (by kernel_rfl) (fun _ _ _ h => h) (fun W hW => exec_move rfl rfl) ?_
      simp only [Act.put, List.setIfInBounds_toArray, List.set_cons_zero, List.set_cons_succ]
      refine reg_take (.pointer (some (ad.add (k * 2)))) (i := 2) (n := 19) HSS rfl (by kernel_rfl) (by kernel_rfl) (by kernel_rfl) (by kernel_rfl) (fun _ _ _ h => h) (fun W hW => exec_indexAddr rfl rfl rfl (idxEntryS _ _ _ _ hlt _)) ?_
      simp only [Act.put, List.setIfInBounds_toArray, List.set_cons_zero, List.set_cons_succ]
      refine reg_take (vx) (i := 3) (n := 20) HSS rfl (by kernel_rfl) (by kernel_rfl) (by kernel_rfl) (by kernel_rfl) (fun _ _ _ h => h) (fun W hW => exec_load rfl rfl (HX.out W hW.out).1) ?_
      simp only [Act.put, List.setIfInBounds_toArray, List.set_cons_zero, List.set_cons_succ]
      refine reg_take (.slice (some ad') ys.length c') (i := 4) (n := 21) HSS rfl (by kernel_rfl) (by kernel_rfl) (by kernel_rfl) (by kernel_rfl) (fun _ _ _ h => h) (fun W hW => exec_move rfl rfl) ?_
      simp only [Act.put, List.setIfInBounds_toArray, List.set_cons_zero, List.set_cons_succ]
      refine reg_take (.int .i64 (k : Int)) (i := 5) (n := 22) HSS rfl (by kernel_rfl) (by kernel_rfl) (by kernel_rfl) (by kernel_rfl) (fun _ _ _ h => h) (fun W hW => exec_move rfl rfl) ?_
      simp only [Act.put, List.setIfInBounds_toArray, List.set_cons_zero, List.set_cons_succ]
      refine reg_take (.pointer (some (ad'.add (k * 2)))) (i := 6) (n := 23) HSS rfl (by kernel_rfl) (by kernel_rfl) (by kernel_rfl) (by kernel_rfl) (fun _ _ _ h => h) (fun W hW => exec_indexAddr rfl rfl rfl (idxEntryS _ _ _ _ hlt2 _)) ?_
      simp only [Act.put, List.setIfInBounds_toArray, List.set_cons_zero, List.set_cons_succ]
      refine reg_take (vy) (i := 7) (n := 24) HSS rfl (by kernel_rfl) (by kernel_rfl) (by kernel_rfl) (by kernel_rfl) (fun _ _ _ h => h) (fun W hW => exec_load rfl rfl (HY.out W hW.out).1) ?_
      simp only [Act.put, List.setIfInBounds_toArray, List.set_cons_zero, List.set_cons_succ]
      refine reg_step (i := 8) rfl (by kernel_rfl) (fun K hK => ?_)
      refine wp_call (n := 25) (vals := [vx, vy]) rfl rfl rfl (by kernel_rfl) (eqEntry_v (HX.out _ HSS.out).2 (HY.out _ HSS.out).2) ?_
      rintro e w1 ⟨rfl, hm1⟩
      have HS1 : Sec (New wr w1) := ⟨HSS.out.transN hm1⟩
      refine ⟨_, rfl, hK.out _ _ (fun _ => HS1) ?_⟩
      clear hK K hm1
      simp only [Act.put, List.setIfInBounds_toArray, List.set_cons_zero, List.set_cons_succ]
      refine reg_step (i := 9) rfl (by kernel_rfl) (fun K hK => ?_)
      refine wp_val (n := 26) (v := .bool (!decide (x = y))) (exec_un rfl rfl (Mem.not_r _ _)) rfl (hK.out _ _ (fun _ => HS1) ?_)
      clear hK K
      simp only [Act.put, List.setIfInBounds_toArray, List.set_cons_zero, List.set_cons_succ]
      refine reg_done (by kernel_rfl) ?_ _
      have HM' := Sec.mk (HM.out.transN HS1.out)
      by_cases hxy : x = y
      · have HT' := Sec.mk (HXY.out hxy)
        have hd : decide (x = y) = true := by simp [hxy]
        clear hxy HXY HNQ HX HY
        rw [hd]
        go_wp2
        go_roundw
        case rel => exact ⟨k + 1, by omega, by go_num, HT', HM'⟩
        case measure => simp [intOf]; omega
      · have HE := Sec.mk (HNQ.out hxy)
        have hd : decide (x = y) = false := by simp [hxy]
        clear hxy HXY HNQ HX HY
        rw [hd]
        go_wp2
        go_ret
        exact ⟨by rw [HE.out]; rfl, HM'.out⟩
    · have HE : Sec (decide (xs = ys) = true) := ⟨by
        have h1 := HT.out
        rw [List.take_of_length_le (by omega), List.take_of_length_le (by rw [← HNE.out]; omega)] at h1
        simp [h1]⟩
      go_wp2
      go_ret
      exact ⟨by rw [HE.out]; rfl, HM.out⟩


set_option maxHeartbeats 1000000 in
set_option maxRecDepth 100000 in
theorem markEntryS_calls {A : Option Addr} {c : Nat} {xs : EntryST} {F : List Nat} {w : World} (h : Own dEntry 98 w F (.slice A xs.length c) xs) (k : Nat) (hk : k + cntEntryS xs ≤ 1152921504606846976) :
    Calls Tryz.prog 37 #[.slice A xs.length c, .int .i64 k] w fun e w' => e = .returned (.int .i64 ((k + cntEntryS xs : Nat) : Int)) ∧ ∃ F', Own dEntry 98 w' F' (.slice A xs.length c) (mkEntryS1 k xs) ∧ (∀ i, i ∈ F' → i ∈ F) ∧ Mod (· ∈ F) w w' := by
  have hlx := h.len_le
  have HO := Sec.mk h
  have HKK : Sec (cntEntryS xs = preS cntEntry xs xs.length) := ⟨rfl⟩
  rw [HKK.out] at hk ⊢
  clear h
  go_enter Tryz.func37, Tryz.ntmps37
  go_wp2
  go_loopw [1, 5] (fun q i wr => ∃ (j : Nat) (ys : EntryST) (G : List Nat), j ≤ xs.length ∧ i = .int .i64 j ∧ q = .int .i64 ((k + preS cntEntry xs j : Nat) : Int) ∧ Sec (ys = (mkEntryS1 k xs).take j ++ xs.drop j) ∧ Sec (Own dEntry 98 wr G (.slice A xs.length c) ys) ∧ Sec (∀ k, k ∈ G → k ∈ F) ∧ Sec (Mod (· ∈ F) w wr)) (fun _ i _ => xs.length - (intOf i).toNat)
  case atStart => exact ⟨0, xs, F, Nat.zero_le _, rfl, by rw [preS_zero]; rfl, ⟨by simp⟩, HO, ⟨fun _ h => h⟩, ⟨Mod.refl _ _⟩⟩
  case round =>
    obtain ⟨j, ys, G, hj, rfl, rfl, HY, HO, HF, HM⟩ := hrel
    by_cases hlt : j < xs.length
    · have hyl : ys.length = xs.length := by rw [HY.out]; exact take_drop_len (markL_len _ _ k xs) j
      have hjy : j < ys.length := by omega
      have hyj : ys[j] = xs[j] := by simp only [HY.out]; exact take_drop_at (markL_len _ _ k xs) hlt _
      have hks := preS_succ cntEntry xs hlt
      have hkl := preS_le cntEntry xs (j + 1)
      have HZ := Sec.mk (markL_at mkEntry1 cntEntry k xs (i := j) (by rw [markL_len]; exact hlt))
      have HTD : Sec (ys.set j (mkEntry1 (k + preS cntEntry xs j) xs[j]) = (mkEntryS1 k xs).take (j + 1) ++ xs.drop (j + 1)) := ⟨by rw [← HZ.out, HY.out]; exact take_drop_set (markL_len _ _ k xs) hlt⟩
      have HX : Sec (Own dEntry 98 wr G (.slice A xs.length c) (ys.set j xs[j])) := ⟨by rw [← hyj, List.set_getElem_self]; exact HO.out⟩
      obtain ⟨g, rfl, hgG, -, -⟩ := HO.out.cellsAt hjy
      have HgF := Sec.mk (HF.out g hgG)
      have HKS := Sec.mk hks
      have hkb : preS cntEntry xs j + cntEntry xs[j] ≤ preS cntEntry xs xs.length := by omega
      clear hks hkl hyj HZ HO hgG
      have HCN : Sec (cntEntry xs[j] = 1 + 1) := ⟨rfl⟩
      have hcn := HCN.out
      generalize hps : preS cntEntry xs j = s at *
      generalize hxj : xs[j] = x at *
      have HJ := Sec.mk hjy
      go_wp2_with fail
      refine Calls.mono (markText_i _ (k + s) ?_ ?_ _) ?_
      · first | rfl | omega
      · (try dsimp only at hcn ⊢); omega
      rintro e wt0 ⟨rfl, hmt0⟩
      have HXt0 := Sec.mk (HX.out.new hmt0)
      have HMt0 := Sec.mk (HM.out.transN hmt0)
      clear hmt0
      obtain ⟨_, hA0, -, hcell0, hfz0⟩ := HXt0.out.cellsAt (j := j) (by rw [List.length_set]; exact hjy)
      injection hA0 with hA0
      injection hA0 with hA0
      subst hA0
      simp only [show dEntry.sz = 2 from rfl] at hcell0
      obtain ⟨p0, hc0⟩ := hcell0 0 (by decide)
      have hf0 := hfz0 (j * 2 + 0)
      simp only [Nat.add_zero] at hc0 hf0
      obtain ⟨p1, hc1⟩ := hcell0 1 (by decide)
      have hf1 := hfz0 (j * 2 + 1)
      clear hcell0 hfz0
      obtain ⟨hgg, hst⟩ := Own.fstoreAt fldEntry0 (fun _ _ _ _ h => h.1) HJ.out HXt0.out
      obtain ⟨G0, ho, hG0⟩ := hst (.string ⟨((markT ((k + s)))).toArray⟩) (markT ((k + s))) (fun _ => ⟨rfl, rfl, markT_len _ (by (try dsimp only at hcn ⊢); omega)⟩)
      simp only [show dEntry.sz = 2 from rfl, Nat.add_zero] at ho
      have HX0 := Sec.mk ho
      have HF0 := Sec.mk (fun i hi => HF.out i (hG0 i hi))
      have HM0 := Sec.mk (HMt0.out.setCell (p := ⟨g, j * 2, none⟩) (fun _ => HgF.out) (.string ⟨((markT ((k + s)))).toArray⟩))
      clear hgg hst ho hG0
      obtain ⟨hgg, hst⟩ := Own.fstoreAt fldEntry1 (fun _ _ _ _ h => h.1) HJ.out HX0.out
      obtain ⟨G1, ho, hG1⟩ := hst (.int .i64 ((k : Int) + (s : Int) + 1)) ((k : Int) + (s : Int) + 1) (fun _ => ⟨rfl, rfl, by rw [IntKind.wrap_i64]; omega⟩)
      simp only [show dEntry.sz = 2 from rfl] at ho
      have HX1 := Sec.mk ho
      have HF1 := Sec.mk (fun i hi => HF0.out i (hG1 i hi))
      have HM1 := Sec.mk (HM0.out.setCell (p := ⟨g, j * 2 + 1, none⟩) (fun _ => HgF.out) (.int .i64 ((k : Int) + (s : Int) + 1)))
      clear hgg hst ho hG1
      have HEQ : Sec (mkEntry1 (k + s) x = ((markT ((k + s))), ((k : Int) + (s : Int) + 1))) := ⟨by skip; simp only [mkEntry1, Int.natCast_add]⟩
      rw [HEQ.out] at HTD
      go_wp2
      go_roundw
      case rel => exact ⟨j + 1, _, G1, by omega, by go_num, by rw [HKS.out, HCN.out]; congr 1; try (omega), HTD, HX1, HF1, HM1⟩
      case measure => simp [intOf]; omega
    · obtain rfl : j = xs.length := by omega
      go_wp2
      go_ret
      have he : ys = mkEntryS1 k xs := by
        rw [HY.out, List.take_of_length_le (by unfold mkEntryS1; rw [markL_len]; exact Nat.le_refl _)]; simp
      subst he
      exact ⟨by simp, G, HO.out, HF.out, HM.out⟩


theorem markEntryS_f {w : World} {F : List Nat} {v : Value} {x : EntryST} (h : OwF false dEntryS w F v x) (k : Nat) (hk : k + cntEntryS x ≤ 1152921504606846976) :
    Calls Tryz.prog 37 #[v, .int .i64 k] w (Marks false dEntryS w F v (k + cntEntryS x) (mkEntryS1 k x)) := by
  obtain ⟨A, c, rfl, ho⟩ := h.slice
  refine (markEntryS_calls ho k hk).mono ?_
  rintro e w' ⟨rfl, F', ho', hF', hm⟩
  refine ⟨rfl, ⟨F', ?_, hF'⟩, hm⟩
  have hl : (mkEntryS1 k x).length = x.length := markL_len _ _ k x
  rw [← hl] at ho'
  rw [← hl]
  exact OwF.of_slice ho'
theorem markEntryS_i {w : World} {F : List Nat} {v : Value} {x : EntryST} (h : OwF false dEntryS w F v x) (q : Int) (k : Nat) (hq : q = (k : Int)) (hk : k + cntEntryS x ≤ 1152921504606846976) :
    Calls Tryz.prog 37 #[v, .int .i64 q] w (Marks false dEntryS w F v (k + cntEntryS x) (mkEntryS1 k x)) := by subst hq; exact markEntryS_f h k hk
theorem markEntryS_v {w : World} {lo hi : Nat} {v : Value} {x : EntryST} (h : OwV false dEntryS w lo hi v x) (k : Nat) (hk : k + cntEntryS x ≤ 1152921504606846976) :
    Calls Tryz.prog 37 #[v, .int .i64 k] w fun e w' => e = .returned (.int .i64 ((k + cntEntryS x : Nat) : Int)) ∧ OwV false dEntryS w' lo hi v (mkEntryS1 k x) ∧ Mod (fun i => lo ≤ i ∧ i < hi) w w' :=
  h.mark fun F hF => markEntryS_f hF k hk


set_option maxHeartbeats 1000000 in
set_option maxRecDepth 100000 in
theorem heldEntryS_v {w : World} {v : Value} {xs : EntryST} (h : RdV false dEntryS w v xs) (k : Nat) (hx : xs = mkEntryS1 k xs) (hk : k + cntEntryS xs ≤ 1152921504606846976) :
    Calls Tryz.prog 76 #[v, .int .i64 k] w (Ret (.int .i64 ((k + cntEntryS xs : Nat) : Int)) w) := by
  obtain ⟨A, c, rfl, -, hr⟩ := h.slice
  have hl := hr.2.1
  have HR := Sec.mk hr
  have HX := Sec.mk hx
  have HKK : Sec (cntEntryS xs = preS cntEntry xs xs.length) := ⟨rfl⟩
  rw [HKK.out] at hk ⊢
  clear h hr hx
  go_enter Tryz.func76, Tryz.ntmps76
  go_wp2
  go_loopw [1, 5] (fun q i wr => ∃ (j : Nat), j ≤ xs.length ∧ i = .int .i64 j ∧ q = .int .i64 ((k + preS cntEntry xs j : Nat) : Int) ∧ Sec (New w wr)) (fun _ i _ => xs.length - (intOf i).toNat)
  case atStart => exact ⟨0, Nat.zero_le _, rfl, by rw [preS_zero]; rfl, ⟨Mod.refl _ _⟩⟩
  case round =>
    obtain ⟨j, hj, rfl, rfl, HM⟩ := hrel
    by_cases hlt : j < xs.length
    · have hks := preS_succ cntEntry xs hlt
      have hkl := preS_le cntEntry xs (j + 1)
      have hkb : preS cntEntry xs j + cntEntry xs[j] ≤ preS cntEntry xs xs.length := by omega
      have HKS := Sec.mk hks
      have hz : xs[j] = mkEntry1 (k + preS cntEntry xs j) xs[j] := by
        have := markL_at mkEntry1 cntEntry k xs (i := j) (by rw [markL_len]; exact hlt)
        rw [← this]; congr 1; exact HX.out
      have HZ := Sec.mk hz
      have HCN : Sec (cntEntry xs[j] = 1 + 1) := ⟨rfl⟩
      have hcn := HCN.out
      clear hks hkl hz
      have HFD : Sec (∀ W, New w W → ∃ ad , A = some ad ∧ W.cell? (ad.add (j * 2)) = some (.string ⟨((xs[j].1)).toArray⟩) ∧ W.cell? ⟨(ad.add (j * 2)).block, (ad.add (j * 2)).off + 1, none⟩ = some (.int .i64 (xs[j].2))) := ⟨fun W hW => by
        obtain ⟨ad, v0, hA0, hc0, hK0⟩ := HR.out.field fldEntry0 (fun q hq => hW.block q hq id) hlt
        obtain rfl : v0 = .string ⟨((xs[j].1)).toArray⟩ := by have := hK0.1; simpa using this
        obtain ⟨ad1, v1, hA1, hc1, hK1⟩ := HR.out.field fldEntry1 (fun q hq => hW.block q hq id) hlt
        obtain rfl : ad = ad1 := Option.some.inj (hA0.symm.trans hA1)
        obtain rfl : v1 = .int .i64 (xs[j].2) := by have := hK1.1; simpa using this
        exact ⟨ad, hA0, hc0, hc1⟩⟩
      generalize hps : preS cntEntry xs j = s at *
      generalize hxj : xs[j] = x at *
      obtain ⟨ad, rfl, hc0, -⟩ := HFD.out _ HM.out
      have z0 : x.1 = markT (k + s) := by have h := congrArg (fun x : EntryT => x.1) HZ.out; (try simp only [mkEntry1, Int.natCast_add] at h); exact h
      rw [z0] at hc0
      clear z0
      have HLD0 : Sec (∀ W', New wr W' → W'.cell? (ad.add (j * 2)) = some (.string ⟨(markT (k + s)).toArray⟩)) := ⟨fun W' h => h.cell_of hc0⟩
      clear hc0
      go_wp2
      refine reg_start [] (fun W' => Sec (New wr W')) (by kernel_rfl) ?_
      have HSS : Sec (New wr wr.drew) := ⟨(Mod.refl _ _).drew⟩
      refine reg_take (.slice (some ad) xs.length c) (i := 0) (n := 12) HSS rfl (by kernel_rfl) (by kernel_rfl) (by kernel_rfl) (by kernel_rfl) (fun _ _ _ h => h) (fun W hW => exec_move rfl rfl) ?_
      simp only [Act.put, List.setIfInBounds_toArray, List.set_cons_zero, List.set_cons_succ]
      refine reg_take (.int .i64 (j : Int)) (i := 1) (n := 13) HSS rfl (by kernel_rfl) (by kernel_rfl) (by kernel_rfl) (by kernel_rfl) (fun _ _ _ h => h) (fun W hW => exec_move rfl rfl) ?_
      simp only [Act.put, List.setIfInBounds_toArray, List.set_cons_zero, List.set_cons_succ]
      refine reg_take (.pointer (some (ad.add (j * 2)))) (i := 2) (n := 14) HSS rfl (by kernel_rfl) (by kernel_rfl) (by kernel_rfl) (by kernel_rfl) (fun _ _ _ h => h) (fun W hW => exec_indexAddr rfl rfl rfl (idxEntryS _ _ _ _ hlt _)) ?_
      simp only [Act.put, List.setIfInBounds_toArray, List.set_cons_zero, List.set_cons_succ]
      refine reg_take (.pointer (some (ad.add (j * 2)))) (i := 3) (n := 15) HSS rfl (by kernel_rfl) (by kernel_rfl) (by kernel_rfl) (by kernel_rfl) (fun _ _ _ h => h) (fun W hW => exec_field rfl rfl (fptEntry0 _ _)) ?_
      simp only [Act.put, List.setIfInBounds_toArray, List.set_cons_zero, List.set_cons_succ]
      refine reg_take (.string ⟨(markT (k + s)).toArray⟩) (i := 4) (n := 16) HSS rfl (by kernel_rfl) (by kernel_rfl) (by kernel_rfl) (by kernel_rfl) (fun _ _ _ h => h) (fun W hW => exec_load rfl rfl (ldStr (HLD0.out W hW.out))) ?_
      simp only [Act.put, List.setIfInBounds_toArray, List.set_cons_zero, List.set_cons_succ]
      refine reg_take (.int .i64 ((k : Int) + (s : Int))) (i := 5) (n := 17) HSS rfl (by kernel_rfl) (by kernel_rfl) (by kernel_rfl) (by kernel_rfl) (fun _ _ _ h => h) (fun W hW => exec_move rfl rfl) ?_
      simp only [Act.put, List.setIfInBounds_toArray, List.set_cons_zero, List.set_cons_succ]
      refine reg_step (i := 6) rfl (by kernel_rfl) (fun K hK => ?_)
      refine wp_call (n := 18) (vals := [.int .i64 ((k : Int) + (s : Int))]) rfl rfl rfl (by kernel_rfl) (markText_i ((k : Int) + (s : Int)) (k + s) (by first | rfl | omega) (by (try dsimp only at hcn ⊢); omega) _) ?_
      rintro e wt0 ⟨rfl, hmt0⟩
      have HSt0 : Sec (New wr wt0) := ⟨HSS.out.transN hmt0⟩
      refine ⟨_, rfl, hK.out _ _ (fun _ => HSt0) ?_⟩
      clear hmt0
      clear hK K
      simp only [Act.put, List.setIfInBounds_toArray, List.set_cons_zero, List.set_cons_succ]
      refine reg_step (i := 7) rfl (by kernel_rfl) (fun K hK => ?_)
      refine wp_val (n := 19) (v := .bool false) (exec_bin rfl rfl rfl (strNe _ _ _ _)) rfl (hK.out _ _ (fun _ => HSt0) ?_)
      clear hK K
      simp only [Act.put, List.setIfInBounds_toArray, List.set_cons_zero, List.set_cons_succ]
      refine reg_done (by kernel_rfl) ?_ _
      have HMt0 := Sec.mk (HM.out.transN HSt0.out)
      clear HSS HLD0
      obtain ⟨adq1, hAq1, -, hc1⟩ := HFD.out _ HMt0.out
      obtain rfl := Option.some.inj hAq1
      have z1 : x.2 = ((k : Int) + (s : Int) + 1) := by have h := congrArg (fun x : EntryT => x.2) HZ.out; (try simp only [mkEntry1, Int.natCast_add] at h); exact h
      rw [z1] at hc1
      clear z1
      go_wp2
      go_roundw
      case rel => exact ⟨j + 1, by omega, by go_num, by rw [HKS.out, HCN.out]; congr 1; try (omega), HMt0⟩
      case measure => simp [intOf]; omega
    · obtain rfl : j = xs.length := by omega
      go_wp2
      go_ret
      exact ⟨by simp, HM.out⟩
theorem heldEntryS_i {w : World} {v : Value} {x : EntryST} (h : RdV false dEntryS w v x) (q : Int) (k : Nat) (hq : q = (k : Int)) (hx : x = mkEntryS1 k x) (hk : k + cntEntryS x ≤ 1152921504606846976) :
    Calls Tryz.prog 76 #[v, .int .i64 q] w (Ret (.int .i64 ((k + cntEntryS x : Nat) : Int)) w) := by subst hq; exact heldEntryS_v h k hx hk

end Go.Proofs.YtkkgighgnbbgiaaGreatDoor

namespace Go.Proofs.YtkkgighgnbbgiaaGreatDoor
open Go.RowKit Mem
set_option linter.unusedVariables false
set_option linter.unusedSimpArgs false
abbrev DirOpT := Int × (Bytes × (Bytes × Int))
abbrev dDirOp : Ty DirOpT := Ty.pair (Ty.int .i64) (Ty.pair Ty.str (Ty.pair Ty.str (Ty.int .i64)))
set_option synthInstance.maxSize 2000
theorem rdDirOp {w : World} {v : Value} {x : DirOpT} (h : RdV true dDirOp w v x) : v = .agg #[.int .i64 x.1, .string ⟨(x.2.1).toArray⟩, .string ⟨(x.2.2.1).toArray⟩, .int .i64 x.2.2.2] := by
  obtain ⟨cs, rfl, c0, r0, rfl, h0, c1, r1, rfl, h1, c2, c3, rfl, h2, h3⟩ := h
  obtain ⟨rfl, g0⟩ := h0
  obtain ⟨rfl, g1⟩ := h1
  obtain ⟨rfl, g2⟩ := h2
  obtain ⟨rfl, g3⟩ := h3
  rfl
theorem cellsDirOp {w : World} {v : Value} {x : DirOpT} (h : RdV true dDirOp w v x) : v = .agg #[.int .i64 x.1, .string ⟨(x.2.1).toArray⟩, .string ⟨(x.2.2.1).toArray⟩, .int .i64 x.2.2.2] := by
  exact rdDirOp h
theorem fldDirOp0 : Fld dDirOp 0 (Ty.int .i64) (fun x => x.1) (fun x y => (y, x.2)) := (Fld.fst (Fld.one rfl))
theorem fldDirOp1 : Fld dDirOp 1 Ty.str (fun x => x.2.1) (fun x y => (x.1, y, x.2.2)) := (Fld.snd (Fld.fst (Fld.one rfl)) rfl)
theorem fldDirOp2 : Fld dDirOp 2 Ty.str (fun x => x.2.2.1) (fun x y => (x.1, x.2.1, y, x.2.2.2)) := (Fld.snd (Fld.snd (Fld.fst (Fld.one rfl)) rfl) rfl)
theorem fldDirOp3 : Fld dDirOp 3 (Ty.int .i64) (fun x => x.2.2.2) (fun x y => (x.1, x.2.1, x.2.2.1, y)) := (Fld.snd (Fld.snd (Fld.snd (Fld.one rfl) rfl) rfl) rfl)
theorem eltDirOp : Elt Tryz.prog 90 dDirOp.sz (.agg #[.int .i64 0, .string ⟨#[]⟩, .string ⟨#[]⟩, .int .i64 0]) := Elt.of (b := 48) (by kernel_rfl) rfl (by decide) (by decide)
theorem flatDirOp : Flat dDirOp := by
  rintro w B x cs ⟨c0, r0, rfl, h0, c1, r1, rfl, h1, c2, c3, rfl, h2, h3⟩
  exact ⟨_, _, [], [], rfl, rfl, List.nodup_nil, ⟨rfl, h0⟩, ⟨_, _, [], [], rfl, rfl, List.nodup_nil, ⟨rfl, h1⟩, ⟨_, _, [], [], rfl, rfl, List.nodup_nil, ⟨rfl, h2⟩, ⟨rfl, h3⟩⟩⟩⟩
theorem rowDirOp (w : World) {x : DirOpT} (g0 : IntKind.i64.wrap x.1 = x.1) (g1 : x.2.1.length ≤ 9223372036854775807) (g2 : x.2.2.1.length ≤ 9223372036854775807) (g3 : IntKind.i64.wrap x.2.2.2 = x.2.2.2) : Row dDirOp (w.alloc (.cells #[.int .i64 x.1, .string ⟨(x.2.1).toArray⟩, .string ⟨(x.2.2.1).toArray⟩, .int .i64 x.2.2.2] 90)) (· = w.heap.size) (some ⟨w.heap.size, 0, none⟩) 1 [x] := by
  refine ⟨rfl, by omega, fun _ => ⟨_, rfl, rfl, fun j y hj => ?_⟩⟩
  have hj0 : j = 0 := by have := (List.getElem?_eq_some_iff.1 hj).1; simp at this; exact this
  subst hj0
  obtain rfl : y = x := by simpa using hj.symm
  refine ⟨[.int .i64 y.1, .string ⟨(y.2.1).toArray⟩, .string ⟨(y.2.2.1).toArray⟩, .int .i64 y.2.2.2], ⟨_, _, rfl, ⟨rfl, g0⟩, ⟨_, _, rfl, ⟨rfl, g1⟩, ⟨_, _, rfl, ⟨rfl, g2⟩, ⟨rfl, g3⟩⟩⟩⟩, fun i u hu => ?_⟩
  rw [Nat.zero_mul, Nat.zero_add, add_own, cell_of_row _ _ i _ _ (0, 0) (heap_alloc_new w _)]
  simpa using hu
theorem mDirOp {w : World} {x : DirOpT} (g0 : IntKind.i64.wrap x.1 = x.1) (g1 : x.2.1.length ≤ 9223372036854775807) (g2 : x.2.2.1.length ≤ 9223372036854775807) (g3 : IntKind.i64.wrap x.2.2.2 = x.2.2.2) : dDirOp.M w ([]) x [.int .i64 x.1, .string ⟨(x.2.1).toArray⟩, .string ⟨(x.2.2.1).toArray⟩, .int .i64 x.2.2.2] :=
  ⟨_, _, [], _, rfl, rfl, (by simp), ⟨rfl, rfl, g0⟩, ⟨_, _, [], _, rfl, rfl, (by simp), ⟨rfl, rfl, g1⟩, ⟨_, _, [], _, rfl, rfl, (by simp), ⟨rfl, rfl, g2⟩, ⟨rfl, rfl, g3⟩⟩⟩⟩

set_option maxHeartbeats 1000000 in
set_option maxRecDepth 100000 in
theorem eqDirOp_v {w : World} {v v' : Value} {x x' : DirOpT} (h : RdV true dDirOp w v x) (h' : RdV true dDirOp w v' x') : Calls Tryz.prog 73 #[v, v'] w (Ret (.bool (decide (x = x'))) w) := by
  obtain rfl := rdDirOp h
  obtain rfl := rdDirOp h'
  obtain ⟨a0, a1, a2, a3⟩ := x
  obtain ⟨b0, b1, b2, b3⟩ := x'
  simp only at ⊢
  have HB0 := Sec.mk ((Blk.new w 90 [.int .i64 a0, .string ⟨(a1).toArray⟩, .string ⟨(a2).toArray⟩, .int .i64 a3]).alloc (.cells #[.int .i64 b0, .string ⟨(b1).toArray⟩, .string ⟨(b2).toArray⟩, .int .i64 b3] 90))
  have HB1 := Sec.mk (Blk.new (w.alloc (.cells #[.int .i64 a0, .string ⟨(a1).toArray⟩, .string ⟨(a2).toArray⟩, .int .i64 a3] 90)) 90 [.int .i64 b0, .string ⟨(b1).toArray⟩, .string ⟨(b2).toArray⟩, .int .i64 b3])
  rw [show (w.alloc (.cells #[.int .i64 a0, .string ⟨(a1).toArray⟩, .string ⟨(a2).toArray⟩, .int .i64 a3] 90)).heap.size = w.heap.size + 1 by simp] at HB1
  have HM0 := Sec.mk (((Mod.refl (fun _ => False) w).alloc (.cells #[.int .i64 a0, .string ⟨(a1).toArray⟩, .string ⟨(a2).toArray⟩, .int .i64 a3] 90)).alloc (.cells #[.int .i64 b0, .string ⟨(b1).toArray⟩, .string ⟨(b2).toArray⟩, .int .i64 b3] 90))
  clear h h' 
  by_cases e0 : a0 = b0
  rotate_left
  · have HE : Sec (decide ((a0, a1, a2, a3) = (b0, b1, b2, b3)) = false) := ⟨by simp [e0]⟩
    have hb0 : (a0 != b0) = true := by simpa using e0
    clear e0
    go_enter Tryz.func73, Tryz.ntmps73
    go_wp2
    go_ret
    exact ⟨by rw [HE.out]; rfl, HM0.out⟩
  have hb0 : (a0 != b0) = false := by simp [e0]
  have S0 := Sec.mk e0
  clear e0
  by_cases e1 : a1 = b1
  rotate_left
  · have HE : Sec (decide ((a0, a1, a2, a3) = (b0, b1, b2, b3)) = false) := ⟨by simp [e1]⟩
    have hb1 : (a1 == b1) = false := by simpa using e1
    clear e1
    go_enter Tryz.func73, Tryz.ntmps73
    go_wp2
    go_ret
    exact ⟨by rw [HE.out]; rfl, HM0.out⟩
  have hb1 : (a1 == b1) = true := by simp [e1]
  have S1 := Sec.mk e1
  clear e1
  by_cases e2 : a2 = b2
  rotate_left
  · have HE : Sec (decide ((a0, a1, a2, a3) = (b0, b1, b2, b3)) = false) := ⟨by simp [e2]⟩
    have hb2 : (a2 == b2) = false := by simpa using e2
    clear e2
    go_enter Tryz.func73, Tryz.ntmps73
    go_wp2
    go_ret
    exact ⟨by rw [HE.out]; rfl, HM0.out⟩
  have hb2 : (a2 == b2) = true := by simp [e2]
  have S2 := Sec.mk e2
  clear e2
  by_cases e3 : a3 = b3
  rotate_left
  · have HE : Sec (decide ((a0, a1, a2, a3) = (b0, b1, b2, b3)) = false) := ⟨by simp [e3]⟩
    have hb3 : (a3 != b3) = true := by simpa using e3
    clear e3
    go_enter Tryz.func73, Tryz.ntmps73
    go_wp2
    go_ret
    exact ⟨by rw [HE.out]; rfl, HM0.out⟩
  have hb3 : (a3 != b3) = false := by simp [e3]
  have S3 := Sec.mk e3
  clear e3
  have HE : Sec (decide ((a0, a1, a2, a3) = (b0, b1, b2, b3)) = true) := ⟨by simp [S0.out, S1.out, S2.out, S3.out]⟩
  go_enter Tryz.func73, Tryz.ntmps73
  go_wp2
  go_ret
  exact ⟨by rw [HE.out]; rfl, HM0.out⟩

def mkDirOp1 (k : Nat) (x : DirOpT) : DirOpT := (((k : Nat) : Int), markT (k + 1), markT (k + 2), ((k : Nat) : Int) + 1 + 1 + 1)
def cntDirOp (x : DirOpT) : Nat := 1 + 1 + 1 + 1
theorem cntDirOp_mk (k : Nat) (x : DirOpT) : cntDirOp (mkDirOp1 k x) = cntDirOp x := rfl
theorem mkDirOp1_idem (k k' : Nat) (x : DirOpT) : mkDirOp1 k' (mkDirOp1 k x) = mkDirOp1 k' x := rfl
abbrev DirOpST := List DirOpT
abbrev dDirOpS : Ty DirOpST := Ty.slice 90 dDirOp
def cntDirOpS (xs : DirOpST) : Nat := preS cntDirOp xs xs.length
def mkDirOpS1 (k : Nat) (xs : DirOpST) : DirOpST := markL mkDirOp1 cntDirOp k xs
theorem cntDirOpS_mk (k : Nat) (xs : DirOpST) : cntDirOpS (mkDirOpS1 k xs) = cntDirOpS xs := by unfold cntDirOpS mkDirOpS1; rw [preS_mark _ _ cntDirOp_mk, markL_len]
theorem mkDirOpS1_idem (k k' : Nat) (xs : DirOpST) : mkDirOpS1 k' (mkDirOpS1 k xs) = mkDirOpS1 k' xs := markL_idem _ _ cntDirOp_mk mkDirOp1_idem k k' xs
theorem idxDirOpS (ad : Addr) (m c k : Nat) (h : k < m) (w : World) : (Instr.indexAt 32 (.slice (some ad) m c) (.int .i64 (k : Int))).run Tryz.prog w = .ok (.pointer (some (ad.add (k * 4)))) w := by
  have h0 : (0 : Int) ≤ (k : Int) := by omega
  have h1 : (k : Int) < (m : Int) := by omega
  go_simp
theorem fptDirOp1 (p : Addr) (w : World) : (Instr.fieldAt 90 (.pointer (some p)) 1).run Tryz.prog w = .ok (.pointer (some ⟨p.block, p.off + 1, none⟩)) w := by go_simp
theorem fptDirOp2 (p : Addr) (w : World) : (Instr.fieldAt 90 (.pointer (some p)) 2).run Tryz.prog w = .ok (.pointer (some ⟨p.block, p.off + 2, none⟩)) w := by go_simp

set_option maxHeartbeats 1000000 in
set_option maxRecDepth 100000 in
theorem eqDirOpS_v {w : World} {v v' : Value} {xs ys : DirOpST} (h : RdV false dDirOpS w v xs) (h' : RdV false dDirOpS w v' ys) : Calls Tryz.prog 34 #[v, v'] w (Ret (.bool (decide (xs = ys))) w) := by
  obtain ⟨A, c, rfl, -, hr⟩ := h.slice
  obtain ⟨A', c', rfl, -, hr'⟩ := h'.slice
  have hl := hr.2.1
  have HR := Sec.mk hr
  have HR' := Sec.mk hr'
  clear h h' hr hr'
  by_cases hne : xs.length = ys.length
  rotate_left
  · have hnb : ((xs.length : Int) != (ys.length : Int)) = true := by simp; omega
    have HE : Sec (decide (xs = ys) = false) := ⟨by simp [show xs ≠ ys from fun e => hne (by rw [e])]⟩
    clear hne
    go_enter Tryz.func34, Tryz.ntmps34
    go_wp2
    go_ret
    exact ⟨by rw [HE.out]; rfl, Mod.refl _ _⟩
  have hnb : ((xs.length : Int) != (ys.length : Int)) = false := by simp [hne]
  have HNE := Sec.mk hne
  clear hne
  go_enter Tryz.func34, Tryz.ntmps34
  go_wp2
  go_loopw [5] (fun i wr => ∃ k : Nat, k ≤ xs.length ∧ i = .int .i64 k ∧ Sec (xs.take k = ys.take k) ∧ Sec (New w wr)) (fun i _ => xs.length - (intOf i).toNat)
  case atStart => exact ⟨0, Nat.zero_le _, rfl, Sec.mk (by simp), Sec.mk (Mod.refl _ _)⟩
  case round =>
    obtain ⟨k, hk, rfl, HT, HM⟩ := hrel
    by_cases hlt : k < xs.length
    · have hlt2 : k < ys.length := by rw [← HNE.out]; exact hlt
      obtain ⟨ad, vx, rfl, hx⟩ := HR.out.elem (P := Tryz.prog) hlt 90 Tryz.underlying90 rfl (by kernel_rfl)
      obtain ⟨ad', vy, rfl, hy⟩ := HR'.out.elem (P := Tryz.prog) hlt2 90 Tryz.underlying90 rfl (by kernel_rfl)
      have HX : Sec (∀ W, New wr W → (Instr.loadAt 90 (.pointer (some (ad.add (k * 4))))).run Tryz.prog W = .ok vx W ∧ RdV true dDirOp W vx xs[k]) := ⟨fun W hW => hx W (fun i hi => (hW.block i (Nat.lt_of_lt_of_le hi HM.out.size) id).trans (HM.out.block i hi id)) (fun i hi => Nat.lt_of_lt_of_le hi (Nat.le_trans HM.out.size hW.size))⟩
      have HY : Sec (∀ W, New wr W → (Instr.loadAt 90 (.pointer (some (ad'.add (k * 4))))).run Tryz.prog W = .ok vy W ∧ RdV true dDirOp W vy (ys[k]'hlt2)) := ⟨fun W hW => hy W (fun i hi => (hW.block i (Nat.lt_of_lt_of_le hi HM.out.size) id).trans (HM.out.block i hi id)) (fun i hi => Nat.lt_of_lt_of_le hi (Nat.le_trans HM.out.size hW.size))⟩
      have HXY : Sec (xs[k] = ys[k]'hlt2 → xs.take (k + 1) = ys.take (k + 1)) := ⟨fun h => by rw [List.take_succ_eq_append_getElem hlt, List.take_succ_eq_append_getElem hlt2, HT.out, h]⟩
      have HNQ : Sec (xs[k] ≠ ys[k]'hlt2 → decide (xs = ys) = false) := ⟨fun h => by simp only [decide_eq_false_iff_not]; intro e; exact h (by subst e; rfl)⟩
      clear hx hy HT
      generalize xs[k] = x at *
      generalize ys[k]'hlt2 = y at *
      have hki : (k : Int) < (xs.length : Int) := by omega
      have hkj : (k : Int) < (ys.length : Int) := by omega
      go_wp2
      refine reg_start [] (fun W => Sec (New wr W)) (by kernel_rfl) ?_
      have HSS : Sec (New wr wr.drew) := ⟨(Mod.refl _ _).drew⟩
      refine reg_take (.slice (some ad) xs.length c) (i := 0) (n := 17) HSS rfl (by kernel_rfl) (by kernel_rfl) (by kernel_rfl) (by kernel_rfl) (fun _ _ _ h => h) (fun W hW => exec_move rfl rfl) ?_
      simp only [Act.put, List.setIfInBounds_toArray, List.set_cons_zero, List.set_cons_succ]
      refine reg_take (.int .i64 (k : Int)) (i := 1) (n := 18) HSS rfl (by kernel_rfl) (by kernel_rfl) (by kernel_rfl) (by kernel_rfl) (fun _ _ _ h => h) (fun W hW => exec_move rfl rfl) ?_
      simp only [Act.put, List.setIfInBounds_toArray, List.set_cons_zero, List.set_cons_succ]
      refine reg_take (.pointer (some (ad.add (k * 4)))) (i := 2) (n := 19) HSS rfl (by kernel_rfl) (by kernel_rfl) (by kernel_rfl) (by kernel_rfl) (fun _ _ _ h => h) (fun W hW => exec_indexAddr rfl rfl rfl (idxDirOpS _ _ _ _ hlt _)) ?_
      simp only [Act.put, List.setIfInBounds_toArray, List.set_cons_zero, List.set_cons_succ]
      refine reg_take (vx) (i := 3) (n := 20) HSS rfl (by kernel_rfl) (by kernel_rfl) (by kernel_rfl) (by kernel_rfl) (fun _ _ _ h => h) (fun W hW => exec_load rfl rfl (HX.out W hW.out).1) ?_
      simp only [Act.put, List.setIfInBounds_toArray, List.set_cons_zero, List.set_cons_succ]
      refine reg_take (.slice (some ad') ys.length c') (i := 4) (n := 21) HSS rfl (by kernel_rfl) (by kernel_rfl) (by kernel_rfl) (by kernel_rfl) (fun _ _ _ h => h) (fun W hW => exec_move rfl rfl) ?_
      simp only [Act.put, List.setIfInBounds_toArray, List.set_cons_zero, List.set_cons_succ]
      refine reg_take (.int .i64 (k : Int)) (i := 5) (n := 22) HSS rfl (by kernel_rfl) (by kernel_rfl) (by kernel_rfl) (by kernel_rfl) (fun _ _ _ h => h) (fun W hW => exec_move rfl rfl) ?_
      simp only [Act.put, List.setIfInBounds_toArray, List.set_cons_zero, List.set_cons_succ]
      refine reg_take (.pointer (some (ad'.add (k * 4)))) (i := 6) (n := 23) HSS rfl (by kernel_rfl) (by kernel_rfl) (by kernel_rfl) (by kernel_rfl) (fun _ _ _ h => h) (fun W hW => exec_indexAddr rfl rfl rfl (idxDirOpS _ _ _ _ hlt2 _)) ?_
      simp only [Act.put, List.setIfInBounds_toArray, List.set_cons_zero, List.set_cons_succ]
      refine reg_take (vy) (i := 7) (n := 24) HSS rfl (by kernel_rfl) (by kernel_rfl) (by kernel_rfl) (by kernel_rfl) (fun _ _ _ h => h) (fun W hW => exec_load rfl rfl (HY.out W hW.out).1) ?_
      simp only [Act.put, List.setIfInBounds_toArray, List.set_cons_zero, List.set_cons_succ]
      refine reg_step (i := 8) rfl (by kernel_rfl) (fun K hK => ?_)
      refine wp_call (n := 25) (vals := [vx, vy]) rfl rfl rfl (by kernel_rfl) (eqDirOp_v (HX.out _ HSS.out).2 (HY.out _ HSS.out).2) ?_
      rintro e w1 ⟨rfl, hm1⟩
      have HS1 : Sec (New wr w1) := ⟨HSS.out.transN hm1⟩
      refine ⟨_, rfl, hK.out _ _ (fun _ => HS1) ?_⟩
      clear hK K hm1
      simp only [Act.put, List.setIfInBounds_toArray, List.set_cons_zero, List.set_cons_succ]
      refine reg_step (i := 9) rfl (by kernel_rfl) (fun K hK => ?_)
      refine wp_val (n := 26) (v := .bool (!decide (x = y))) (exec_un rfl rfl (Mem.not_r _ _)) rfl (hK.out _ _ (fun _ => HS1) ?_)
      clear hK K
      simp only [Act.put, List.setIfInBounds_toArray, List.set_cons_zero, List.set_cons_succ]
      refine reg_done (by kernel_rfl) ?_ _
      have HM' := Sec.mk (HM.out.transN HS1.out)
      by_cases hxy : x = y
      · have HT' := Sec.mk (HXY.out hxy)
        have hd : decide (x = y) = true := by simp [hxy]
        clear hxy HXY HNQ HX HY
        rw [hd]
        go_wp2
        go_roundw
        case rel => exact ⟨k + 1, by omega, by go_num, HT', HM'⟩
        case measure => simp [intOf]; omega
      · have HE := Sec.mk (HNQ.out hxy)
        have hd : decide (x = y) = false := by simp [hxy]
        clear hxy HXY HNQ HX HY
        rw [hd]
        go_wp2
        go_ret
        exact ⟨by rw [HE.out]; rfl, HM'.out⟩
    · have HE : Sec (decide (xs = ys) = true) := ⟨by
        have h1 := HT.out
        rw [List.take_of_length_le (by omega), List.take_of_length_le (by rw [← HNE.out]; omega)] at h1
        simp [h1]⟩
      go_wp2
      go_ret
      exact ⟨by rw [HE.out]; rfl, HM.out⟩


set_option maxHeartbeats 1000000 in
set_option maxRecDepth 100000 in
theorem markDirOpS_calls {A : Option Addr} {c : Nat} {xs : DirOpST} {F : List Nat} {w : World} (h : Own dDirOp 90 w F (.slice A xs.length c) xs) (k : Nat) (hk : k + cntDirOpS xs ≤ 1152921504606846976) :
    Calls Tryz.prog 38 #[.slice A xs.length c, .int .i64 k] w fun e w' => e = .returned (.int .i64 ((k + cntDirOpS xs : Nat) : Int)) ∧ ∃ F', Own dDirOp 90 w' F' (.slice A xs.length c) (mkDirOpS1 k xs) ∧ (∀ i, i ∈ F' → i ∈ F) ∧ Mod (· ∈ F) w w' := by
  have hlx := h.len_le
  have HO := Sec.mk h
  have HKK : Sec (cntDirOpS xs = preS cntDirOp xs xs.length) := ⟨rfl⟩
  rw [HKK.out] at hk ⊢
  clear h
  go_enter Tryz.func38, Tryz.ntmps38
  go_wp2
  go_loopw [1, 5] (fun q i wr => ∃ (j : Nat) (ys : DirOpST) (G : List Nat), j ≤ xs.length ∧ i = .int .i64 j ∧ q = .int .i64 ((k + preS cntDirOp xs j : Nat) : Int) ∧ Sec (ys = (mkDirOpS1 k xs).take j ++ xs.drop j) ∧ Sec (Own dDirOp 90 wr G (.slice A xs.length c) ys) ∧ Sec (∀ k, k ∈ G → k ∈ F) ∧ Sec (Mod (· ∈ F) w wr)) (fun _ i _ => xs.length - (intOf i).toNat)
  case atStart => exact ⟨0, xs, F, Nat.zero_le _, rfl, by rw [preS_zero]; rfl, ⟨by simp⟩, HO, ⟨fun _ h => h⟩, ⟨Mod.refl _ _⟩⟩
  case round =>
    obtain ⟨j, ys, G, hj, rfl, rfl, HY, HO, HF, HM⟩ := hrel
    by_cases hlt : j < xs.length
    · have hyl : ys.length = xs.length := by rw [HY.out]; exact take_drop_len (markL_len _ _ k xs) j
      have hjy : j < ys.length := by omega
      have hyj : ys[j] = xs[j] := by simp only [HY.out]; exact take_drop_at (markL_len _ _ k xs) hlt _
      have hks := preS_succ cntDirOp xs hlt
      have hkl := preS_le cntDirOp xs (j + 1)
      have HZ := Sec.mk (markL_at mkDirOp1 cntDirOp k xs (i := j) (by rw [markL_len]; exact hlt))
      have HTD : Sec (ys.set j (mkDirOp1 (k + preS cntDirOp xs j) xs[j]) = (mkDirOpS1 k xs).take (j + 1) ++ xs.drop (j + 1)) := ⟨by rw [← HZ.out, HY.out]; exact take_drop_set (markL_len _ _ k xs) hlt⟩
      have HX : Sec (Own dDirOp 90 wr G (.slice A xs.length c) (ys.set j xs[j])) := ⟨by rw [← hyj, List.set_getElem_self]; exact HO.out⟩
      obtain ⟨g, rfl, hgG, -, -⟩ := HO.out.cellsAt hjy
      have HgF := Sec.mk (HF.out g hgG)
      have HKS := Sec.mk hks
      have hkb : preS cntDirOp xs j + cntDirOp xs[j] ≤ preS cntDirOp xs xs.length := by omega
      clear hks hkl hyj HZ HO hgG
      have HCN : Sec (cntDirOp xs[j] = 1 + 1 + 1 + 1) := ⟨rfl⟩
      have hcn := HCN.out
      generalize hps : preS cntDirOp xs j = s at *
      generalize hxj : xs[j] = x at *
      have HJ := Sec.mk hjy
      obtain ⟨_, hA0, -, hcell0, hfz0⟩ := HX.out.cellsAt (j := j) (by rw [List.length_set]; exact hjy)
      injection hA0 with hA0
      injection hA0 with hA0
      subst hA0
      simp only [show dDirOp.sz = 4 from rfl] at hcell0
      obtain ⟨p0, hc0⟩ := hcell0 0 (by decide)
      have hf0 := hfz0 (j * 4 + 0)
      simp only [Nat.add_zero] at hc0 hf0
      clear hcell0 hfz0
      obtain ⟨hgg, hst⟩ := Own.fstoreAt fldDirOp0 (fun _ _ _ _ h => h.1) HJ.out HX.out
      obtain ⟨G0, ho, hG0⟩ := hst (.int .i64 ((k : Int) + (s : Int))) ((k : Int) + (s : Int)) (fun _ => ⟨rfl, rfl, by rw [IntKind.wrap_i64]; omega⟩)
      simp only [show dDirOp.sz = 4 from rfl, Nat.add_zero] at ho
      have HX0 := Sec.mk ho
      have HF0 := Sec.mk (fun i hi => HF.out i (hG0 i hi))
      have HM0 := Sec.mk (HM.out.setCell (p := ⟨g, j * 4, none⟩) (fun _ => HgF.out) (.int .i64 ((k : Int) + (s : Int))))
      clear hgg hst ho hG0
      go_wp2_with fail
      refine Calls.mono (markText_i _ ((k + s) + 1) ?_ ?_ _) ?_
      · first | rfl | omega
      · (try dsimp only at hcn ⊢); omega
      rintro e wt1 ⟨rfl, hmt1⟩
      have HXt1 := Sec.mk (HX0.out.new hmt1)
      have HMt1 := Sec.mk (HM0.out.transN hmt1)
      clear hmt1
      obtain ⟨_, hA1, -, hcell1, hfz1⟩ := HXt1.out.cellsAt (j := j) (by rw [List.length_set]; exact hjy)
      injection hA1 with hA1
      injection hA1 with hA1
      subst hA1
      simp only [show dDirOp.sz = 4 from rfl] at hcell1
      obtain ⟨p1, hc1⟩ := hcell1 1 (by decide)
      have hf1 := hfz1 (j * 4 + 1)
      clear hcell1 hfz1
      obtain ⟨hgg, hst⟩ := Own.fstoreAt fldDirOp1 (fun _ _ _ _ h => h.1) HJ.out HXt1.out
      obtain ⟨G1, ho, hG1⟩ := hst (.string ⟨((markT ((k + s) + 1))).toArray⟩) (markT ((k + s) + 1)) (fun _ => ⟨rfl, rfl, markT_len _ (by (try dsimp only at hcn ⊢); omega)⟩)
      simp only [show dDirOp.sz = 4 from rfl] at ho
      have HX1 := Sec.mk ho
      have HF1 := Sec.mk (fun i hi => HF0.out i (hG1 i hi))
      have HM1 := Sec.mk (HMt1.out.setCell (p := ⟨g, j * 4 + 1, none⟩) (fun _ => HgF.out) (.string ⟨((markT ((k + s) + 1))).toArray⟩))
      clear hgg hst ho hG1
      go_wp2_with fail
      refine Calls.mono (markText_i _ ((k + s) + 2) ?_ ?_ _) ?_
      · first | rfl | omega
      · (try dsimp only at hcn ⊢); omega
      rintro e wt2 ⟨rfl, hmt2⟩
      have HXt2 := Sec.mk (HX1.out.new hmt2)
      have HMt2 := Sec.mk (HM1.out.transN hmt2)
      clear hmt2
      obtain ⟨_, hA2, -, hcell2, hfz2⟩ := HXt2.out.cellsAt (j := j) (by rw [List.length_set]; exact hjy)
      injection hA2 with hA2
      injection hA2 with hA2
      subst hA2
      simp only [show dDirOp.sz = 4 from rfl] at hcell2
      obtain ⟨p2, hc2⟩ := hcell2 2 (by decide)
      have hf2 := hfz2 (j * 4 + 2)
      obtain ⟨p3, hc3⟩ := hcell2 3 (by decide)
      have hf3 := hfz2 (j * 4 + 3)
      clear hcell2 hfz2
      obtain ⟨hgg, hst⟩ := Own.fstoreAt fldDirOp2 (fun _ _ _ _ h => h.1) HJ.out HXt2.out
      obtain ⟨G2, ho, hG2⟩ := hst (.string ⟨((markT ((k + s) + 2))).toArray⟩) (markT ((k + s) + 2)) (fun _ => ⟨rfl, rfl, markT_len _ (by (try dsimp only at hcn ⊢); omega)⟩)
      simp only [show dDirOp.sz = 4 from rfl] at ho
      have HX2 := Sec.mk ho
      have HF2 := Sec.mk (fun i hi => HF1.out i (hG2 i hi))
      have HM2 := Sec.mk (HMt2.out.setCell (p := ⟨g, j * 4 + 2, none⟩) (fun _ => HgF.out) (.string ⟨((markT ((k + s) + 2))).toArray⟩))
      clear hgg hst ho hG2
      obtain ⟨hgg, hst⟩ := Own.fstoreAt fldDirOp3 (fun _ _ _ _ h => h.1) HJ.out HX2.out
      obtain ⟨G3, ho, hG3⟩ := hst (.int .i64 ((k : Int) + (s : Int) + 1 + 1 + 1)) ((k : Int) + (s : Int) + 1 + 1 + 1) (fun _ => ⟨rfl, rfl, by rw [IntKind.wrap_i64]; omega⟩)
      simp only [show dDirOp.sz = 4 from rfl] at ho
      have HX3 := Sec.mk ho
      have HF3 := Sec.mk (fun i hi => HF2.out i (hG3 i hi))
      have HM3 := Sec.mk (HM2.out.setCell (p := ⟨g, j * 4 + 3, none⟩) (fun _ => HgF.out) (.int .i64 ((k : Int) + (s : Int) + 1 + 1 + 1)))
      clear hgg hst ho hG3
      have HEQ : Sec (mkDirOp1 (k + s) x = (((k : Int) + (s : Int)), (markT ((k + s) + 1)), (markT ((k + s) + 2)), ((k : Int) + (s : Int) + 1 + 1 + 1))) := ⟨by skip; simp only [mkDirOp1, Int.natCast_add]⟩
      rw [HEQ.out] at HTD
      go_wp2
      go_roundw
      case rel => exact ⟨j + 1, _, G3, by omega, by go_num, by rw [HKS.out, HCN.out]; congr 1; try (omega), HTD, HX3, HF3, HM3⟩
      case measure => simp [intOf]; omega
    · obtain rfl : j = xs.length := by omega
      go_wp2
      go_ret
      have he : ys = mkDirOpS1 k xs := by
        rw [HY.out, List.take_of_length_le (by unfold mkDirOpS1; rw [markL_len]; exact Nat.le_refl _)]; simp
      subst he
      exact ⟨by simp, G, HO.out, HF.out, HM.out⟩


theorem markDirOpS_f {w : World} {F : List Nat} {v : Value} {x : DirOpST} (h : OwF false dDirOpS w F v x) (k : Nat) (hk : k + cntDirOpS x ≤ 1152921504606846976) :
    Calls Tryz.prog 38 #[v, .int .i64 k] w (Marks false dDirOpS w F v (k + cntDirOpS x) (mkDirOpS1 k x)) := by
  obtain ⟨A, c, rfl, ho⟩ := h.slice
  refine (markDirOpS_calls ho k hk).mono ?_
  rintro e w' ⟨rfl, F', ho', hF', hm⟩
  refine ⟨rfl, ⟨F', ?_, hF'⟩, hm⟩
  have hl : (mkDirOpS1 k x).length = x.length := markL_len _ _ k x
  rw [← hl] at ho'
  rw [← hl]
  exact OwF.of_slice ho'
theorem markDirOpS_i {w : World} {F : List Nat} {v : Value} {x : DirOpST} (h : OwF false dDirOpS w F v x) (q : Int) (k : Nat) (hq : q = (k : Int)) (hk : k + cntDirOpS x ≤ 1152921504606846976) :
    Calls Tryz.prog 38 #[v, .int .i64 q] w (Marks false dDirOpS w F v (k + cntDirOpS x) (mkDirOpS1 k x)) := by subst hq; exact markDirOpS_f h k hk
theorem markDirOpS_v {w : World} {lo hi : Nat} {v : Value} {x : DirOpST} (h : OwV false dDirOpS w lo hi v x) (k : Nat) (hk : k + cntDirOpS x ≤ 1152921504606846976) :
    Calls Tryz.prog 38 #[v, .int .i64 k] w fun e w' => e = .returned (.int .i64 ((k + cntDirOpS x : Nat) : Int)) ∧ OwV false dDirOpS w' lo hi v (mkDirOpS1 k x) ∧ Mod (fun i => lo ≤ i ∧ i < hi) w w' :=
  h.mark fun F hF => markDirOpS_f hF k hk


set_option maxHeartbeats 1000000 in
set_option maxRecDepth 100000 in
theorem heldDirOpS_v {w : World} {v : Value} {xs : DirOpST} (h : RdV false dDirOpS w v xs) (k : Nat) (hx : xs = mkDirOpS1 k xs) (hk : k + cntDirOpS xs ≤ 1152921504606846976) :
    Calls Tryz.prog 77 #[v, .int .i64 k] w (Ret (.int .i64 ((k + cntDirOpS xs : Nat) : Int)) w) := by
  obtain ⟨A, c, rfl, -, hr⟩ := h.slice
  have hl := hr.2.1
  have HR := Sec.mk hr
  have HX := Sec.mk hx
  have HKK : Sec (cntDirOpS xs = preS cntDirOp xs xs.length) := ⟨rfl⟩
  rw [HKK.out] at hk ⊢
  clear h hr hx
  go_enter Tryz.func77, Tryz.ntmps77
  go_wp2
  go_loopw [1, 5] (fun q i wr => ∃ (j : Nat), j ≤ xs.length ∧ i = .int .i64 j ∧ q = .int .i64 ((k + preS cntDirOp xs j : Nat) : Int) ∧ Sec (New w wr)) (fun _ i _ => xs.length - (intOf i).toNat)
  case atStart => exact ⟨0, Nat.zero_le _, rfl, by rw [preS_zero]; rfl, ⟨Mod.refl _ _⟩⟩
  case round =>
    obtain ⟨j, hj, rfl, rfl, HM⟩ := hrel
    by_cases hlt : j < xs.length
    · have hks := preS_succ cntDirOp xs hlt
      have hkl := preS_le cntDirOp xs (j + 1)
      have hkb : preS cntDirOp xs j + cntDirOp xs[j] ≤ preS cntDirOp xs xs.length := by omega
      have HKS := Sec.mk hks
      have hz : xs[j] = mkDirOp1 (k + preS cntDirOp xs j) xs[j] := by
        have := markL_at mkDirOp1 cntDirOp k xs (i := j) (by rw [markL_len]; exact hlt)
        rw [← this]; congr 1; exact HX.out
      have HZ := Sec.mk hz
      have HCN : Sec (cntDirOp xs[j] = 1 + 1 + 1 + 1) := ⟨rfl⟩
      have hcn := HCN.out
      clear hks hkl hz
      have HFD : Sec (∀ W, New w W → ∃ ad , A = some ad ∧ W.cell? (ad.add (j * 4)) = some (.int .i64 (xs[j].1)) ∧ W.cell? ⟨(ad.add (j * 4)).block, (ad.add (j * 4)).off + 1, none⟩ = some (.string ⟨((xs[j].2.1)).toArray⟩) ∧ W.cell? ⟨(ad.add (j * 4)).block, (ad.add (j * 4)).off + 2, none⟩ = some (.string ⟨((xs[j].2.2.1)).toArray⟩) ∧ W.cell? ⟨(ad.add (j * 4)).block, (ad.add (j * 4)).off + 3, none⟩ = some (.int .i64 (xs[j].2.2.2))) := ⟨fun W hW => by
        obtain ⟨ad, v0, hA0, hc0, hK0⟩ := HR.out.field fldDirOp0 (fun q hq => hW.block q hq id) hlt
        obtain rfl : v0 = .int .i64 (xs[j].1) := by have := hK0.1; simpa using this
        obtain ⟨ad1, v1, hA1, hc1, hK1⟩ := HR.out.field fldDirOp1 (fun q hq => hW.block q hq id) hlt
        obtain rfl : ad = ad1 := Option.some.inj (hA0.symm.trans hA1)
        obtain rfl : v1 = .string ⟨((xs[j].2.1)).toArray⟩ := by have := hK1.1; simpa using this
        obtain ⟨ad2, v2, hA2, hc2, hK2⟩ := HR.out.field fldDirOp2 (fun q hq => hW.block q hq id) hlt
        obtain rfl : ad = ad2 := Option.some.inj (hA0.symm.trans hA2)
        obtain rfl : v2 = .string ⟨((xs[j].2.2.1)).toArray⟩ := by have := hK2.1; simpa using this
        obtain ⟨ad3, v3, hA3, hc3, hK3⟩ := HR.out.field fldDirOp3 (fun q hq => hW.block q hq id) hlt
        obtain rfl : ad = ad3 := Option.some.inj (hA0.symm.trans hA3)
        obtain rfl : v3 = .int .i64 (xs[j].2.2.2) := by have := hK3.1; simpa using this
        exact ⟨ad, hA0, hc0, hc1, hc2, hc3⟩⟩
      generalize hps : preS cntDirOp xs j = s at *
      generalize hxj : xs[j] = x at *
      obtain ⟨ad, rfl, hc0, -, -, -⟩ := HFD.out _ HM.out
      have z0 : x.1 = ((k : Int) + (s : Int)) := by have h := congrArg (fun x : DirOpT => x.1) HZ.out; (try simp only [mkDirOp1, Int.natCast_add] at h); exact h
      rw [z0] at hc0
      clear z0
      obtain ⟨adq1, hAq1, -, hc1, -, -⟩ := HFD.out _ HM.out
      obtain rfl := Option.some.inj hAq1
      have z1 : x.2.1 = markT ((k + s) + 1) := by have h := congrArg (fun x : DirOpT => x.2.1) HZ.out; (try simp only [mkDirOp1, Int.natCast_add] at h); exact h
      rw [z1] at hc1
      clear z1
      have HLD1 : Sec (∀ W', New wr W' → W'.cell? ⟨(ad.add (j * 4)).block, (ad.add (j * 4)).off + 1, none⟩ = some (.string ⟨(markT ((k + s) + 1)).toArray⟩)) := ⟨fun W' h => h.cell_of hc1⟩
      clear hc1
      go_wp2
      refine reg_start [] (fun W' => Sec (New wr W')) (by kernel_rfl) ?_
      have HSS : Sec (New wr wr.drew) := ⟨(Mod.refl _ _).drew⟩
      refine reg_take (.slice (some ad) xs.length c) (i := 0) (n := 21) HSS rfl (by kernel_rfl) (by kernel_rfl) (by kernel_rfl) (by kernel_rfl) (fun _ _ _ h => h) (fun W hW => exec_move rfl rfl) ?_
      simp only [Act.put, List.setIfInBounds_toArray, List.set_cons_zero, List.set_cons_succ]
      refine reg_take (.int .i64 (j : Int)) (i := 1) (n := 22) HSS rfl (by kernel_rfl) (by kernel_rfl) (by kernel_rfl) (by kernel_rfl) (fun _ _ _ h => h) (fun W hW => exec_move rfl rfl) ?_
      simp only [Act.put, List.setIfInBounds_toArray, List.set_cons_zero, List.set_cons_succ]
      refine reg_take (.pointer (some (ad.add (j * 4)))) (i := 2) (n := 23) HSS rfl (by kernel_rfl) (by kernel_rfl) (by kernel_rfl) (by kernel_rfl) (fun _ _ _ h => h) (fun W hW => exec_indexAddr rfl rfl rfl (idxDirOpS _ _ _ _ hlt _)) ?_
      simp only [Act.put, List.setIfInBounds_toArray, List.set_cons_zero, List.set_cons_succ]
      refine reg_take (.pointer (some ⟨(ad.add (j * 4)).block, (ad.add (j * 4)).off + 1, none⟩)) (i := 3) (n := 24) HSS rfl (by kernel_rfl) (by kernel_rfl) (by kernel_rfl) (by kernel_rfl) (fun _ _ _ h => h) (fun W hW => exec_field rfl rfl (fptDirOp1 _ _)) ?_
      simp only [Act.put, List.setIfInBounds_toArray, List.set_cons_zero, List.set_cons_succ]
      refine reg_take (.string ⟨(markT ((k + s) + 1)).toArray⟩) (i := 4) (n := 25) HSS rfl (by kernel_rfl) (by kernel_rfl) (by kernel_rfl) (by kernel_rfl) (fun _ _ _ h => h) (fun W hW => exec_load rfl rfl (ldStr (HLD1.out W hW.out))) ?_
      simp only [Act.put, List.setIfInBounds_toArray, List.set_cons_zero, List.set_cons_succ]
      refine reg_take (.int .i64 ((k : Int) + (s : Int) + 1)) (i := 5) (n := 26) HSS rfl (by kernel_rfl) (by kernel_rfl) (by kernel_rfl) (by kernel_rfl) (fun _ _ _ h => h) (fun W hW => exec_move rfl rfl) ?_
      simp only [Act.put, List.setIfInBounds_toArray, List.set_cons_zero, List.set_cons_succ]
      refine reg_step (i := 6) rfl (by kernel_rfl) (fun K hK => ?_)
      refine wp_call (n := 27) (vals := [.int .i64 ((k : Int) + (s : Int) + 1)]) rfl rfl rfl (by kernel_rfl) (markText_i ((k : Int) + (s : Int) + 1) ((k + s) + 1) (by first | rfl | omega) (by (try dsimp only at hcn ⊢); omega) _) ?_
      rintro e wt1 ⟨rfl, hmt1⟩
      have HSt1 : Sec (New wr wt1) := ⟨HSS.out.transN hmt1⟩
      refine ⟨_, rfl, hK.out _ _ (fun _ => HSt1) ?_⟩
      clear hmt1
      clear hK K
      simp only [Act.put, List.setIfInBounds_toArray, List.set_cons_zero, List.set_cons_succ]
      refine reg_step (i := 7) rfl (by kernel_rfl) (fun K hK => ?_)
      refine wp_val (n := 28) (v := .bool false) (exec_bin rfl rfl rfl (strNe _ _ _ _)) rfl (hK.out _ _ (fun _ => HSt1) ?_)
      clear hK K
      simp only [Act.put, List.setIfInBounds_toArray, List.set_cons_zero, List.set_cons_succ]
      refine reg_done (by kernel_rfl) ?_ _
      have HMt1 := Sec.mk (HM.out.transN HSt1.out)
      clear HSS HLD1
      obtain ⟨adq2, hAq2, -, -, hc2, -⟩ := HFD.out _ HMt1.out
      obtain rfl := Option.some.inj hAq2
      have z2 : x.2.2.1 = markT ((k + s) + 2) := by have h := congrArg (fun x : DirOpT => x.2.2.1) HZ.out; (try simp only [mkDirOp1, Int.natCast_add] at h); exact h
      rw [z2] at hc2
      clear z2
      have HLD2 : Sec (∀ W', New wt1 W' → W'.cell? ⟨(ad.add (j * 4)).block, (ad.add (j * 4)).off + 2, none⟩ = some (.string ⟨(markT ((k + s) + 2)).toArray⟩)) := ⟨fun W' h => h.cell_of hc2⟩
      clear hc2
      go_wp2
      refine reg_start [] (fun W' => Sec (New wt1 W')) (by kernel_rfl) ?_
      have HSS : Sec (New wt1 wt1.drew) := ⟨(Mod.refl _ _).drew⟩
      refine reg_take (.slice (some ad) xs.length c) (i := 0) (n := 31) HSS rfl (by kernel_rfl) (by kernel_rfl) (by kernel_rfl) (by kernel_rfl) (fun _ _ _ h => h) (fun W hW => exec_move rfl rfl) ?_
      simp only [Act.put, List.setIfInBounds_toArray, List.set_cons_zero, List.set_cons_succ]
      refine reg_take (.int .i64 (j : Int)) (i := 1) (n := 32) HSS rfl (by kernel_rfl) (by kernel_rfl) (by kernel_rfl) (by kernel_rfl) (fun _ _ _ h => h) (fun W hW => exec_move rfl rfl) ?_
      simp only [Act.put, List.setIfInBounds_toArray, List.set_cons_zero, List.set_cons_succ]
      refine reg_take (.pointer (some (ad.add (j * 4)))) (i := 2) (n := 33) HSS rfl (by kernel_rfl) (by kernel_rfl) (by kernel_rfl) (by kernel_rfl) (fun _ _ _ h => h) (fun W hW => exec_indexAddr rfl rfl rfl (idxDirOpS _ _ _ _ hlt _)) ?_
      simp only [Act.put, List.setIfInBounds_toArray, List.set_cons_zero, List.set_cons_succ]
      refine reg_take (.pointer (some ⟨(ad.add (j * 4)).block, (ad.add (j * 4)).off + 2, none⟩)) (i := 3) (n := 34) HSS rfl (by kernel_rfl) (by kernel_rfl) (by kernel_rfl) (by kernel_rfl) (fun _ _ _ h => h) (fun W hW => exec_field rfl rfl (fptDirOp2 _ _)) ?_
      simp only [Act.put, List.setIfInBounds_toArray, List.set_cons_zero, List.set_cons_succ]
      refine reg_take (.string ⟨(markT ((k + s) + 2)).toArray⟩) (i := 4) (n := 35) HSS rfl (by kernel_rfl) (by kernel_rfl) (by kernel_rfl) (by kernel_rfl) (fun _ _ _ h => h) (fun W hW => exec_load rfl rfl (ldStr (HLD2.out W hW.out))) ?_
      simp only [Act.put, List.setIfInBounds_toArray, List.set_cons_zero, List.set_cons_succ]
      refine reg_take (.int .i64 ((k : Int) + (s : Int) + 1 + 1)) (i := 5) (n := 36) HSS rfl (by kernel_rfl) (by kernel_rfl) (by kernel_rfl) (by kernel_rfl) (fun _ _ _ h => h) (fun W hW => exec_move rfl rfl) ?_
      simp only [Act.put, List.setIfInBounds_toArray, List.set_cons_zero, List.set_cons_succ]
      refine reg_step (i := 6) rfl (by kernel_rfl) (fun K hK => ?_)
      refine wp_call (n := 37) (vals := [.int .i64 ((k : Int) + (s : Int) + 1 + 1)]) rfl rfl rfl (by kernel_rfl) (markText_i ((k : Int) + (s : Int) + 1 + 1) ((k + s) + 2) (by first | rfl | omega) (by (try dsimp only at hcn ⊢); omega) _) ?_
      rintro e wt2 ⟨rfl, hmt2⟩
      have HSt2 : Sec (New wt1 wt2) := ⟨HSS.out.transN hmt2⟩
      refine ⟨_, rfl, hK.out _ _ (fun _ => HSt2) ?_⟩
      clear hmt2
      clear hK K
      simp only [Act.put, List.setIfInBounds_toArray, List.set_cons_zero, List.set_cons_succ]
      refine reg_step (i := 7) rfl (by kernel_rfl) (fun K hK => ?_)
      refine wp_val (n := 38) (v := .bool false) (exec_bin rfl rfl rfl (strNe _ _ _ _)) rfl (hK.out _ _ (fun _ => HSt2) ?_)
      clear hK K
      simp only [Act.put, List.setIfInBounds_toArray, List.set_cons_zero, List.set_cons_succ]
      refine reg_done (by kernel_rfl) ?_ _
      have HMt2 := Sec.mk (HMt1.out.transN HSt2.out)
      clear HSS HLD2
      obtain ⟨adq3, hAq3, -, -, -, hc3⟩ := HFD.out _ HMt2.out
      obtain rfl := Option.some.inj hAq3
      have z3 : x.2.2.2 = ((k : Int) + (s : Int) + 1 + 1 + 1) := by have h := congrArg (fun x : DirOpT => x.2.2.2) HZ.out; (try simp only [mkDirOp1, Int.natCast_add] at h); exact h
      rw [z3] at hc3
      clear z3
      go_wp2
      go_roundw
      case rel => exact ⟨j + 1, by omega, by go_num, by rw [HKS.out, HCN.out]; congr 1; try (omega), HMt2⟩
      case measure => simp [intOf]; omega
    · obtain rfl : j = xs.length := by omega
      go_wp2
      go_ret
      exact ⟨by simp, HM.out⟩
theorem heldDirOpS_i {w : World} {v : Value} {x : DirOpST} (h : RdV false dDirOpS w v x) (q : Int) (k : Nat) (hq : q = (k : Int)) (hx : x = mkDirOpS1 k x) (hk : k + cntDirOpS x ≤ 1152921504606846976) :
    Calls Tryz.prog 77 #[v, .int .i64 q] w (Ret (.int .i64 ((k + cntDirOpS x : Nat) : Int)) w) := by subst hq; exact heldDirOpS_v h k hx hk

end Go.Proofs.YtkkgighgnbbgiaaGreatDoor
