/- The laws' copies and sizes of Op. Operations on a disk, by value, as the law's walk wants them. Openers: a disk that is handed in reads as an abstract one. -/
import Derived.Test.YtkkgighgnbbgiaaGreatDoorPk13
import Derived.Test.YtkkgighgnbbgiaaGreatDoorPk5
import Derived.Test.YtkkgighgnbbgiaaGreatDoorPk16
import Derived.Test.YtkkgighgnbbgiaaGreatDoorPk9
import Derived.Test.YtkkgighgnbbgiaaGreatDoorPk2
import Derived.Test.YtkkgighgnbbgiaaGreatDoorPk4
namespace Go.Proofs.YtkkgighgnbbgiaaGreatDoor
open Go.RowKit Mem
set_option linter.unusedVariables false
set_option linter.unusedSimpArgs false
theorem lenOp1 {w : World} {v : Value} {x : OpT} (h : RdV true dOp w v x) : x.2.1.length ≤ 9223372036854775807 := by
  obtain ⟨cs, rfl, c0, r0, rfl, h0, c1, r1, rfl, h1, c2, c3, rfl, h2, h3⟩ := h
  exact h1.2
theorem lenOp2 {w : World} {v : Value} {x : OpT} (h : RdV true dOp w v x) : x.2.2.1.length ≤ 9223372036854775807 := by
  obtain ⟨cs, rfl, c0, r0, rfl, h0, c1, r1, rfl, h1, c2, c3, rfl, h2, h3⟩ := h
  exact h2.2
theorem okOp {w : World} {v : Value} {x : OpT} (h : RdV true dOp w v x) : IntKind.i64.wrap x.1 = x.1 ∧ x.2.1.length ≤ 9223372036854775807 ∧ x.2.2.1.length ≤ 9223372036854775807 := by
  obtain ⟨cs, rfl, c0, r0, rfl, h0, c1, r1, rfl, h1, c2, c3, rfl, h2, h3⟩ := h
  exact ⟨h0.2, h1.2, h2.2⟩
def zOp : OpT := (0, [], [], [])
theorem zmOp (w : World) : dOp.M w [] zOp [.int .i64 0, .string ⟨#[]⟩, .string ⟨#[]⟩, .slice none 0 0] := mOp (F3 := []) (show IntKind.i64.wrap 0 = 0 by decide) (Nat.zero_le _) (Nat.zero_le _) (Own.nil _ _ _)
theorem cellsOp_M {w : World} {F : List Nat} {x : OpT} {cs : List Value} (h : dOp.M w F x cs) : ∃ A3 q3, cs = [.int .i64 x.1, .string ⟨(x.2.1).toArray⟩, .string ⟨(x.2.2.1).toArray⟩, .slice A3 x.2.2.2.length q3] := by
  obtain ⟨c0, r0, E0, R0, rfl, rfl, nd0, h0, c1, r1, E1, R1, rfl, rfl, nd1, h1, c2, c3, E2, E3, rfl, rfl, nd2, h2, h3⟩ := h
  obtain ⟨_, rfl, _⟩ := h0
  obtain ⟨_, rfl, _⟩ := h1
  obtain ⟨_, rfl, _⟩ := h2
  obtain ⟨v3, rfl, h3'⟩ := h3
  obtain ⟨A3, q3, rfl, _⟩ := h3'.form
  exact ⟨_, _, rfl⟩
def szOp (x : OpT) : Nat := (x.2.1.length) + (x.2.2.1.length) + (szBS x.2.2.2)

set_option maxHeartbeats 1000000 in
set_option maxRecDepth 100000 in
theorem szOp_v {w : World} {v : Value} {x : OpT} (h : RdV true dOp w v x) (left : Int) (h0 : 0 ≤ left) (h1 : left ≤ 1048576) : Calls Tryz.prog 20 #[v, .int .i64 left] w (SzR w left (szOp x)) := by
  obtain ⟨v3, rfl, k3⟩ := rdOp h
  have b1 : x.2.1.length ≤ 9223372036854775807 := lenOp1 h
  have b2 : x.2.2.1.length ≤ 9223372036854775807 := lenOp2 h
  have HB0 := Sec.mk (Blk.new w 54 [.int .i64 x.1, .string ⟨(x.2.1).toArray⟩, .string ⟨(x.2.2.1).toArray⟩, v3])
  have HM0 := Sec.mk ((Mod.refl (fun _ => False) w).alloc (.cells #[.int .i64 x.1, .string ⟨(x.2.1).toArray⟩, .string ⟨(x.2.2.1).toArray⟩, v3] 54))
  have H3 := Sec.mk k3
  have HS : Sec (szOp x = (x.2.1.length) + (x.2.2.1.length) + (szBS x.2.2.2)) := ⟨rfl⟩
  clear h k3
  have hz1 : (⟨x.2.1.toArray⟩ : ByteArray).size = x.2.1.length := by simp [ByteArray.size]
  have hz2 : (⟨x.2.2.1.toArray⟩ : ByteArray).size = x.2.2.1.length := by simp [ByteArray.size]
  generalize hs : szOp x = s at *
  clear hs
  obtain ⟨c1, hc1⟩ : ∃ c, c = x.2.1.length := ⟨_, rfl⟩
  obtain ⟨c2, hc2⟩ : ∃ c, c = x.2.2.1.length := ⟨_, rfl⟩
  obtain ⟨c3, hc3⟩ : ∃ c, c = szBS x.2.2.2 := ⟨_, rfl⟩
  rw [← hc1, ← hc2, ← hc3] at HS
  rw [← hc1] at hz1 b1
  rw [← hc2] at hz2 b2
  have HC1 := Sec.mk hc1
  have HC2 := Sec.mk hc2
  have HC3 := Sec.mk hc3
  clear hc1 hc2 hc3
  by_cases g1 : left < (c1 : Int)
  · have hn1 : left - (c1 : Int) < 0 := by omega
    go_enter Tryz.func20, Tryz.ntmps20
    go_wp2
    go_ret
    exact ⟨by rw [if_pos (by have := HS.out; omega)]; rfl, HM0.out⟩
  by_cases g2 : left < (c1 : Int) + (c2 : Int)
  · have hn2 : left - (c1 : Int) - (c2 : Int) < 0 := by omega
    go_enter Tryz.func20, Tryz.ntmps20
    have l1 : ¬ left - (c1 : Int) < 0 := by omega
    go_wp2
    go_ret
    exact ⟨by rw [if_pos (by have := HS.out; omega)]; rfl, HM0.out⟩
  by_cases g3 : left < (c1 : Int) + (c2 : Int) + (c3 : Int)
  · have hn3 : left - (c1 : Int) - (c2 : Int) - (c3 : Int) < 0 := by omega
    go_enter Tryz.func20, Tryz.ntmps20
    have l1 : ¬ left - (c1 : Int) < 0 := by omega
    have l2 : ¬ left - (c1 : Int) - (c2 : Int) < 0 := by omega
    go_wp2_with fail
    refine (szByteS_s (H3.out.step HM0.out) (left - (c1 : Int) - (c2 : Int)) (by omega) (by omega)).mono ?_
    rintro e w3 ⟨rfl, hm3⟩
    rw [← HC3.out, if_pos (by omega)]
    have HM3 := Sec.mk (HM0.out.transN hm3)
    have HB4 := Sec.mk (HB0.out.mod hm3 id)
    clear hm3
    go_wp2
    go_ret
    exact ⟨by rw [if_pos (by have := HS.out; omega)]; rfl, HM3.out⟩
  go_enter Tryz.func20, Tryz.ntmps20
  have l1 : ¬ left - (c1 : Int) < 0 := by omega
  have l2 : ¬ left - (c1 : Int) - (c2 : Int) < 0 := by omega
  go_wp2_with fail
  refine (szByteS_s (H3.out.step HM0.out) (left - (c1 : Int) - (c2 : Int)) (by omega) (by omega)).mono ?_
  rintro e w3 ⟨rfl, hm3⟩
  rw [← HC3.out, if_neg (by omega)]
  have HM3 := Sec.mk (HM0.out.transN hm3)
  have HB4 := Sec.mk (HB0.out.mod hm3 id)
  clear hm3
  have l3 : ¬ left - (c1 : Int) - (c2 : Int) - (c3 : Int) < 0 := by omega
  go_wp2
  go_ret
  exact ⟨by rw [if_neg (by have := HS.out; omega)]; have := HS.out; simp; omega, HM3.out⟩


set_option maxHeartbeats 1000000 in
set_option maxRecDepth 100000 in
theorem toOp_v {w : World} {v : Value} {x : OpT} (h : RdV true dOp w v x) (hs : szOp x ≤ 1048576) : Calls Tryz.prog 27 #[v] w (RetV true dOp w x) := by
  obtain ⟨v3, rfl, k3⟩ := rdOp h
  have HG := Sec.mk (okOp h)
  have hsz : (x.2.1.length) + (x.2.2.1.length) + (szBS x.2.2.2) ≤ 1048576 := hs
  have HX := Sec.mk (((Blk.new w 54 [.int .i64 x.1, .string ⟨(x.2.1).toArray⟩, .string ⟨(x.2.2.1).toArray⟩, v3]).alloc (.cells #[.int .i64 0, .string ⟨#[]⟩, .string ⟨#[]⟩, .slice none 0 0] 57)).alloc (.cells #[.int .i64 x.1, .string ⟨(x.2.1).toArray⟩, .string ⟨(x.2.2.1).toArray⟩, .slice none 0 0] 57))
  have HR := Sec.mk ((Blk.new (w.alloc (.cells #[.int .i64 x.1, .string ⟨(x.2.1).toArray⟩, .string ⟨(x.2.2.1).toArray⟩, v3] 54)) 57 [.int .i64 0, .string ⟨#[]⟩, .string ⟨#[]⟩, .slice none 0 0]).alloc (.cells #[.int .i64 x.1, .string ⟨(x.2.1).toArray⟩, .string ⟨(x.2.2.1).toArray⟩, .slice none 0 0] 57))
  have HO := Sec.mk (Blk.new ((w.alloc (.cells #[.int .i64 x.1, .string ⟨(x.2.1).toArray⟩, .string ⟨(x.2.2.1).toArray⟩, v3] 54)).alloc (.cells #[.int .i64 0, .string ⟨#[]⟩, .string ⟨#[]⟩, .slice none 0 0] 57)) 57 [.int .i64 x.1, .string ⟨(x.2.1).toArray⟩, .string ⟨(x.2.2.1).toArray⟩, .slice none 0 0])
  rw [show (w.alloc (.cells #[.int .i64 x.1, .string ⟨(x.2.1).toArray⟩, .string ⟨(x.2.2.1).toArray⟩, v3] 54)).heap.size = w.heap.size + 1 by simp] at HR
  rw [show ((w.alloc (.cells #[.int .i64 x.1, .string ⟨(x.2.1).toArray⟩, .string ⟨(x.2.2.1).toArray⟩, v3] 54)).alloc (.cells #[.int .i64 0, .string ⟨#[]⟩, .string ⟨#[]⟩, .slice none 0 0] 57)).heap.size = w.heap.size + 2 by simp] at HO
  have HM := Sec.mk ((((Mod.refl (fun _ => False) w).alloc (.cells #[.int .i64 x.1, .string ⟨(x.2.1).toArray⟩, .string ⟨(x.2.2.1).toArray⟩, v3] 54)).alloc (.cells #[.int .i64 0, .string ⟨#[]⟩, .string ⟨#[]⟩, .slice none 0 0] 57)).alloc (.cells #[.int .i64 x.1, .string ⟨(x.2.1).toArray⟩, .string ⟨(x.2.2.1).toArray⟩, .slice none 0 0] 57))
  have H3 := Sec.mk k3
  clear h k3
  go_enter Tryz.func27, Tryz.ntmps27
  go_wp2_with fail
  refine (toByteS_v (H3.out.step HM.out) (by omega)).mono ?_
  rintro e w3 ⟨y3, rfl, ho3, hm3⟩
  have HM3 := Sec.mk (HM.out.transN hm3)
  have hs3 := hm3.size
  simp [World.setCell] at hs3
  have HX3 := Sec.mk (HX.out.mod hm3 id)
  have HR3 := Sec.mk (HR.out.mod hm3 id)
  have HO3' := Sec.mk (HO.out.mod hm3 id)
  have hO3 : w3.cell? ⟨w.heap.size + 2, 3, none⟩ = some (.slice none 0 0) := HO3'.out.cell 3
  have hF3 : w3.frozen? ⟨w.heap.size + 2, 3, none⟩ = false := HO3'.out.frozen 3
  obtain ⟨aY3, qY3, rfl⟩ := owSl_form ho3
  have HO3 := Sec.mk (HO3'.out.set_ 3 (.slice aY3 x.2.2.2.length qY3))
  simp only [List.set_cons_zero, List.set_cons_succ] at HO3
  have HX3' := Sec.mk (HX3.out.far (p := ⟨w.heap.size + 2, 3, none⟩) (by simp; try omega) (.slice aY3 x.2.2.2.length qY3))
  have HR3' := Sec.mk (HR3.out.far (p := ⟨w.heap.size + 2, 3, none⟩) (by simp; try omega) (.slice aY3 x.2.2.2.length qY3))
  have HM3' := Sec.mk (HM3.out.setCell (p := ⟨w.heap.size + 2, 3, none⟩) (fun h => absurd h (by simp; try omega)) (.slice aY3 x.2.2.2.length qY3))
  have hMo3 := ((Mod.refl (fun k => k = w.heap.size + 2) w3).setCell (p := ⟨w.heap.size + 2, 3, none⟩) (fun _ => rfl) (.slice aY3 x.2.2.2.length qY3))
  have HW3_3 := Sec.mk (ho3.keep hMo3 (fun k h1 h2 h3 => by simp at h1; omega))
  clear ho3 hm3 hMo3
  have tO0 := HO3.out.cell 0
  have tR0 := HR3'.out.cell 0
  have tF0 := HR3'.out.frozen 0
  have tO1 := HO3.out.cell 1
  have tR1 := HR3'.out.cell 1
  have tF1 := HR3'.out.frozen 1
  have tO2 := HO3.out.cell 2
  have tR2 := HR3'.out.cell 2
  have tF2 := HR3'.out.frozen 2
  have tO3 := HO3.out.cell 3
  have tR3 := HR3'.out.cell 3
  have tF3 := HR3'.out.frozen 3
  simp only [List.getElem?_cons_zero, List.getElem?_cons_succ] at tO0 tR0 tO1 tR1 tO2 tR2 tO3 tR3
  skip
  go_wp2
  refine bodyPost_ret (results_blk rfl rfl ((((HR3'.out.set_ 0 (.int .i64 x.1)).set_ 1 (.string ⟨(x.2.1).toArray⟩)).set_ 2 (.string ⟨(x.2.2.1).toArray⟩)).set_ 3 (.slice aY3 x.2.2.2.length qY3)) Tryz.underlying57 (by kernel_rfl)) rfl ?_
  have hMr := (((((Mod.refl (fun k => k = w.heap.size + 1) (w3.setCell ⟨w.heap.size + 2, 3, none⟩ (.slice aY3 x.2.2.2.length qY3))).setCell (p := ⟨w.heap.size + 1, 0, none⟩) (fun _ => rfl) (.int .i64 x.1)).setCell (p := ⟨w.heap.size + 1, 1, none⟩) (fun _ => rfl) (.string ⟨(x.2.1).toArray⟩)).setCell (p := ⟨w.heap.size + 1, 2, none⟩) (fun _ => rfl) (.string ⟨(x.2.2.1).toArray⟩)).setCell (p := ⟨w.heap.size + 1, 3, none⟩) (fun _ => rfl) (.slice aY3 x.2.2.2.length qY3))
  have z3 := HW3_3.out.keep hMr (fun k h1 h2 h3 => by simp at h1; omega)
  obtain ⟨_, _, F3, _, f3, r3⟩ := OwV.slice z3
  refine ⟨_, rfl, ⟨_, _, rfl, mOp (HG.out.1) (HG.out.2.1) (HG.out.2.2) f3, ?_⟩, ((((HM3'.out.setCell (fun h => absurd h (by simp; try omega)) _).setCell (fun h => absurd h (by simp; try omega)) _).setCell (fun h => absurd h (by simp; try omega)) _).setCell (fun h => absurd h (by simp; try omega)) _)⟩
  · intro k hk; (try simp only [List.mem_append, List.mem_nil_iff, or_false, false_or] at hk); have := r3 k hk; simp at this ⊢; omega

def szOpS (xs : OpST) : Nat := xs.length + preS szOp xs xs.length
theorem szOpS_mem {xs : OpST} {x : OpT} (h : x ∈ xs) : szOp x ≤ szOpS xs := by
  obtain ⟨j, hj, rfl⟩ := List.getElem_of_mem h
  have h1 := preS_succ szOp xs hj
  have h2 := preS_le szOp xs (j + 1)
  unfold szOpS; omega

set_option maxHeartbeats 1000000 in
set_option maxRecDepth 100000 in
theorem szOpS_s {w : World} {v : Value} {xs : OpST} (h : RdV false dOpS w v xs) (left : Int) (h0 : 0 ≤ left) (h1 : left ≤ 1048576) : Calls Tryz.prog 5 #[v, .int .i64 left] w (SzR w left (szOpS xs)) := by
  obtain ⟨A, c, rfl, -, hr⟩ := h.slice
  have hl := hr.2.1
  have HR := Sec.mk hr
  have HS : Sec (szOpS xs = xs.length + preS szOp xs xs.length) := ⟨rfl⟩
  clear h hr
  generalize hs : szOpS xs = S at *
  clear hs
  by_cases hlt : left < xs.length
  · have hlt0 : left - (xs.length : Int) < 0 := by omega
    go_enter Tryz.func5, Tryz.ntmps5
    go_wp2
    go_ret
    exact ⟨by rw [if_pos (by have := HS.out; omega)]; rfl, Mod.refl _ _⟩
  have hlt0 : ¬ left - (xs.length : Int) < 0 := by omega
  go_enter Tryz.func5, Tryz.ntmps5
  go_wp2
  go_loopw [1, 5] (fun q i wr => ∃ (k : Nat), k ≤ xs.length ∧ i = .int .i64 k ∧ q = .int .i64 (left - xs.length - (preS szOp xs k : Nat)) ∧ (preS szOp xs k : Int) ≤ left - xs.length ∧ Sec (New w wr)) (fun _ i _ => xs.length - (intOf i).toNat)
  case atStart => exact ⟨0, Nat.zero_le _, rfl, by rw [preS_zero]; simp, by rw [preS_zero]; omega, ⟨Mod.refl _ _⟩⟩
  case round =>
    obtain ⟨k, hk, rfl, rfl, hle, HM⟩ := hrel
    by_cases hkl : k < xs.length
    · obtain ⟨ad, cs, rfl, hx⟩ := HR.out.elemc hkl
      obtain ⟨hx2, hc0, hcs⟩ := hx wr (fun i hi => HM.out.block i hi id) (fun i hi => Nat.lt_of_lt_of_le hi HM.out.size)
      obtain ⟨z3, hv, -⟩ := rdOp hx2
      have hcc : cs = [.int .i64 xs[k].1, .string ⟨(xs[k].2.1).toArray⟩, .string ⟨(xs[k].2.2.1).toArray⟩, z3] := by injection hv with hv; simpa using hv
      subst hcc
      have e0 := hc0 _ rfl
      have e1 := hcs 0 _ rfl
      have e2 := hcs 1 _ rfl
      have e3 := hcs 2 _ rfl
      simp only [show dOp.sz = 4 from rfl] at e0 e1 e2 e3
      have HX2 := Sec.mk hx2
      clear hx hx2 hc0 hcs hv
      have HP := Sec.mk (preS_succ szOp xs hkl)
      have HPL := Sec.mk (preS_le szOp xs (k + 1))
      have HSX : Sec (∃ t, t = szOp xs[k]) := ⟨⟨_, rfl⟩⟩
      obtain ⟨t, ht⟩ := HSX.out
      rw [← ht] at HP
      have HT := Sec.mk ht
      clear ht HSX
      generalize preS szOp xs k = s at *
      have hki : (k : Int) < (xs.length : Int) := by omega
      by_cases hs : left - xs.length - s < t
      · go_wp2_with fail
        refine (szOp_v HX2.out (left - xs.length - s) (by omega) (by omega)).mono ?_
        rintro e w1 ⟨rfl, hm1⟩
        rw [← HT.out, if_pos hs]
        have HM1 := Sec.mk (HM.out.transN hm1)
        clear hm1
        go_wp2
        go_ret
        exact ⟨by rw [if_pos (by have := HS.out; have := HP.out; have := HPL.out; omega)]; rfl, HM1.out⟩
      · go_wp2_with fail
        refine (szOp_v HX2.out (left - xs.length - s) (by omega) (by omega)).mono ?_
        rintro e w1 ⟨rfl, hm1⟩
        rw [← HT.out, if_neg (by omega)]
        have HM1 := Sec.mk (HM.out.transN hm1)
        have hs0 : ¬ left - (xs.length : Int) - (s : Int) - (t : Int) < 0 := by omega
        clear hm1
        go_wp2
        go_roundw
        case rel => exact ⟨k + 1, by omega, by go_num, by rw [HP.out]; congr 1; omega, by rw [HP.out]; omega, HM1⟩
        case measure => simp [intOf]; omega
    · obtain rfl : k = xs.length := by omega
      generalize preS szOp xs xs.length = s at *
      go_wp2
      go_ret
      exact ⟨by rw [if_neg (by have := HS.out; omega)]; have := HS.out; simp; omega, HM.out⟩


set_option maxHeartbeats 1000000 in
set_option maxRecDepth 100000 in
theorem toOpS_v {w : World} {v : Value} {xs : OpST} (h : RdV false dOpS w v xs) (hs : szOpS xs ≤ 1048576) : Calls Tryz.prog 8 #[v] w (RetV false dOpS w xs) := by
  obtain ⟨A, c, rfl, -, hr⟩ := h.slice
  have hl := hr.2.1
  have HR := Sec.mk hr
  have hlen : xs.length ≤ 1048576 := by unfold szOpS at hs; omega
  have HEL := Sec.mk (fun x (hx : x ∈ xs) => Nat.le_trans (szOpS_mem hx) hs)
  clear h hr hs
  refine Calls.mono (R := RetOwn dOp 57 w xs) ?_ (fun _ _ h => h.toV)
  go_enter Tryz.func8, Tryz.ntmps8
  go_wp2_with (refine wpList_make _ rfl (.tmp 6) _ rfl dOp 57 Tryz.underlying39 eltOp zOp (fun _ => zmOp _) xs.length rfl (by omega) ?_; intro w1 ho1 hm1; have HO1 := Sec.mk ho1; have HM1 := Sec.mk hm1; clear ho1 hm1)
  go_loopw [4] (fun i wr => ∃ (k : Nat) (ys : OpST) (F : List Nat), k ≤ xs.length ∧ i = .int .i64 k ∧ Sec (ys.length = xs.length) ∧ Sec (ys.take k = xs.take k) ∧ Sec (Own dOp 57 wr F (.slice (some ⟨w.heap.size, 0, none⟩) xs.length xs.length) ys) ∧ Sec (∀ k, k ∈ F → w.heap.size ≤ k) ∧ Sec (New w wr)) (fun i _ => xs.length - (intOf i).toNat)
  case atStart => exact ⟨0, _, _, Nat.zero_le _, rfl, Sec.mk (by simp), Sec.mk (by simp), HO1, Sec.mk (by simp), HM1⟩
  case round =>
    obtain ⟨k, ys, F, hk, rfl, HL, HT, HO, HF, HM⟩ := hrel
    clear HO1 HM1
    by_cases hlt : k < xs.length
    · obtain ⟨ad, cs, rfl, hx⟩ := HR.out.elemc hlt
      obtain ⟨hx2, hc0, hcs⟩ := hx wr (fun i hi => HM.out.block i hi id) (fun i hi => Nat.lt_of_lt_of_le hi HM.out.size)
      obtain ⟨z3, hv, -⟩ := rdOp hx2
      have hcc : cs = [.int .i64 xs[k].1, .string ⟨(xs[k].2.1).toArray⟩, .string ⟨(xs[k].2.2.1).toArray⟩, z3] := by injection hv with hv; simpa using hv
      subst hcc
      have e0 := hc0 _ rfl
      have e1 := hcs 0 _ rfl
      have e2 := hcs 1 _ rfl
      have e3 := hcs 2 _ rfl
      simp only [show dOp.sz = 4 from rfl] at e0 e1 e2 e3
      have HX2 := Sec.mk hx2
      clear hx hx2 hc0 hcs hv
      have HE := Sec.mk (HEL.out xs[k] (List.getElem_mem _))
      have HPX : Sec (∃ q : OpT, q = xs[k]) := ⟨⟨_, rfl⟩⟩
      obtain ⟨q, hq⟩ := HPX.out
      rw [← hq] at HX2 HE e0 e1 e2
      have HQ := Sec.mk hq
      clear hq HPX
      have hki : (k : Int) < (xs.length : Int) := by omega
      go_wp2_with fail
      refine (toOp_v HX2.out HE.out).mono ?_
      rintro e w2 ⟨v2, rfl, ⟨cs2, F2, hv2, hM2, hF2⟩, hm2⟩
      have hM2' := hM2
      obtain ⟨a3, b3, hcs2⟩ := cellsOp_M hM2'
      have hv3 : v2 = .agg #[.int .i64 q.1, .string ⟨(q.2.1).toArray⟩, .string ⟨(q.2.2.1).toArray⟩, .slice a3 q.2.2.2.length b3] := by rw [hv2, hcs2]; rfl
      subst hcs2
      clear hv2
      subst hv3
      have HM2 := Sec.mk (HM.out.transN hm2)
      have HLT := Sec.mk HO.out.lt
      obtain ⟨g, f, hA, hgF, hgf, hff, hcell, hfz, hst⟩ := (HO.out.new hm2).put (j := k) (by rw [HL.out]; exact hlt)
      have hA' : w.heap.size = g := by injection hA with hA; injection hA
      subst hA'
      obtain ⟨o0, hc0⟩ := hcell 0 (by decide)
      have hf0 := hfz (k * 4)
      obtain ⟨o1, hc1⟩ := hcell 1 (by decide)
      have hf1 := hfz (k * 4 + 1)
      obtain ⟨o2, hc2⟩ := hcell 2 (by decide)
      have hf2 := hfz (k * 4 + 2)
      obtain ⟨o3, hc3⟩ := hcell 3 (by decide)
      have hf3 := hfz (k * 4 + 3)
      simp only [show dOp.sz = 4 from rfl, Nat.add_zero] at hc0 hc1 hc2 hc3 hst
      have hs2 := hm2.size
      obtain ⟨F', ho', hg', hF'⟩ := hst [.int .i64 q.1, .string ⟨(q.2.1).toArray⟩, .string ⟨(q.2.2.1).toArray⟩, .slice a3 q.2.2.2.length b3] q F2 (dOp.M_mod hM2 fun i hi => putRow_far _ _ _ _ (fun e => by have := hF2 i hi; have := HLT.out _ hgF; omega)) (fun i hi => .inr fun hiF => absurd (HLT.out i hiF) (by have := hF2 i hi; omega))
      have HO' := Sec.mk ho'
      have HF' : Sec (∀ i, i ∈ F' → w.heap.size ≤ i) := ⟨fun i hi => (hF' i hi).elim (HF.out i) (fun h => by have := hF2 i h; have := HM.out.size; omega)⟩
      clear hA hgF hgf hff hcell hfz hst ho' hg' hF' hm2 hM2 hF2 HLT
      go_wp2
      go_roundw
      case rel => exact ⟨k + 1, _, F', by omega, by go_num, ⟨(set_len ys k q).trans HL.out⟩, ⟨by rw [HQ.out]; exact set_prefix xs ys k hlt HL.out HT.out⟩, HO', HF', ⟨putRow_mod (fun h => absurd h (Nat.lt_irrefl _)) [.int .i64 q.1, .string ⟨(q.2.1).toArray⟩, .string ⟨(q.2.2.1).toArray⟩, .slice a3 q.2.2.2.length b3] _ 0 HM2.out⟩⟩
      case measure => simp [intOf]; omega
    · go_wp2
      go_ret
      have he : ys = xs := by
        have h1 := HT.out
        rw [List.take_of_length_le (by rw [HL.out]; omega), List.take_of_length_le (by omega)] at h1
        exact h1
      subst he
      exact RetOwn.of HO.out HF.out HM.out

end Go.Proofs.YtkkgighgnbbgiaaGreatDoor

namespace Go.Proofs.YtkkgighgnbbgiaaGreatDoor
open Go.RowKit Mem
set_option linter.unusedVariables false
set_option linter.unusedSimpArgs false
set_option synthInstance.maxSize 4000
theorem szOpS_v {w : World} {v : Value} {xs : OpST} (h : RdV false dOpS w v xs) (left : Int) (h0 : 0 ≤ left) (h1 : left ≤ 1048576) : Calls Tryz.prog 5 #[v, .int .i64 left] w (SzR w left (szOpS xs)) := szOpS_s h left h0 h1
theorem cntOpS_lt {xs : OpST} (h : szOpS xs ≤ 1048576) : cntOpS xs ≤ 4194304 := by
  have := preS_bound cntOp szOp 3 (fun x => by unfold cntOp szOp cntBS szBS; omega) xs xs.length
  unfold szOpS at h
  unfold cntOpS
  omega
theorem data_le {xs : OpST} (h : szOpS xs ≤ 1048576) : ∀ o, o ∈ xs → o.2.2.2.length ≤ 1048576 := fun o ho => by
  have h1 := szOpS_mem ho
  unfold szOp szBS at h1
  omega
theorem kept_one {N : Nat} {d : DiskL} (hI : DInv N d) (hk : d.2.2.1.length ≤ N) (o : OpL) : (oneL d o).1.2.2.1.length ≤ N + 1 := by
  have hn := hI.names
  have hs : (settleL d).2.2.1.length ≤ N + 1 := by
    show (crashEs d.2.1).length ≤ N + 1
    rw [crashEs_len]; omega
  unfold oneL
  repeat' split
  all_goals first
    | exact hs
    | (show d.2.2.1.length ≤ N + 1; omega)
theorem doL_inv (ops : List OpL) : ∀ (d : DiskL) (n N : Nat), DInv N d → d.2.2.1.length ≤ N → DInv (N + ops.length) (doL d ops n).1 ∧ (doL d ops n).1.2.2.1.length ≤ N + ops.length ∧ 0 ≤ (doL d ops n).2.1 ∧ (doL d ops n).2.1 ≤ (n : Int) + (ops.length : Int) ∧ 0 ≤ (doL d ops n).2.2 ∧ (doL d ops n).2.2 ≤ 6 := by
  induction ops with
  | nil => intro d n N hI hk; exact ⟨hI, hk, by simp [doL], by simp [doL], by simp [doL], by simp [doL]⟩
  | cons o r ih =>
    intro d n N hI hk
    have hl : (o :: r).length = r.length + 1 := rfl
    by_cases h0 : (oneL d o).2 = 0
    · have e : doL d (o :: r) n = doL (oneL d o).1 r (n + 1) := by show (if _ then _ else _) = _; rw [if_pos h0]
      obtain ⟨h1, h2, h3, h4, h5, h6⟩ := ih (oneL d o).1 (n + 1) (N + 1) (hI.one o h0) (kept_one hI hk o)
      rw [e, hl]
      exact ⟨h1.mono (by omega), by omega, h3, by omega, h5, h6⟩
    · have e : doL d (o :: r) n = (d, ((n : Int), (oneL d o).2)) := by show (if _ then _ else _) = _; rw [if_neg h0]
      rw [e]
      have hc := oneL_code d o
      exact ⟨hI.mono (by omega), by show d.2.2.1.length ≤ _; omega, by show (0 : Int) ≤ (n : Int); omega, by show (n : Int) ≤ _; omega, by show (0 : Int) ≤ (oneL d o).2; omega, by show (oneL d o).2 ≤ 6; omega⟩
def DiskDoL (d : DiskT) (ops : OpST) : DoneT := diskDoL d ops
theorem diskDoL_inv (d : DiskT) (ops : OpST) : DInv 2300 (diskDoL d ops).1 ∧ (diskDoL d ops).1.2.2.1.length ≤ 2300 ∧ 0 ≤ (diskDoL d ops).2.1 ∧ (diskDoL d ops).2.1 ≤ 2000 ∧ 0 ≤ (diskDoL d ops).2.2 ∧ (diskDoL d ops).2.2 ≤ 6 := by
  unfold diskDoL
  split
  · rename_i h
    have hk3 := ((inOrdL_iff d.2.2.1 d.1.length).1 ((DiskValidL_iff d).1 h.2).2.2.2.2.2.2.2.1).1
    obtain ⟨h1, h2, h3, h4, h5, h6⟩ := doL_inv ops d 0 300 (DInv.of_valid h.2) hk3
    exact ⟨h1.mono (by omega), by omega, h3, by omega, h5, h6⟩
  · refine ⟨⟨by simp, by simp, by simp, fun n hn => (by cases hn), List.Pairwise.nil, fun e he => (by cases he), by simp⟩, by simp, by simp, by simp, by simp, by simp⟩
theorem i64_small {n : Int} (h0 : 0 ≤ n) (h1 : n ≤ 1000000) : IntKind.i64.wrap n = n := by rw [IntKind.wrap_i64]; omega
theorem RetDone.toV {w w' : World} {d : DiskT} {ops : OpST} {e : Ending} (h : RetDone w (diskDoL d ops) e w') : RetV true dDone w (DiskDoL d ops) e w' := by
  obtain ⟨v0, v1, v2, v3, rfl, ho, hm⟩ := h
  obtain ⟨-, -, h3, h4, h5, h6⟩ := diskDoL_inv d ops
  exact ⟨_, rfl, ofDone (x := DiskDoL d ops) (ho.disk (fun k h => h)) (i64_small h3 (show (diskDoL d ops).2.1 ≤ 1000000 by omega)) (i64_small h5 (show (diskDoL d ops).2.2 ≤ 1000000 by omega)), hm⟩
def ErrsAt (w : World) : Prop := ∃ ea, ErrEnv w.heap.size w ea
theorem ErrsAt.new {w w' : World} (h : ErrsAt w) (hm : New w w') : ErrsAt w' := by
  obtain ⟨ea, h⟩ := h
  exact ⟨ea, (h.mod (hm.mono (fun i hi h => h.elim))).up hm.size⟩
theorem specDiskDo_v {w : World} {v vo : Value} {d : DiskT} {ops : OpST} (h : RdV true dDisk w v d) (ho : RdV false dOpS w vo ops) (hb : szDisk d ≤ 1048576) (hb2 : szOpS ops ≤ 1048576) : Calls Tryz.prog 6 #[v, vo] w (RetV true dDone w (DiskDoL d ops)) :=
  (diskDoS_v h ho (data_le hb2)).mono fun e w' h => h.toV
theorem implDiskDo_v {w : World} {v vo : Value} {d : DiskT} {ops : OpST} (h : RdV true dDisk w v d) (ho : RdV false dOpS w vo ops) (hb : szDisk d ≤ 1048576) (hb2 : szOpS ops ≤ 1048576) (hE : ErrsAt w) : Calls Tryz.prog 9 #[v, vo] w (RetV true dDone w (DiskDoL d ops)) := by
  obtain ⟨ea, hE⟩ := hE
  exact (diskDoI_v h ho (data_le hb2) hE).mono fun e w' h => h.toV
theorem cntNodeS_len {ns : NodeST} (h : ∀ n, n ∈ ns → n.1.length ≤ 40000) : cntNodeS ns ≤ 40001 * ns.length := by
  have key : ∀ k, preS cntNode ns k ≤ 40001 * k := by
    intro k
    induction k with
    | zero => simp [preS_zero]
    | succ k ih =>
      by_cases hk : k < ns.length
      · rw [preS_succ _ _ hk]
        have h1 := h _ (List.getElem_mem hk)
        have h2 : cntNode ns[k] ≤ 40001 := by unfold cntNode cntBS; omega
        omega
      · have e1 : preS cntNode ns (k + 1) = preS cntNode ns k := by unfold preS; rw [List.take_of_length_le (by omega), List.take_of_length_le (by omega)]
        rw [e1]; omega
  exact key _
theorem preS_const {α : Type} (f : α → Nat) (m : Nat) (h : ∀ x, f x ≤ m) (xs : List α) : preS f xs xs.length ≤ m * xs.length := by
  have key : ∀ k, k ≤ xs.length → preS f xs k ≤ m * k := by
    intro k
    induction k with
    | zero => intro _; simp [preS_zero]
    | succ k ih =>
      intro hk
      rw [preS_succ _ _ (show k < xs.length by omega), Nat.mul_add]
      have := ih (by omega)
      have := h xs[k]
      omega
  exact key _ (Nat.le_refl _)
theorem DiskDo_cnt (d : DiskT) (ops : OpST) (hb : szDisk d ≤ 1048576) (hb2 : szOpS ops ≤ 1048576) : cntDone (DiskDoL d ops) ≤ 1000000000 := by
  obtain ⟨hI, hk, -⟩ := diskDoL_inv d ops
  show cntDisk (diskDoL d ops).1 ≤ _
  generalize (diskDoL d ops).1 = x at *
  have h0 := cntNodeS_len hI.len
  have hn := hI.nodes
  have hp := hI.pend
  have hm := hI.names
  have h1 : cntEntryS x.2.1 ≤ 2 * x.2.1.length := preS_const cntEntry 2 (fun x => by unfold cntEntry; omega) x.2.1
  have h2 : cntEntryS x.2.2.1 ≤ 2 * x.2.2.1.length := preS_const cntEntry 2 (fun x => by unfold cntEntry; omega) x.2.2.1
  have h3 : cntDirOpS x.2.2.2.1 ≤ 4 * x.2.2.2.1.length := preS_const cntDirOp 4 (fun x => by unfold cntDirOp; omega) x.2.2.2.1
  unfold cntDisk
  omega
end Go.Proofs.YtkkgighgnbbgiaaGreatDoor

namespace Go.Proofs.YtkkgighgnbbgiaaGreatDoor.Mem
open Go.RowKit Go.Deep
theorem Opens.text {P : Program} {t : TypeId} (ht : P.underlying t = some .string) (hc : P.cellsOf t = 1) : Opens P Ty.str t :=
  ⟨hc, Nat.one_pos, fun enc w base spare held fuel cs x h => by
    obtain ⟨n, rfl, _, hn⟩ := DataW.trod_string ht h
    refine ⟨n.data.toList, by simp, ?_⟩
    rw [Array.length_toList]
    exact hn⟩
theorem Opens.sliceAny {α : Type} {P : Program} {t e e' : TypeId} {d : Ty α} (ht : P.underlying t = some (.slice e)) (hc : P.cellsOf t = 1) (hd : Opens P d e) : Opens P (Ty.slice e' d) t :=
  show Opens P (Ty.slice e d) t from Opens.slice ht hc hd
end Go.Proofs.YtkkgighgnbbgiaaGreatDoor.Mem
namespace Go.Proofs.YtkkgighgnbbgiaaGreatDoor
open Mem
theorem opens_intL : Opens Tryz.prog (Ty.int .i64) 3 := Opens.int Tryz.underlying3 (by kernel_rfl)
theorem opens_textL : Opens Tryz.prog Ty.str 9 := Opens.text Tryz.underlying9 (by kernel_rfl)
theorem opens_bytesL : Opens Tryz.prog dBS 52 := Opens.sliceAny Tryz.underlying52 (by kernel_rfl) opens_byte
theorem opens_nodeL : Opens Tryz.prog dNode 81 := Opens.struct (fs := [_, _]) Tryz.underlying81 (by kernel_rfl) (OpensF.cons rfl opens_bytesL (OpensF.last rfl opens_intL))
theorem opens_entryL : Opens Tryz.prog dEntry 84 := Opens.struct (fs := [_, _]) Tryz.underlying84 (by kernel_rfl) (OpensF.cons rfl opens_textL (OpensF.last rfl opens_intL))
theorem opens_dopL : Opens Tryz.prog dDirOp 87 := Opens.struct (fs := [_, _, _, _]) Tryz.underlying87 (by kernel_rfl) (OpensF.cons rfl opens_intL (OpensF.cons rfl opens_textL (OpensF.cons rfl opens_textL (OpensF.last rfl opens_intL))))
theorem opens_nodesL : Opens Tryz.prog dNodeS 22 := Opens.sliceAny Tryz.underlying22 (by kernel_rfl) opens_nodeL
theorem opens_entriesL : Opens Tryz.prog dEntryS 23 := Opens.sliceAny Tryz.underlying23 (by kernel_rfl) opens_entryL
theorem opens_dopsL : Opens Tryz.prog dDirOpS 24 := Opens.sliceAny Tryz.underlying24 (by kernel_rfl) opens_dopL
theorem opens_diskL : Opens Tryz.prog dDisk 26 := Opens.struct (fs := [_, _, _, _, _]) Tryz.underlying26 (by kernel_rfl) (OpensF.cons rfl opens_nodesL (OpensF.cons rfl opens_entriesL (OpensF.cons rfl opens_entriesL (OpensF.cons rfl opens_dopsL (OpensF.last rfl opens_intL)))))
end Go.Proofs.YtkkgighgnbbgiaaGreatDoor
