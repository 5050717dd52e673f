/- Two operations that are ready at once. The specification's copy of a disk. The specification's change of names. One operation on a disk, of the specification. -/
import Derived.Test.YtkkgighgnbbgiaaGreatDoorPk6
import Derived.Test.YtkkgighgnbbgiaaGreatDoorPk9
import Derived.Deep.DeepCutAuto
import Derived.Deep.Cut
import Derived.Test.YtkkgighgnbbgiaaGreatDoorPk4
import Derived.Test.YtkkgighgnbbgiaaGreatDoorPk8
namespace Go.Proofs.YtkkgighgnbbgiaaGreatDoor.Mem
open Go.RowKit
set_option linter.unusedVariables false
section
variable {P : Program} {md : Region.Mode} {ops : Array Oper} {T : World → Prop} {L : List Nat} {Q : Exit → Act → World → Prop} {o : Oper} {a : Act} {w : World} {v : Value}
theorem reg_step2 {i j : Nat} {d d' : Option Nat} {op op' : Op} {ty ty' : TypeId} {pos pos' : String} {af af' : Array Edge} {fuel : Nat} {ls : Array Bool} (hi : ops[i]? = some ⟨d, op, ty, pos, af, none⟩) (hj : ops[j]? = some ⟨d', op', ty', pos', af', none⟩) (hr : Region.ready md ops ls = [i, j])
    (h1 : ∀ K : Act → World → Prop, Shut (∀ a w, (i ∉ L → T w) → RegR P md ops Q L T fuel (ls.setIfInBounds i true) a w → K a w) → Oper.wp P ⟨d, op, ty, pos, af, none⟩ a w K Q)
    (h2 : ∀ K : Act → World → Prop, Shut (∀ a w, (j ∉ L → T w) → RegR P md ops Q L T fuel (ls.setIfInBounds j true) a w → K a w) → Oper.wp P ⟨d', op', ty', pos', af', none⟩ a w K Q) : RegR P md ops Q L T (fuel + 1) ls a w := by
  refine ⟨fun h0 => absurd (hr.symm.trans h0) (by simp), ?_⟩
  rw [hr]
  intro x hx
  rcases List.mem_cons.1 hx with rfl | hx
  · refine wpOp_step hi fun K' hK => ?_
    rw [if_pos (by simp [Region.wanted])]
    exact h1 K' fun a w h1 h2 => hK a w ⟨h1, h2⟩
  · obtain rfl := List.mem_singleton.1 hx
    refine wpOp_step hj fun K' hK => ?_
    rw [if_pos (by simp [Region.wanted])]
    exact h2 K' fun a w h1 h2 => hK a w ⟨h1, h2⟩
end
end Go.Proofs.YtkkgighgnbbgiaaGreatDoor.Mem

namespace Go.Proofs.YtkkgighgnbbgiaaGreatDoor
open Go.RowKit Mem
set_option linter.unusedVariables false
set_option linter.unusedSimpArgs false
abbrev zDisk : List Value := [.slice none 0 0, .slice none 0 0, .slice none 0 0, .slice none 0 0, .int .i64 0]
theorem exec_allocDisk {o : Oper} {a : Act} {w : World} (ho : o.op = .alloc 34) : (execOp a.eval o).run Tryz.prog w = .ok (.value (.pointer (some ⟨w.heap.size, 0, none⟩))) (w.alloc (.cells zDisk.toArray 34)) := by
  unfold execOp
  rw [ho]
  go_simp
theorem bldCopy (A1 A2 : Option Addr) (n1 c1 n2 c2 : Nat) (q : Int) (w : World) : (Instr.build 34 #[(4, .int .i64 q), (1, .slice A1 n1 c1), (2, .slice A2 n2 c2)]).run Tryz.prog w = .ok (.agg #[.slice none 0 0, .slice A1 n1 c1, .slice A2 n2 c2, .slice none 0 0, .int .i64 q]) w := by go_simp
theorem stDisk {w : World} {g : Nat} {a0 a1 a2 a3 a4 : Value} (h : Blk w g 34 [a0, a1, a2, a3, a4]) (A0 A1 A2 A3 : Option Addr) (n0 c0 n1 c1 n2 c2 n3 c3 : Nat) (q : Int) :
    (Instr.storeAt 34 (.pointer (some ⟨g, 0, none⟩)) (.agg #[.slice A0 n0 c0, .slice A1 n1 c1, .slice A2 n2 c2, .slice A3 n3 c3, .int .i64 q])).run Tryz.prog w = .ok () (((((w.setCell ⟨g, 0, none⟩ (.slice A0 n0 c0)).setCell ⟨g, 1, none⟩ (.slice A1 n1 c1)).setCell ⟨g, 2, none⟩ (.slice A2 n2 c2)).setCell ⟨g, 3, none⟩ (.slice A3 n3 c3)).setCell ⟨g, 4, none⟩ (.int .i64 q)) := by
  have q0 : w.cell? ⟨g, 0, none⟩ = some a0 := h.cell 0
  have q1 : w.cell? ⟨g, 1, none⟩ = some a1 := h.cell 1
  have q2 : w.cell? ⟨g, 2, none⟩ = some a2 := h.cell 2
  have q3 : w.cell? ⟨g, 3, none⟩ = some a3 := h.cell 3
  have q4 : w.cell? ⟨g, 4, none⟩ = some a4 := h.cell 4
  have f0 : w.frozen? ⟨g, 0, none⟩ = false := h.frozen 0
  have f1 : w.frozen? ⟨g, 1, none⟩ = false := h.frozen 1
  have f2 : w.frozen? ⟨g, 2, none⟩ = false := h.frozen 2
  have f3 : w.frozen? ⟨g, 3, none⟩ = false := h.frozen 3
  have f4 : w.frozen? ⟨g, 4, none⟩ = false := h.frozen 4
  go_simp
/-- five stores into one block -/
def set5 (w : World) (g : Nat) (a0 a1 a2 a3 a4 : Value) : World := ((((w.setCell ⟨g, 0, none⟩ a0).setCell ⟨g, 1, none⟩ a1).setCell ⟨g, 2, none⟩ a2).setCell ⟨g, 3, none⟩ a3).setCell ⟨g, 4, none⟩ a4
theorem set5_blk {w : World} {g : Nat} {t : TypeId} {b0 b1 b2 b3 b4 : Value} (h : Blk w g t [b0, b1, b2, b3, b4]) (a0 a1 a2 a3 a4 : Value) : Blk (set5 w g a0 a1 a2 a3 a4) g t [a0, a1, a2, a3, a4] := by
  have := ((((h.set_ 0 a0).set_ 1 a1).set_ 2 a2).set_ 3 a3).set_ 4 a4
  simp only [List.set_cons_zero, List.set_cons_succ] at this
  exact this
theorem set5_mod (w : World) (g : Nat) (a0 a1 a2 a3 a4 : Value) : Mod (fun k => k = g) w (set5 w g a0 a1 a2 a3 a4) :=
  (((((Mod.refl (fun k => k = g) w).setCell (p := ⟨g, 0, none⟩) (fun _ => rfl) a0).setCell (p := ⟨g, 1, none⟩) (fun _ => rfl) a1).setCell (p := ⟨g, 2, none⟩) (fun _ => rfl) a2).setCell (p := ⟨g, 3, none⟩) (fun _ => rfl) a3).setCell (p := ⟨g, 4, none⟩) (fun _ => rfl) a4
theorem copyOut {lo g : Nat} {W : World} {B1 B2 : Option Addr} {n1 e1 n2 e2 : Nat} {es ks : EntryST} {q : Int} {a0 a1 a2 a3 a4 : Value} {m : Nat} (h1 : ∃ F, Own dEntry 98 W F (.slice B1 n1 e1) es ∧ ∀ k, k ∈ F → lo ≤ k ∧ k ≠ g ∧ k < m) (h2 : ∃ F, Own dEntry 98 W F (.slice B2 n2 e2) ks ∧ ∀ k, k ∈ F → lo ≤ k ∧ k ≠ g ∧ m ≤ k) (hq : IntKind.i64.wrap q = q) :
    Out4 (fun k => lo ≤ k ∧ k ≠ g) (set5 W g a0 a1 a2 a3 a4) (.slice none 0 0) (.slice B1 n1 e1) (.slice B2 n2 e2) (.slice none 0 0) ([], es, ks, [], q) := by
  obtain ⟨F1, o1, hF1⟩ := h1
  obtain ⟨F2, o2, hF2⟩ := h2
  have hm := set5_mod W g a0 a1 a2 a3 a4
  refine ⟨[], F1, F2, [], Own.nil _ _ _, o1.keep hm (fun k hk e => (hF1 k hk).2.1 e), o2.keep hm (fun k hk e => (hF2 k hk).2.1 e), Own.nil _ _ _, ⟨fun k hk => by simp at hk, fun k hk => ⟨fun h => by have := (hF1 k hk).2.2; have := (hF2 k h).2.2; omega, by simp⟩, fun k hk => by simp⟩, ?_, hq⟩
  rintro k (hk | hk | hk | hk)
  · simp at hk
  · exact ⟨(hF1 k hk).1, (hF1 k hk).2.1⟩
  · exact ⟨(hF2 k hk).1, (hF2 k hk).2.1⟩
  · simp at hk
theorem fptDisk2 (p : Addr) (w : World) : (Instr.fieldAt 34 (.pointer (some p)) 2).run Tryz.prog w = .ok (.pointer (some ⟨p.block, p.off + 2, none⟩)) w := by go_simp
theorem fptDisk3 (p : Addr) (w : World) : (Instr.fieldAt 34 (.pointer (some p)) 3).run Tryz.prog w = .ok (.pointer (some ⟨p.block, p.off + 3, none⟩)) w := by go_simp
theorem fptDisk4 (p : Addr) (w : World) : (Instr.fieldAt 34 (.pointer (some p)) 4).run Tryz.prog w = .ok (.pointer (some ⟨p.block, p.off + 4, none⟩)) w := by go_simp
set_option maxHeartbeats 4000000 in
set_option maxRecDepth 100000 in
theorem l1Copy_v {w : World} {v : Value} {x : DiskT} {N : Nat} (h : RdV true dDisk w v x) (hI : DInv N x) (hN : N ≤ 100000) (hk : x.2.2.1.length ≤ 100000) : Calls Tryz.prog 22 #[v] w (RetD w x) := by
  have HQW := Sec.mk (okDisk h)
  have HNO := Sec.mk hI.len
  have hn1 := hI.names
  have hn0 := hI.nodes
  have hn3 := hI.pend
  clear hI
  obtain ⟨v0, v1, v2, v3, rfl, k0, k1, k2, k3⟩ := rdDisk h
  obtain ⟨A0, c0, rfl, hc0, hr0⟩ := k0.slice
  obtain ⟨A1, c1, rfl, hc1, hr1⟩ := k1.slice
  obtain ⟨A2, c2, rfl, hc2, hr2⟩ := k2.slice
  obtain ⟨A3, c3, rfl, hc3, hr3⟩ := k3.slice
  have HR0 := Sec.mk hr0
  have HR1 := Sec.mk hr1
  have HR2 := Sec.mk hr2
  have HR3 := Sec.mk hr3
  have HBr := Sec.mk ((Blk.new w 34 [.slice A0 x.1.length c0, .slice A1 x.2.1.length c1, .slice A2 x.2.2.1.length c2, .slice A3 x.2.2.2.1.length c3, .int .i64 x.2.2.2.2]).alloc (.cells #[.slice none 0 0, .slice none 0 0, .slice none 0 0, .slice none 0 0, .int .i64 0] 34))
  have HBC := Blk.new (w.alloc (.cells #[.slice A0 x.1.length c0, .slice A1 x.2.1.length c1, .slice A2 x.2.2.1.length c2, .slice A3 x.2.2.2.1.length c3, .int .i64 x.2.2.2.2] 34)) 34 [.slice none 0 0, .slice none 0 0, .slice none 0 0, .slice none 0 0, .int .i64 0]
  have HMr := Sec.mk (((Mod.refl (fun _ => False) w).alloc (.cells #[.slice A0 x.1.length c0, .slice A1 x.2.1.length c1, .slice A2 x.2.2.1.length c2, .slice A3 x.2.2.2.1.length c3, .int .i64 x.2.2.2.2] 34)).alloc (.cells #[.slice none 0 0, .slice none 0 0, .slice none 0 0, .slice none 0 0, .int .i64 0] 34))
  have HCr : Sec (Blk ((w.alloc (.cells #[.slice A0 x.1.length c0, .slice A1 x.2.1.length c1, .slice A2 x.2.2.1.length c2, .slice A3 x.2.2.2.1.length c3, .int .i64 x.2.2.2.2] 34)).alloc (.cells #[.slice none 0 0, .slice none 0 0, .slice none 0 0, .slice none 0 0, .int .i64 0] 34)) (w.heap.size + 1) 34 [.slice none 0 0, .slice none 0 0, .slice none 0 0, .slice none 0 0, .int .i64 0]) := ⟨by simpa using HBC⟩
  clear h k0 k1 k2 k3 hr0 hr1 hr2 hr3 HBC
  go_enter Tryz.func22, Tryz.ntmps22
  go_upto_region 1 with (fail)
  generalize ((w.alloc (.cells #[.slice A0 x.1.length c0, .slice A1 x.2.1.length c1, .slice A2 x.2.2.1.length c2, .slice A3 x.2.2.2.1.length c3, .int .i64 x.2.2.2.2] 34)).alloc (.cells #[.slice none 0 0, .slice none 0 0, .slice none 0 0, .slice none 0 0, .int .i64 0] 34)) = wz at *
  have hwz := HCr.out.lt
  have hwz' := HBr.out.lt
  go_cut [3] (fun p wx => ∃ (g : Nat) (B1 B2 : Option Addr) (e1 e2 : Nat), p = .pointer (some ⟨g, 0, none⟩) ∧ wz.heap.size ≤ g ∧ Sec (Blk wx g 34 [.slice none 0 0, .slice B1 x.2.1.length e1, .slice B2 x.2.2.1.length e2, .slice none 0 0, .int .i64 x.2.2.2.2]) ∧ Sec (Out4 (fun k => wz.heap.size ≤ k ∧ k ≠ g) wx (.slice none 0 0) (.slice B1 x.2.1.length e1) (.slice B2 x.2.2.1.length e2) (.slice none 0 0) ([], x.2.1, x.2.2.1, [], x.2.2.2.2)) ∧ Sec (New wz wx))
  case first =>
    refine reg_start [10] (fun W => Sec (New wz W)) (by kernel_rfl) ?_
    have HSS : Sec (New wz wz.drew) := ⟨(Mod.refl _ _).drew⟩
    refine reg_take (.pointer (some ⟨w.heap.size, 4, none⟩)) (i := 0) (n := 6) HSS rfl (by kernel_rfl) (by kernel_rfl) (by kernel_rfl) (by kernel_rfl) (fun _ _ _ h => h) (fun W hW => exec_field rfl rfl (fptDisk4 _ _)) ?_
    simp only [Act.put, List.setIfInBounds_toArray, List.set_cons_zero, List.set_cons_succ]
    refine reg_take (.int .i64 x.2.2.2.2) (i := 1) (n := 7) HSS rfl (by kernel_rfl) (by kernel_rfl) (by kernel_rfl) (by kernel_rfl) (fun _ _ _ h => h) (fun W hW => exec_load rfl rfl (ldIntD ((HBr.out.mod hW.out id).cell 4))) ?_
    simp only [Act.put, List.setIfInBounds_toArray, List.set_cons_zero, List.set_cons_succ]
    refine reg_take (.pointer (some ⟨w.heap.size, 1, none⟩)) (i := 2) (n := 8) HSS rfl (by kernel_rfl) (by kernel_rfl) (by kernel_rfl) (by kernel_rfl) (fun _ _ _ h => h) (fun W hW => exec_field rfl rfl (fptDisk1 _ _)) ?_
    simp only [Act.put, List.setIfInBounds_toArray, List.set_cons_zero, List.set_cons_succ]
    refine reg_take (.slice A1 x.2.1.length c1) (i := 3) (n := 9) HSS rfl (by kernel_rfl) (by kernel_rfl) (by kernel_rfl) (by kernel_rfl) (fun _ _ _ h => h) (fun W hW => exec_load rfl rfl (ldEntsD ((HBr.out.mod hW.out id).cell 1))) ?_
    simp only [Act.put, List.setIfInBounds_toArray, List.set_cons_zero, List.set_cons_succ]
    refine reg_take (.pointer (some ⟨w.heap.size, 2, none⟩)) (i := 5) (n := 11) HSS rfl (by kernel_rfl) (by kernel_rfl) (by kernel_rfl) (by kernel_rfl) (fun _ _ _ h => h) (fun W hW => exec_field rfl rfl (fptDisk2 _ _)) ?_
    simp only [Act.put, List.setIfInBounds_toArray, List.set_cons_zero, List.set_cons_succ]
    refine reg_take (.slice A2 x.2.2.1.length c2) (i := 6) (n := 12) HSS rfl (by kernel_rfl) (by kernel_rfl) (by kernel_rfl) (by kernel_rfl) (fun _ _ _ h => h) (fun W hW => exec_load rfl rfl (ldEntsD ((HBr.out.mod hW.out id).cell 2))) ?_
    simp only [Act.put, List.setIfInBounds_toArray, List.set_cons_zero, List.set_cons_succ]
    refine reg_step2 (i := 4) (j := 9) rfl rfl (by kernel_rfl) (fun K hK => ?_) (fun K hK => ?_)
    · refine wp_call (n := 10) (vals := [.slice A1 x.2.1.length c1]) rfl rfl rfl (by kernel_rfl) (l1Entries_calls (HR1.out.mod (w' := wz.drew) (fun _ h => h) (fun k hk => (HMr.out.transN HSS.out).block k hk id)) (by omega)) ?_
      intro e w5 hret
      obtain ⟨B1, e1, rfl, hm1⟩ := hret.mine
      have HShm1 := Sec.mk hm1
      have HSS : Sec (New wz w5) := ⟨HSS.out.transN hm1.new⟩
      refine ⟨_, rfl, hK.out _ _ (fun _ => HSS) ?_⟩
      clear hret hm1
      clear hK K
      simp only [Act.put, List.setIfInBounds_toArray, List.set_cons_zero, List.set_cons_succ]
      refine reg_step2 (i := 7) (j := 9) rfl rfl (by kernel_rfl) (fun K hK => ?_) (fun K hK => ?_)
      · refine wp_call (n := 13) (vals := [.slice A2 x.2.2.1.length c2]) rfl rfl rfl (by kernel_rfl) (l1Entries_calls (HR2.out.mod (w' := w5) (fun _ h => h) (fun k hk => (HMr.out.transN HSS.out).block k hk id)) (by omega)) ?_
        intro e w6 hret
        obtain ⟨B2, e2, rfl, hm2⟩ := hret.mine
        have HShm2 := Sec.mk hm2
        have HSS : Sec (New wz w6) := ⟨HSS.out.transN hm2.new⟩
        refine ⟨_, rfl, hK.out _ _ (fun _ => HSS) ?_⟩
        clear hret hm2
        clear hK K
        simp only [Act.put, List.setIfInBounds_toArray, List.set_cons_zero, List.set_cons_succ]
        refine reg_take (.agg #[.slice none 0 0, .slice B1 x.2.1.length e1, .slice B2 x.2.2.1.length e2, .slice none 0 0, .int .i64 x.2.2.2.2]) (i := 8) (n := 14) HSS rfl (by kernel_rfl) (by kernel_rfl) (by kernel_rfl) (by kernel_rfl) (fun _ _ _ h => h) (fun W hW => exec_build (parts := [(4, .tmp 7), (1, .tmp 10), (2, .tmp 13)]) rfl rfl (bldCopy _ _ _ _ _ _ _ _)) ?_
        simp only [Act.put, List.setIfInBounds_toArray, List.set_cons_zero, List.set_cons_succ]
        refine reg_step (i := 9) rfl (by kernel_rfl) (fun K hK => ?_)
        refine wp_valw (n := 3) (v := .pointer (some ⟨w6.heap.size, 0, none⟩)) (w' := w6.alloc (.cells zDisk.toArray 34)) (exec_allocDisk rfl) rfl ?_
        have HSS : Sec (New wz (w6.alloc (.cells zDisk.toArray 34))) := ⟨HSS.out.alloc _⟩
        have HBG := Sec.mk (Blk.new w6 34 zDisk)
        refine hK.out _ _ (fun _ => HSS) ?_
        clear hK K
        simp only [Act.put, List.setIfInBounds_toArray, List.set_cons_zero, List.set_cons_succ]
        refine reg_step (i := 10) rfl (by kernel_rfl) (fun K hK => ?_)
        have HBF := Sec.mk (HBG.out)
        refine wp_store rfl rfl rfl rfl (stDisk HBF.out none B1 B2 none 0 0 x.2.1.length e1 x.2.2.1.length e2 0 0 x.2.2.2.2) (hK.out _ _ (fun h => absurd (List.mem_singleton.2 rfl) h) ?_)
        clear hK K
        refine reg_done (by kernel_rfl) ?_ _
        obtain ⟨⟨F1, p1, hF1⟩, n1⟩ := HShm1.out
        obtain ⟨⟨F2, p2, hF2⟩, n2⟩ := HShm2.out
        have hs1 := n1.size
        have hs2 := n2.size
        have l1 := p1.lt
        have l2 := p2.lt
        have hsz := HSS.out.size
        go_wp2
        go_meet
        refine ⟨w6.heap.size, B1, B2, e1, e2, rfl, by first | omega | (simp at *; omega) | exact Nat.le_refl _, ⟨set5_blk (w := (w6.alloc (.cells zDisk.toArray 34))) HBF.out _ _ _ _ _⟩, ⟨copyOut (W := (w6.alloc (.cells zDisk.toArray 34))) (m := w5.heap.size) ⟨F1, p1.keep (n2.alloc _) (fun _ _ h => h), fun k hk => by have := hF1 k hk; have := l1 k hk; first | omega | (simp at *; omega)⟩ ⟨F2, p2.keep ((Mod.refl (fun _ => False) w6).alloc _) (fun _ _ h => h), fun k hk => by have := hF2 k hk; have := l2 k hk; first | omega | (simp at *; omega)⟩ HQW.out⟩, ⟨?_⟩⟩
        exact HSS.out.trans (set5_mod ((w6.alloc (.cells zDisk.toArray 34))) (w6.heap.size) (.slice none 0 0) (.slice B1 x.2.1.length e1) (.slice B2 x.2.2.1.length e2) (.slice none 0 0) (.int .i64 x.2.2.2.2)) (fun i hi hlt => by first | omega | (simp at *; omega))
      · refine wp_valw (n := 3) (v := .pointer (some ⟨w5.heap.size, 0, none⟩)) (w' := w5.alloc (.cells zDisk.toArray 34)) (exec_allocDisk rfl) rfl ?_
        have HSS : Sec (New wz (w5.alloc (.cells zDisk.toArray 34))) := ⟨HSS.out.alloc _⟩
        have HBG := Sec.mk (Blk.new w5 34 zDisk)
        refine hK.out _ _ (fun _ => HSS) ?_
        clear hK K
        simp only [Act.put, List.setIfInBounds_toArray, List.set_cons_zero, List.set_cons_succ]
        refine reg_step (i := 7) rfl (by kernel_rfl) (fun K hK => ?_)
        refine wp_call (n := 13) (vals := [.slice A2 x.2.2.1.length c2]) rfl rfl rfl (by kernel_rfl) (l1Entries_calls (HR2.out.mod (w' := (w5.alloc (.cells zDisk.toArray 34))) (fun _ h => h) (fun k hk => (HMr.out.transN HSS.out).block k hk id)) (by omega)) ?_
        intro e w6 hret
        obtain ⟨B2, e2, rfl, hm2⟩ := hret.mine
        have HShm2 := Sec.mk hm2
        have HSS : Sec (New wz w6) := ⟨HSS.out.transN hm2.new⟩
        refine ⟨_, rfl, hK.out _ _ (fun _ => HSS) ?_⟩
        clear hret hm2
        clear hK K
        simp only [Act.put, List.setIfInBounds_toArray, List.set_cons_zero, List.set_cons_succ]
        refine reg_take (.agg #[.slice none 0 0, .slice B1 x.2.1.length e1, .slice B2 x.2.2.1.length e2, .slice none 0 0, .int .i64 x.2.2.2.2]) (i := 8) (n := 14) HSS rfl (by kernel_rfl) (by kernel_rfl) (by kernel_rfl) (by kernel_rfl) (fun _ _ _ h => h) (fun W hW => exec_build (parts := [(4, .tmp 7), (1, .tmp 10), (2, .tmp 13)]) rfl rfl (bldCopy _ _ _ _ _ _ _ _)) ?_
        simp only [Act.put, List.setIfInBounds_toArray, List.set_cons_zero, List.set_cons_succ]
        refine reg_step (i := 10) rfl (by kernel_rfl) (fun K hK => ?_)
        have HBF := Sec.mk (HBG.out.mod HShm2.out.new id)
        refine wp_store rfl rfl rfl rfl (stDisk HBF.out none B1 B2 none 0 0 x.2.1.length e1 x.2.2.1.length e2 0 0 x.2.2.2.2) (hK.out _ _ (fun h => absurd (List.mem_singleton.2 rfl) h) ?_)
        clear hK K
        refine reg_done (by kernel_rfl) ?_ _
        obtain ⟨⟨F1, p1, hF1⟩, n1⟩ := HShm1.out
        obtain ⟨⟨F2, p2, hF2⟩, n2⟩ := HShm2.out
        have hs1 := n1.size
        have hs2 := n2.size
        have l1 := p1.lt
        have l2 := p2.lt
        have hsz := HSS.out.size
        go_wp2
        go_meet
        refine ⟨w5.heap.size, B1, B2, e1, e2, rfl, by first | omega | (simp at *; omega) | exact Nat.le_refl _, ⟨set5_blk (w := w6) HBF.out _ _ _ _ _⟩, ⟨copyOut (W := w6) (m := w5.heap.size) ⟨F1, (p1.keep ((Mod.refl (fun _ => False) w5).alloc _) (fun _ _ h => h)).keep n2 (fun _ _ h => h), fun k hk => by have := hF1 k hk; have := l1 k hk; first | omega | (simp at *; omega)⟩ ⟨F2, p2, fun k hk => by have := hF2 k hk; have := l2 k hk; first | omega | (simp at *; omega)⟩ HQW.out⟩, ⟨?_⟩⟩
        exact HSS.out.trans (set5_mod (w6) (w5.heap.size) (.slice none 0 0) (.slice B1 x.2.1.length e1) (.slice B2 x.2.2.1.length e2) (.slice none 0 0) (.int .i64 x.2.2.2.2)) (fun i hi hlt => by first | omega | (simp at *; omega))
    · refine wp_valw (n := 3) (v := .pointer (some ⟨wz.drew.heap.size, 0, none⟩)) (w' := wz.drew.alloc (.cells zDisk.toArray 34)) (exec_allocDisk rfl) rfl ?_
      have HSS : Sec (New wz (wz.drew.alloc (.cells zDisk.toArray 34))) := ⟨HSS.out.alloc _⟩
      have HBG := Sec.mk (Blk.new wz.drew 34 zDisk)
      refine hK.out _ _ (fun _ => HSS) ?_
      clear hK K
      simp only [Act.put, List.setIfInBounds_toArray, List.set_cons_zero, List.set_cons_succ]
      refine reg_step (i := 4) rfl (by kernel_rfl) (fun K hK => ?_)
      refine wp_call (n := 10) (vals := [.slice A1 x.2.1.length c1]) rfl rfl rfl (by kernel_rfl) (l1Entries_calls (HR1.out.mod (w' := (wz.drew.alloc (.cells zDisk.toArray 34))) (fun _ h => h) (fun k hk => (HMr.out.transN HSS.out).block k hk id)) (by omega)) ?_
      intro e w5 hret
      obtain ⟨B1, e1, rfl, hm1⟩ := hret.mine
      have HShm1 := Sec.mk hm1
      have HSS : Sec (New wz w5) := ⟨HSS.out.transN hm1.new⟩
      refine ⟨_, rfl, hK.out _ _ (fun _ => HSS) ?_⟩
      clear hret hm1
      clear hK K
      simp only [Act.put, List.setIfInBounds_toArray, List.set_cons_zero, List.set_cons_succ]
      refine reg_step (i := 7) rfl (by kernel_rfl) (fun K hK => ?_)
      refine wp_call (n := 13) (vals := [.slice A2 x.2.2.1.length c2]) rfl rfl rfl (by kernel_rfl) (l1Entries_calls (HR2.out.mod (w' := w5) (fun _ h => h) (fun k hk => (HMr.out.transN HSS.out).block k hk id)) (by omega)) ?_
      intro e w6 hret
      obtain ⟨B2, e2, rfl, hm2⟩ := hret.mine
      have HShm2 := Sec.mk hm2
      have HSS : Sec (New wz w6) := ⟨HSS.out.transN hm2.new⟩
      refine ⟨_, rfl, hK.out _ _ (fun _ => HSS) ?_⟩
      clear hret hm2
      clear hK K
      simp only [Act.put, List.setIfInBounds_toArray, List.set_cons_zero, List.set_cons_succ]
      refine reg_take (.agg #[.slice none 0 0, .slice B1 x.2.1.length e1, .slice B2 x.2.2.1.length e2, .slice none 0 0, .int .i64 x.2.2.2.2]) (i := 8) (n := 14) HSS rfl (by kernel_rfl) (by kernel_rfl) (by kernel_rfl) (by kernel_rfl) (fun _ _ _ h => h) (fun W hW => exec_build (parts := [(4, .tmp 7), (1, .tmp 10), (2, .tmp 13)]) rfl rfl (bldCopy _ _ _ _ _ _ _ _)) ?_
      simp only [Act.put, List.setIfInBounds_toArray, List.set_cons_zero, List.set_cons_succ]
      refine reg_step (i := 10) rfl (by kernel_rfl) (fun K hK => ?_)
      have HBF := Sec.mk ((HBG.out.mod HShm1.out.new id).mod HShm2.out.new id)
      refine wp_store rfl rfl rfl rfl (stDisk HBF.out none B1 B2 none 0 0 x.2.1.length e1 x.2.2.1.length e2 0 0 x.2.2.2.2) (hK.out _ _ (fun h => absurd (List.mem_singleton.2 rfl) h) ?_)
      clear hK K
      refine reg_done (by kernel_rfl) ?_ _
      obtain ⟨⟨F1, p1, hF1⟩, n1⟩ := HShm1.out
      obtain ⟨⟨F2, p2, hF2⟩, n2⟩ := HShm2.out
      have hs1 := n1.size
      have hs2 := n2.size
      have l1 := p1.lt
      have l2 := p2.lt
      have hsz := HSS.out.size
      go_wp2
      go_meet
      refine ⟨wz.heap.size, B1, B2, e1, e2, rfl, by first | omega | (simp at *; omega) | exact Nat.le_refl _, ⟨set5_blk (w := w6) HBF.out _ _ _ _ _⟩, ⟨copyOut (W := w6) (m := w5.heap.size) ⟨F1, p1.keep n2 (fun _ _ h => h), fun k hk => by have := hF1 k hk; have := l1 k hk; first | omega | (simp at *; omega)⟩ ⟨F2, p2, fun k hk => by have := hF2 k hk; have := l2 k hk; first | omega | (simp at *; omega)⟩ HQW.out⟩, ⟨?_⟩⟩
      exact HSS.out.trans (set5_mod (w6) (wz.heap.size) (.slice none 0 0) (.slice B1 x.2.1.length e1) (.slice B2 x.2.2.1.length e2) (.slice none 0 0) (.int .i64 x.2.2.2.2)) (fun i hi hlt => by first | omega | (simp at *; omega))
  case rest =>
    obtain ⟨g, B1, B2, e1, e2, rfl, hg, HBG, HO, HMc⟩ := hcut
    have hgl := HBG.out.lt
    have hsc := HMc.out.size
    have HBd := Sec.mk (HBr.out.mod HMc.out id)
    have HR3c := Sec.mk (HR3.out.mod (w' := wc) (fun _ h => h) (fun k hk => (HMr.out.transN HMc.out).block k hk id))
    have b3 : wc.cell? ⟨g, 3, none⟩ = some (.slice none 0 0) := HBG.out.cell 3
    have d3 : wc.cell? ⟨w.heap.size, 3, none⟩ = some (.slice A3 x.2.2.2.1.length c3) := HBd.out.cell 3
    go_wp2_with (at_builtin; go_loud (refine Out4.list3 _ rfl (.tmp 16) (.tmp 18) _ rfl Tryz.underlying32 rfl rfl HO.out HR3c.out (fun k hk => ⟨by omega, by omega⟩) (show ([] : DirOpST).length + x.2.2.2.1.length ≤ 34359738368 by simp; omega) ?_; intro B3 m3 e3 w3 h3 hm3; have HO3 := Sec.mk h3; have HG3 := Sec.mk (HBG.out.mod hm3 (fun h => h.2 rfl)); have HM3 := Sec.mk ((HMr.out.transN HMc.out).trans hm3 (fun i hi hlt => by omega)); have HD3 := Sec.mk (HBd.out.mod hm3 (by omega)); have HQ3 := Sec.mk ((HCr.out.mod HMc.out id).mod hm3 (by omega)); have hs3 := hm3.size; clear h3 hm3; have b3' : w3.cell? ⟨g, 3, none⟩ = some (.slice none 0 0) := HG3.out.cell 3; have bf' : w3.frozen? ⟨g, 3, none⟩ = false := HG3.out.frozen 3; have hg3 : g < w3.heap.size := (by omega); have hw3 : w.heap.size < w3.heap.size := (by omega); have d0 : w3.cell? ⟨w.heap.size, 0, none⟩ = some (.slice A0 x.1.length c0) := HD3.out.cell 0))
    have HG4 := Sec.mk (HG3.out.set_ 3 (.slice B3 m3 e3))
    have HD4 := Sec.mk (HD3.out.far (p := ⟨g, 3, none⟩) (by show w.heap.size ≠ g; omega) (.slice B3 m3 e3))
    have HQ4 := Sec.mk (HQ3.out.far (p := ⟨g, 3, none⟩) (by show w.heap.size + 1 ≠ g; omega) (.slice B3 m3 e3))
    have HM4 := Sec.mk (HM3.out.setCell (p := ⟨g, 3, none⟩) (fun h => by exfalso; simp only at h; have := HMr.out.size; omega) (.slice B3 m3 e3))
    have HO4 := Sec.mk (HO3.out.keep ((Mod.refl (fun k => k = g) w3).setCell (p := ⟨g, 3, none⟩) (fun _ => rfl) (.slice B3 m3 e3)) (fun k h e => h.2 e))
    simp only [List.set_cons_zero, List.set_cons_succ] at HG4
    have hs4 : (w3.setCell ⟨g, 3, none⟩ (.slice B3 m3 e3)).heap.size = w3.heap.size := by simp [World.setCell]
    have hg4 : g < (w3.setCell ⟨g, 3, none⟩ (.slice B3 m3 e3)).heap.size := by omega
    clear HG3 HD3 HQ3 HM3 HO3 b3' bf' d0 b3 d3 HBG HO HBd HR3c hs4 hg3 hw3 hs3
    generalize w3.setCell ⟨g, 3, none⟩ (.slice B3 m3 e3) = w4 at *
    go_loopw [24] (fun i wr => ∃ (k : Nat) (B0 : Option Addr) (m0 e0 : Nat), k ≤ x.1.length ∧ i = .int .i64 (k : Int) ∧ Sec (Blk wr g 34 [.slice B0 m0 e0, .slice B1 x.2.1.length e1, .slice B2 x.2.2.1.length e2, .slice B3 m3 e3, .int .i64 x.2.2.2.2]) ∧ Sec (Out4 (fun k => wz.heap.size ≤ k ∧ k ≠ g) wr (.slice B0 m0 e0) (.slice B1 x.2.1.length e1) (.slice B2 x.2.2.1.length e2) (.slice B3 m3 e3) (x.1.take k, x.2.1, x.2.2.1, [] ++ x.2.2.2.1, x.2.2.2.2)) ∧ Sec (Blk wr w.heap.size 34 [.slice A0 x.1.length c0, .slice A1 x.2.1.length c1, .slice A2 x.2.2.1.length c2, .slice A3 x.2.2.2.1.length c3, .int .i64 x.2.2.2.2]) ∧ Sec (Blk wr (w.heap.size + 1) 34 [.slice none 0 0, .slice none 0 0, .slice none 0 0, .slice none 0 0, .int .i64 0]) ∧ Sec (New w wr)) (fun i _ => x.1.length - (intOf i).toNat)
    case atStart => exact ⟨0, none, 0, 0, Nat.zero_le _, rfl, HG4, ⟨by rw [List.take_zero]; exact HO4.out⟩, HD4, HQ4, HM4⟩
    case round =>
      clear HG4 HD4 HQ4 HM4 HO4
      obtain ⟨k, B0, m0, e0, hk', rfl, HGB, H3, HD, HQq, HMw⟩ := hrel
      have hgr := HGB.out.lt
      have hwr := HD.out.lt
      have hsz0 := HMr.out.size
      by_cases hlt : k < x.1.length
      · obtain ⟨bd, An, cn, hA0, n0, n1, hcc, hcm, hrow, hw⟩ := node_at (HR0.out.mod (w' := wr) (fun _ h => h) (fun k hk => HMw.out.block k hk id)) (w' := wr) (fun _ _ => rfl) hlt
        subst hA0
        have hki : (k : Int) < (x.1.length : Int) := by omega
        have HTK : Sec (x.1.take (k + 1) = x.1.take k ++ [x.1[k]]) := ⟨List.take_succ_eq_append_getElem hlt⟩
        have hdl := HNO.out _ (List.getElem_mem hlt)
        have hlk : (x.1.take k).length = k := by rw [List.length_take]; omega
        have HLK := Sec.mk hlk
        have HRW := Sec.mk hrow
        have HWP := Sec.mk hw
        clear hrow hw hlk
        have HPX : Sec (∃ z : NodeT, z = x.1[k]) := ⟨⟨_, rfl⟩⟩
        obtain ⟨z, hz⟩ := HPX.out
        rw [← hz] at n0 n1 hcc HRW HWP HTK hdl
        clear hz HPX
        obtain ⟨dat, safe⟩ := z
        simp only at n0 n1 hcc hdl
        have HMN : Sec (New wr (wr.alloc (.cells #[.slice An dat.length cn, .int .i64 safe] 88))) := ⟨(Mod.refl _ _).alloc _⟩
        have HGN := Sec.mk (HGB.out.mod HMN.out id)
        have HNN := Sec.mk (Blk.new wr 88 [.slice An dat.length cn, .int .i64 safe])
        have H3N := Sec.mk ((H3.out.wide (X' := fun k => (wz.heap.size ≤ k ∧ k ≠ g) ∧ k < wr.heap.size) (fun k h1 h2 => ⟨h2, h1⟩)).new HMN.out)
        have HRB := Sec.mk (HRW.out.mod (w' := wr.alloc (.cells #[.slice An dat.length cn, .int .i64 safe] 88)) (fun _ h => h) (fun k hk => Below.heap_alloc _ _ _ (Nat.lt_of_lt_of_le hk (Nat.le_of_lt hwr))))
        have hsn : wr.heap.size < (wr.alloc (.cells #[.slice An dat.length cn, .int .i64 safe] 88)).heap.size := by simp
        go_wp2
        clear n0 n1 HRW
        generalize wr.alloc (.cells #[.slice An dat.length cn, .int .i64 safe] 88) = wn at *
        refine reg_start [11] (fun W => Sec (W.cell? ⟨g, 0, none⟩ = some (.slice B0 m0 e0) ∧ W.cell? ⟨wr.heap.size, 0, none⟩ = some (.slice An dat.length cn) ∧ W.cell? ⟨wr.heap.size, 1, none⟩ = some (.int .i64 safe))) (by kernel_rfl) ?_
        have HSS : Sec (wn.drew.cell? ⟨g, 0, none⟩ = some (.slice B0 m0 e0) ∧ wn.drew.cell? ⟨wr.heap.size, 0, none⟩ = some (.slice An dat.length cn) ∧ wn.drew.cell? ⟨wr.heap.size, 1, none⟩ = some (.int .i64 safe)) := ⟨HGN.out.cell 0, HNN.out.cell 0, HNN.out.cell 1⟩
        refine reg_take (.pointer (some ⟨g, 0, none⟩)) (i := 0) (n := 28) HSS rfl (by kernel_rfl) (by kernel_rfl) (by kernel_rfl) (by kernel_rfl) (fun _ _ _ h => h) (fun W hW => exec_field rfl rfl (fptDisk0 _ _)) ?_
        simp only [Act.put, List.setIfInBounds_toArray, List.set_cons_zero, List.set_cons_succ]
        refine reg_take (.slice B0 m0 e0) (i := 1) (n := 29) HSS rfl (by kernel_rfl) (by kernel_rfl) (by kernel_rfl) (by kernel_rfl) (fun _ _ _ h => h) (fun W hW => exec_load rfl rfl (ldNodesD hW.out.1)) ?_
        simp only [Act.put, List.setIfInBounds_toArray, List.set_cons_zero, List.set_cons_succ]
        refine reg_take (.pointer (some ⟨wr.heap.size, 0, none⟩)) (i := 2) (n := 30) HSS rfl (by kernel_rfl) (by kernel_rfl) (by kernel_rfl) (by kernel_rfl) (fun _ _ _ h => h) (fun W hW => exec_field rfl rfl (fptNode0D _ _)) ?_
        simp only [Act.put, List.setIfInBounds_toArray, List.set_cons_zero, List.set_cons_succ]
        refine reg_take (.slice An dat.length cn) (i := 3) (n := 31) HSS rfl (by kernel_rfl) (by kernel_rfl) (by kernel_rfl) (by kernel_rfl) (fun _ _ _ h => h) (fun W hW => exec_load rfl rfl (ldBytesD hW.out.2.1)) ?_
        simp only [Act.put, List.setIfInBounds_toArray, List.set_cons_zero, List.set_cons_succ]
        refine reg_take (.pointer (some ⟨wr.heap.size, 1, none⟩)) (i := 5) (n := 33) HSS rfl (by kernel_rfl) (by kernel_rfl) (by kernel_rfl) (by kernel_rfl) (fun _ _ _ h => h) (fun W hW => exec_field rfl rfl (fptNode1D _ _)) ?_
        simp only [Act.put, List.setIfInBounds_toArray, List.set_cons_zero, List.set_cons_succ]
        refine reg_take (.int .i64 safe) (i := 6) (n := 34) HSS rfl (by kernel_rfl) (by kernel_rfl) (by kernel_rfl) (by kernel_rfl) (fun _ _ _ h => h) (fun W hW => exec_load rfl rfl (ldIntD hW.out.2.2)) ?_
        simp only [Act.put, List.setIfInBounds_toArray, List.set_cons_zero, List.set_cons_succ]
        refine reg_step (i := 4) rfl (by kernel_rfl) (fun K hK => ?_)
        refine wp_call (n := 32) (vals := [.slice An dat.length cn]) rfl rfl rfl (by kernel_rfl) (l1Bytes_at (HRB.out.mod (w' := wn.drew) (fun _ h => h) (fun _ _ => rfl)) (fun k hk => by show k < wn.heap.size; omega) (by omega)) ?_
        intro e w5 hret
        obtain ⟨A5, c5, rfl, hmine⟩ := hret.mine
        have HN5 : Sec (New wn w5) := ⟨((Mod.refl _ _).drew).transN hmine.new⟩
        have HMN5 := Sec.mk (hmine.base (w0 := wn) (Mod.refl _ _).drew)
        have HSS : Sec (w5.cell? ⟨g, 0, none⟩ = some (.slice B0 m0 e0) ∧ w5.cell? ⟨wr.heap.size, 0, none⟩ = some (.slice An dat.length cn) ∧ w5.cell? ⟨wr.heap.size, 1, none⟩ = some (.int .i64 safe)) := ⟨(HGN.out.mod HN5.out id).cell 0, (HNN.out.mod HN5.out id).cell 0, (HNN.out.mod HN5.out id).cell 1⟩
        refine ⟨_, rfl, hK.out _ _ (fun _ => HSS) ?_⟩
        clear hret hmine
        clear hK K
        simp only [Act.put, List.setIfInBounds_toArray, List.set_cons_zero, List.set_cons_succ]
        refine reg_take (.agg #[.slice A5 dat.length c5, .int .i64 safe]) (i := 7) (n := 35) HSS rfl (by kernel_rfl) (by kernel_rfl) (by kernel_rfl) (by kernel_rfl) (fun _ _ _ h => h) (fun W hW => exec_build (parts := [(0, .tmp 32), (1, .tmp 34)]) rfl rfl (bldNode _ _ _ _ _)) ?_
        simp only [Act.put, List.setIfInBounds_toArray, List.set_cons_zero, List.set_cons_succ]
        refine reg_step (i := 8) rfl (by kernel_rfl) (fun K hK => ?_)
        refine wp_valw (n := 36) (v := .slice (some ⟨w5.heap.size, 0, none⟩) 1 1) (w' := w5.alloc (.cells #[.slice A5 dat.length c5, .int .i64 safe] 88)) (exec_buildSlice (parts := [(0, .tmp 35)]) (vs := [(0, .agg #[.slice A5 dat.length c5, .int .i64 safe])]) rfl rfl (bldNode1 _ _ _ _ _)) rfl ?_
        have HN6 := Sec.mk (HN5.out.alloc (.cells #[.slice A5 dat.length c5, .int .i64 safe] 88))
        have HSS : Sec ((w5.alloc (.cells #[.slice A5 dat.length c5, .int .i64 safe] 88)).cell? ⟨g, 0, none⟩ = some (.slice B0 m0 e0) ∧ (w5.alloc (.cells #[.slice A5 dat.length c5, .int .i64 safe] 88)).cell? ⟨wr.heap.size, 0, none⟩ = some (.slice An dat.length cn) ∧ (w5.alloc (.cells #[.slice A5 dat.length c5, .int .i64 safe] 88)).cell? ⟨wr.heap.size, 1, none⟩ = some (.int .i64 safe)) := ⟨(HGN.out.mod HN6.out id).cell 0, (HNN.out.mod HN6.out id).cell 0, (HNN.out.mod HN6.out id).cell 1⟩
        refine hK.out _ _ (fun _ => HSS) ?_
        clear hK K
        simp only [Act.put, List.setIfInBounds_toArray, List.set_cons_zero, List.set_cons_succ]
        refine reg_step (i := 9) rfl (by kernel_rfl) (fun K hK => ?_)
        obtain ⟨⟨F5, ho5, hF5⟩, -⟩ := HMN5.out
        have hs5 := HN5.out.size
        refine Out4.wp0 (X := fun k => wz.heap.size ≤ k ∧ k ≠ g ∧ k ≠ wr.heap.size) _ (.tmp 29) (.tmp 36) _ rfl Tryz.underlying30 rfl rfl (H3N.out.new HN6.out) (y := (dat, safe)) (mNode (x := (dat, safe)) HWP.out (ho5.keep ((Mod.refl (fun _ => False) w5).alloc _) (fun _ _ h => h))) (fun k hk => by have := hF5 k (by simpa using hk); omega) (lit_cells _ _ _ rfl) (fun k hk => by omega) (fun k hk => by simp at hk; omega) (by have := HLK.out; simp only at this ⊢; omega) ?_
        intro A7 n7 c7 w7 h7 hm7
        have H7 := Sec.mk h7
        have HG7 := Sec.mk ((HGN.out.mod HN6.out id).mod hm7 (by omega))
        have HNN7 := Sec.mk ((HNN.out.mod HN6.out id).mod hm7 (by omega))
        have HD7 := Sec.mk (((HD.out.mod HMN.out id).mod HN6.out id).mod hm7 (by omega))
        have HQ7 := Sec.mk (((HQq.out.mod HMN.out id).mod HN6.out id).mod hm7 (by omega))
        have HW7 := Sec.mk (((HMw.out.transN HMN.out).transN HN6.out).trans hm7 (fun i hi hlt => by omega))
        have HSS : Sec (w7.cell? ⟨g, 0, none⟩ = some (.slice B0 m0 e0) ∧ w7.cell? ⟨wr.heap.size, 0, none⟩ = some (.slice An dat.length cn) ∧ w7.cell? ⟨wr.heap.size, 1, none⟩ = some (.int .i64 safe)) := ⟨HG7.out.cell 0, HNN7.out.cell 0, HNN7.out.cell 1⟩
        refine hK.out _ _ (fun _ => HSS) ?_
        clear h7 hm7 ho5 hF5
        clear hK K
        simp only [Act.put, List.setIfInBounds_toArray, List.set_cons_zero, List.set_cons_succ]
        refine reg_take (.pointer (some ⟨g, 0, none⟩)) (i := 10) (n := 38) HSS rfl (by kernel_rfl) (by kernel_rfl) (by kernel_rfl) (by kernel_rfl) (fun _ _ _ h => h) (fun W hW => exec_field rfl rfl (fptDisk0 _ _)) ?_
        simp only [Act.put, List.setIfInBounds_toArray, List.set_cons_zero, List.set_cons_succ]
        refine reg_step (i := 11) rfl (by kernel_rfl) (fun K hK => ?_)
        refine wp_store rfl rfl rfl rfl (stNodesC A7 n7 c7 (HG7.out.cell 0) (HG7.out.frozen 0)) (hK.out _ _ (fun h => absurd (List.mem_singleton.2 rfl) h) ?_)
        clear hK K
        refine reg_done (by kernel_rfl) ?_ _
        have HG8 := Sec.mk (HG7.out.set_ 0 (.slice A7 n7 c7))
        simp only [List.set_cons_zero] at HG8
        have H8 := Sec.mk ((H7.out.wide (X' := fun k => wz.heap.size ≤ k ∧ k ≠ g) (fun k _ h => ⟨h.1, h.2.1⟩)).keep ((Mod.refl (fun k => k = g) w7).setCell (p := ⟨g, 0, none⟩) (fun _ => rfl) (.slice A7 n7 c7)) (fun k h e => h.2 e))
        have HD8 := Sec.mk (HD7.out.far (p := ⟨g, 0, none⟩) (by show w.heap.size ≠ g; omega) (.slice A7 n7 c7))
        have HQ8 := Sec.mk (HQ7.out.far (p := ⟨g, 0, none⟩) (by show w.heap.size + 1 ≠ g; omega) (.slice A7 n7 c7))
        have HW8 := Sec.mk (HW7.out.setCell (p := ⟨g, 0, none⟩) (fun h => by exfalso; simp only at h; omega) (.slice A7 n7 c7))
        clear HSS HG7 HNN7 HD7 HQ7 HW7 H7
        go_wp2
        go_roundw
        case rel =>
          refine ⟨k + 1, A7, n7, c7, by omega, by go_num, HG8, ⟨?_⟩, HD8, HQ8, HW8⟩
          rw [HTK.out]
          exact H8.out
        case measure => simp [intOf]; omega
      · obtain rfl : k = x.1.length := by omega
        have m0' : wr.cell? ⟨g, 0, none⟩ = some (.slice B0 m0 e0) := HGB.out.cell 0
        have m1' : wr.cell? ⟨g, 1, none⟩ = some (.slice B1 x.2.1.length e1) := HGB.out.cell 1
        have m2' : wr.cell? ⟨g, 2, none⟩ = some (.slice B2 x.2.2.1.length e2) := HGB.out.cell 2
        have m3' : wr.cell? ⟨g, 3, none⟩ = some (.slice B3 m3 e3) := HGB.out.cell 3
        have m4' : wr.cell? ⟨g, 4, none⟩ = some (.int .i64 x.2.2.2.2) := HGB.out.cell 4
        have q0 : wr.cell? ⟨w.heap.size + 1, 0, none⟩ = some (.slice none 0 0) := HQq.out.cell 0
        have q1 : wr.cell? ⟨w.heap.size + 1, 1, none⟩ = some (.slice none 0 0) := HQq.out.cell 1
        have q2 : wr.cell? ⟨w.heap.size + 1, 2, none⟩ = some (.slice none 0 0) := HQq.out.cell 2
        have q3 : wr.cell? ⟨w.heap.size + 1, 3, none⟩ = some (.slice none 0 0) := HQq.out.cell 3
        have q4 : wr.cell? ⟨w.heap.size + 1, 4, none⟩ = some (.int .i64 0) := HQq.out.cell 4
        have f0 : wr.frozen? ⟨w.heap.size + 1, 0, none⟩ = false := HQq.out.frozen 0
        have f1 : wr.frozen? ⟨w.heap.size + 1, 1, none⟩ = false := HQq.out.frozen 1
        have f2 : wr.frozen? ⟨w.heap.size + 1, 2, none⟩ = false := HQq.out.frozen 2
        have f3 : wr.frozen? ⟨w.heap.size + 1, 3, none⟩ = false := HQq.out.frozen 3
        have f4 : wr.frozen? ⟨w.heap.size + 1, 4, none⟩ = false := HQq.out.frozen 4
        have hlq : w.heap.size + 1 < wr.heap.size := HQq.out.lt
        have H3' := H3.out
        rw [List.take_length, List.nil_append] at H3'
        have HFB := Sec.mk (set5_blk HQq.out (.slice B0 m0 e0) (.slice B1 x.2.1.length e1) (.slice B2 x.2.2.1.length e2) (.slice B3 m3 e3) (.int .i64 x.2.2.2.2))
        have HFM := Sec.mk (set5_mod wr (w.heap.size + 1) (.slice B0 m0 e0) (.slice B1 x.2.1.length e1) (.slice B2 x.2.2.1.length e2) (.slice B3 m3 e3) (.int .i64 x.2.2.2.2))
        have H4 := Sec.mk (H3'.keep HFM.out (fun k h e => by omega))
        have HM5 := Sec.mk (HMw.out.trans HFM.out (fun i hi hlt => by omega))
        clear H3'
        go_wp2
        refine bodyPost_ret (results_blk rfl rfl HFB.out Tryz.underlying34 (by kernel_rfl)) rfl ?_
        exact ⟨_, _, _, _, rfl, H4.out.wide (fun k _ h => by omega), HM5.out⟩
end Go.Proofs.YtkkgighgnbbgiaaGreatDoor

namespace Go.Proofs.YtkkgighgnbbgiaaGreatDoor
open Go.RowKit Mem
set_option linter.unusedVariables false
set_option linter.unusedSimpArgs false
/-- the disk, changed in its place -/
def RetO (X : Nat → Prop) (w : World) (d : DiskT) (e : Ending) (w' : World) : Prop :=
  ∃ v0 v1 v2 v3, e = .returned (.agg #[v0, v1, v2, v3, .int .i64 d.2.2.2.2]) ∧ Out4 (fun k => X k ∨ w.heap.size ≤ k) w' v0 v1 v2 v3 d ∧ Mod X w w'
theorem ReplR.own {o : Option (List EntryT)} {w w' : World} {e : Ending} (h : ReplR o w e w') : ∃ A c b, e = .returned (.tuple #[.slice A (o.getD []).length c, .bool b]) ∧ Mine dEntry 98 w w' (.slice A (o.getD []).length c) (o.getD []) := by
  cases o with
  | none => exact ⟨none, 0, false, h.1, ⟨⟨[], Own.nil _ _ _, by simp⟩, h.2⟩⟩
  | some m => obtain ⟨A, c, rfl, hm⟩ := h; exact ⟨A, c, true, rfl, hm⟩
set_option maxHeartbeats 4000000 in
set_option maxRecDepth 100000 in
theorem l1Dir_v {w : World} {X : Nat → Prop} {v0 v1 v2 v3 : Value} {d : DiskT} {N : Nat} (h : Out4 X w v0 v1 v2 v3 d) (hI : DInv N d) (hN : N ≤ 100000) (q : DirOpT) (hq0 : IntKind.i64.wrap q.1 = q.1) (hq1 : q.2.1.length ≤ 9223372036854775807) (hq2 : q.2.2.1.length ≤ 9223372036854775807) (hq3 : IntKind.i64.wrap q.2.2.2 = q.2.2.2) :
    Calls Tryz.prog 54 #[.agg #[v0, v1, v2, v3, .int .i64 d.2.2.2.2], .agg #[.int .i64 q.1, .string ⟨q.2.1.toArray⟩, .string ⟨q.2.2.1.toArray⟩, .int .i64 q.2.2.2]] w (RetO X w (dirL d q)) := by
  have HE : Sec (dirL d q = (d.1, (replayL d.2.1 q d.1.length).getD [], d.2.2.1, d.2.2.2.1 ++ [q], d.2.2.2.2)) := ⟨rfl⟩
  have hn := hI.names
  have hp := hI.pend
  have hnn := hI.nodes
  have HOR := Sec.mk hI.ord
  have HLM : Sec (((replayL d.2.1 q d.1.length).getD []).length ≤ N + 1) := ⟨by
    cases hr : replayL d.2.1 q d.1.length with
    | none => simp
    | some m => have := replayL_len hr; simp only [Option.getD_some]; omega⟩
  clear hI
  obtain ⟨kd, nm, tn, nd⟩ := q
  simp only at hq0 hq1 hq2 hq3 HE HLM ⊢
  obtain ⟨A0, c0, A1, c1, A2, c2, A3, c3, rfl, rfl, rfl, rfl, b0, b1, b2, b3⟩ := h.forms
  have HW := Sec.mk (And.intro hq0 (And.intro hq1 (And.intro hq2 hq3)))
  have HBD := Sec.mk (((Blk.new w 34 [.slice A0 d.1.length c0, .slice A1 d.2.1.length c1, .slice A2 d.2.2.1.length c2, .slice A3 d.2.2.2.1.length c3, .int .i64 d.2.2.2.2]).alloc (.cells #[.int .i64 kd, .string ⟨nm.toArray⟩, .string ⟨tn.toArray⟩, .int .i64 nd] 90)).alloc (.cells zDisk.toArray 34))
  have HBO' := (Blk.new (w.alloc (.cells #[.slice A0 d.1.length c0, .slice A1 d.2.1.length c1, .slice A2 d.2.2.1.length c2, .slice A3 d.2.2.2.1.length c3, .int .i64 d.2.2.2.2] 34)) 90 [.int .i64 kd, .string ⟨nm.toArray⟩, .string ⟨tn.toArray⟩, .int .i64 nd]).alloc (.cells zDisk.toArray 34)
  have HBR' := Blk.new ((w.alloc (.cells #[.slice A0 d.1.length c0, .slice A1 d.2.1.length c1, .slice A2 d.2.2.1.length c2, .slice A3 d.2.2.2.1.length c3, .int .i64 d.2.2.2.2] 34)).alloc (.cells #[.int .i64 kd, .string ⟨nm.toArray⟩, .string ⟨tn.toArray⟩, .int .i64 nd] 90)) 34 zDisk
  have HM0 := Sec.mk ((((Mod.refl (fun _ => False) w).alloc (.cells #[.slice A0 d.1.length c0, .slice A1 d.2.1.length c1, .slice A2 d.2.2.1.length c2, .slice A3 d.2.2.2.1.length c3, .int .i64 d.2.2.2.2] 34)).alloc (.cells #[.int .i64 kd, .string ⟨nm.toArray⟩, .string ⟨tn.toArray⟩, .int .i64 nd] 90)).alloc (.cells zDisk.toArray 34))
  have hsz : (((w.alloc (.cells #[.slice A0 d.1.length c0, .slice A1 d.2.1.length c1, .slice A2 d.2.2.1.length c2, .slice A3 d.2.2.2.1.length c3, .int .i64 d.2.2.2.2] 34)).alloc (.cells #[.int .i64 kd, .string ⟨nm.toArray⟩, .string ⟨tn.toArray⟩, .int .i64 nd] 90)).alloc (.cells zDisk.toArray 34)).heap.size = w.heap.size + 3 := by simp
  rw [show (w.alloc (.cells #[.slice A0 d.1.length c0, .slice A1 d.2.1.length c1, .slice A2 d.2.2.1.length c2, .slice A3 d.2.2.2.1.length c3, .int .i64 d.2.2.2.2] 34)).heap.size = w.heap.size + 1 by simp] at HBO'
  rw [show ((w.alloc (.cells #[.slice A0 d.1.length c0, .slice A1 d.2.1.length c1, .slice A2 d.2.2.1.length c2, .slice A3 d.2.2.2.1.length c3, .int .i64 d.2.2.2.2] 34)).alloc (.cells #[.int .i64 kd, .string ⟨nm.toArray⟩, .string ⟨tn.toArray⟩, .int .i64 nd] 90)).heap.size = w.heap.size + 1 + 1 by simp] at HBR'
  have HBO := Sec.mk HBO'
  have HBR := Sec.mk HBR'
  have HO := Sec.mk ((h.wide (X' := fun k => X k ∧ k < w.heap.size) (fun k h1 h2 => ⟨h2, h1⟩)).new HM0.out)
  have hrow : Row dEntry w (· < w.heap.size) A1 d.2.1.length d.2.1 := by
    obtain ⟨F0, F1, F2, F3, o0, o1, -⟩ := h
    exact (o1.row rfl).mod (fun k hk => o1.lt k hk) (fun _ _ => rfl)
  have HRN := Sec.mk (hrow.mod (w' := (((w.alloc (.cells #[.slice A0 d.1.length c0, .slice A1 d.2.1.length c1, .slice A2 d.2.2.1.length c2, .slice A3 d.2.2.2.1.length c3, .int .i64 d.2.2.2.2] 34)).alloc (.cells #[.int .i64 kd, .string ⟨nm.toArray⟩, .string ⟨tn.toArray⟩, .int .i64 nd] 90)).alloc (.cells zDisk.toArray 34))) (fun _ h => h) (fun k hk => HM0.out.block k hk id))
  have hlt0 : w.heap.size < (((w.alloc (.cells #[.slice A0 d.1.length c0, .slice A1 d.2.1.length c1, .slice A2 d.2.2.1.length c2, .slice A3 d.2.2.2.1.length c3, .int .i64 d.2.2.2.2] 34)).alloc (.cells #[.int .i64 kd, .string ⟨nm.toArray⟩, .string ⟨tn.toArray⟩, .int .i64 nd] 90)).alloc (.cells zDisk.toArray 34)).heap.size := by omega
  clear h hrow HBO' HBR' hq0 hq1 hq2 hq3
  go_enter Tryz.func54, Tryz.ntmps54
  go_upto_region 1 with (fail)
  have HSZ := Sec.mk hsz
  clear hsz
  generalize (((w.alloc (.cells #[.slice A0 d.1.length c0, .slice A1 d.2.1.length c1, .slice A2 d.2.2.1.length c2, .slice A3 d.2.2.2.1.length c3, .int .i64 d.2.2.2.2] 34)).alloc (.cells #[.int .i64 kd, .string ⟨nm.toArray⟩, .string ⟨tn.toArray⟩, .int .i64 nd] 90)).alloc (.cells zDisk.toArray 34)) = wz at *
  have hwz : w.heap.size + 3 ≤ wz.heap.size := by have := HSZ.out; omega
  have q0 : wz.cell? ⟨w.heap.size, 0, none⟩ = some (.slice A0 d.1.length c0) := HBD.out.cell 0
  have q1 : wz.cell? ⟨w.heap.size, 1, none⟩ = some (.slice A1 d.2.1.length c1) := HBD.out.cell 1
  have o0 : wz.cell? ⟨w.heap.size + 1, 0, none⟩ = some (.int .i64 kd) := HBO.out.cell 0
  have o1 : wz.cell? ⟨w.heap.size + 1, 1, none⟩ = some (.string ⟨nm.toArray⟩) := HBO.out.cell 1
  have o2 : wz.cell? ⟨w.heap.size + 1, 2, none⟩ = some (.string ⟨tn.toArray⟩) := HBO.out.cell 2
  have o3 : wz.cell? ⟨w.heap.size + 1, 3, none⟩ = some (.int .i64 nd) := HBO.out.cell 3
  go_wp2_with fail
  refine (l1Replay_calls HRN.out (fun k hk => Nat.lt_of_lt_of_le hk (by omega)) (by omega) HOR.out (kd, nm, tn, nd) HW.out.2.1 HW.out.2.2.1 HW.out.2.2.2 (d.1.length : Int)).mono ?_
  intro e w2 hr
  obtain ⟨B, cB, bb, rfl, hmine⟩ := hr.own
  generalize (replayL d.2.1 (kd, nm, tn, nd) d.1.length).getD [] = list at *
  have HN2 := Sec.mk hmine.new
  have HBD2 := Sec.mk (HBD.out.mod hmine.new id)
  have HBO2 := Sec.mk (HBO.out.mod hmine.new id)
  have HBR2 := Sec.mk (HBR.out.mod hmine.new id)
  have hs2 := hmine.new.size
  obtain ⟨⟨F, ho, hF⟩, -⟩ := hmine
  have HO2 := Sec.mk ((HO.out.new HN2.out).put1 (X := fun k => (X k ∧ k < w.heap.size) ∨ w.heap.size + 3 ≤ k) ho (fun k hk => by have := hF k hk; exact ⟨fun h => by omega, Or.inr (by omega)⟩) (fun k hk => Or.inl hk))
  clear hr ho hF q0 q1 o0 o1 o2 o3 HBD HBO HBR HO HRN
  have p1 : w2.cell? ⟨w.heap.size, 1, none⟩ = some (.slice A1 d.2.1.length c1) := HBD2.out.cell 1
  have pf1 : w2.frozen? ⟨w.heap.size, 1, none⟩ = false := HBD2.out.frozen 1
  have p3 : w2.cell? ⟨w.heap.size, 3, none⟩ = some (.slice A3 d.2.2.2.1.length c3) := HBD2.out.cell 3
  have o0 : w2.cell? ⟨w.heap.size + 1, 0, none⟩ = some (.int .i64 kd) := HBO2.out.cell 0
  have o1 : w2.cell? ⟨w.heap.size + 1, 1, none⟩ = some (.string ⟨nm.toArray⟩) := HBO2.out.cell 1
  have o2 : w2.cell? ⟨w.heap.size + 1, 2, none⟩ = some (.string ⟨tn.toArray⟩) := HBO2.out.cell 2
  have o3 : w2.cell? ⟨w.heap.size + 1, 3, none⟩ = some (.int .i64 nd) := HBO2.out.cell 3
  have HBD3 := Sec.mk (HBD2.out.set_ 1 (.slice B list.length cB))
  simp only [List.set_cons_zero, List.set_cons_succ] at HBD3
  have HO3 := Sec.mk (HO2.out.keep ((Mod.refl (fun k => k = w.heap.size) w2).setCell (p := ⟨w.heap.size, 1, none⟩) (fun _ => rfl) (.slice B list.length cB)) (fun k h e => by omega))
  have hs3 : (w2.setCell ⟨w.heap.size, 1, none⟩ (.slice B list.length cB)).heap.size = w2.heap.size := by simp [World.setCell]
  have HS3 := Sec.mk hs3
  have HRQ : Sec (Row dDirOp ((w2.setCell ⟨w.heap.size, 1, none⟩ (.slice B list.length cB)).alloc (.cells #[.int .i64 kd, .string ⟨nm.toArray⟩, .string ⟨tn.toArray⟩, .int .i64 nd] 90)) (· = w2.heap.size) (some ⟨w2.heap.size, 0, none⟩) 1 [((kd, nm, tn, nd) : DirOpT)]) := ⟨by
    have := rowDirOp (w2.setCell ⟨w.heap.size, 1, none⟩ (.slice B list.length cB)) (x := (kd, nm, tn, nd)) HW.out.1 HW.out.2.1 HW.out.2.2.1 HW.out.2.2.2
    rw [hs3] at this
    exact this⟩
  have hw2 : w.heap.size + 3 ≤ w2.heap.size := by omega
  have hw2' : w.heap.size + 1 < w2.heap.size := by omega
  have hw2'' : w.heap.size < w2.heap.size := by omega
  clear hs3 hs2 hwz hlt0
  go_wp2_with (at_builtin; go_loud (refine Out4.list3 (ys := [(kd, nm, tn, nd)]) _ rfl (.tmp 20) (.tmp 22) _ rfl Tryz.underlying32 rfl rfl (HO3.out.new ((Mod.refl _ _).alloc _)) HRQ.out (fun k hk => by simp [World.setCell] at hk; exact Or.inr (by omega)) (show d.2.2.2.1.length + 1 ≤ 34359738368 by omega) ?_; intro A5 n5 c5 w5 h5 hm5; have HO5 := Sec.mk h5; have HBD5 := Sec.mk ((HBD3.out.alloc _).mod hm5 (by omega)); have HBR5 := Sec.mk (((HBR2.out.far (p := ⟨w.heap.size, 1, none⟩) (by show w.heap.size + 1 + 1 ≠ w.heap.size; omega) (.slice B list.length cB)).alloc _).mod hm5 (by omega)); have HM5 := Sec.mk hm5; have hw5 : w.heap.size + 3 ≤ w5.heap.size := (by have := hm5.size; simp [World.setCell] at this; omega); clear h5 hm5; have hw5' : w.heap.size < w5.heap.size := (by omega); have hw5'' : w.heap.size + 1 + 1 < w5.heap.size := (by omega); have r0 : w5.cell? ⟨w.heap.size, 0, none⟩ = some (.slice A0 d.1.length c0) := HBD5.out.cell 0; have r1 : w5.cell? ⟨w.heap.size, 1, none⟩ = some (.slice B list.length cB) := HBD5.out.cell 1; have r2 : w5.cell? ⟨w.heap.size, 2, none⟩ = some (.slice A2 d.2.2.1.length c2) := HBD5.out.cell 2; have r3 : w5.cell? ⟨w.heap.size, 3, none⟩ = some (.slice A3 d.2.2.2.1.length c3) := HBD5.out.cell 3; have rf3 : w5.frozen? ⟨w.heap.size, 3, none⟩ = false := HBD5.out.frozen 3; have r4 : w5.cell? ⟨w.heap.size, 4, none⟩ = some (.int .i64 d.2.2.2.2) := HBD5.out.cell 4; have t0 : w5.cell? ⟨w.heap.size + 1 + 1, 0, none⟩ = some (.slice none 0 0) := HBR5.out.cell 0; have t1 : w5.cell? ⟨w.heap.size + 1 + 1, 1, none⟩ = some (.slice none 0 0) := HBR5.out.cell 1; have t2 : w5.cell? ⟨w.heap.size + 1 + 1, 2, none⟩ = some (.slice none 0 0) := HBR5.out.cell 2; have t3 : w5.cell? ⟨w.heap.size + 1 + 1, 3, none⟩ = some (.slice none 0 0) := HBR5.out.cell 3; have t4 : w5.cell? ⟨w.heap.size + 1 + 1, 4, none⟩ = some (.int .i64 0) := HBR5.out.cell 4; have tf0 : w5.frozen? ⟨w.heap.size + 1 + 1, 0, none⟩ = false := HBR5.out.frozen 0; have tf1 : w5.frozen? ⟨w.heap.size + 1 + 1, 1, none⟩ = false := HBR5.out.frozen 1; have tf2 : w5.frozen? ⟨w.heap.size + 1 + 1, 2, none⟩ = false := HBR5.out.frozen 2; have tf3 : w5.frozen? ⟨w.heap.size + 1 + 1, 3, none⟩ = false := HBR5.out.frozen 3; have tf4 : w5.frozen? ⟨w.heap.size + 1 + 1, 4, none⟩ = false := HBR5.out.frozen 4))
  have HFB := Sec.mk (set5_blk (HBR5.out.far (p := ⟨w.heap.size, 3, none⟩) (by show w.heap.size + 1 + 1 ≠ w.heap.size; omega) (.slice A5 n5 c5)) (.slice A0 d.1.length c0) (.slice B list.length cB) (.slice A2 d.2.2.1.length c2) (.slice A5 n5 c5) (.int .i64 d.2.2.2.2))
  have hmA := (Mod.refl (fun k => k = w.heap.size) w5).setCell (p := ⟨w.heap.size, 3, none⟩) (fun _ => rfl) (.slice A5 n5 c5)
  have HFM := set5_mod (w5.setCell ⟨w.heap.size, 3, none⟩ (.slice A5 n5 c5)) (w.heap.size + 1 + 1) (.slice A0 d.1.length c0) (.slice B list.length cB) (.slice A2 d.2.2.1.length c2) (.slice A5 n5 c5) (.int .i64 d.2.2.2.2)
  have H4 := Sec.mk ((HO5.out.keep hmA (fun k h e => by omega)).keep HFM (fun k h e => by omega))
  have hmB := (Mod.refl (fun k => k = w.heap.size) w2).setCell (p := ⟨w.heap.size, 1, none⟩) (fun _ => rfl) (.slice B list.length cB)
  have HMF := Sec.mk (((((HM0.out.transN HN2.out).trans hmB (fun i hi hlt => by omega)).alloc (.cells #[.int .i64 kd, .string ⟨nm.toArray⟩, .string ⟨tn.toArray⟩, .int .i64 nd] 90)).mono (T := X) (fun i hlt h => h.elim)).trans HM5.out (fun i hi hlt => by rcases hi with hi | hi; exact hi.1; omega))
  have HMG := Sec.mk ((HMF.out.trans hmA (fun i hi hlt => by omega)).trans HFM (fun i hi hlt => by omega))
  refine bodyPost_ret (results_blk rfl rfl HFB.out Tryz.underlying34 (by kernel_rfl)) rfl ?_
  rw [HE.out]
  exact ⟨_, _, _, _, rfl, H4.out.wide (fun k _ h => by rcases h with h | h; exact Or.inl h.1; exact Or.inr (by omega)), HMG.out⟩
end Go.Proofs.YtkkgighgnbbgiaaGreatDoor

namespace Go.Proofs.YtkkgighgnbbgiaaGreatDoor
open Go.RowKit Mem
set_option linter.unusedVariables false
set_option linter.unusedSimpArgs false
def RetOne (X : Nat → Prop) (a0 a1 a2 a3 : Value) (w : World) (r : DiskT × Int) (e : Ending) (w' : World) : Prop :=
  ∃ v0 v1 v2 v3, e = .returned (.tuple #[.agg #[v0, v1, v2, v3, .int .i64 r.1.2.2.2.2], .int .i64 r.2]) ∧ Out4 (fun k => X k ∨ w.heap.size ≤ k) w' v0 v1 v2 v3 r.1 ∧ Mod X w w' ∧ (r.2 ≠ 0 → v0 = a0 ∧ v1 = a1 ∧ v2 = a2 ∧ v3 = a3)
theorem results_blk2 {P : Program} {fn : Func} {a b : Tmp} {t e : TypeId} {fs : Array Field} (h : fn.results = #[.cell a t, .tmp b]) {tmps : Array Value} {w : World} {g : Nat} {cs : List Value} {v : Value} (ht : tmps.getD a undef = .pointer (some ⟨g, 0, none⟩)) (hv : tmps.getD b undef = v) (hb : Blk w g e cs)
    (hu : P.underlying t = some (.struct fs)) (hi : (P.info? t).map (·.size) = some cs.length) : (results fn tmps).run P w = .ok (.tuple #[.agg cs.toArray, v]) w := by
  have := run_loadVar_row (P := P) w g e t cs.toArray (0, 0) _ hb hu rfl (by rw [hi]; simp)
  rw [Array.getD_eq_getD_getElem?] at ht hv
  simp [results, h, ht, hv, asAddr, this]
theorem oneL_eq (d : DiskL) (kd : Int) (nm tn dat : LB) : oneL d (kd, nm, tn, dat) = if kd < 1 ∨ 6 < kd then (d, 2)
  else if kd = 6 then (settleL d, 0)
  else if goodL nm = false ∨ (kd = 4 ∧ goodL tn = false) then (d, 3)
  else if kd = 1 then
    (if 600 ≤ d.1.length ∨ 1000 ≤ d.2.2.2.1.length ∨ (hasE d.2.1 nm = false ∧ 300 ≤ d.2.1.length) then (d, 6)
     else (dirL (d.1 ++ [([], 0)], d.2) (1, nm, [], (d.1.length : Int)), 0))
  else if hasE d.2.1 nm = false then (d, 4)
  else if kd = 2 then
    (if d.2.2.2.2 < (usedL d : Int) + (dat.length : Int) then (d, 5)
     else if 40000 < (nodeAt d (nodeOf d nm)).1.length + dat.length ∨ 200000 < sumD d.1 + dat.length then (d, 6)
     else (withNode d (nodeOf d nm) ((nodeAt d (nodeOf d nm)).1 ++ dat, (nodeAt d (nodeOf d nm)).2), 0))
  else if kd = 3 then (withNode d (nodeOf d nm) ((nodeAt d (nodeOf d nm)).1, ((nodeAt d (nodeOf d nm)).1.length : Int)), 0)
  else if kd = 4 ∧ tn = nm then (d, 0)
  else if 1000 ≤ d.2.2.2.1.length then (d, 6)
  else (dirL d (kd, nm, if kd = 4 then tn else [], 0), 0) := rfl
theorem DInv.push {N : Nat} {d : DiskL} (h : DInv N d) (hn : d.1.length < 600) : DInv N (d.1 ++ [([], 0)], d.2) := ⟨by simp only [List.length_append, List.length_singleton]; omega, h.names, h.pend, fun n hn => by
      rcases List.mem_append.1 hn with hn | hn
      · exact h.len n hn
      · rw [List.mem_singleton.1 hn]; simp, h.ord, by
      have := h.inr.mono (m := ((d.1 ++ [([], 0)]).length : Int)) (by simp; omega)
      exact this, h.quota⟩
theorem wp_appM {P : Program} (w : World) {o : Oper} {a : Act} {K : Act → World → Prop} {Q : Exit → Act → World → Prop} (s x : Operand) (t : TypeId)
    (ho : o.op = .call { callee := .builtin .append, args := #[s, x], argTypes := #[t, t] })
    {α : Type} {d : Ty α} {e : TypeId} {z : Value} (ht : P.underlying t = some (.slice e)) (hE : Elt P e d.sz z) (hf : Flat d)
    {w0 : World} {A A' : Option Addr} {n m c c' : Nat} {xs ys : List α} {B : Nat → Prop} (hs : a.eval s = .slice A n c) (hx : a.eval x = .slice A' m c') (hown : Mine d e w0 w (.slice A n c) xs) (hy : Row d w B A' m ys)
    (hlen : xs.length + ys.length ≤ 34359738368)
    (h : ∀ A' n' c' w', Mine d e w0 w' (.slice A' n' c') (xs ++ ys) → K (a.put o.dst (.slice A' n' c')) w') : o.wp P a w K Q := by
  obtain ⟨news, hel, hA⟩ := hy.flat hf
  obtain ⟨⟨F, ho2, hF⟩, hn⟩ := hown
  refine wp_append w s x t ho d e ht hE hs ho2 hx hel hy.1 hA (by rw [flat_nil]; exact List.nodup_nil) (by rw [flat_nil]; intro k hk; cases hk) (by have := hy.1; omega) ?_
  intro A2 n2 c2 w2 F2 ho3 hn2 hm2 hF2
  exact h _ _ _ _ ⟨⟨F2, ho3, far_app hn hF (by rw [flat_nil]; simp) hF2⟩, New.app hn ho2 hF hm2⟩
theorem idxNode0 (g : Nat) (m c k : Nat) (h : k < m) (w : World) : (Instr.indexAt 30 (.slice (some ⟨g, 0, none⟩) m c) (.int .i64 (k : Int))).run Tryz.prog w = .ok (.pointer (some ⟨g, k * 2, none⟩)) w := by
  have e : (⟨g, 0, none⟩ : Addr).add (k * 2) = ⟨g, k * 2, none⟩ := by
    by_cases hk : k = 0
    · subst hk; rfl
    · simp [Addr.add]; omega
  rw [← e]
  exact idxNodeS ⟨g, 0, none⟩ m c k h w
theorem fptOp3 (p : Addr) (w : World) : (Instr.fieldAt 57 (.pointer (some p)) 3).run Tryz.prog w = .ok (.pointer (some ⟨p.block, p.off + 3, none⟩)) w := by go_simp
theorem stBytesD {w : World} {p : Addr} {u : Value} (h : w.cell? p = some u) (hf : w.frozen? p = false) (A : Option Addr) (n c : Nat) : (Instr.storeAt 52 (.pointer (some p)) (.slice A n c)).run Tryz.prog w = .ok () (w.setCell p (.slice A n c)) := by go_simp
theorem lenBD (A : Option Addr) (n c : Nat) (w : World) : ∀ ty, (invoke (.builtin .len #[52] ty #[false]) #[.slice A n c]).run Tryz.prog w = .ok (.value (.int .i64 (n : Int))) w := by intro ty; go_simp
theorem exec_lenD {P : Program} {o : Oper} {a : Act} {w : World} {k : Nat} {t : TypeId} {A : Option Addr} {n c : Nat} (ho : o.op = .call { callee := .builtin .len, args := #[.tmp k], argTypes := #[t] }) (hx : a.eval (.tmp k) = .slice A n c) (h : ∀ ty, (invoke (.builtin .len #[t] ty #[false]) #[.slice A n c]).run P w = .ok (.value (.int .i64 (n : Int))) w) : (execOp a.eval o).run P w = .ok (.value (.int .i64 (n : Int))) w := by
  unfold execOp; simp only [ho, resolve, Sem.run_bind, Sem.run_pure, Result.andThen_ok, List.map_toArray, List.map_cons, List.map_nil, hx, h]
theorem ldDiskS {w : World} {g : Nat} {c0 c1 c2 c3 c4 : Value} (h : Blk w g 34 [c0, c1, c2, c3, c4]) : (Instr.loadAt 34 (.pointer (some ⟨g, 0, none⟩))).run Tryz.prog w = .ok (.agg #[c0, c1, c2, c3, c4]) w := by
  have k0 : w.cell? ⟨g, 0, none⟩ = some c0 := h.cell 0
  have k1 : w.cell? ⟨g, 1, none⟩ = some c1 := h.cell 1
  have k2 : w.cell? ⟨g, 2, none⟩ = some c2 := h.cell 2
  have k3 : w.cell? ⟨g, 3, none⟩ = some c3 := h.cell 3
  have k4 : w.cell? ⟨g, 4, none⟩ = some c4 := h.cell 4
  go_simp
theorem addII {a b : Int} (hw : IntKind.i64.wrap (a + b) = a + b) (x y : Operand) (w : World) : (do eqGuard .add 3 x y (.int .i64 a) (.int .i64 b); binOp .add 3 (.int .i64 a) (.int .i64 b) : Sem Value).run Tryz.prog w = .ok (.int .i64 (a + b)) w := by go_simp
theorem gtrII (a b : Int) (x y : Operand) (w : World) : (do eqGuard .gtr 3 x y (.int .i64 a) (.int .i64 b); binOp .gtr 3 (.int .i64 a) (.int .i64 b) : Sem Value).run Tryz.prog w = .ok (.bool (decide (b < a))) w := by go_simp
theorem gtrFF {a b : Int} (h : a ≤ b) (x y : Operand) (w : World) : (do eqGuard .gtr 3 x y (.int .i64 a) (.int .i64 b); binOp .gtr 3 (.int .i64 a) (.int .i64 b) : Sem Value).run Tryz.prog w = .ok (.bool false) w := by
  have := gtrII a b x y w
  rw [decide_eq_false (Int.not_lt.2 h)] at this
  exact this
theorem Out4.base0 {X : Nat → Prop} {w : World} {A : Option Addr} {n c : Nat} {v1 v2 v3 : Value} {d : DiskT} (h : Out4 X w (.slice A n c) v1 v2 v3 d) {i : Nat} (hi : i < d.1.length) : ∃ g, A = some ⟨g, 0, none⟩ ∧ X g := by
  obtain ⟨g, e, hg, -⟩ := h.setSafe hi (s := 0) rfl
  exact ⟨g, e, hg⟩
set_option maxHeartbeats 8000000 in
set_option maxRecDepth 100000 in
theorem l1One_v {w : World} {X : Nat → Prop} {v0 v1 v2 v3 : Value} {d : DiskT} {N : Nat} (h : Out4 X w v0 v1 v2 v3 d) (hI : DInv N d) (hN : N ≤ 90000) {kd : Int} {nm tn dat : Bytes} {Ad : Option Addr} {dc : Nat} {B : Nat → Prop} (hk : IntKind.i64.wrap kd = kd) (hnm : nm.length ≤ 9223372036854775807) (htn : tn.length ≤ 9223372036854775807) (hrow : Row Ty.byte w B Ad dat.length dat) (hB : ∀ k, B k → k < w.heap.size ∧ ¬ X k) (hdat : dat.length ≤ 1048576) :
    Calls Tryz.prog 23 #[.agg #[v0, v1, v2, v3, .int .i64 d.2.2.2.2], .agg #[.int .i64 kd, .string ⟨nm.toArray⟩, .string ⟨tn.toArray⟩, .slice Ad dat.length dc]] w (RetOne X v0 v1 v2 v3 w (oneL d (kd, nm, tn, dat))) := by
  have HE := Sec.mk (oneL_eq d kd nm tn dat)
  generalize hres : oneL d (kd, nm, tn, dat) = res at *
  clear hres
  have HI := Sec.mk hI
  have hn := hI.names
  have hp := hI.pend
  have hnn := hI.nodes
  clear hI
  have HRD := Sec.mk h.rd
  have HQW : Sec (IntKind.i64.wrap d.2.2.2.2 = d.2.2.2.2) := ⟨by obtain ⟨F0, F1, F2, F3, o0, o1, o2, o3, hd, hX, hq⟩ := h; exact hq⟩
  obtain ⟨A0, c0, A1, c1, A2, c2, A3, c3, rfl, rfl, rfl, rfl, b0, b1, b2, b3⟩ := h.forms
  have HWK := Sec.mk (And.intro hk (And.intro hnm htn))
  have HBD := Sec.mk (((Blk.new w 34 [.slice A0 d.1.length c0, .slice A1 d.2.1.length c1, .slice A2 d.2.2.1.length c2, .slice A3 d.2.2.2.1.length c3, .int .i64 d.2.2.2.2]).alloc (.cells #[.int .i64 kd, .string ⟨nm.toArray⟩, .string ⟨tn.toArray⟩, .slice Ad dat.length dc] 57)).alloc (.cells zDisk.toArray 34))
  have HBO' := (Blk.new (w.alloc (.cells #[.slice A0 d.1.length c0, .slice A1 d.2.1.length c1, .slice A2 d.2.2.1.length c2, .slice A3 d.2.2.2.1.length c3, .int .i64 d.2.2.2.2] 34)) 57 [.int .i64 kd, .string ⟨nm.toArray⟩, .string ⟨tn.toArray⟩, .slice Ad dat.length dc]).alloc (.cells zDisk.toArray 34)
  have HBR' := Blk.new ((w.alloc (.cells #[.slice A0 d.1.length c0, .slice A1 d.2.1.length c1, .slice A2 d.2.2.1.length c2, .slice A3 d.2.2.2.1.length c3, .int .i64 d.2.2.2.2] 34)).alloc (.cells #[.int .i64 kd, .string ⟨nm.toArray⟩, .string ⟨tn.toArray⟩, .slice Ad dat.length dc] 57)) 34 zDisk
  have HM0 := Sec.mk ((((Mod.refl (fun _ => False) w).alloc (.cells #[.slice A0 d.1.length c0, .slice A1 d.2.1.length c1, .slice A2 d.2.2.1.length c2, .slice A3 d.2.2.2.1.length c3, .int .i64 d.2.2.2.2] 34)).alloc (.cells #[.int .i64 kd, .string ⟨nm.toArray⟩, .string ⟨tn.toArray⟩, .slice Ad dat.length dc] 57)).alloc (.cells zDisk.toArray 34))
  have hsz : ((((w.alloc (.cells #[.slice A0 d.1.length c0, .slice A1 d.2.1.length c1, .slice A2 d.2.2.1.length c2, .slice A3 d.2.2.2.1.length c3, .int .i64 d.2.2.2.2] 34)).alloc (.cells #[.int .i64 kd, .string ⟨nm.toArray⟩, .string ⟨tn.toArray⟩, .slice Ad dat.length dc] 57)).alloc (.cells zDisk.toArray 34))).heap.size = w.heap.size + 3 := by simp
  rw [show (w.alloc (.cells #[.slice A0 d.1.length c0, .slice A1 d.2.1.length c1, .slice A2 d.2.2.1.length c2, .slice A3 d.2.2.2.1.length c3, .int .i64 d.2.2.2.2] 34)).heap.size = w.heap.size + 1 by simp] at HBO'
  rw [show ((w.alloc (.cells #[.slice A0 d.1.length c0, .slice A1 d.2.1.length c1, .slice A2 d.2.2.1.length c2, .slice A3 d.2.2.2.1.length c3, .int .i64 d.2.2.2.2] 34)).alloc (.cells #[.int .i64 kd, .string ⟨nm.toArray⟩, .string ⟨tn.toArray⟩, .slice Ad dat.length dc] 57)).heap.size = w.heap.size + 1 + 1 by simp] at HBR'
  have HBO := Sec.mk HBO'
  have HBR := Sec.mk HBR'
  have HO := Sec.mk ((h.wide (X' := fun k => X k ∧ k < w.heap.size) (fun k h1 h2 => ⟨h2, h1⟩)).new HM0.out)
  have hrowN : Row dEntry w (· < w.heap.size) A1 d.2.1.length d.2.1 := by
    obtain ⟨F0, F1, F2, F3, o0, o1, -⟩ := h
    exact (o1.row rfl).mod (fun k hk => o1.lt k hk) (fun _ _ => rfl)
  have hrowD : Row dNode w (· < w.heap.size) A0 d.1.length d.1 := by
    obtain ⟨F0, F1, F2, F3, o0, o1, -⟩ := h
    exact (o0.row rfl).mod (fun k hk => o0.lt k hk) (fun _ _ => rfl)
  have HRN := Sec.mk hrowN
  have HRA := Sec.mk hrowD
  have HRO := Sec.mk hrow
  have HBB := Sec.mk hB
  have HOR := Sec.mk HI.out.ord
  have HSZ := Sec.mk hsz
  clear h hrow hrowN hrowD hB HBO' HBR' hk hnm htn hsz
  have hlt0 : w.heap.size < ((((w.alloc (.cells #[.slice A0 d.1.length c0, .slice A1 d.2.1.length c1, .slice A2 d.2.2.1.length c2, .slice A3 d.2.2.2.1.length c3, .int .i64 d.2.2.2.2] 34)).alloc (.cells #[.int .i64 kd, .string ⟨nm.toArray⟩, .string ⟨tn.toArray⟩, .slice Ad dat.length dc] 57)).alloc (.cells zDisk.toArray 34))).heap.size := by have := HSZ.out; omega
  go_enter Tryz.func23, Tryz.ntmps23
  go_upto_region 1 with (fail)
  generalize (((w.alloc (.cells #[.slice A0 d.1.length c0, .slice A1 d.2.1.length c1, .slice A2 d.2.2.1.length c2, .slice A3 d.2.2.2.1.length c3, .int .i64 d.2.2.2.2] 34)).alloc (.cells #[.int .i64 kd, .string ⟨nm.toArray⟩, .string ⟨tn.toArray⟩, .slice Ad dat.length dc] 57)).alloc (.cells zDisk.toArray 34)) = wz at *
  have hwz : w.heap.size + 3 ≤ wz.heap.size := by have := HSZ.out; omega
  have hwz2 : w.heap.size + 1 < wz.heap.size := by omega
  have hwz3 : w.heap.size + 1 + 1 < wz.heap.size := by omega
  have o0 : wz.cell? ⟨w.heap.size + 1, 0, none⟩ = some (.int .i64 kd) := HBO.out.cell 0
  have o1 : wz.cell? ⟨w.heap.size + 1, 1, none⟩ = some (.string ⟨nm.toArray⟩) := HBO.out.cell 1
  have o2 : wz.cell? ⟨w.heap.size + 1, 2, none⟩ = some (.string ⟨tn.toArray⟩) := HBO.out.cell 2
  have o3 : wz.cell? ⟨w.heap.size + 1, 3, none⟩ = some (.slice Ad dat.length dc) := HBO.out.cell 3
  have zd0 : wz.cell? ⟨w.heap.size, 0, none⟩ = some (.slice A0 d.1.length c0) := HBD.out.cell 0
  have zd1 : wz.cell? ⟨w.heap.size, 1, none⟩ = some (.slice A1 d.2.1.length c1) := HBD.out.cell 1
  have zd2 : wz.cell? ⟨w.heap.size, 2, none⟩ = some (.slice A2 d.2.2.1.length c2) := HBD.out.cell 2
  have zd3 : wz.cell? ⟨w.heap.size, 3, none⟩ = some (.slice A3 d.2.2.2.1.length c3) := HBD.out.cell 3
  have zd4 : wz.cell? ⟨w.heap.size, 4, none⟩ = some (.int .i64 d.2.2.2.2) := HBD.out.cell 4
  have zr0 : wz.cell? ⟨w.heap.size + 1 + 1, 0, none⟩ = some (.slice none 0 0) := HBR.out.cell 0
  have zf0 : wz.frozen? ⟨w.heap.size + 1 + 1, 0, none⟩ = false := HBR.out.frozen 0
  have zr1 : wz.cell? ⟨w.heap.size + 1 + 1, 1, none⟩ = some (.slice none 0 0) := HBR.out.cell 1
  have zf1 : wz.frozen? ⟨w.heap.size + 1 + 1, 1, none⟩ = false := HBR.out.frozen 1
  have zr2 : wz.cell? ⟨w.heap.size + 1 + 1, 2, none⟩ = some (.slice none 0 0) := HBR.out.cell 2
  have zf2 : wz.frozen? ⟨w.heap.size + 1 + 1, 2, none⟩ = false := HBR.out.frozen 2
  have zr3 : wz.cell? ⟨w.heap.size + 1 + 1, 3, none⟩ = some (.slice none 0 0) := HBR.out.cell 3
  have zf3 : wz.frozen? ⟨w.heap.size + 1 + 1, 3, none⟩ = false := HBR.out.frozen 3
  have zr4 : wz.cell? ⟨w.heap.size + 1 + 1, 4, none⟩ = some (.int .i64 0) := HBR.out.cell 4
  have zf4 : wz.frozen? ⟨w.heap.size + 1 + 1, 4, none⟩ = false := HBR.out.frozen 4
  by_cases hkr : kd < 1 ∨ 6 < kd
  · have HF : Sec (res = (d, 2)) := ⟨HE.out.trans (if_pos hkr)⟩
    rcases hkr with hkr | hkr
    · have HFB := Sec.mk (set5_blk HBR.out (.slice A0 d.1.length c0) (.slice A1 d.2.1.length c1) (.slice A2 d.2.2.1.length c2) (.slice A3 d.2.2.2.1.length c3) (.int .i64 d.2.2.2.2))
      have HFM := set5_mod wz (w.heap.size + 1 + 1) (.slice A0 d.1.length c0) (.slice A1 d.2.1.length c1) (.slice A2 d.2.2.1.length c2) (.slice A3 d.2.2.2.1.length c3) (.int .i64 d.2.2.2.2)
      have H4 := Sec.mk (HO.out.keep HFM (fun k h e => by omega))
      have HMG := Sec.mk ((HM0.out.mono (T := X) (fun i hlt h => h.elim)).trans HFM (fun i hi hlt => by omega))
      clear HFM
      go_wp2
      refine bodyPost_ret (results_blk2 rfl rfl rfl HFB.out Tryz.underlying34 (by kernel_rfl)) rfl ?_
      rw [HF.out]
      exact ⟨_, _, _, _, rfl, H4.out.wide (fun k _ h => Or.inl h.1), HMG.out, fun _ => ⟨rfl, rfl, rfl, rfl⟩⟩
    · have hk1 : ¬ kd < 1 := by omega
      have HFB := Sec.mk (set5_blk HBR.out (.slice A0 d.1.length c0) (.slice A1 d.2.1.length c1) (.slice A2 d.2.2.1.length c2) (.slice A3 d.2.2.2.1.length c3) (.int .i64 d.2.2.2.2))
      have HFM := set5_mod wz (w.heap.size + 1 + 1) (.slice A0 d.1.length c0) (.slice A1 d.2.1.length c1) (.slice A2 d.2.2.1.length c2) (.slice A3 d.2.2.2.1.length c3) (.int .i64 d.2.2.2.2)
      have H4 := Sec.mk (HO.out.keep HFM (fun k h e => by omega))
      have HMG := Sec.mk ((HM0.out.mono (T := X) (fun i hlt h => h.elim)).trans HFM (fun i hi hlt => by omega))
      clear HFM
      go_wp2
      refine bodyPost_ret (results_blk2 rfl rfl rfl HFB.out Tryz.underlying34 (by kernel_rfl)) rfl ?_
      rw [HF.out]
      exact ⟨_, _, _, _, rfl, H4.out.wide (fun k _ h => Or.inl h.1), HMG.out, fun _ => ⟨rfl, rfl, rfl, rfl⟩⟩
  have HE1 : Sec (res = if kd = 6 then (settleL d, 0)
    else if goodL nm = false ∨ (kd = 4 ∧ goodL tn = false) then (d, 3)
    else if kd = 1 then
      (if 600 ≤ d.1.length ∨ 1000 ≤ d.2.2.2.1.length ∨ (hasE d.2.1 nm = false ∧ 300 ≤ d.2.1.length) then (d, 6)
       else (dirL (d.1 ++ [([], 0)], d.2) (1, nm, [], (d.1.length : Int)), 0))
    else if hasE d.2.1 nm = false then (d, 4)
    else if kd = 2 then
      (if d.2.2.2.2 < (usedL d : Int) + (dat.length : Int) then (d, 5)
       else if 40000 < (nodeAt d (nodeOf d nm)).1.length + dat.length ∨ 200000 < sumD d.1 + dat.length then (d, 6)
       else (withNode d (nodeOf d nm) ((nodeAt d (nodeOf d nm)).1 ++ dat, (nodeAt d (nodeOf d nm)).2), 0))
    else if kd = 3 then (withNode d (nodeOf d nm) ((nodeAt d (nodeOf d nm)).1, ((nodeAt d (nodeOf d nm)).1.length : Int)), 0)
    else if kd = 4 ∧ tn = nm then (d, 0)
    else if 1000 ≤ d.2.2.2.1.length then (d, 6)
    else (dirL d (kd, nm, if kd = 4 then tn else [], 0), 0)) := ⟨HE.out.trans (if_neg hkr)⟩
  have hk1 : ¬ kd < 1 := by omega
  have hk2 : ¬ 6 < kd := by omega
  clear HE hkr
  by_cases hk6 : kd = 6
  · subst hk6
    have HF : Sec (res = (settleL d, 0)) := ⟨HE1.out.trans (if_pos rfl)⟩
    go_wp2_with fail
    refine (l1Settle_v (HRD.out.step HM0.out) HI.out (by omega)).mono ?_
    rintro e w2 ⟨u0, u1, u2, u3, rfl, ho2, hm2⟩
    obtain ⟨E0, g0, E1, g1, E2, g2, E3, g3, rfl, rfl, rfl, rfl, -⟩ := ho2.forms
    have HO2 := Sec.mk ho2
    have HBR2 := Sec.mk (HBR.out.mod hm2 id)
    have HM2 := Sec.mk (HM0.out.transN hm2)
    have hs2 := hm2.size
    clear ho2 hm2 zr0 zr1 zr2 zr3 zr4 zf0 zf1 zf2 zf3 zf4
    have yr0 : w2.cell? ⟨w.heap.size + 1 + 1, 0, none⟩ = some (.slice none 0 0) := HBR2.out.cell 0
    have yf0 : w2.frozen? ⟨w.heap.size + 1 + 1, 0, none⟩ = false := HBR2.out.frozen 0
    have yr1 : w2.cell? ⟨w.heap.size + 1 + 1, 1, none⟩ = some (.slice none 0 0) := HBR2.out.cell 1
    have yf1 : w2.frozen? ⟨w.heap.size + 1 + 1, 1, none⟩ = false := HBR2.out.frozen 1
    have yr2 : w2.cell? ⟨w.heap.size + 1 + 1, 2, none⟩ = some (.slice none 0 0) := HBR2.out.cell 2
    have yf2 : w2.frozen? ⟨w.heap.size + 1 + 1, 2, none⟩ = false := HBR2.out.frozen 2
    have yr3 : w2.cell? ⟨w.heap.size + 1 + 1, 3, none⟩ = some (.slice none 0 0) := HBR2.out.cell 3
    have yf3 : w2.frozen? ⟨w.heap.size + 1 + 1, 3, none⟩ = false := HBR2.out.frozen 3
    have yr4 : w2.cell? ⟨w.heap.size + 1 + 1, 4, none⟩ = some (.int .i64 0) := HBR2.out.cell 4
    have yf4 : w2.frozen? ⟨w.heap.size + 1 + 1, 4, none⟩ = false := HBR2.out.frozen 4
    have hwy : w.heap.size + 1 + 1 < w2.heap.size := by omega
    have HFB := Sec.mk (set5_blk HBR2.out (.slice E0 (settleL d).1.length g0) (.slice E1 (settleL d).2.1.length g1) (.slice E2 (settleL d).2.2.1.length g2) (.slice E3 (settleL d).2.2.2.1.length g3) (.int .i64 (settleL d).2.2.2.2))
    have HFM := set5_mod w2 (w.heap.size + 1 + 1) (.slice E0 (settleL d).1.length g0) (.slice E1 (settleL d).2.1.length g1) (.slice E2 (settleL d).2.2.1.length g2) (.slice E3 (settleL d).2.2.2.1.length g3) (.int .i64 (settleL d).2.2.2.2)
    have H4 := Sec.mk (HO2.out.keep HFM (fun k h e => by omega))
    have HMG := Sec.mk ((HM2.out.mono (T := X) (fun i hlt h => h.elim)).trans HFM (fun i hi hlt => by omega))
    clear HFM
    go_wp2
    refine bodyPost_ret (results_blk2 rfl rfl rfl HFB.out Tryz.underlying34 (by kernel_rfl)) rfl ?_
    rw [HF.out]
    exact ⟨_, _, _, _, rfl, H4.out.wide (fun k _ h => Or.inr (by omega)), HMG.out, fun h => absurd rfl h⟩
  have HE2 : Sec (res = if goodL nm = false ∨ (kd = 4 ∧ goodL tn = false) then (d, 3)
    else if kd = 1 then
      (if 600 ≤ d.1.length ∨ 1000 ≤ d.2.2.2.1.length ∨ (hasE d.2.1 nm = false ∧ 300 ≤ d.2.1.length) then (d, 6)
       else (dirL (d.1 ++ [([], 0)], d.2) (1, nm, [], (d.1.length : Int)), 0))
    else if hasE d.2.1 nm = false then (d, 4)
    else if kd = 2 then
      (if d.2.2.2.2 < (usedL d : Int) + (dat.length : Int) then (d, 5)
       else if 40000 < (nodeAt d (nodeOf d nm)).1.length + dat.length ∨ 200000 < sumD d.1 + dat.length then (d, 6)
       else (withNode d (nodeOf d nm) ((nodeAt d (nodeOf d nm)).1 ++ dat, (nodeAt d (nodeOf d nm)).2), 0))
    else if kd = 3 then (withNode d (nodeOf d nm) ((nodeAt d (nodeOf d nm)).1, ((nodeAt d (nodeOf d nm)).1.length : Int)), 0)
    else if kd = 4 ∧ tn = nm then (d, 0)
    else if 1000 ≤ d.2.2.2.1.length then (d, 6)
    else (dirL d (kd, nm, if kd = 4 then tn else [], 0), 0)) := ⟨HE1.out.trans (if_neg hk6)⟩
  have hk6b : (kd == 6) = false := by simp only [beq_eq_false_iff_ne]; exact hk6
  clear HE1
  go_upto_region 5 with (fail)
  go_cut [38] (fun b wx => b = .bool (!goodL nm || (decide (kd = 4) && !goodL tn)) ∧ wx = wz)
  case first =>
    go_wp2_with fail
    refine (goodS_calls nm HWK.out.2.1 wz).mono ?_
    rintro e w2 ⟨rfl, rfl⟩
    cases hg : goodL nm
    · go_wp2
      go_meet
      exact ⟨by simp [hg], rfl⟩
    by_cases h4 : kd = 4
    · subst h4
      go_wp2_with fail
      refine (goodS_calls tn HWK.out.2.2 w2).mono ?_
      rintro e w3 ⟨rfl, rfl⟩
      cases hgt : goodL tn
      · go_wp2
        go_meet
        exact ⟨by simp [hg, hgt], rfl⟩
      · go_wp2
        go_meet
        exact ⟨by simp [hg, hgt], rfl⟩
    · have hk4b : (kd == 4) = false := by simp only [beq_eq_false_iff_ne]; exact h4
      go_wp2
      go_meet
      exact ⟨by simp [hg, h4], rfl⟩
  case rest =>
    obtain ⟨rfl, hwx⟩ := hcut
    obtain rfl : wz = wc := hwx.symm
    cases hbad : (!goodL nm || (decide (kd = 4) && !goodL tn))
    rotate_left
    · have HF : Sec (res = (d, 3)) := ⟨HE2.out.trans (if_pos (by simpa using hbad))⟩
      have HFB := Sec.mk (set5_blk HBR.out (.slice A0 d.1.length c0) (.slice A1 d.2.1.length c1) (.slice A2 d.2.2.1.length c2) (.slice A3 d.2.2.2.1.length c3) (.int .i64 d.2.2.2.2))
      have HFM := set5_mod wz (w.heap.size + 1 + 1) (.slice A0 d.1.length c0) (.slice A1 d.2.1.length c1) (.slice A2 d.2.2.1.length c2) (.slice A3 d.2.2.2.1.length c3) (.int .i64 d.2.2.2.2)
      have H4 := Sec.mk (HO.out.keep HFM (fun k h e => by omega))
      have HMG := Sec.mk ((HM0.out.mono (T := X) (fun i hlt h => h.elim)).trans HFM (fun i hi hlt => by omega))
      clear HFM
      go_wp2
      refine bodyPost_ret (results_blk2 rfl rfl rfl HFB.out Tryz.underlying34 (by kernel_rfl)) rfl ?_
      rw [HF.out]
      exact ⟨_, _, _, _, rfl, H4.out.wide (fun k _ h => Or.inl h.1), HMG.out, fun _ => ⟨rfl, rfl, rfl, rfl⟩⟩
    have HE3 : Sec (res = if kd = 1 then
        (if 600 ≤ d.1.length ∨ 1000 ≤ d.2.2.2.1.length ∨ (hasE d.2.1 nm = false ∧ 300 ≤ d.2.1.length) then (d, 6)
         else (dirL (d.1 ++ [([], 0)], d.2) (1, nm, [], (d.1.length : Int)), 0))
      else if hasE d.2.1 nm = false then (d, 4)
      else if kd = 2 then
        (if d.2.2.2.2 < (usedL d : Int) + (dat.length : Int) then (d, 5)
         else if 40000 < (nodeAt d (nodeOf d nm)).1.length + dat.length ∨ 200000 < sumD d.1 + dat.length then (d, 6)
         else (withNode d (nodeOf d nm) ((nodeAt d (nodeOf d nm)).1 ++ dat, (nodeAt d (nodeOf d nm)).2), 0))
      else if kd = 3 then (withNode d (nodeOf d nm) ((nodeAt d (nodeOf d nm)).1, ((nodeAt d (nodeOf d nm)).1.length : Int)), 0)
      else if kd = 4 ∧ tn = nm then (d, 0)
      else if 1000 ≤ d.2.2.2.1.length then (d, 6)
      else (dirL d (kd, nm, if kd = 4 then tn else [], 0), 0)) := ⟨HE2.out.trans (if_neg (by intro h; rw [show (!goodL nm || (decide (kd = 4) && !goodL tn)) = true by simpa using h] at hbad; cases hbad))⟩
    clear HE2 hbad
    go_wp2_with fail
    refine (l1Find_calls (HRN.out.mod (w' := wz) (fun _ h => h) (fun k hk => HM0.out.block k hk id)) nm).mono ?_
    rintro e w2 ⟨rfl, hw2⟩
    obtain rfl : wz = w2 := hw2.symm
    have HAT : Sec ((hasE d.2.1 nm = false ∧ findE d.2.1 nm = -1) ∨ (hasE d.2.1 nm = true ∧ findE d.2.1 nm = (placeE d.2.1 nm : Int))) := ⟨by
      cases hh : hasE d.2.1 nm
      · exact Or.inl ⟨rfl, find_neg HOR.out hh⟩
      · exact Or.inr ⟨rfl, find_pos HOR.out hh⟩⟩
    generalize findE d.2.1 nm = at' at *
    by_cases hkk1 : kd = 1
    · subst hkk1
      have HE4 : Sec (res = if 600 ≤ d.1.length ∨ 1000 ≤ d.2.2.2.1.length ∨ (hasE d.2.1 nm = false ∧ 300 ≤ d.2.1.length) then (d, 6)
         else (dirL (d.1 ++ [([], 0)], d.2) (1, nm, [], (d.1.length : Int)), 0)) := ⟨HE3.out.trans (if_pos rfl)⟩
      clear HE3
      go_upto_region 9 with (fail)
      go_cut [67] (fun b wx => b = .bool (decide (600 ≤ d.1.length ∨ 1000 ≤ d.2.2.2.1.length ∨ (hasE d.2.1 nm = false ∧ 300 ≤ d.2.1.length))) ∧ wx = wz)
      case first =>
        by_cases h600 : 600 ≤ d.1.length
        · have h600i : (600 : Int) ≤ (d.1.length : Int) := by omega
          go_wp2
          go_meet
          exact ⟨by simp [h600], rfl⟩
        have h600i : ¬ (600 : Int) ≤ (d.1.length : Int) := by omega
        by_cases h1000 : 1000 ≤ d.2.2.2.1.length
        · have h1000i : (1000 : Int) ≤ (d.2.2.2.1.length : Int) := by omega
          go_wp2
          go_meet
          exact ⟨by simp [h1000], rfl⟩
        have h1000i : ¬ (1000 : Int) ≤ (d.2.2.2.1.length : Int) := by omega
        rcases HAT.out with ⟨hh, hat⟩ | ⟨hh, hat⟩
        · have hati : at' < 0 := by omega
          by_cases h300 : 300 ≤ d.2.1.length
          · have h300i : (300 : Int) ≤ (d.2.1.length : Int) := by omega
            clear hat
            go_wp2
            go_meet
            exact ⟨by simp [h300, hh], rfl⟩
          · have h300i : ¬ (300 : Int) ≤ (d.2.1.length : Int) := by omega
            clear hat
            go_wp2
            go_meet
            exact ⟨by simp [h300, h600, h1000], rfl⟩
        · have hati : ¬ at' < 0 := by omega
          clear hat
          go_wp2
          go_meet
          exact ⟨by simp [hh, h600, h1000], rfl⟩
      case rest =>
        obtain ⟨rfl, hwx⟩ := hcut
        obtain rfl : wz = wc := hwx.symm
        by_cases hfull : (600 ≤ d.1.length ∨ 1000 ≤ d.2.2.2.1.length ∨ (hasE d.2.1 nm = false ∧ 300 ≤ d.2.1.length))
        · have HF : Sec (res = (d, 6)) := ⟨HE4.out.trans (if_pos hfull)⟩
          rw [decide_eq_true hfull]
          clear hfull
          have HFB := Sec.mk (set5_blk HBR.out (.slice A0 d.1.length c0) (.slice A1 d.2.1.length c1) (.slice A2 d.2.2.1.length c2) (.slice A3 d.2.2.2.1.length c3) (.int .i64 d.2.2.2.2))
          have HFM := set5_mod wz (w.heap.size + 1 + 1) (.slice A0 d.1.length c0) (.slice A1 d.2.1.length c1) (.slice A2 d.2.2.1.length c2) (.slice A3 d.2.2.2.1.length c3) (.int .i64 d.2.2.2.2)
          have H4 := Sec.mk (HO.out.keep HFM (fun k h e => by omega))
          have HMG := Sec.mk ((HM0.out.mono (T := X) (fun i hlt h => h.elim)).trans HFM (fun i hi hlt => by omega))
          clear HFM
          go_wp2
          refine bodyPost_ret (results_blk2 rfl rfl rfl HFB.out Tryz.underlying34 (by kernel_rfl)) rfl ?_
          rw [HF.out]
          exact ⟨_, _, _, _, rfl, H4.out.wide (fun k _ h => Or.inl h.1), HMG.out, fun _ => ⟨rfl, rfl, rfl, rfl⟩⟩
        have HF : Sec (res = (dirL (d.1 ++ [([], 0)], d.2) (1, nm, [], (d.1.length : Int)), 0)) := ⟨HE4.out.trans (if_neg hfull)⟩
        rw [decide_eq_false hfull]
        have hn6 : d.1.length < 600 := by omega
        clear hfull
        have HZM : Sec (∀ W, dNode.M W [] (([], 0) : NodeT) [.slice none 0 0, .int .i64 0]) := ⟨fun W => zmNode W⟩
        go_wp2_with (at_builtin; go_loud (refine Out4.list0 (X := fun k => (X k ∧ k < w.heap.size) ∨ w.heap.size + 3 ≤ k) (y := ([], 0)) (G := []) _ rfl (.tmp 70) (.tmp 72) _ rfl Tryz.underlying30 rfl rfl (HO.out.new ((Mod.refl _ _).alloc _)) (HZM.out _) (by simp) (lit_cells _ _ _ rfl) (fun k hk => Or.inl hk) (fun k hk => by simp at hk; exact Or.inr (by omega)) (by omega) ?_; intro A5 n5 c5 w5 h5 hm5; have HO5 := Sec.mk h5; have HM5 := Sec.mk (((HM0.out.alloc _).mono (T := X) (fun i hlt h => h.elim)).trans hm5 (fun i hi hlt => hi.1)); have HBD5 := Sec.mk ((HBD.out.alloc _).mod hm5 (by omega)); have HBO5 := Sec.mk ((HBO.out.alloc _).mod hm5 (by omega)); have HBR5 := Sec.mk ((HBR.out.alloc _).mod hm5 (by omega)); have hw5 : w.heap.size + 3 ≤ w5.heap.size := (by have := hm5.size; simp at this; omega); clear h5 hm5; have e0 : w5.cell? ⟨w.heap.size, 0, none⟩ = some (.slice A0 d.1.length c0) := HBD5.out.cell 0; have ef0 : w5.frozen? ⟨w.heap.size, 0, none⟩ = false := HBD5.out.frozen 0; have e1 : w5.cell? ⟨w.heap.size, 1, none⟩ = some (.slice A1 d.2.1.length c1) := HBD5.out.cell 1; have e2 : w5.cell? ⟨w.heap.size, 2, none⟩ = some (.slice A2 d.2.2.1.length c2) := HBD5.out.cell 2; have e3 : w5.cell? ⟨w.heap.size, 3, none⟩ = some (.slice A3 d.2.2.2.1.length c3) := HBD5.out.cell 3; have e4 : w5.cell? ⟨w.heap.size, 4, none⟩ = some (.int .i64 d.2.2.2.2) := HBD5.out.cell 4; have eo0 : w5.cell? ⟨w.heap.size + 1, 0, none⟩ = some (.int .i64 1) := HBO5.out.cell 0; have eo1 : w5.cell? ⟨w.heap.size + 1, 1, none⟩ = some (.string ⟨nm.toArray⟩) := HBO5.out.cell 1; have hwa : w.heap.size < w5.heap.size := (by omega); have hwb : w.heap.size + 1 < w5.heap.size := (by omega); have hwc : w.heap.size + 1 + 1 < w5.heap.size := (by omega))
          )
        have hn5 : n5 = d.1.length + 1 := by
          obtain ⟨_, _, _, _, _, _, _, _, e, -⟩ := HO5.out.forms
          cases e; simp
        subst hn5
        have hm6 : Mod (fun k => k = w.heap.size) w5 (w5.setCell ⟨w.heap.size, 0, none⟩ (.slice A5 (d.1.length + 1) c5)) := (Mod.refl (fun k => k = w.heap.size) w5).setCell (p := ⟨w.heap.size, 0, none⟩) (fun _ => rfl) _
        have HO6 := Sec.mk (HO5.out.keep hm6 (fun k h e => by omega))
        have HM6 := Sec.mk (HM5.out.trans hm6 (fun i hi hlt => by omega))
        have HBR6 := Sec.mk (HBR5.out.mod hm6 (by omega))
        have hs6 : w5.heap.size ≤ (w5.setCell ⟨w.heap.size, 0, none⟩ (.slice A5 (d.1.length + 1) c5)).heap.size := hm6.size
        clear hm6
        generalize w5.setCell ⟨w.heap.size, 0, none⟩ (.slice A5 (d.1.length + 1) c5) = w6 at *
        have hi6 := HI.out.push hn6
        have hw1 : wrap64 (((d.1.length + 1 : Nat) : Int) - 1) = (d.1.length : Int) := by rw [show ((d.1.length + 1 : Nat) : Int) - 1 = (d.1.length : Int) by omega]; unfold wrap64; omega
        have hwr : IntKind.i64.wrap (d.1.length : Int) = (d.1.length : Int) := by rw [IntKind.wrap_i64]; omega
        rw [hw1]
        refine (l1Dir_v (d := (d.1 ++ [([], 0)], d.2)) HO6.out hi6 (by omega) (1, nm, [], (d.1.length : Int)) (show IntKind.i64.wrap 1 = 1 by decide) HWK.out.2.1 (by simp) hwr).mono ?_
        clear hi6 hw1 hwr
        generalize dirL (d.1 ++ [([], 0)], d.2) (1, nm, [], (d.1.length : Int)) = dd at *
        rintro e w7 ⟨u0, u1, u2, u3, rfl, ho7, hm7⟩
        obtain ⟨E0, g0, E1, g1, E2, g2, E3, g3, rfl, rfl, rfl, rfl, -⟩ := ho7.forms
        have HO2 := Sec.mk ho7
        have HBR2 := Sec.mk (HBR6.out.mod hm7 (by omega))
        have HM2 := Sec.mk (HM6.out.trans hm7 (fun i hi hlt => by rcases hi with hi | hi <;> first | exact hi.1 | exact absurd hlt (by omega)))
        have hs2 := hm7.size
        clear ho7 hm7
        have yr0 : w7.cell? ⟨w.heap.size + 1 + 1, 0, none⟩ = some (.slice none 0 0) := HBR2.out.cell 0
        have yf0 : w7.frozen? ⟨w.heap.size + 1 + 1, 0, none⟩ = false := HBR2.out.frozen 0
        have yr1 : w7.cell? ⟨w.heap.size + 1 + 1, 1, none⟩ = some (.slice none 0 0) := HBR2.out.cell 1
        have yf1 : w7.frozen? ⟨w.heap.size + 1 + 1, 1, none⟩ = false := HBR2.out.frozen 1
        have yr2 : w7.cell? ⟨w.heap.size + 1 + 1, 2, none⟩ = some (.slice none 0 0) := HBR2.out.cell 2
        have yf2 : w7.frozen? ⟨w.heap.size + 1 + 1, 2, none⟩ = false := HBR2.out.frozen 2
        have yr3 : w7.cell? ⟨w.heap.size + 1 + 1, 3, none⟩ = some (.slice none 0 0) := HBR2.out.cell 3
        have yf3 : w7.frozen? ⟨w.heap.size + 1 + 1, 3, none⟩ = false := HBR2.out.frozen 3
        have yr4 : w7.cell? ⟨w.heap.size + 1 + 1, 4, none⟩ = some (.int .i64 0) := HBR2.out.cell 4
        have yf4 : w7.frozen? ⟨w.heap.size + 1 + 1, 4, none⟩ = false := HBR2.out.frozen 4
        have hwy : w.heap.size + 1 + 1 < w7.heap.size := by omega
        have HFB := Sec.mk (set5_blk HBR2.out (.slice E0 dd.1.length g0) (.slice E1 dd.2.1.length g1) (.slice E2 dd.2.2.1.length g2) (.slice E3 dd.2.2.2.1.length g3) (.int .i64 dd.2.2.2.2))
        have HFM := set5_mod w7 (w.heap.size + 1 + 1) (.slice E0 dd.1.length g0) (.slice E1 dd.2.1.length g1) (.slice E2 dd.2.2.1.length g2) (.slice E3 dd.2.2.2.1.length g3) (.int .i64 dd.2.2.2.2)
        have H4 := Sec.mk (HO2.out.keep HFM (fun k h e => by omega))
        have HMG := Sec.mk (HM2.out.trans HFM (fun i hi hlt => by omega))
        clear HFM
        go_wp2
        refine bodyPost_ret (results_blk2 rfl rfl rfl HFB.out Tryz.underlying34 (by kernel_rfl)) rfl ?_
        rw [HF.out]
        exact ⟨_, _, _, _, rfl, H4.out.wide (fun k _ h => by rcases h with (h | h) | h <;> first | exact Or.inl h.1 | exact Or.inr (by omega)), HMG.out, fun h => absurd rfl h⟩
    have HE5 : Sec (res = if hasE d.2.1 nm = false then (d, 4)
      else if kd = 2 then
        (if d.2.2.2.2 < (usedL d : Int) + (dat.length : Int) then (d, 5)
         else if 40000 < (nodeAt d (nodeOf d nm)).1.length + dat.length ∨ 200000 < sumD d.1 + dat.length then (d, 6)
         else (withNode d (nodeOf d nm) ((nodeAt d (nodeOf d nm)).1 ++ dat, (nodeAt d (nodeOf d nm)).2), 0))
      else if kd = 3 then (withNode d (nodeOf d nm) ((nodeAt d (nodeOf d nm)).1, ((nodeAt d (nodeOf d nm)).1.length : Int)), 0)
      else if kd = 4 ∧ tn = nm then (d, 0)
      else if 1000 ≤ d.2.2.2.1.length then (d, 6)
      else (dirL d (kd, nm, if kd = 4 then tn else [], 0), 0)) := ⟨HE3.out.trans (if_neg hkk1)⟩
    clear HE3
    rcases HAT.out with ⟨hh, hat⟩ | ⟨hh, hat⟩
    · have hati : at' < 0 := by omega
      have HF : Sec (res = (d, 4)) := ⟨HE5.out.trans (if_pos hh)⟩
      clear hat hh
      have HFB := Sec.mk (set5_blk HBR.out (.slice A0 d.1.length c0) (.slice A1 d.2.1.length c1) (.slice A2 d.2.2.1.length c2) (.slice A3 d.2.2.2.1.length c3) (.int .i64 d.2.2.2.2))
      have HFM := set5_mod wz (w.heap.size + 1 + 1) (.slice A0 d.1.length c0) (.slice A1 d.2.1.length c1) (.slice A2 d.2.2.1.length c2) (.slice A3 d.2.2.2.1.length c3) (.int .i64 d.2.2.2.2)
      have H4 := Sec.mk (HO.out.keep HFM (fun k h e => by omega))
      have HMG := Sec.mk ((HM0.out.mono (T := X) (fun i hlt h => h.elim)).trans HFM (fun i hi hlt => by omega))
      clear HFM
      go_wp2
      refine bodyPost_ret (results_blk2 rfl rfl rfl HFB.out Tryz.underlying34 (by kernel_rfl)) rfl ?_
      rw [HF.out]
      exact ⟨_, _, _, _, rfl, H4.out.wide (fun k _ h => Or.inl h.1), HMG.out, fun _ => ⟨rfl, rfl, rfl, rfl⟩⟩
    have HNO : Sec (nodeOf d nm = (d.2.1[placeE d.2.1 nm]?.getD ([], 0)).2) := ⟨rfl⟩
    have HNA : Sec (∀ i, nodeAt d i = d.1[i.toNat]?.getD ([], 0)) := ⟨fun _ => rfl⟩
    have HE6 : Sec (res = if kd = 2 then
        (if d.2.2.2.2 < (usedL d : Int) + (dat.length : Int) then (d, 5)
         else if 40000 < (nodeAt d (nodeOf d nm)).1.length + dat.length ∨ 200000 < sumD d.1 + dat.length then (d, 6)
         else (withNode d (nodeOf d nm) ((nodeAt d (nodeOf d nm)).1 ++ dat, (nodeAt d (nodeOf d nm)).2), 0))
      else if kd = 3 then (withNode d (nodeOf d nm) ((nodeAt d (nodeOf d nm)).1, ((nodeAt d (nodeOf d nm)).1.length : Int)), 0)
      else if kd = 4 ∧ tn = nm then (d, 0)
      else if 1000 ≤ d.2.2.2.1.length then (d, 6)
      else (dirL d (kd, nm, if kd = 4 then tn else [], 0), 0)) := ⟨HE5.out.trans (if_neg (by rw [hh]; simp))⟩
    clear HE5
    obtain ⟨hplt, hpn⟩ := (place_at HOR.out nm).1.mp hh
    have hnb := HI.out.inr _ (List.getElem_mem hplt)
    obtain ⟨ad, rfl, -, e1, -, -⟩ := ent_at (HRN.out.mod (w' := wz) (fun _ h => h) (fun k hk => HM0.out.block k hk id)) (w' := wz) (fun _ _ => rfl) hplt
    rw [List.getElem?_eq_getElem hplt] at HNO
    have HNO2 : Sec (nodeOf d nm = (d.2.1[placeE d.2.1 nm]'hplt).2) := ⟨HNO.out⟩
    clear HNO HAT hpn hh
    generalize (d.2.1[placeE d.2.1 nm]'hplt).2 = u at *
    generalize placeE d.2.1 nm = pl at *
    obtain ⟨nd, rfl⟩ := Int.eq_ofNat_of_zero_le hnb.1
    have hnl : nd < d.1.length := by have := hnb.2; omega
    have hpi : (pl : Int) < (d.2.1.length : Int) := by omega
    have hni : (nd : Int) < (d.1.length : Int) := by omega
    rw [HNO2.out] at HE6
    have HNX : Sec (nodeAt d (nd : Int) = d.1[nd]) := ⟨by rw [HNA.out]; show d.1[nd]?.getD ([], 0) = _; rw [List.getElem?_eq_getElem hnl]; rfl⟩
    rw [HNX.out] at HE6
    clear HNX HNA HNO2
    obtain ⟨bd, A', c', rfl, n0, n1, hcc, hcm, hrow, hw⟩ := node_at (HRA.out.mod (w' := wz) (fun _ h => h) (fun k hk => HM0.out.block k hk id)) (w' := wz) (fun _ _ => rfl) hnl
    have hdl := HI.out.len _ (List.getElem_mem hnl)
    have HRDA := Sec.mk hrow
    have HSW := Sec.mk hw
    clear hrow hw hnb
    have hatn : ¬ (pl : Int) < 0 := by omega
    subst hat
    have hul2 : usedL d ≤ 40000 * 90000 := by
      have h1 := used_le HI.out d.2.1.length
      rw [List.take_length] at h1
      have h2 : usedL d ≤ 40000 * d.2.1.length := h1
      omega
    go_upto_region 17 with (fail)
    by_cases hkk3 : kd = 3
    · subst hkk3
      have HF : Sec (res = (withNode d (nd : Int) (d.1[nd].1, (d.1[nd].1.length : Int)), 0)) := ⟨(HE6.out.trans (if_neg (by decide))).trans (if_pos rfl)⟩
      clear HE6
      obtain ⟨g, hbg, hXg, ⟨u', hc⟩, hfz, hO7⟩ := HO.out.setSafe hnl (s := (d.1[nd].1.length : Int)) (by rw [IntKind.wrap_i64]; omega)
      have hba : bd.add (nd * 2) = ⟨g, nd * 2, none⟩ := by
        obtain rfl : bd = ⟨g, 0, none⟩ := by simpa using hbg
        by_cases hk : nd = 0
        · subst hk; rfl
        · simp [Addr.add]; omega
      have nf1 : wz.frozen? ⟨(bd.add (nd * 2)).block, (bd.add (nd * 2)).off + 1, none⟩ = false := by rw [hba]; exact hfz
      have HBA := Sec.mk hba
      have HBG := Sec.mk hbg
      have HXG := Sec.mk hXg
      have HO7 := Sec.mk hO7
      clear hba hbg hXg hc hfz hO7 n0
      go_upto_region 27 with (fail)
      rw [HBA.out]
      dsimp only
      obtain rfl : bd = ⟨g, 0, none⟩ := by simpa using HBG.out
      clear HBA HBG nf1 n1 e1
      have hm7 : Mod (fun k => k = g) wz (wz.setCell ⟨g, nd * 2 + 1, none⟩ (.int .i64 (d.1[nd].1.length : Int))) := (Mod.refl (fun k => k = g) wz).setCell (p := ⟨g, nd * 2 + 1, none⟩) (fun _ => rfl) _
      have HO2' : Sec (Out4 (fun k => (X k ∧ k < w.heap.size) ∨ w.heap.size + 3 ≤ k) (wz.setCell ⟨g, nd * 2 + 1, none⟩ (.int .i64 (d.1[nd].1.length : Int))) (.slice (some ⟨g, 0, none⟩) d.1.length c0) (.slice (some ad) d.2.1.length c1) (.slice A2 d.2.2.1.length c2) (.slice A3 d.2.2.2.1.length c3) (withNode d (nd : Int) (d.1[nd].1, (d.1[nd].1.length : Int)))) := ⟨HO7.out.wide (fun k _ h => Or.inl h)⟩
      have HM2' := Sec.mk ((HM0.out.mono (T := X) (fun i hlt h => h.elim)).trans hm7 (fun i hi hlt => hi ▸ HXG.out.1))
      have HBR2' := Sec.mk (HBR.out.mod hm7 (by have := HXG.out.2; omega))
      have HBD2' := Sec.mk (HBD.out.mod hm7 (by have := HXG.out.2; omega))
      have hs2' : wz.heap.size ≤ (wz.setCell ⟨g, nd * 2 + 1, none⟩ (.int .i64 (d.1[nd].1.length : Int))).heap.size := hm7.size
      clear hm7 HO7
      have udd0 : (wz.setCell ⟨g, nd * 2 + 1, none⟩ (.int .i64 (d.1[nd].1.length : Int))).cell? ⟨w.heap.size, 0, none⟩ = some (.slice (some ⟨g, 0, none⟩) d.1.length c0) := HBD2'.out.cell 0
      have udd1 : (wz.setCell ⟨g, nd * 2 + 1, none⟩ (.int .i64 (d.1[nd].1.length : Int))).cell? ⟨w.heap.size, 1, none⟩ = some (.slice (some ad) d.2.1.length c1) := HBD2'.out.cell 1
      have udd2 : (wz.setCell ⟨g, nd * 2 + 1, none⟩ (.int .i64 (d.1[nd].1.length : Int))).cell? ⟨w.heap.size, 2, none⟩ = some (.slice A2 d.2.2.1.length c2) := HBD2'.out.cell 2
      have udd3 : (wz.setCell ⟨g, nd * 2 + 1, none⟩ (.int .i64 (d.1[nd].1.length : Int))).cell? ⟨w.heap.size, 3, none⟩ = some (.slice A3 d.2.2.2.1.length c3) := HBD2'.out.cell 3
      have udd4 : (wz.setCell ⟨g, nd * 2 + 1, none⟩ (.int .i64 (d.1[nd].1.length : Int))).cell? ⟨w.heap.size, 4, none⟩ = some (.int .i64 d.2.2.2.2) := HBD2'.out.cell 4
      have hwau : w.heap.size < (wz.setCell ⟨g, nd * 2 + 1, none⟩ (.int .i64 (d.1[nd].1.length : Int))).heap.size := by omega
      have yr0 : (wz.setCell ⟨g, nd * 2 + 1, none⟩ (.int .i64 (d.1[nd].1.length : Int))).cell? ⟨w.heap.size + 1 + 1, 0, none⟩ = some (.slice none 0 0) := HBR2'.out.cell 0
      have yf0 : (wz.setCell ⟨g, nd * 2 + 1, none⟩ (.int .i64 (d.1[nd].1.length : Int))).frozen? ⟨w.heap.size + 1 + 1, 0, none⟩ = false := HBR2'.out.frozen 0
      have yr1 : (wz.setCell ⟨g, nd * 2 + 1, none⟩ (.int .i64 (d.1[nd].1.length : Int))).cell? ⟨w.heap.size + 1 + 1, 1, none⟩ = some (.slice none 0 0) := HBR2'.out.cell 1
      have yf1 : (wz.setCell ⟨g, nd * 2 + 1, none⟩ (.int .i64 (d.1[nd].1.length : Int))).frozen? ⟨w.heap.size + 1 + 1, 1, none⟩ = false := HBR2'.out.frozen 1
      have yr2 : (wz.setCell ⟨g, nd * 2 + 1, none⟩ (.int .i64 (d.1[nd].1.length : Int))).cell? ⟨w.heap.size + 1 + 1, 2, none⟩ = some (.slice none 0 0) := HBR2'.out.cell 2
      have yf2 : (wz.setCell ⟨g, nd * 2 + 1, none⟩ (.int .i64 (d.1[nd].1.length : Int))).frozen? ⟨w.heap.size + 1 + 1, 2, none⟩ = false := HBR2'.out.frozen 2
      have yr3 : (wz.setCell ⟨g, nd * 2 + 1, none⟩ (.int .i64 (d.1[nd].1.length : Int))).cell? ⟨w.heap.size + 1 + 1, 3, none⟩ = some (.slice none 0 0) := HBR2'.out.cell 3
      have yf3 : (wz.setCell ⟨g, nd * 2 + 1, none⟩ (.int .i64 (d.1[nd].1.length : Int))).frozen? ⟨w.heap.size + 1 + 1, 3, none⟩ = false := HBR2'.out.frozen 3
      have yr4 : (wz.setCell ⟨g, nd * 2 + 1, none⟩ (.int .i64 (d.1[nd].1.length : Int))).cell? ⟨w.heap.size + 1 + 1, 4, none⟩ = some (.int .i64 0) := HBR2'.out.cell 4
      have yf4 : (wz.setCell ⟨g, nd * 2 + 1, none⟩ (.int .i64 (d.1[nd].1.length : Int))).frozen? ⟨w.heap.size + 1 + 1, 4, none⟩ = false := HBR2'.out.frozen 4
      have hwy : w.heap.size + 1 + 1 < (wz.setCell ⟨g, nd * 2 + 1, none⟩ (.int .i64 (d.1[nd].1.length : Int))).heap.size := by omega
      have HFB := Sec.mk (set5_blk HBR2'.out (.slice (some ⟨g, 0, none⟩) d.1.length c0) (.slice (some ad) d.2.1.length c1) (.slice A2 d.2.2.1.length c2) (.slice A3 d.2.2.2.1.length c3) (.int .i64 d.2.2.2.2))
      have HFM := set5_mod (wz.setCell ⟨g, nd * 2 + 1, none⟩ (.int .i64 (d.1[nd].1.length : Int))) (w.heap.size + 1 + 1) (.slice (some ⟨g, 0, none⟩) d.1.length c0) (.slice (some ad) d.2.1.length c1) (.slice A2 d.2.2.1.length c2) (.slice A3 d.2.2.2.1.length c3) (.int .i64 d.2.2.2.2)
      have H4 := Sec.mk (HO2'.out.keep HFM (fun k h e => by omega))
      have HMG := Sec.mk (HM2'.out.trans HFM (fun i hi hlt => by omega))
      clear HFM
      go_wp2
      refine bodyPost_ret (results_blk2 rfl rfl rfl HFB.out Tryz.underlying34 (by kernel_rfl)) rfl ?_
      rw [HF.out]
      exact ⟨_, _, _, _, rfl, H4.out.wide (fun k _ h => by rcases h with h | h <;> first | exact Or.inl h.1 | exact Or.inr (by omega)), HMG.out, fun h => absurd rfl h⟩
    clear n0 n1 e1
    obtain ⟨g, hbg, hXg⟩ := HO.out.base0 hnl
    obtain rfl : bd = ⟨g, 0, none⟩ := by simpa using hbg
    clear hbg
    have HOZ := Sec.mk HO.out
    by_cases hkk2 : kd = 2
    · subst hkk2
      have HE7 : Sec (res = if d.2.2.2.2 < (usedL d : Int) + (dat.length : Int) then (d, 5)
         else if 40000 < d.1[nd].1.length + dat.length ∨ 200000 < sumD d.1 + dat.length then (d, 6)
         else (withNode d (nd : Int) (d.1[nd].1 ++ dat, d.1[nd].2), 0)) := ⟨HE6.out.trans (if_pos rfl)⟩
      clear HE6
      go_wp2
      go_region_held3 (fun w' => w'.cell? ⟨w.heap.size, 0, none⟩ = some (.slice (some ⟨g, 0, none⟩) d.1.length c0) ∧ w'.cell? ⟨w.heap.size, 1, none⟩ = some (.slice (some ad) d.2.1.length c1) ∧ w'.cell? ⟨w.heap.size, 2, none⟩ = some (.slice A2 d.2.2.1.length c2) ∧ w'.cell? ⟨w.heap.size, 3, none⟩ = some (.slice A3 d.2.2.2.1.length c3) ∧ w'.cell? ⟨w.heap.size, 4, none⟩ = some (.int .i64 d.2.2.2.2) ∧ w'.cell? ⟨w.heap.size + 1, 3, none⟩ = some (.slice Ad dat.length dc))
        (first | go_keep | (refine ⟨hm2.cell_of ?_, hm2.cell_of ?_, hm2.cell_of ?_, hm2.cell_of ?_, hm2.cell_of ?_, hm2.cell_of ?_⟩ <;> assumption) | (go_split_ands; refine ⟨hm2.cell_of ?_, hm2.cell_of ?_, hm2.cell_of ?_, hm2.cell_of ?_, hm2.cell_of ?_, hm2.cell_of ?_⟩ <;> assumption))
        ((go_at_call 55; refine (l1Used_v (HRD.out.step HM0.out.drew) HI.out (by omega)).mono ?_; rintro e w2 ⟨rfl, hm2⟩))
      have hmz : New wz w2 := ((Mod.refl (fun _ => False) wz).drew).transN hm2
      clear hm2
      have HM2 := Sec.mk (HM0.out.transN hmz)
      have HBD2 := Sec.mk (HBD.out.mod hmz id)
      have HBO2 := Sec.mk (HBO.out.mod hmz id)
      have HBR2 := Sec.mk (HBR.out.mod hmz id)
      have HO2 := Sec.mk (HO.out.new hmz)
      have hs2 := hmz.size
      have hwa2 : w.heap.size < w2.heap.size := by omega
      have hwb2 : w.heap.size + 1 < w2.heap.size := by omega
      have hwc2 : w.heap.size + 1 + 1 < w2.heap.size := by omega
      have q20 : w2.cell? ⟨w.heap.size + 1, 0, none⟩ = some (.int .i64 2) := HBO2.out.cell 0
      have q23 : w2.cell? ⟨w.heap.size + 1, 3, none⟩ = some (.slice Ad dat.length dc) := HBO2.out.cell 3
      have x2d0 : w2.cell? ⟨w.heap.size, 0, none⟩ = some (.slice (some ⟨g, 0, none⟩) d.1.length c0) := HBD2.out.cell 0
      have x2d1 : w2.cell? ⟨w.heap.size, 1, none⟩ = some (.slice (some ad) d.2.1.length c1) := HBD2.out.cell 1
      have x2d2 : w2.cell? ⟨w.heap.size, 2, none⟩ = some (.slice A2 d.2.2.1.length c2) := HBD2.out.cell 2
      have x2d3 : w2.cell? ⟨w.heap.size, 3, none⟩ = some (.slice A3 d.2.2.2.1.length c3) := HBD2.out.cell 3
      have x2d4 : w2.cell? ⟨w.heap.size, 4, none⟩ = some (.int .i64 d.2.2.2.2) := HBD2.out.cell 4
      have x2r0 : w2.cell? ⟨w.heap.size + 1 + 1, 0, none⟩ = some (.slice none 0 0) := HBR2.out.cell 0
      have x2f0 : w2.frozen? ⟨w.heap.size + 1 + 1, 0, none⟩ = false := HBR2.out.frozen 0
      have x2r1 : w2.cell? ⟨w.heap.size + 1 + 1, 1, none⟩ = some (.slice none 0 0) := HBR2.out.cell 1
      have x2f1 : w2.frozen? ⟨w.heap.size + 1 + 1, 1, none⟩ = false := HBR2.out.frozen 1
      have x2r2 : w2.cell? ⟨w.heap.size + 1 + 1, 2, none⟩ = some (.slice none 0 0) := HBR2.out.cell 2
      have x2f2 : w2.frozen? ⟨w.heap.size + 1 + 1, 2, none⟩ = false := HBR2.out.frozen 2
      have x2r3 : w2.cell? ⟨w.heap.size + 1 + 1, 3, none⟩ = some (.slice none 0 0) := HBR2.out.cell 3
      have x2f3 : w2.frozen? ⟨w.heap.size + 1 + 1, 3, none⟩ = false := HBR2.out.frozen 3
      have x2r4 : w2.cell? ⟨w.heap.size + 1 + 1, 4, none⟩ = some (.int .i64 0) := HBR2.out.cell 4
      have x2f4 : w2.frozen? ⟨w.heap.size + 1 + 1, 4, none⟩ = false := HBR2.out.frozen 4
      have HZ2 : Sec (New wz w2) := ⟨hmz⟩
      have hwu : IntKind.i64.wrap ((usedL d : Int) + (dat.length : Int)) = (usedL d : Int) + (dat.length : Int) := by rw [IntKind.wrap_i64]; omega
      rw [hwu]
      clear hwu
      by_cases hq : d.2.2.2.2 < (usedL d : Int) + (dat.length : Int)
      · have HF : Sec (res = (d, 5)) := ⟨HE7.out.trans (if_pos hq)⟩
        have HFB := Sec.mk (set5_blk HBR2.out (.slice (some ⟨g, 0, none⟩) d.1.length c0) (.slice (some ad) d.2.1.length c1) (.slice A2 d.2.2.1.length c2) (.slice A3 d.2.2.2.1.length c3) (.int .i64 d.2.2.2.2))
        have HFM := set5_mod w2 (w.heap.size + 1 + 1) (.slice (some ⟨g, 0, none⟩) d.1.length c0) (.slice (some ad) d.2.1.length c1) (.slice A2 d.2.2.1.length c2) (.slice A3 d.2.2.2.1.length c3) (.int .i64 d.2.2.2.2)
        have H4 := Sec.mk (HO2.out.keep HFM (fun k h e => by omega))
        have HMG := Sec.mk ((HM2.out.mono (T := X) (fun i hlt h => h.elim)).trans HFM (fun i hi hlt => by omega))
        clear HFM
        go_wp2
        refine bodyPost_ret (results_blk2 rfl rfl rfl HFB.out Tryz.underlying34 (by kernel_rfl)) rfl ?_
        rw [HF.out]
        exact ⟨_, _, _, _, rfl, H4.out.wide (fun k _ h => Or.inl h.1), HMG.out, fun _ => ⟨rfl, rfl, rfl, rfl⟩⟩
      have HE8 : Sec (res = if 40000 < d.1[nd].1.length + dat.length ∨ 200000 < sumD d.1 + dat.length then (d, 6)
         else (withNode d (nd : Int) (d.1[nd].1 ++ dat, d.1[nd].2), 0)) := ⟨HE7.out.trans (if_neg hq)⟩
      clear HE7
      have hwx : IntKind.i64.wrap ((d.1[nd].1.length : Int) + (dat.length : Int)) = (d.1[nd].1.length : Int) + (dat.length : Int) := by rw [IntKind.wrap_i64]; omega
      by_cases h40 : 40000 < d.1[nd].1.length + dat.length
      · have HF : Sec (res = (d, 6)) := ⟨HE8.out.trans (if_pos (Or.inl h40))⟩
        have h40i : decide ((40000 : Int) < IntKind.i64.wrap ((d.1[nd].1.length : Int) + (dat.length : Int))) = true := by rw [hwx]; simp; omega
        clear hwx
        go_wp2
        refine wp_region_quiet_lit (by kernel_rfl) (by kernel_rfl) ?_
        repeat ((with_reducible refine wpQuiet_step (fun K hK => ?_)); go_simp; first | (refine hK _ ?_; clear hK K) | (apply Exists.intro; refine ⟨fun _ => ?_, hK _ ?_⟩; (fail); clear hK K))
        refine wpQuiet_nil ?_
        intro _ hwq
        obtain ⟨nq, hwqq⟩ := hwq
        subst hwqq
        have hmz : New w2 (w2.drewN nq) := (Mod.refl (fun _ => False) w2).drewN nq
        generalize w2.drewN nq = w3 at *
        have HM3 := Sec.mk (HM2.out.transN hmz)
        have HBD3 := Sec.mk (HBD2.out.mod hmz id)
        have HBO3 := Sec.mk (HBO2.out.mod hmz id)
        have HBR3 := Sec.mk (HBR2.out.mod hmz id)
        have HO3 := Sec.mk (HO2.out.new hmz)
        have hs3 := hmz.size
        have hwa3 : w.heap.size < w3.heap.size := by omega
        have hwb3 : w.heap.size + 1 < w3.heap.size := by omega
        have hwc3 : w.heap.size + 1 + 1 < w3.heap.size := by omega
        have q30 : w3.cell? ⟨w.heap.size + 1, 0, none⟩ = some (.int .i64 2) := HBO3.out.cell 0
        have q33 : w3.cell? ⟨w.heap.size + 1, 3, none⟩ = some (.slice Ad dat.length dc) := HBO3.out.cell 3
        have x3d0 : w3.cell? ⟨w.heap.size, 0, none⟩ = some (.slice (some ⟨g, 0, none⟩) d.1.length c0) := HBD3.out.cell 0
        have x3d1 : w3.cell? ⟨w.heap.size, 1, none⟩ = some (.slice (some ad) d.2.1.length c1) := HBD3.out.cell 1
        have x3d2 : w3.cell? ⟨w.heap.size, 2, none⟩ = some (.slice A2 d.2.2.1.length c2) := HBD3.out.cell 2
        have x3d3 : w3.cell? ⟨w.heap.size, 3, none⟩ = some (.slice A3 d.2.2.2.1.length c3) := HBD3.out.cell 3
        have x3d4 : w3.cell? ⟨w.heap.size, 4, none⟩ = some (.int .i64 d.2.2.2.2) := HBD3.out.cell 4
        have x3r0 : w3.cell? ⟨w.heap.size + 1 + 1, 0, none⟩ = some (.slice none 0 0) := HBR3.out.cell 0
        have x3f0 : w3.frozen? ⟨w.heap.size + 1 + 1, 0, none⟩ = false := HBR3.out.frozen 0
        have x3r1 : w3.cell? ⟨w.heap.size + 1 + 1, 1, none⟩ = some (.slice none 0 0) := HBR3.out.cell 1
        have x3f1 : w3.frozen? ⟨w.heap.size + 1 + 1, 1, none⟩ = false := HBR3.out.frozen 1
        have x3r2 : w3.cell? ⟨w.heap.size + 1 + 1, 2, none⟩ = some (.slice none 0 0) := HBR3.out.cell 2
        have x3f2 : w3.frozen? ⟨w.heap.size + 1 + 1, 2, none⟩ = false := HBR3.out.frozen 2
        have x3r3 : w3.cell? ⟨w.heap.size + 1 + 1, 3, none⟩ = some (.slice none 0 0) := HBR3.out.cell 3
        have x3f3 : w3.frozen? ⟨w.heap.size + 1 + 1, 3, none⟩ = false := HBR3.out.frozen 3
        have x3r4 : w3.cell? ⟨w.heap.size + 1 + 1, 4, none⟩ = some (.int .i64 0) := HBR3.out.cell 4
        have x3f4 : w3.frozen? ⟨w.heap.size + 1 + 1, 4, none⟩ = false := HBR3.out.frozen 4
        have HFB := Sec.mk (set5_blk HBR3.out (.slice (some ⟨g, 0, none⟩) d.1.length c0) (.slice (some ad) d.2.1.length c1) (.slice A2 d.2.2.1.length c2) (.slice A3 d.2.2.2.1.length c3) (.int .i64 d.2.2.2.2))
        have HFM := set5_mod w3 (w.heap.size + 1 + 1) (.slice (some ⟨g, 0, none⟩) d.1.length c0) (.slice (some ad) d.2.1.length c1) (.slice A2 d.2.2.1.length c2) (.slice A3 d.2.2.2.1.length c3) (.int .i64 d.2.2.2.2)
        have H4 := Sec.mk (HO3.out.keep HFM (fun k h e => by omega))
        have HMG := Sec.mk ((HM3.out.mono (T := X) (fun i hlt h => h.elim)).trans HFM (fun i hi hlt => by omega))
        clear HFM
        go_wp2
        refine bodyPost_ret (results_blk2 rfl rfl rfl HFB.out Tryz.underlying34 (by kernel_rfl)) rfl ?_
        rw [HF.out]
        exact ⟨_, _, _, _, rfl, H4.out.wide (fun k _ h => Or.inl h.1), HMG.out, fun _ => ⟨rfl, rfl, rfl, rfl⟩⟩
      have HG4 : Sec ((d.1[nd].1.length : Int) + (dat.length : Int) ≤ 40000) := ⟨by omega⟩
      have HWX := Sec.mk hwx

      have hsl : sumD d.1 ≤ 40000 * 91000 := by have := sumD_le HI.out; omega
      have hwu : IntKind.i64.wrap ((sumD d.1 : Int) + (dat.length : Int)) = (sumD d.1 : Int) + (dat.length : Int) := by rw [IntKind.wrap_i64]; omega
      have HWU := Sec.mk hwu
      clear hwx hwu
      go_wp2
      have HSS : Sec (New w2 w2.drew) := ⟨(Mod.refl _ _).drew⟩
      refine reg_start [] (fun W => Sec (New w2 W)) (by kernel_rfl) ?_
      refine reg_take (.slice A' d.1[nd].1.length c') (i := 0) (n := 115) HSS rfl (by kernel_rfl) (by kernel_rfl) (by kernel_rfl) (by kernel_rfl) (fun _ _ _ h => h) (fun W hW => exec_move rfl rfl) ?_
      simp only [Act.put, List.setIfInBounds_toArray, List.set_cons_zero, List.set_cons_succ]
      refine reg_take (.int .i64 (d.1[nd].1.length : Int)) (i := 1) (n := 116) HSS rfl (by kernel_rfl) (by kernel_rfl) (by kernel_rfl) (by kernel_rfl) (fun _ _ _ h => h) (fun W hW => exec_lenD rfl rfl (lenBD _ _ _ _)) ?_
      simp only [Act.put, List.setIfInBounds_toArray, List.set_cons_zero, List.set_cons_succ]
      refine reg_take (.pointer (some ⟨w.heap.size + 1, 3, none⟩)) (i := 2) (n := 117) HSS rfl (by kernel_rfl) (by kernel_rfl) (by kernel_rfl) (by kernel_rfl) (fun _ _ _ h => h) (fun W hW => exec_field rfl rfl (fptOp3 _ _)) ?_
      simp only [Act.put, List.setIfInBounds_toArray, List.set_cons_zero, List.set_cons_succ]
      refine reg_take (.slice Ad dat.length dc) (i := 3) (n := 118) HSS rfl (by kernel_rfl) (by kernel_rfl) (by kernel_rfl) (by kernel_rfl) (fun _ _ _ h => h) (fun W hW => exec_load rfl rfl (ldBytesD (hW.out.cell_of q23))) ?_
      simp only [Act.put, List.setIfInBounds_toArray, List.set_cons_zero, List.set_cons_succ]
      refine reg_take (.int .i64 (dat.length : Int)) (i := 4) (n := 119) HSS rfl (by kernel_rfl) (by kernel_rfl) (by kernel_rfl) (by kernel_rfl) (fun _ _ _ h => h) (fun W hW => exec_lenD rfl rfl (lenBD _ _ _ _)) ?_
      simp only [Act.put, List.setIfInBounds_toArray, List.set_cons_zero, List.set_cons_succ]
      refine reg_take (.int .i64 ((d.1[nd].1.length : Int) + (dat.length : Int))) (i := 5) (n := 120) HSS rfl (by kernel_rfl) (by kernel_rfl) (by kernel_rfl) (by kernel_rfl) (fun _ _ _ h => h) (fun W hW => exec_bin rfl rfl rfl (addII HWX.out _ _ _)) ?_
      simp only [Act.put, List.setIfInBounds_toArray, List.set_cons_zero, List.set_cons_succ]
      refine reg_take (.bool false) (i := 6) (n := 121) HSS rfl (by kernel_rfl) (by kernel_rfl) (by kernel_rfl) (by kernel_rfl) (fun _ _ _ h => h) (fun W hW => exec_bin rfl rfl rfl (gtrFF HG4.out _ _ _)) ?_
      simp only [Act.put, List.setIfInBounds_toArray, List.set_cons_zero, List.set_cons_succ]
      refine reg_take (.bool false) (i := 7) (n := 122) HSS rfl (by kernel_rfl) (by kernel_rfl) (by kernel_rfl) (by kernel_rfl) (fun _ _ _ h => h) (fun W hW => exec_move rfl rfl) ?_
      simp only [Act.put, List.setIfInBounds_toArray, List.set_cons_zero, List.set_cons_succ]
      refine reg_takeG (.agg #[.slice (some ⟨g, 0, none⟩) d.1.length c0, .slice (some ad) d.2.1.length c1, .slice A2 d.2.2.1.length c2, .slice A3 d.2.2.2.1.length c3, .int .i64 d.2.2.2.2]) (i := 8) (n := 123) HSS rfl (by rfl) (by kernel_rfl) (by kernel_rfl) (by kernel_rfl) (by kernel_rfl) (fun _ _ _ h => h) (fun W hW => exec_load rfl rfl (ldDiskS (HBD2.out.mod hW.out id))) ?_
      simp only [Act.put, List.setIfInBounds_toArray, List.set_cons_zero, List.set_cons_succ]
      refine reg_takeG (.pointer (some ⟨w.heap.size + 1, 3, none⟩)) (i := 10) (n := 125) HSS rfl (by rfl) (by kernel_rfl) (by kernel_rfl) (by kernel_rfl) (by kernel_rfl) (fun _ _ _ h => h) (fun W hW => exec_field rfl rfl (fptOp3 _ _)) ?_
      simp only [Act.put, List.setIfInBounds_toArray, List.set_cons_zero, List.set_cons_succ]
      refine reg_takeG (.slice Ad dat.length dc) (i := 11) (n := 126) HSS rfl (by rfl) (by kernel_rfl) (by kernel_rfl) (by kernel_rfl) (by kernel_rfl) (fun _ _ _ h => h) (fun W hW => exec_load rfl rfl (ldBytesD (hW.out.cell_of q23))) ?_
      simp only [Act.put, List.setIfInBounds_toArray, List.set_cons_zero, List.set_cons_succ]
      refine reg_takeG (.int .i64 (dat.length : Int)) (i := 12) (n := 127) HSS rfl (by rfl) (by kernel_rfl) (by kernel_rfl) (by kernel_rfl) (by kernel_rfl) (fun _ _ _ h => h) (fun W hW => exec_lenD rfl rfl (lenBD _ _ _ _)) ?_
      simp only [Act.put, List.setIfInBounds_toArray, List.set_cons_zero, List.set_cons_succ]
      refine reg_stepG (i := 9) rfl (by rfl) (by kernel_rfl) (fun K hK => ?_)
      refine wp_call (n := 124) (vals := [.agg #[.slice (some ⟨g, 0, none⟩) d.1.length c0, .slice (some ad) d.2.1.length c1, .slice A2 d.2.2.1.length c2, .slice A3 d.2.2.2.1.length c3, .int .i64 d.2.2.2.2]]) rfl rfl rfl (by kernel_rfl) (l1Total_v (HRD.out.step (HM2.out.transN HSS.out)) HI.out (by omega)) ?_
      rintro e w3 ⟨rfl, hm3⟩
      have HSS : Sec (New w2 w3) := ⟨HSS.out.transN hm3⟩
      refine ⟨_, rfl, hK.out _ _ (fun _ => HSS) ?_⟩
      clear hm3
      clear hK K
      simp only [Act.put, List.setIfInBounds_toArray, List.set_cons_zero, List.set_cons_succ]
      refine reg_takeG (.int .i64 ((sumD d.1 : Int) + (dat.length : Int))) (i := 13) (n := 128) HSS rfl (by rfl) (by kernel_rfl) (by kernel_rfl) (by kernel_rfl) (by kernel_rfl) (fun _ _ _ h => h) (fun W hW => exec_bin rfl rfl rfl (addII HWU.out _ _ _)) ?_
      simp only [Act.put, List.setIfInBounds_toArray, List.set_cons_zero, List.set_cons_succ]
      refine reg_takeG (.bool (decide ((200000 : Int) < (sumD d.1 : Int) + (dat.length : Int)))) (i := 14) (n := 129) HSS rfl (by rfl) (by kernel_rfl) (by kernel_rfl) (by kernel_rfl) (by kernel_rfl) (fun _ _ _ h => h) (fun W hW => exec_bin rfl rfl rfl (gtrII _ _ _ _ _)) ?_
      simp only [Act.put, List.setIfInBounds_toArray, List.set_cons_zero, List.set_cons_succ]
      refine reg_take (.bool (decide ((200000 : Int) < (sumD d.1 : Int) + (dat.length : Int)))) (i := 15) (n := 130) HSS rfl (by kernel_rfl) (by kernel_rfl) (by kernel_rfl) (by kernel_rfl) (fun _ _ _ h => h) (fun W hW => exec_pick rfl rfl rfl rfl rfl) ?_
      simp only [Act.put, List.setIfInBounds_toArray, List.set_cons_zero, List.set_cons_succ]
      refine reg_done (by kernel_rfl) ?_ _
      have hmz : New w2 w3 := HSS.out
      clear HSS HWU HWX HG4
      have HM3 := Sec.mk (HM2.out.transN hmz)
      have HBD3 := Sec.mk (HBD2.out.mod hmz id)
      have HBO3 := Sec.mk (HBO2.out.mod hmz id)
      have HBR3 := Sec.mk (HBR2.out.mod hmz id)
      have HO3 := Sec.mk (HO2.out.new hmz)
      have hs3 := hmz.size
      have hwa3 : w.heap.size < w3.heap.size := by omega
      have hwb3 : w.heap.size + 1 < w3.heap.size := by omega
      have hwc3 : w.heap.size + 1 + 1 < w3.heap.size := by omega
      have q30 : w3.cell? ⟨w.heap.size + 1, 0, none⟩ = some (.int .i64 2) := HBO3.out.cell 0
      have q33 : w3.cell? ⟨w.heap.size + 1, 3, none⟩ = some (.slice Ad dat.length dc) := HBO3.out.cell 3
      have x3d0 : w3.cell? ⟨w.heap.size, 0, none⟩ = some (.slice (some ⟨g, 0, none⟩) d.1.length c0) := HBD3.out.cell 0
      have x3d1 : w3.cell? ⟨w.heap.size, 1, none⟩ = some (.slice (some ad) d.2.1.length c1) := HBD3.out.cell 1
      have x3d2 : w3.cell? ⟨w.heap.size, 2, none⟩ = some (.slice A2 d.2.2.1.length c2) := HBD3.out.cell 2
      have x3d3 : w3.cell? ⟨w.heap.size, 3, none⟩ = some (.slice A3 d.2.2.2.1.length c3) := HBD3.out.cell 3
      have x3d4 : w3.cell? ⟨w.heap.size, 4, none⟩ = some (.int .i64 d.2.2.2.2) := HBD3.out.cell 4
      have x3r0 : w3.cell? ⟨w.heap.size + 1 + 1, 0, none⟩ = some (.slice none 0 0) := HBR3.out.cell 0
      have x3f0 : w3.frozen? ⟨w.heap.size + 1 + 1, 0, none⟩ = false := HBR3.out.frozen 0
      have x3r1 : w3.cell? ⟨w.heap.size + 1 + 1, 1, none⟩ = some (.slice none 0 0) := HBR3.out.cell 1
      have x3f1 : w3.frozen? ⟨w.heap.size + 1 + 1, 1, none⟩ = false := HBR3.out.frozen 1
      have x3r2 : w3.cell? ⟨w.heap.size + 1 + 1, 2, none⟩ = some (.slice none 0 0) := HBR3.out.cell 2
      have x3f2 : w3.frozen? ⟨w.heap.size + 1 + 1, 2, none⟩ = false := HBR3.out.frozen 2
      have x3r3 : w3.cell? ⟨w.heap.size + 1 + 1, 3, none⟩ = some (.slice none 0 0) := HBR3.out.cell 3
      have x3f3 : w3.frozen? ⟨w.heap.size + 1 + 1, 3, none⟩ = false := HBR3.out.frozen 3
      have x3r4 : w3.cell? ⟨w.heap.size + 1 + 1, 4, none⟩ = some (.int .i64 0) := HBR3.out.cell 4
      have x3f4 : w3.frozen? ⟨w.heap.size + 1 + 1, 4, none⟩ = false := HBR3.out.frozen 4
      have HZ3 : Sec (New wz w3) := ⟨HZ2.out.transN hmz⟩
      by_cases h200 : 200000 < sumD d.1 + dat.length
      · have HF : Sec (res = (d, 6)) := ⟨HE8.out.trans (if_pos (Or.inr h200))⟩
        have h200i : decide ((200000 : Int) < (sumD d.1 : Int) + (dat.length : Int)) = true := by simp; omega
        rw [h200i]
        clear h200i
        have HFB := Sec.mk (set5_blk HBR3.out (.slice (some ⟨g, 0, none⟩) d.1.length c0) (.slice (some ad) d.2.1.length c1) (.slice A2 d.2.2.1.length c2) (.slice A3 d.2.2.2.1.length c3) (.int .i64 d.2.2.2.2))
        have HFM := set5_mod w3 (w.heap.size + 1 + 1) (.slice (some ⟨g, 0, none⟩) d.1.length c0) (.slice (some ad) d.2.1.length c1) (.slice A2 d.2.2.1.length c2) (.slice A3 d.2.2.2.1.length c3) (.int .i64 d.2.2.2.2)
        have H4 := Sec.mk (HO3.out.keep HFM (fun k h e => by omega))
        have HMG := Sec.mk ((HM3.out.mono (T := X) (fun i hlt h => h.elim)).trans HFM (fun i hi hlt => by omega))
        clear HFM
        go_wp2
        refine bodyPost_ret (results_blk2 rfl rfl rfl HFB.out Tryz.underlying34 (by kernel_rfl)) rfl ?_
        rw [HF.out]
        exact ⟨_, _, _, _, rfl, H4.out.wide (fun k _ h => Or.inl h.1), HMG.out, fun _ => ⟨rfl, rfl, rfl, rfl⟩⟩
      have HF : Sec (res = (withNode d (nd : Int) (d.1[nd].1 ++ dat, d.1[nd].2), 0)) := ⟨HE8.out.trans (if_neg (by omega))⟩
      have h200i : decide ((200000 : Int) < (sumD d.1 : Int) + (dat.length : Int)) = false := by simp; omega
      rw [h200i]
      clear h200i HE8
      have HHR := Sec.mk (HRDA.out.mod (w' := w3) (fun _ h => h) (fun k hk => HZ3.out.block k (by have : k < w.heap.size := hk; omega) id))
      go_wp2
      have HSS : Sec (New w3 w3.drew) := ⟨(Mod.refl _ _).drew⟩
      refine reg_start [10] (fun W => Sec (New w3 W)) (by kernel_rfl) ?_
      refine reg_take (.pointer (some ⟨w.heap.size, 0, none⟩)) (i := 0) (n := 132) HSS rfl (by kernel_rfl) (by kernel_rfl) (by kernel_rfl) (by kernel_rfl) (fun _ _ _ h => h) (fun W hW => exec_field rfl rfl (fptDisk0 _ _)) ?_
      simp only [Act.put, List.setIfInBounds_toArray, List.set_cons_zero, List.set_cons_succ]
      refine reg_take (.slice (some ⟨g, 0, none⟩) d.1.length c0) (i := 1) (n := 133) HSS rfl (by kernel_rfl) (by kernel_rfl) (by kernel_rfl) (by kernel_rfl) (fun _ _ _ h => h) (fun W hW => exec_load rfl rfl (ldNodesD (hW.out.cell_of x3d0))) ?_
      simp only [Act.put, List.setIfInBounds_toArray, List.set_cons_zero, List.set_cons_succ]
      refine reg_take (.int .i64 (nd : Int)) (i := 2) (n := 134) HSS rfl (by kernel_rfl) (by kernel_rfl) (by kernel_rfl) (by kernel_rfl) (fun _ _ _ h => h) (fun W hW => exec_move rfl rfl) ?_
      simp only [Act.put, List.setIfInBounds_toArray, List.set_cons_zero, List.set_cons_succ]
      refine reg_take (.slice A' d.1[nd].1.length c') (i := 3) (n := 135) HSS rfl (by kernel_rfl) (by kernel_rfl) (by kernel_rfl) (by kernel_rfl) (fun _ _ _ h => h) (fun W hW => exec_move rfl rfl) ?_
      simp only [Act.put, List.setIfInBounds_toArray, List.set_cons_zero, List.set_cons_succ]
      refine reg_take (.pointer (some ⟨w.heap.size + 1, 3, none⟩)) (i := 5) (n := 137) HSS rfl (by kernel_rfl) (by kernel_rfl) (by kernel_rfl) (by kernel_rfl) (fun _ _ _ h => h) (fun W hW => exec_field rfl rfl (fptOp3 _ _)) ?_
      simp only [Act.put, List.setIfInBounds_toArray, List.set_cons_zero, List.set_cons_succ]
      refine reg_take (.slice Ad dat.length dc) (i := 6) (n := 138) HSS rfl (by kernel_rfl) (by kernel_rfl) (by kernel_rfl) (by kernel_rfl) (fun _ _ _ h => h) (fun W hW => exec_load rfl rfl (ldBytesD (hW.out.cell_of q33))) ?_
      simp only [Act.put, List.setIfInBounds_toArray, List.set_cons_zero, List.set_cons_succ]
      refine reg_step (i := 4) rfl (by kernel_rfl) (fun K hK => ?_)
      refine wp_call (n := 136) (vals := [.slice A' d.1[nd].1.length c']) rfl rfl rfl (by kernel_rfl) (l1Bytes_calls (HHR.out.mod (w' := w3.drew) (fun _ h => h) (fun k hk => HSS.out.block k (by have : k < w.heap.size := hk; omega) id)) (fun k hk => Nat.lt_of_lt_of_le (by have : k < w.heap.size := hk; omega) HSS.out.size) (by omega)) ?_
      intro e w5 hret
      obtain ⟨A5, c5, rfl, hmine⟩ := hret.mine
      have HMN := Sec.mk (hmine.base HSS.out)
      have HSS : Sec (New w3 w5) := ⟨HSS.out.transN hmine.new⟩
      refine ⟨_, rfl, hK.out _ _ (fun _ => HSS) ?_⟩
      clear hret hmine
      clear hK K
      simp only [Act.put, List.setIfInBounds_toArray, List.set_cons_zero, List.set_cons_succ]
      refine reg_step (i := 7) rfl (by kernel_rfl) (fun K hK => ?_)
      refine wp_appM _ (.tmp 136) (.tmp 138) _ rfl Tryz.underlying52 elt_byte flat_byte rfl rfl HMN.out (HRO.out.mod (w' := w5) (fun _ h => h) (fun k hk => (HM3.out.transN HSS.out).block k (HBB.out k hk).1 id)) (by omega) ?_
      intro A6 n6 c6 w6 hmine
      have HMN := Sec.mk hmine
      have HSS : Sec (New w3 w6) := ⟨hmine.new⟩
      refine hK.out _ _ (fun _ => HSS) ?_
      clear hmine
      clear hK K
      simp only [Act.put, List.setIfInBounds_toArray, List.set_cons_zero, List.set_cons_succ]
      refine reg_step (i := 8) rfl (by kernel_rfl) (fun K hK => ?_)
      refine wp_val (n := 140) (v := .pointer (some ⟨g, nd * 2, none⟩)) (exec_indexAddr rfl rfl rfl (idxNode0 _ _ _ _ hnl _)) rfl (hK.out _ _ (fun _ => HSS) ?_)
      clear hK K
      simp only [Act.put, List.setIfInBounds_toArray, List.set_cons_zero, List.set_cons_succ]
      refine reg_step (i := 9) rfl (by kernel_rfl) (fun K hK => ?_)
      refine wp_val (n := 141) (v := .pointer (some ⟨g, nd * 2, none⟩)) (exec_field rfl rfl (fptNode0D _ _)) rfl (hK.out _ _ (fun _ => HSS) ?_)
      clear hK K
      simp only [Act.put, List.setIfInBounds_toArray, List.set_cons_zero, List.set_cons_succ]
      refine reg_step (i := 10) rfl (by kernel_rfl) (fun K hK => ?_)
      obtain ⟨⟨F, ho, hF⟩, -⟩ := HMN.out
      obtain ⟨g', eg, hXg', ⟨u', hc⟩, hfz, hO7⟩ := (HO3.out.new HSS.out).setData (X := fun k => (X k ∧ k < w.heap.size) ∨ w.heap.size + 3 ≤ k) hnl ho (fun k hk => ⟨by have := hF k hk; omega, Or.inr (by have := hF k hk; omega)⟩) (fun k hk => Or.inl hk)
      obtain rfl : g = g' := by simpa using eg
      refine wp_store rfl rfl rfl rfl (stBytesD hc hfz A6 n6 c6) (hK.out _ _ (fun h => absurd (List.mem_singleton.2 rfl) h) ?_)
      clear hK K
      refine reg_done (by kernel_rfl) ?_ _
      have hm7 : Mod (fun k => k = g) w6 (w6.setCell ⟨g, nd * 2, none⟩ (.slice A6 n6 c6)) := (Mod.refl (fun k => k = g) w6).setCell (p := ⟨g, nd * 2, none⟩) (fun _ => rfl) _
      have HO2' : Sec (Out4 (fun k => (X k ∧ k < w.heap.size) ∨ w.heap.size + 3 ≤ k) (w6.setCell ⟨g, nd * 2, none⟩ (.slice A6 n6 c6)) (.slice (some ⟨g, 0, none⟩) d.1.length c0) (.slice (some ad) d.2.1.length c1) (.slice A2 d.2.2.1.length c2) (.slice A3 d.2.2.2.1.length c3) (withNode d (nd : Int) (d.1[nd].1 ++ dat, d.1[nd].2))) := ⟨hO7⟩
      have HM2' := Sec.mk (((HM3.out.transN HSS.out).mono (T := X) (fun i hlt h => h.elim)).trans hm7 (fun i hi hlt => hi ▸ hXg.1))
      have HBR2' := Sec.mk ((HBR3.out.mod HSS.out id).mod hm7 (by have := hXg.2; omega))
      have HBD2' := Sec.mk ((HBD3.out.mod HSS.out id).mod hm7 (by have := hXg.2; omega))
      have hs2' : w3.heap.size ≤ (w6.setCell ⟨g, nd * 2, none⟩ (.slice A6 n6 c6)).heap.size := Nat.le_trans HSS.out.size hm7.size
      clear hm7 hO7 hc hfz eg HMN HSS ho hF
      have udd0 : (w6.setCell ⟨g, nd * 2, none⟩ (.slice A6 n6 c6)).cell? ⟨w.heap.size, 0, none⟩ = some (.slice (some ⟨g, 0, none⟩) d.1.length c0) := HBD2'.out.cell 0
      have udd1 : (w6.setCell ⟨g, nd * 2, none⟩ (.slice A6 n6 c6)).cell? ⟨w.heap.size, 1, none⟩ = some (.slice (some ad) d.2.1.length c1) := HBD2'.out.cell 1
      have udd2 : (w6.setCell ⟨g, nd * 2, none⟩ (.slice A6 n6 c6)).cell? ⟨w.heap.size, 2, none⟩ = some (.slice A2 d.2.2.1.length c2) := HBD2'.out.cell 2
      have udd3 : (w6.setCell ⟨g, nd * 2, none⟩ (.slice A6 n6 c6)).cell? ⟨w.heap.size, 3, none⟩ = some (.slice A3 d.2.2.2.1.length c3) := HBD2'.out.cell 3
      have udd4 : (w6.setCell ⟨g, nd * 2, none⟩ (.slice A6 n6 c6)).cell? ⟨w.heap.size, 4, none⟩ = some (.int .i64 d.2.2.2.2) := HBD2'.out.cell 4
      have hwau : w.heap.size < (w6.setCell ⟨g, nd * 2, none⟩ (.slice A6 n6 c6)).heap.size := by omega
      have yr0 : (w6.setCell ⟨g, nd * 2, none⟩ (.slice A6 n6 c6)).cell? ⟨w.heap.size + 1 + 1, 0, none⟩ = some (.slice none 0 0) := HBR2'.out.cell 0
      have yf0 : (w6.setCell ⟨g, nd * 2, none⟩ (.slice A6 n6 c6)).frozen? ⟨w.heap.size + 1 + 1, 0, none⟩ = false := HBR2'.out.frozen 0
      have yr1 : (w6.setCell ⟨g, nd * 2, none⟩ (.slice A6 n6 c6)).cell? ⟨w.heap.size + 1 + 1, 1, none⟩ = some (.slice none 0 0) := HBR2'.out.cell 1
      have yf1 : (w6.setCell ⟨g, nd * 2, none⟩ (.slice A6 n6 c6)).frozen? ⟨w.heap.size + 1 + 1, 1, none⟩ = false := HBR2'.out.frozen 1
      have yr2 : (w6.setCell ⟨g, nd * 2, none⟩ (.slice A6 n6 c6)).cell? ⟨w.heap.size + 1 + 1, 2, none⟩ = some (.slice none 0 0) := HBR2'.out.cell 2
      have yf2 : (w6.setCell ⟨g, nd * 2, none⟩ (.slice A6 n6 c6)).frozen? ⟨w.heap.size + 1 + 1, 2, none⟩ = false := HBR2'.out.frozen 2
      have yr3 : (w6.setCell ⟨g, nd * 2, none⟩ (.slice A6 n6 c6)).cell? ⟨w.heap.size + 1 + 1, 3, none⟩ = some (.slice none 0 0) := HBR2'.out.cell 3
      have yf3 : (w6.setCell ⟨g, nd * 2, none⟩ (.slice A6 n6 c6)).frozen? ⟨w.heap.size + 1 + 1, 3, none⟩ = false := HBR2'.out.frozen 3
      have yr4 : (w6.setCell ⟨g, nd * 2, none⟩ (.slice A6 n6 c6)).cell? ⟨w.heap.size + 1 + 1, 4, none⟩ = some (.int .i64 0) := HBR2'.out.cell 4
      have yf4 : (w6.setCell ⟨g, nd * 2, none⟩ (.slice A6 n6 c6)).frozen? ⟨w.heap.size + 1 + 1, 4, none⟩ = false := HBR2'.out.frozen 4
      have hwy : w.heap.size + 1 + 1 < (w6.setCell ⟨g, nd * 2, none⟩ (.slice A6 n6 c6)).heap.size := by omega
      have HFB := Sec.mk (set5_blk HBR2'.out (.slice (some ⟨g, 0, none⟩) d.1.length c0) (.slice (some ad) d.2.1.length c1) (.slice A2 d.2.2.1.length c2) (.slice A3 d.2.2.2.1.length c3) (.int .i64 d.2.2.2.2))
      have HFM := set5_mod (w6.setCell ⟨g, nd * 2, none⟩ (.slice A6 n6 c6)) (w.heap.size + 1 + 1) (.slice (some ⟨g, 0, none⟩) d.1.length c0) (.slice (some ad) d.2.1.length c1) (.slice A2 d.2.2.1.length c2) (.slice A3 d.2.2.2.1.length c3) (.int .i64 d.2.2.2.2)
      have H4 := Sec.mk (HO2'.out.keep HFM (fun k h e => by omega))
      have HMG := Sec.mk (HM2'.out.trans HFM (fun i hi hlt => by omega))
      clear HFM
      go_wp2
      refine bodyPost_ret (results_blk2 rfl rfl rfl HFB.out Tryz.underlying34 (by kernel_rfl)) rfl ?_
      rw [HF.out]
      exact ⟨_, _, _, _, rfl, H4.out.wide (fun k _ h => by rcases h with h | h <;> first | exact Or.inl h.1 | exact Or.inr (by omega)), HMG.out, fun h => absurd rfl h⟩
    have HE7 : Sec (res = if kd = 4 ∧ tn = nm then (d, 0)
      else if 1000 ≤ d.2.2.2.1.length then (d, 6)
      else (dirL d (kd, nm, if kd = 4 then tn else [], 0), 0)) := ⟨(HE6.out.trans (if_neg hkk2)).trans (if_neg hkk3)⟩
    clear HE6 HOZ hXg
    by_cases hkk4 : kd = 4
    · subst hkk4
      by_cases htn : tn = nm
      · have HF : Sec (res = (d, 0)) := ⟨HE7.out.trans (if_pos ⟨rfl, htn⟩)⟩
        have htb : (tn == nm) = true := by simpa using htn
        clear HE7 htn
        have HFB := Sec.mk (set5_blk HBR.out (.slice (some ⟨g, 0, none⟩) d.1.length c0) (.slice (some ad) d.2.1.length c1) (.slice A2 d.2.2.1.length c2) (.slice A3 d.2.2.2.1.length c3) (.int .i64 d.2.2.2.2))
        have HFM := set5_mod wz (w.heap.size + 1 + 1) (.slice (some ⟨g, 0, none⟩) d.1.length c0) (.slice (some ad) d.2.1.length c1) (.slice A2 d.2.2.1.length c2) (.slice A3 d.2.2.2.1.length c3) (.int .i64 d.2.2.2.2)
        have H4 := Sec.mk (HO.out.keep HFM (fun k h e => by omega))
        have HMG := Sec.mk ((HM0.out.mono (T := X) (fun i hlt h => h.elim)).trans HFM (fun i hi hlt => by omega))
        clear HFM
        go_wp2
        refine bodyPost_ret (results_blk2 rfl rfl rfl HFB.out Tryz.underlying34 (by kernel_rfl)) rfl ?_
        rw [HF.out]
        exact ⟨_, _, _, _, rfl, H4.out.wide (fun k _ h => Or.inl h.1), HMG.out, fun _ => ⟨rfl, rfl, rfl, rfl⟩⟩
      have HE8 : Sec (res = if 1000 ≤ d.2.2.2.1.length then (d, 6)
        else (dirL d (4, nm, tn, 0), 0)) := ⟨HE7.out.trans (if_neg (fun h => htn h.2))⟩
      clear HE7
      have htb : (tn == nm) = false := by simpa using htn
      by_cases hp1000 : 1000 ≤ d.2.2.2.1.length
      · have HF : Sec (res = (d, 6)) := ⟨HE8.out.trans (if_pos hp1000)⟩
        have hp1000i : (1000 : Int) ≤ (d.2.2.2.1.length : Int) := by omega
        clear HE8
        have HFB := Sec.mk (set5_blk HBR.out (.slice (some ⟨g, 0, none⟩) d.1.length c0) (.slice (some ad) d.2.1.length c1) (.slice A2 d.2.2.1.length c2) (.slice A3 d.2.2.2.1.length c3) (.int .i64 d.2.2.2.2))
        have HFM := set5_mod wz (w.heap.size + 1 + 1) (.slice (some ⟨g, 0, none⟩) d.1.length c0) (.slice (some ad) d.2.1.length c1) (.slice A2 d.2.2.1.length c2) (.slice A3 d.2.2.2.1.length c3) (.int .i64 d.2.2.2.2)
        have H4 := Sec.mk (HO.out.keep HFM (fun k h e => by omega))
        have HMG := Sec.mk ((HM0.out.mono (T := X) (fun i hlt h => h.elim)).trans HFM (fun i hi hlt => by omega))
        clear HFM
        go_wp2
        refine bodyPost_ret (results_blk2 rfl rfl rfl HFB.out Tryz.underlying34 (by kernel_rfl)) rfl ?_
        rw [HF.out]
        exact ⟨_, _, _, _, rfl, H4.out.wide (fun k _ h => Or.inl h.1), HMG.out, fun _ => ⟨rfl, rfl, rfl, rfl⟩⟩
      have HF : Sec (res = (dirL d (4, nm, tn, 0), 0)) := ⟨HE8.out.trans (if_neg hp1000)⟩
      have hp1000i : ¬ (1000 : Int) ≤ (d.2.2.2.1.length : Int) := by omega
      clear HE8
      go_upto_region 35 with (fail)
      have hmz : New wz (wz.alloc (.cells #[.int .i64 4, .string ⟨nm.toArray⟩, .string ⟨tn.toArray⟩, .int .i64 0] 90)) := (Mod.refl (fun _ => False) wz).alloc _
      have HM6 := Sec.mk (HM0.out.transN hmz)
      have HBD6 := Sec.mk (HBD.out.mod hmz id)
      have HBR6 := Sec.mk (HBR.out.mod hmz id)
      have HO6 := Sec.mk (HO.out.new hmz)
      have HBQ := Sec.mk (Blk.new wz 90 [.int .i64 4, .string ⟨nm.toArray⟩, .string ⟨tn.toArray⟩, .int .i64 0])
      have hs6 : wz.heap.size + 1 ≤ (wz.alloc (.cells #[.int .i64 4, .string ⟨nm.toArray⟩, .string ⟨tn.toArray⟩, .int .i64 0] 90)).heap.size := by simp
      clear hmz
      generalize wz.alloc (.cells #[.int .i64 4, .string ⟨nm.toArray⟩, .string ⟨tn.toArray⟩, .int .i64 0] 90) = w6 at *
      have z0 : w6.cell? ⟨wz.heap.size, 0, none⟩ = some (.int .i64 4) := HBQ.out.cell 0
      have z1 : w6.cell? ⟨wz.heap.size, 1, none⟩ = some (.string ⟨nm.toArray⟩) := HBQ.out.cell 1
      have z2 : w6.cell? ⟨wz.heap.size, 2, none⟩ = some (.string ⟨tn.toArray⟩) := HBQ.out.cell 2
      have z3 : w6.cell? ⟨wz.heap.size, 3, none⟩ = some (.int .i64 0) := HBQ.out.cell 3
      have hzq : wz.heap.size < w6.heap.size := by omega
      have hza : w.heap.size < w6.heap.size := by omega
      have hzb : w.heap.size + 1 + 1 < w6.heap.size := by omega
      have z6d0 : w6.cell? ⟨w.heap.size, 0, none⟩ = some (.slice (some ⟨g, 0, none⟩) d.1.length c0) := HBD6.out.cell 0
      have z6d1 : w6.cell? ⟨w.heap.size, 1, none⟩ = some (.slice (some ad) d.2.1.length c1) := HBD6.out.cell 1
      have z6d2 : w6.cell? ⟨w.heap.size, 2, none⟩ = some (.slice A2 d.2.2.1.length c2) := HBD6.out.cell 2
      have z6d3 : w6.cell? ⟨w.heap.size, 3, none⟩ = some (.slice A3 d.2.2.2.1.length c3) := HBD6.out.cell 3
      have z6d4 : w6.cell? ⟨w.heap.size, 4, none⟩ = some (.int .i64 d.2.2.2.2) := HBD6.out.cell 4
      have z6r0 : w6.cell? ⟨w.heap.size + 1 + 1, 0, none⟩ = some (.slice none 0 0) := HBR6.out.cell 0
      have z6f0 : w6.frozen? ⟨w.heap.size + 1 + 1, 0, none⟩ = false := HBR6.out.frozen 0
      have z6r1 : w6.cell? ⟨w.heap.size + 1 + 1, 1, none⟩ = some (.slice none 0 0) := HBR6.out.cell 1
      have z6f1 : w6.frozen? ⟨w.heap.size + 1 + 1, 1, none⟩ = false := HBR6.out.frozen 1
      have z6r2 : w6.cell? ⟨w.heap.size + 1 + 1, 2, none⟩ = some (.slice none 0 0) := HBR6.out.cell 2
      have z6f2 : w6.frozen? ⟨w.heap.size + 1 + 1, 2, none⟩ = false := HBR6.out.frozen 2
      have z6r3 : w6.cell? ⟨w.heap.size + 1 + 1, 3, none⟩ = some (.slice none 0 0) := HBR6.out.cell 3
      have z6f3 : w6.frozen? ⟨w.heap.size + 1 + 1, 3, none⟩ = false := HBR6.out.frozen 3
      have z6r4 : w6.cell? ⟨w.heap.size + 1 + 1, 4, none⟩ = some (.int .i64 0) := HBR6.out.cell 4
      have z6f4 : w6.frozen? ⟨w.heap.size + 1 + 1, 4, none⟩ = false := HBR6.out.frozen 4
      go_wp2_with fail
      refine (l1Dir_v (d := d) HO6.out HI.out (by omega) (4, nm, tn, 0) (show IntKind.i64.wrap 4 = 4 by decide) HWK.out.2.1 HWK.out.2.2 (show IntKind.i64.wrap 0 = 0 by decide)).mono ?_
      generalize dirL d (4, nm, tn, 0) = dd at *
      rintro e w7 ⟨u0, u1, u2, u3, rfl, ho7, hm7⟩
      obtain ⟨E0, g0, E1, g1, E2, g2, E3, g3, rfl, rfl, rfl, rfl, -⟩ := ho7.forms
      have HO2 := Sec.mk ho7
      have HBR2 := Sec.mk (HBR6.out.mod hm7 (by omega))
      have HM2 := Sec.mk ((HM6.out.mono (T := X) (fun i hlt h => h.elim)).trans hm7 (fun i hi hlt => hi.1))
      have hs2 := hm7.size
      clear ho7 hm7
      have yr0 : w7.cell? ⟨w.heap.size + 1 + 1, 0, none⟩ = some (.slice none 0 0) := HBR2.out.cell 0
      have yf0 : w7.frozen? ⟨w.heap.size + 1 + 1, 0, none⟩ = false := HBR2.out.frozen 0
      have yr1 : w7.cell? ⟨w.heap.size + 1 + 1, 1, none⟩ = some (.slice none 0 0) := HBR2.out.cell 1
      have yf1 : w7.frozen? ⟨w.heap.size + 1 + 1, 1, none⟩ = false := HBR2.out.frozen 1
      have yr2 : w7.cell? ⟨w.heap.size + 1 + 1, 2, none⟩ = some (.slice none 0 0) := HBR2.out.cell 2
      have yf2 : w7.frozen? ⟨w.heap.size + 1 + 1, 2, none⟩ = false := HBR2.out.frozen 2
      have yr3 : w7.cell? ⟨w.heap.size + 1 + 1, 3, none⟩ = some (.slice none 0 0) := HBR2.out.cell 3
      have yf3 : w7.frozen? ⟨w.heap.size + 1 + 1, 3, none⟩ = false := HBR2.out.frozen 3
      have yr4 : w7.cell? ⟨w.heap.size + 1 + 1, 4, none⟩ = some (.int .i64 0) := HBR2.out.cell 4
      have yf4 : w7.frozen? ⟨w.heap.size + 1 + 1, 4, none⟩ = false := HBR2.out.frozen 4
      have hwy : w.heap.size + 1 + 1 < w7.heap.size := by omega
      have HFB := Sec.mk (set5_blk HBR2.out (.slice E0 dd.1.length g0) (.slice E1 dd.2.1.length g1) (.slice E2 dd.2.2.1.length g2) (.slice E3 dd.2.2.2.1.length g3) (.int .i64 dd.2.2.2.2))
      have HFM := set5_mod w7 (w.heap.size + 1 + 1) (.slice E0 dd.1.length g0) (.slice E1 dd.2.1.length g1) (.slice E2 dd.2.2.1.length g2) (.slice E3 dd.2.2.2.1.length g3) (.int .i64 dd.2.2.2.2)
      have H4 := Sec.mk (HO2.out.keep HFM (fun k h e => by omega))
      have HMG := Sec.mk (HM2.out.trans HFM (fun i hi hlt => by omega))
      clear HFM
      go_wp2
      refine bodyPost_ret (results_blk2 rfl rfl rfl HFB.out Tryz.underlying34 (by kernel_rfl)) rfl ?_
      rw [HF.out]
      exact ⟨_, _, _, _, rfl, H4.out.wide (fun k _ h => by rcases h with h | h <;> first | exact Or.inl h.1 | exact Or.inr (by omega)), HMG.out, fun h => absurd rfl h⟩
    have hkk5 : kd = 5 := by omega
    subst hkk5
    have HE8 : Sec (res = if 1000 ≤ d.2.2.2.1.length then (d, 6)
        else (dirL d (5, nm, [], 0), 0)) := ⟨HE7.out.trans (if_neg (fun h => hkk4 h.1))⟩
    clear HE7
    by_cases hp1000 : 1000 ≤ d.2.2.2.1.length
    · have HF : Sec (res = (d, 6)) := ⟨HE8.out.trans (if_pos hp1000)⟩
      have hp1000i : (1000 : Int) ≤ (d.2.2.2.1.length : Int) := by omega
      clear HE8
      have HFB := Sec.mk (set5_blk HBR.out (.slice (some ⟨g, 0, none⟩) d.1.length c0) (.slice (some ad) d.2.1.length c1) (.slice A2 d.2.2.1.length c2) (.slice A3 d.2.2.2.1.length c3) (.int .i64 d.2.2.2.2))
      have HFM := set5_mod wz (w.heap.size + 1 + 1) (.slice (some ⟨g, 0, none⟩) d.1.length c0) (.slice (some ad) d.2.1.length c1) (.slice A2 d.2.2.1.length c2) (.slice A3 d.2.2.2.1.length c3) (.int .i64 d.2.2.2.2)
      have H4 := Sec.mk (HO.out.keep HFM (fun k h e => by omega))
      have HMG := Sec.mk ((HM0.out.mono (T := X) (fun i hlt h => h.elim)).trans HFM (fun i hi hlt => by omega))
      clear HFM
      go_wp2
      refine bodyPost_ret (results_blk2 rfl rfl rfl HFB.out Tryz.underlying34 (by kernel_rfl)) rfl ?_
      rw [HF.out]
      exact ⟨_, _, _, _, rfl, H4.out.wide (fun k _ h => Or.inl h.1), HMG.out, fun _ => ⟨rfl, rfl, rfl, rfl⟩⟩
    have HF : Sec (res = (dirL d (5, nm, [], 0), 0)) := ⟨HE8.out.trans (if_neg hp1000)⟩
    have hp1000i : ¬ (1000 : Int) ≤ (d.2.2.2.1.length : Int) := by omega
    clear HE8
    go_upto_region 35 with (fail)
    have hmz : New wz (wz.alloc (.cells #[.int .i64 5, .string ⟨nm.toArray⟩, .string ⟨#[]⟩, .int .i64 0] 90)) := (Mod.refl (fun _ => False) wz).alloc _
    have HM6 := Sec.mk (HM0.out.transN hmz)
    have HBD6 := Sec.mk (HBD.out.mod hmz id)
    have HBR6 := Sec.mk (HBR.out.mod hmz id)
    have HO6 := Sec.mk (HO.out.new hmz)
    have HBQ := Sec.mk (Blk.new wz 90 [.int .i64 5, .string ⟨nm.toArray⟩, .string ⟨#[]⟩, .int .i64 0])
    have hs6 : wz.heap.size + 1 ≤ (wz.alloc (.cells #[.int .i64 5, .string ⟨nm.toArray⟩, .string ⟨#[]⟩, .int .i64 0] 90)).heap.size := by simp
    clear hmz
    generalize wz.alloc (.cells #[.int .i64 5, .string ⟨nm.toArray⟩, .string ⟨#[]⟩, .int .i64 0] 90) = w6 at *
    have z0 : w6.cell? ⟨wz.heap.size, 0, none⟩ = some (.int .i64 5) := HBQ.out.cell 0
    have z1 : w6.cell? ⟨wz.heap.size, 1, none⟩ = some (.string ⟨nm.toArray⟩) := HBQ.out.cell 1
    have z2 : w6.cell? ⟨wz.heap.size, 2, none⟩ = some (.string ⟨#[]⟩) := HBQ.out.cell 2
    have z3 : w6.cell? ⟨wz.heap.size, 3, none⟩ = some (.int .i64 0) := HBQ.out.cell 3
    have hzq : wz.heap.size < w6.heap.size := by omega
    have hza : w.heap.size < w6.heap.size := by omega
    have hzb : w.heap.size + 1 + 1 < w6.heap.size := by omega
    have z6d0 : w6.cell? ⟨w.heap.size, 0, none⟩ = some (.slice (some ⟨g, 0, none⟩) d.1.length c0) := HBD6.out.cell 0
    have z6d1 : w6.cell? ⟨w.heap.size, 1, none⟩ = some (.slice (some ad) d.2.1.length c1) := HBD6.out.cell 1
    have z6d2 : w6.cell? ⟨w.heap.size, 2, none⟩ = some (.slice A2 d.2.2.1.length c2) := HBD6.out.cell 2
    have z6d3 : w6.cell? ⟨w.heap.size, 3, none⟩ = some (.slice A3 d.2.2.2.1.length c3) := HBD6.out.cell 3
    have z6d4 : w6.cell? ⟨w.heap.size, 4, none⟩ = some (.int .i64 d.2.2.2.2) := HBD6.out.cell 4
    have z6r0 : w6.cell? ⟨w.heap.size + 1 + 1, 0, none⟩ = some (.slice none 0 0) := HBR6.out.cell 0
    have z6f0 : w6.frozen? ⟨w.heap.size + 1 + 1, 0, none⟩ = false := HBR6.out.frozen 0
    have z6r1 : w6.cell? ⟨w.heap.size + 1 + 1, 1, none⟩ = some (.slice none 0 0) := HBR6.out.cell 1
    have z6f1 : w6.frozen? ⟨w.heap.size + 1 + 1, 1, none⟩ = false := HBR6.out.frozen 1
    have z6r2 : w6.cell? ⟨w.heap.size + 1 + 1, 2, none⟩ = some (.slice none 0 0) := HBR6.out.cell 2
    have z6f2 : w6.frozen? ⟨w.heap.size + 1 + 1, 2, none⟩ = false := HBR6.out.frozen 2
    have z6r3 : w6.cell? ⟨w.heap.size + 1 + 1, 3, none⟩ = some (.slice none 0 0) := HBR6.out.cell 3
    have z6f3 : w6.frozen? ⟨w.heap.size + 1 + 1, 3, none⟩ = false := HBR6.out.frozen 3
    have z6r4 : w6.cell? ⟨w.heap.size + 1 + 1, 4, none⟩ = some (.int .i64 0) := HBR6.out.cell 4
    have z6f4 : w6.frozen? ⟨w.heap.size + 1 + 1, 4, none⟩ = false := HBR6.out.frozen 4
    go_wp2_with fail
    refine (l1Dir_v (d := d) HO6.out HI.out (by omega) (5, nm, [], 0) (show IntKind.i64.wrap 5 = 5 by decide) HWK.out.2.1 (by simp) (show IntKind.i64.wrap 0 = 0 by decide)).mono ?_
    generalize dirL d (5, nm, [], 0) = dd at *
    rintro e w7 ⟨u0, u1, u2, u3, rfl, ho7, hm7⟩
    obtain ⟨E0, g0, E1, g1, E2, g2, E3, g3, rfl, rfl, rfl, rfl, -⟩ := ho7.forms
    have HO2 := Sec.mk ho7
    have HBR2 := Sec.mk (HBR6.out.mod hm7 (by omega))
    have HM2 := Sec.mk ((HM6.out.mono (T := X) (fun i hlt h => h.elim)).trans hm7 (fun i hi hlt => hi.1))
    have hs2 := hm7.size
    clear ho7 hm7
    have yr0 : w7.cell? ⟨w.heap.size + 1 + 1, 0, none⟩ = some (.slice none 0 0) := HBR2.out.cell 0
    have yf0 : w7.frozen? ⟨w.heap.size + 1 + 1, 0, none⟩ = false := HBR2.out.frozen 0
    have yr1 : w7.cell? ⟨w.heap.size + 1 + 1, 1, none⟩ = some (.slice none 0 0) := HBR2.out.cell 1
    have yf1 : w7.frozen? ⟨w.heap.size + 1 + 1, 1, none⟩ = false := HBR2.out.frozen 1
    have yr2 : w7.cell? ⟨w.heap.size + 1 + 1, 2, none⟩ = some (.slice none 0 0) := HBR2.out.cell 2
    have yf2 : w7.frozen? ⟨w.heap.size + 1 + 1, 2, none⟩ = false := HBR2.out.frozen 2
    have yr3 : w7.cell? ⟨w.heap.size + 1 + 1, 3, none⟩ = some (.slice none 0 0) := HBR2.out.cell 3
    have yf3 : w7.frozen? ⟨w.heap.size + 1 + 1, 3, none⟩ = false := HBR2.out.frozen 3
    have yr4 : w7.cell? ⟨w.heap.size + 1 + 1, 4, none⟩ = some (.int .i64 0) := HBR2.out.cell 4
    have yf4 : w7.frozen? ⟨w.heap.size + 1 + 1, 4, none⟩ = false := HBR2.out.frozen 4
    have hwy : w.heap.size + 1 + 1 < w7.heap.size := by omega
    have HFB := Sec.mk (set5_blk HBR2.out (.slice E0 dd.1.length g0) (.slice E1 dd.2.1.length g1) (.slice E2 dd.2.2.1.length g2) (.slice E3 dd.2.2.2.1.length g3) (.int .i64 dd.2.2.2.2))
    have HFM := set5_mod w7 (w.heap.size + 1 + 1) (.slice E0 dd.1.length g0) (.slice E1 dd.2.1.length g1) (.slice E2 dd.2.2.1.length g2) (.slice E3 dd.2.2.2.1.length g3) (.int .i64 dd.2.2.2.2)
    have H4 := Sec.mk (HO2.out.keep HFM (fun k h e => by omega))
    have HMG := Sec.mk (HM2.out.trans HFM (fun i hi hlt => by omega))
    clear HFM
    go_wp2
    refine bodyPost_ret (results_blk2 rfl rfl rfl HFB.out Tryz.underlying34 (by kernel_rfl)) rfl ?_
    rw [HF.out]
    exact ⟨_, _, _, _, rfl, H4.out.wide (fun k _ h => by rcases h with h | h <;> first | exact Or.inl h.1 | exact Or.inr (by omega)), HMG.out, fun h => absurd rfl h⟩
end Go.Proofs.YtkkgighgnbbgiaaGreatDoor
