/- The laws' helpers over Set. The specification's reading of a set. The program's reading of a set. -/
import Derived.Test.YtiaknomadhgckaaDoorPk5
import Derived.Test.YtiaknomadhgckaaDoorPk4
import Derived.Test.YtiaknomadhgckaaDoorPk2
import Derived.Test.YtiaknomadhgckaaDoorProg
import Derived.WalkKit
import Derived.Test.YtiaknomadhgckaaDoorPk3
namespace Go.Proofs.YtiaknomadhgckaaDoor
open Go.RowKit Mem
set_option linter.unusedVariables false
set_option linter.unusedSimpArgs false
abbrev SetT := Bool × PairST
abbrev dSet : Ty SetT := Ty.pair Ty.bool dPairS
theorem rdSet {w : World} {v : Value} {x : SetT} (h : RdV true dSet w v x) : ∃ v1, v = .agg #[.bool x.1, v1] ∧ RdV false dPairS w v1 x.2 := by
  obtain ⟨cs, rfl, c0, c1, rfl, h0, h1⟩ := h
  obtain rfl := h0
  obtain ⟨A1, cp1, rfl, g1⟩ := h1
  exact ⟨_, rfl, ⟨_, rfl, A1, cp1, rfl, g1⟩⟩
theorem cellsSet {w : World} {v : Value} {x : SetT} (h : RdV true dSet w v x) : ∃ A1 q1, v = .agg #[.bool x.1, .slice A1 x.2.length q1] := by
  obtain ⟨v1, rfl, k1⟩ := rdSet h
  obtain ⟨A1, q1, rfl, _⟩ := k1.slice
  exact ⟨A1, q1, rfl⟩
theorem mSet {w : World} {x : SetT} {F1 : List Nat} {v1 : Value} (o1 : Own dPair 119 w F1 v1 x.2) : dSet.M w (F1) x [.bool x.1, v1] :=
  ⟨_, _, [], _, rfl, rfl, (by simpa using o1.nd), ⟨rfl, rfl⟩, ⟨_, rfl, o1⟩⟩
theorem ofSet {w : World} {lo hi : Nat} {x : SetT} {v1 : Value} (h : OwI dPair 119 w lo hi v1 x.2) : OwV true dSet w lo hi (.agg #[.bool x.1, v1]) x := by
  obtain ⟨F, ho, hF⟩ := h
  exact ⟨_, _, rfl, mSet ho, hF⟩
end Go.Proofs.YtiaknomadhgckaaDoor

namespace Go.Proofs.YtiaknomadhgckaaDoor
open Go.RowKit Mem
set_option linter.unusedVariables false
theorem str_elem {w w' : World} {B : Nat → Prop} {A : Option Addr} {m : Nat} {ps : List Bytes} (h : Row Ty.string w B A m (ps.map toS)) (hb : ∀ k, B k → w'.heap[k]? = w.heap[k]?) {k : Nat} (hk : k < ps.length) :
    ∃ ad, A = some ad ∧ w'.cell? (ad.add k) = some (.string ⟨ps[k].toArray⟩) := by
  obtain ⟨ad', cs, hA, hK, hx0, _⟩ := h.cells_at (w' := w') hb (k := k) (by simpa using hk)
  have hK' : cs = [.string (toS ps[k])] := by rw [hK]; simp
  subst hK'
  have h0 := hx0 _ rfl
  rw [show k * Ty.string.sz = k from Nat.mul_one k] at h0
  exact ⟨ad', hA, h0⟩
theorem splitL_len1 {b : UInt8} {xs : Bytes} (h : (cutL b xs).2.2 = true) : 2 ≤ (splitL b xs).length := by
  rw [splitL_hit b xs h]
  have := List.length_pos_iff.2 (splitL_ne b (cutL b xs).2.1)
  simp; omega
theorem setOne_ends (p : Bytes) : setOne p = if 2 < (splitL 58 p).length then none else match plL ((splitL 58 p).headD []), plL ((splitL 58 p).getLastD []) with | some a, some b => some ((a : Int), (b : Int)) | _, _ => none := by
  cases hc : (cutL 58 p).2.2
  · rw [setOne_miss hc, splitL_no 58 p hc, if_neg (by simp)]
    simp only [List.headD_cons, List.getLastD_cons, List.getLastD_nil]
    cases plL p <;> rfl
  · rw [setOne_hit hc, splitL_hit 58 p hc]
    cases hc2 : (cutL 58 (cutL 58 p).2.1).2.2
    · rw [splitL_no 58 _ hc2, if_neg (by simp)]
      simp only [List.headD_cons, List.getLastD_cons, List.getLastD_nil]
      cases plL (cutL 58 p).1 <;> cases plL (cutL 58 p).2.1 <;> rfl
    · have := splitL_len1 hc2
      have hm := cutL_mem 58 _ hc2
      rw [plL_colon hm, if_pos (by simp; omega)]
      cases plL (cutL 58 p).1 <;> rfl
theorem head_at {es : List Bytes} (h : 0 < es.length) : es[0] = es.headD [] := by
  cases es with
  | nil => simp at h
  | cons a r => rfl
theorem last_at {es : List Bytes} (h : es.length - 1 < es.length) : es[es.length - 1] = es.getLastD [] := by
  rw [← List.getLast_eq_getElem (by intro e; subst e; simp at h)]
  cases es with
  | nil => simp at h
  | cons a r => simp [List.getLastD_eq_getLast?, List.getLast?_eq_some_getLast]
set_option maxHeartbeats 4000000 in
set_option maxRecDepth 100000 in
theorem readSetSpec_calls (xs : Bytes) (hx : xs.length ≤ 1048576) (w : World) : Calls Tryd.prog 65 #[.string ⟨xs.toArray⟩] w (RetV true dSet w (SetB xs)) := by
  have HB2 := Sec.mk (Blk.new w 104 [.bool false, .slice none 0 0])
  have hsz : (⟨xs.toArray⟩ : ByteArray).size = xs.length := by simp [ByteArray.size]
  by_cases hlong : 1100 < xs.length
  · have HE := Sec.mk (SetB_long hlong)
    have hli : (1100 : Int) < (xs.length : Int) := by omega
    go_enter Tryd.func65, Tryd.ntmps65
    go_wp2
    refine bodyPost_ret (results_blk rfl rfl HB2.out Tryd.underlying104 (by kernel_rfl)) rfl ?_
    rw [HE.out]
    exact ⟨_, rfl, ofSet (x := (false, [])) (OwI.nil dPair 119 _ _ _), (Mod.refl _ _).alloc _⟩
  have hli : ¬ (1100 : Int) < (xs.length : Int) := by omega
  have HSP := Sec.mk (l6Split_calls xs (by omega) 44)
  have HDN : Sec (setFold [] (splitL 44 xs) = none → SetB xs = (false, [])) := ⟨SetB_none⟩
  have HDL : Sec (50 < (splitL 44 xs).length → SetB xs = (false, [])) := ⟨fun h => by unfold SetB; rw [if_pos h]⟩
  have HDS : Sec (∀ l, ¬ 50 < (splitL 44 xs).length → setFold [] (splitL 44 xs) = some l → SetB xs = (true, l)) := ⟨fun l h h2 => by unfold SetB; rw [if_neg h, h2]⟩
  have hwm := splitL_mem 44 xs
  have hwl := splitL_len 44 xs
  generalize splitL 44 xs = ps at *
  go_enter Tryd.func65, Tryd.ntmps65
  go_wp2_with fail
  refine (HSP.out _).mono ?_
  intro e w2 hret
  obtain ⟨A, c, rfl, hmine⟩ := hret.mine
  have HR2 := Sec.mk ((HB2.out.alloc (.cells #[.bool true, .slice none 0 0] 104)).mod hmine.new id)
  have hO := Blk.new (w.alloc (.cells #[.bool false, .slice none 0 0] 104)) 104 [.bool true, .slice none 0 0]
  rw [show (w.alloc (.cells #[.bool false, .slice none 0 0] 104)).heap.size = w.heap.size + 1 by simp] at hO
  have HO2 := Sec.mk (hO.mod hmine.new id)
  have HM2 := Sec.mk ((((Mod.refl (fun _ => False) w).alloc (.cells #[.bool false, .slice none 0 0] 104)).alloc (.cells #[.bool true, .slice none 0 0] 104)).transN hmine.new)
  have hs2 : w.heap.size + 2 ≤ w2.heap.size := by have := hmine.new.size; simp at this; omega
  have hwlt : ∀ k, ((w.alloc (.cells #[.bool false, .slice none 0 0] 104)).alloc (.cells #[.bool true, .slice none 0 0] 104)).heap.size ≤ k ∧ k < w2.heap.size → k ≠ w.heap.size + 1 ∧ k < w2.heap.size := fun k hk => by
    simp at hk; omega
  have HW2 := Sec.mk (hmine.row.mod (w' := w2) hwlt (fun _ _ => rfl))
  clear hret hmine hO hwlt
  rw [List.length_map] at *
  have hpl2 : ps.length ≤ 1048577 := by omega
  go_wp2
  go_loopw [19] (fun i wr => ∃ (k : Nat) (acc : List (Int × Int)) (A' : Option Addr) (n' c' : Nat), k ≤ ps.length ∧ i = .int .i64 (k : Int) ∧ Sec (setFold [] ps = setFold acc (ps.drop k)) ∧ acc.length = k ∧ Sec (Blk wr w.heap.size 104 [.bool false, .slice none 0 0]) ∧ Sec (Blk wr (w.heap.size + 1) 104 [.bool true, .slice A' n' c']) ∧ Sec (OwI dPair 119 wr w2.heap.size wr.heap.size (.slice A' n' c') acc) ∧ Sec (Mod (· = w.heap.size + 1) w2 wr)) (fun i _ => ps.length - (intOf i).toNat)
  case atStart => exact ⟨0, [], none, 0, 0, Nat.zero_le _, rfl, ⟨rfl⟩, rfl, HR2, HO2, ⟨OwI.nil _ _ _ _ _⟩, ⟨Mod.refl _ _⟩⟩
  case round =>
    obtain ⟨k, acc, A', n', c', hk, rfl, HF, hal, HR, HO, HA, HM⟩ := hrel
    by_cases hlt : k < ps.length
    · obtain ⟨ad, hA, h0⟩ := str_elem (w' := wr) HW2.out (fun i hi => HM.out.block i hi.2 hi.1) hlt
      subst hA
      have hwk := hwm ps[k] (List.getElem_mem hlt)
      have HDR := Sec.mk (List.drop_eq_getElem_cons hlt)
      have hki : (k : Int) < (ps.length : Int) := by omega
      generalize ps[k] = p at *
      have HS2 := Sec.mk (l6Split_calls p (by omega) 58)
      have hne : 0 < (splitL 58 p).length := List.length_pos_iff.2 (splitL_ne 58 p)
      have HSE := Sec.mk (setOne_ends p)
      have hem := splitL_mem 58 p
      have HH0 : Sec (∀ h : 0 < (splitL 58 p).length, (splitL 58 p)[0]'h = (splitL 58 p).headD []) := ⟨fun h => head_at h⟩
      have HH1 : Sec (∀ h : (splitL 58 p).length - 1 < (splitL 58 p).length, (splitL 58 p)[(splitL 58 p).length - 1]'h = (splitL 58 p).getLastD []) := ⟨fun h => last_at h⟩
      have hel := splitL_len 58 p
      generalize splitL 58 p = es at *
      go_wp2_with fail
      refine (HS2.out _).mono ?_
      intro e w3 hret
      obtain ⟨A3, c3, rfl, hmine⟩ := hret.mine
      have HE3 := Sec.mk hmine.row
      have HN3 := Sec.mk hmine.new
      clear hret hmine HS2
      rw [List.length_map] at *
      have hl2 : es.length - 1 < es.length := by omega
      obtain ⟨ad3, hA3, hx0⟩ := str_elem (w' := w3) HE3.out (fun i hi => rfl) hne
      subst hA3
      have HXL : Sec (∀ W, New w3 W → W.cell? (ad3.add (es.length - 1)) = some (.string ⟨es[es.length - 1].toArray⟩)) := ⟨fun W hW => by
        obtain ⟨ad4, hA4, h⟩ := str_elem (w' := W) HE3.out (fun i hi => hW.block i hi.2 id) hl2
        obtain rfl := Option.some.inj hA4
        exact h⟩
      rw [show ad3.add 0 = ad3 from by simp [Addr.add]] at hx0
      have hn0 := hem es[0] (List.getElem_mem hne)
      have hn1 := hem es[es.length - 1] (List.getElem_mem hl2)
      rw [← HH0.out hne, ← HH1.out hl2] at HSE
      generalize es[0] = e0 at *
      generalize es[es.length - 1] = e1 at *
      have HP0 := Sec.mk (l6Place_calls e0 (by omega))
      have HP1 := Sec.mk (l6Place_calls e1 (by omega))
      have hei : (0 : Int) < (es.length : Int) := by omega
      go_wp2_with fail
      refine (HP0.out _).mono ?_
      rintro e w4 ⟨m0, rfl, hq0, hm4⟩
      have hx1 := HXL.out _ hm4
      have HQ0 := Sec.mk hq0
      have ht : ((es.length : Int) - 1).toNat = es.length - 1 := by omega
      have hb0 : (0 : Int) ≤ (es.length : Int) - 1 := by omega
      have hb1 : (es.length : Int) - 1 < (es.length : Int) := by omega
      have HM4 := Sec.mk (HN3.out.transN hm4)
      clear hq0 hm4
      go_wp2_with fail
      refine (HP1.out _).mono ?_
      rintro e w5 ⟨m1, rfl, hq1, hm5⟩
      have HQ1 := Sec.mk hq1
      have HM5 := Sec.mk (HM4.out.transN hm5)
      clear hq1 hm5 hx1 ht hb0 hb1
      cases hp0 : plL e0 with
      | none =>
        rw [hp0] at HSE
        have HNO : Sec (setOne p = none) := ⟨by rw [HSE.out]; split <;> rfl⟩
        clear hp0
        have HED : Sec (SetB xs = (false, [])) := ⟨HDN.out (by rw [HF.out, HDR.out]; exact setFold_none HNO.out)⟩
        have HR9 := Sec.mk (HR.out.mod HM5.out id)
        have hc0 : w5.cell? ⟨w.heap.size, 0, none⟩ = some (.bool false) := HR9.out.cell 0
        have hc1 : w5.cell? ⟨w.heap.size, 1, none⟩ = some (.slice none 0 0) := HR9.out.cell 1
        have hf0 : w5.frozen? ⟨w.heap.size, 0, none⟩ = false := HR9.out.frozen 0
        have hf1 : w5.frozen? ⟨w.heap.size, 1, none⟩ = false := HR9.out.frozen 1
        go_wp2
        refine bodyPost_ret (results_blk rfl rfl ((HR9.out.set_ 0 (.bool false)).set_ 1 (.slice none 0 0)) Tryd.underlying104 (by kernel_rfl)) rfl ?_
        rw [HED.out]
        exact ⟨_, rfl, ofSet (x := (false, [])) (OwI.nil dPair 119 _ _ _), ((HM2.out.trans (HM.out.transN HM5.out) (fun i hi hl => by omega)).setCell (fun h => absurd h (by simp)) _).setCell (fun h => absurd h (by simp)) _⟩
      | some a =>
        have hm0 := HQ0.out a hp0
        have hpa := plL_lt hp0
        subst hm0
        rw [hp0] at HSE
        clear hp0
        cases hp1 : plL e1 with
        | none =>
          rw [hp1] at HSE
          have HNO : Sec (setOne p = none) := ⟨by rw [HSE.out]; split <;> rfl⟩
          clear hp1
          have HED : Sec (SetB xs = (false, [])) := ⟨HDN.out (by rw [HF.out, HDR.out]; exact setFold_none HNO.out)⟩
          have HR9 := Sec.mk (HR.out.mod HM5.out id)
          have hc0 : w5.cell? ⟨w.heap.size, 0, none⟩ = some (.bool false) := HR9.out.cell 0
          have hc1 : w5.cell? ⟨w.heap.size, 1, none⟩ = some (.slice none 0 0) := HR9.out.cell 1
          have hf0 : w5.frozen? ⟨w.heap.size, 0, none⟩ = false := HR9.out.frozen 0
          have hf1 : w5.frozen? ⟨w.heap.size, 1, none⟩ = false := HR9.out.frozen 1
          go_wp2
          refine bodyPost_ret (results_blk rfl rfl ((HR9.out.set_ 0 (.bool false)).set_ 1 (.slice none 0 0)) Tryd.underlying104 (by kernel_rfl)) rfl ?_
          rw [HED.out]
          exact ⟨_, rfl, ofSet (x := (false, [])) (OwI.nil dPair 119 _ _ _), ((HM2.out.trans (HM.out.transN HM5.out) (fun i hi hl => by omega)).setCell (fun h => absurd h (by simp)) _).setCell (fun h => absurd h (by simp)) _⟩
        | some b =>
          have hm1 := HQ1.out b hp1
          have hpb := plL_lt hp1
          subst hm1
          rw [hp1] at HSE
          clear hp1
          by_cases h2 : 2 < es.length
          · have h2i : (2 : Int) < (es.length : Int) := by omega
            have HNO : Sec (setOne p = none) := ⟨by rw [HSE.out, if_pos h2]⟩
            have HED : Sec (SetB xs = (false, [])) := ⟨HDN.out (by rw [HF.out, HDR.out]; exact setFold_none HNO.out)⟩
            have HR9 := Sec.mk (HR.out.mod HM5.out id)
            have hc0 : w5.cell? ⟨w.heap.size, 0, none⟩ = some (.bool false) := HR9.out.cell 0
            have hc1 : w5.cell? ⟨w.heap.size, 1, none⟩ = some (.slice none 0 0) := HR9.out.cell 1
            have hf0 : w5.frozen? ⟨w.heap.size, 0, none⟩ = false := HR9.out.frozen 0
            have hf1 : w5.frozen? ⟨w.heap.size, 1, none⟩ = false := HR9.out.frozen 1
            go_wp2
            refine bodyPost_ret (results_blk rfl rfl ((HR9.out.set_ 0 (.bool false)).set_ 1 (.slice none 0 0)) Tryd.underlying104 (by kernel_rfl)) rfl ?_
            rw [HED.out]
            exact ⟨_, rfl, ofSet (x := (false, [])) (OwI.nil dPair 119 _ _ _), ((HM2.out.trans (HM.out.transN HM5.out) (fun i hi hl => by omega)).setCell (fun h => absurd h (by simp)) _).setCell (fun h => absurd h (by simp)) _⟩
          · have h2i : ¬ (2 : Int) < (es.length : Int) := by omega
            have HYES : Sec (setOne p = some ((a : Int), (b : Int))) := ⟨by rw [HSE.out, if_neg h2]⟩
            have HFN : Sec (setFold [] ps = setFold (acc ++ [((a : Int), (b : Int))]) (ps.drop (k + 1))) := ⟨by rw [HF.out, HDR.out, setFold_some HYES.out]⟩
            have HO5 := Sec.mk (HO.out.mod HM5.out id)
            have HR5 := Sec.mk (HR.out.mod HM5.out id)
            have hs5 := HM5.out.size
            have HA5 := Sec.mk ((HA.out.new HM5.out).wide (Nat.le_refl _) hs5)
            have k0 : w5.cell? ⟨w.heap.size + 1, 0, none⟩ = some (.bool true) := HO5.out.cell 0
            have k1 : w5.cell? ⟨w.heap.size + 1, 1, none⟩ = some (.slice A' n' c') := HO5.out.cell 1
            have hs3 : w2.heap.size ≤ w5.heap.size := Nat.le_trans HM.out.size hs5
            go_wp2_with (at_builtin; go_loud (refine wpList_appI _ rfl (.tmp 55) (.tmp 59) _ rfl Tryd.underlying36 eltPair flatPair rfl rfl (HA5.out.new ((Mod.refl _ _).alloc _)) (rowPair _ (x := ((a : Int), (b : Int))) (by rw [IntKind.wrap_u32]; omega) (by rw [IntKind.wrap_u32]; omega)) (show w2.heap.size ≤ _ by simp; omega) (show acc.length + [((a : Int), (b : Int))].length ≤ 34359738368 by simp only [List.length_singleton]; omega) ?_; intro A6 n6 c6 w6 ho6 hm6; have HO6 := Sec.mk ((HO5.out.alloc (.cells #[.int .u32 (a : Int), .int .u32 (b : Int)] 119)).mod hm6 (by omega)); have k61 : w6.cell? ⟨w.heap.size + 1, 1, none⟩ = some (.slice A' n' c') := HO6.out.cell 1; have f61 : w6.frozen? ⟨w.heap.size + 1, 1, none⟩ = false := HO6.out.frozen 1; have HA6 := Sec.mk ho6; have HM6 := Sec.mk hm6; clear ho6 hm6))
            refine ⟨⟨k + 1, acc ++ [((a : Int), (b : Int))], A6, n6, c6, by omega, by go_num, HFN, by rw [List.length_append, hal]; rfl, ⟨((HR5.out.alloc _).mod HM6.out (by omega)).far (by simp) _⟩, ⟨HO6.out.set_ 1 _⟩, ⟨?_⟩, ⟨?_⟩⟩, ?_⟩
            · exact (HA6.out.keep (S := fun k => k = w.heap.size + 1) (Mod.setCell (S := fun k => k = w.heap.size + 1) (Mod.refl _ _) (fun _ => rfl) _) (fun k h1 h2 h3 => by omega)).wide (Nat.le_refl _) (by simp [World.setCell])
            · exact (((HM.out.transN HM5.out).alloc _).trans HM6.out (fun i hi hl => by omega)).setCell (fun _ => rfl) _
            · simp [intOf]; omega
    · obtain rfl : k = ps.length := by omega
      rw [List.drop_length] at HF
      have HFS : Sec (setFold [] ps = some acc) := HF
      obtain ⟨hn', hnc, hcm⟩ := HA.out.len
      subst hn'
      have HAL := Sec.mk hal
      clear hal
      have k0 : wr.cell? ⟨w.heap.size + 1, 0, none⟩ = some (.bool true) := HO.out.cell 0
      have k1 : wr.cell? ⟨w.heap.size + 1, 1, none⟩ = some (.slice A' acc.length c') := HO.out.cell 1
      have hc0 : wr.cell? ⟨w.heap.size, 0, none⟩ = some (.bool false) := HR.out.cell 0
      have hc1 : wr.cell? ⟨w.heap.size, 1, none⟩ = some (.slice none 0 0) := HR.out.cell 1
      have hf0 : wr.frozen? ⟨w.heap.size, 0, none⟩ = false := HR.out.frozen 0
      have hf1 : wr.frozen? ⟨w.heap.size, 1, none⟩ = false := HR.out.frozen 1
      have HN := Sec.mk (HM2.out.trans HM.out (fun i hi hl => by omega))
      by_cases h50 : 50 < acc.length
      · have h50i : (50 : Int) < (acc.length : Int) := by omega
        have HED := Sec.mk (HDL.out (by have := HAL.out; omega))
        go_wp2
        refine bodyPost_ret (results_blk rfl rfl ((HR.out.set_ 0 (.bool false)).set_ 1 (.slice none 0 0)) Tryd.underlying104 (by kernel_rfl)) rfl ?_
        rw [HED.out]
        exact ⟨_, rfl, ofSet (x := (false, [])) (OwI.nil dPair 119 _ _ _), (HN.out.setCell (fun h => absurd h (by simp)) _).setCell (fun h => absurd h (by simp)) _⟩
      · have h50i : ¬ (50 : Int) < (acc.length : Int) := by omega
        have HED := Sec.mk (HDS.out acc (by have := HAL.out; omega) HFS.out)
        have hs9 := HM.out.size
        go_wp2
        refine bodyPost_ret (results_blk rfl rfl ((HR.out.set_ 0 (.bool true)).set_ 1 (.slice A' acc.length c')) Tryd.underlying104 (by kernel_rfl)) rfl ?_
        rw [HED.out]
        refine ⟨_, rfl, ofSet (x := (true, acc)) ?_, (HN.out.setCell (fun h => absurd h (by simp)) _).setCell (fun h => absurd h (by simp)) _⟩
        exact (HA.out.keep (S := fun k => k = w.heap.size) (Mod.setCell (S := fun k => k = w.heap.size) (Mod.setCell (S := fun k => k = w.heap.size) (Mod.refl _ _) (fun _ => rfl) _) (fun _ => rfl) _) (fun k h1 h2 h3 => by omega)).wide (by omega) (by simp [World.setCell])
end Go.Proofs.YtiaknomadhgckaaDoor

namespace Go.Proofs.YtiaknomadhgckaaDoor
open Go.RowKit Mem
set_option linter.unusedVariables false
set_option maxHeartbeats 4000000 in
set_option maxRecDepth 100000 in
theorem readSetImpl_calls (xs : Bytes) (hx : xs.length ≤ 1048576) {w : World} (hE : IntAt w) : Calls Tryd.prog 100 #[.string ⟨xs.toArray⟩] w (RetV true dSet w (SetB xs)) := by
  have HB2 := Sec.mk (Blk.new w 104 [.bool false, .slice none 0 0])
  have hsz : (⟨xs.toArray⟩ : ByteArray).size = xs.length := by simp [ByteArray.size]
  have hHE := Sec.mk hE
  have HSP := Sec.mk (fun w hm => split_calls xs (by omega) 44 (w := w) hm)
  have HDN : Sec (setFold [] (splitL 44 xs) = none → SetB xs = (false, [])) := ⟨SetB_none⟩
  have HDL : Sec (50 < (splitL 44 xs).length → SetB xs = (false, [])) := ⟨fun h => by unfold SetB; rw [if_pos h]⟩
  have HDS : Sec (∀ l, ¬ 50 < (splitL 44 xs).length → setFold [] (splitL 44 xs) = some l → SetB xs = (true, l)) := ⟨fun l h h2 => by unfold SetB; rw [if_neg h, h2]⟩
  have hwm := splitL_mem 44 xs
  have hwl := splitL_len 44 xs
  generalize splitL 44 xs = ps at *
  have hO := Blk.new (w.alloc (.cells #[.bool false, .slice none 0 0] 104)) 104 [.bool true, .slice none 0 0]
  have hz1 : (w.alloc (.cells #[.bool false, .slice none 0 0] 104)).heap.size = w.heap.size + 1 := by simp
  have hz2 : ((w.alloc (.cells #[.bool false, .slice none 0 0] 104)).alloc (.cells #[.bool true, .slice none 0 0] 104)).heap.size = w.heap.size + 2 := by simp
  rw [hz1] at hO
  have HM1 := Sec.mk (((Mod.refl (fun _ => False) w).alloc (.cells #[.bool false, .slice none 0 0] 104)).alloc (.cells #[.bool true, .slice none 0 0] 104))
  have HE1 := Sec.mk (hE.new HM1.out)
  have HO1 := Sec.mk hO
  have HZ1 := Sec.mk hz1
  have HZ2 := Sec.mk hz2
  clear hO hz1 hz2 hE
  go_enter Tryd.func100, Tryd.ntmps100
  go_wp2_with fail
  refine (HSP.out _ HE1.out).mono ?_
  rintro e w2 ⟨rfl, hm2, hs2, hrow⟩
  rw [HZ2.out] at hs2 hrow ⊢
  have HR2 := Sec.mk ((HB2.out.alloc (.cells #[.bool true, .slice none 0 0] 104)).mod hm2 id)
  have HO2 := Sec.mk (HO1.out.mod hm2 id)
  have HM2 := Sec.mk (HM1.out.transN hm2)
  have HE2 := Sec.mk (hHE.out.new HM2.out)
  have HW2 := Sec.mk (hrow.mod (B' := fun k => k ≠ w.heap.size + 1 ∧ k < w2.heap.size) (w' := w2) (fun k hk => by obtain rfl := hk; omega) (fun _ _ => rfl))
  clear hm2 hrow
  have hpl2 : ps.length ≤ 1048577 := by omega
  generalize (some ⟨w.heap.size + 2, 0, none⟩ : Option Addr) = A at *
  have hc0 : w2.cell? ⟨w.heap.size, 0, none⟩ = some (.bool false) := HR2.out.cell 0
  have hc1 : w2.cell? ⟨w.heap.size, 1, none⟩ = some (.slice none 0 0) := HR2.out.cell 1
  have hf0 : w2.frozen? ⟨w.heap.size, 0, none⟩ = false := HR2.out.frozen 0
  have hf1 : w2.frozen? ⟨w.heap.size, 1, none⟩ = false := HR2.out.frozen 1
  by_cases h50 : 50 < ps.length
  · have h50i : (50 : Int) < (ps.length : Int) := by omega
    have HED := Sec.mk (HDL.out h50)
    go_wp2
    refine bodyPost_ret (results_blk rfl rfl ((HR2.out.set_ 0 (.bool false)).set_ 1 (.slice none 0 0)) Tryd.underlying104 (by kernel_rfl)) rfl ?_
    rw [HED.out]
    exact ⟨_, rfl, ofSet (x := (false, [])) (OwI.nil dPair 119 _ _ _), (HM2.out.setCell (fun h => absurd h (by simp)) _).setCell (fun h => absurd h (by simp)) _⟩
  have h50i : ¬ (50 : Int) < (ps.length : Int) := by omega
  clear hc0 hc1 hf0 hf1
  go_wp2
  go_loopw [23] (fun i wr => ∃ (k : Nat) (acc : List (Int × Int)) (A' : Option Addr) (n' c' : Nat), k ≤ ps.length ∧ i = .int .i64 (k : Int) ∧ Sec (setFold [] ps = setFold acc (ps.drop k)) ∧ acc.length = k ∧ Sec (Blk wr w.heap.size 104 [.bool false, .slice none 0 0]) ∧ Sec (Blk wr (w.heap.size + 1) 104 [.bool true, .slice A' n' c']) ∧ Sec (OwI dPair 119 wr w2.heap.size wr.heap.size (.slice A' n' c') acc) ∧ Sec (Mod (· = w.heap.size + 1) w2 wr)) (fun i _ => ps.length - (intOf i).toNat)
  case atStart => exact ⟨0, [], none, 0, 0, Nat.zero_le _, rfl, ⟨rfl⟩, rfl, HR2, HO2, ⟨OwI.nil _ _ _ _ _⟩, ⟨Mod.refl _ _⟩⟩
  case round =>
    obtain ⟨k, acc, A', n', c', hk, rfl, HF, hal, HR, HO, HA, HM⟩ := hrel
    by_cases hlt : k < ps.length
    · obtain ⟨ad, hA, h0⟩ := str_elem (w' := wr) HW2.out (fun i hi => HM.out.block i hi.2 hi.1) hlt
      subst hA
      have hwk := hwm ps[k] (List.getElem_mem hlt)
      have HDR := Sec.mk (List.drop_eq_getElem_cons hlt)
      have hki : (k : Int) < (ps.length : Int) := by omega
      generalize ps[k] = p at *
      have HE3 : Sec (IntAt wr) := ⟨hHE.out.new (HM2.out.trans HM.out (fun i hi hl => by omega))⟩
      have HC := Sec.mk (fun w hm => cut_calls p (by omega) 58 (w := w) hm)
      cases hcc : (cutL 58 p).2.2
      · have HCE := Sec.mk (cutL_no 58 p hcc)
        have hSE := setOne_miss hcc
        have HNA : Sec (plL p = none → setOne p = none) := ⟨fun h => by rw [hSE, h]⟩
        have HNB := HNA
        have HAB : Sec (∀ a b : Nat, plL p = some a → plL p = some b → setOne p = some ((a : Int), (b : Int))) := ⟨fun a b h h' => by obtain rfl := Option.some.inj (h.symm.trans h'); rw [hSE, h]⟩
        rw [HCE.out] at HC
        clear hSE hcc HCE
        have HP0 := Sec.mk (readPlace_calls p (by omega))
        have HP1 := Sec.mk (readPlace_calls p (by omega))
        go_wp2_with fail
        refine (HC.out _ HE3.out).mono ?_
        rintro e w3 ⟨rfl, hm3⟩
        have HM3 := Sec.mk hm3
        clear hm3
        go_wp2_with fail
        refine (HP0.out _).mono ?_
        rintro e w4 ⟨m0, rfl, hq0, hm4⟩
        have HQ0 := Sec.mk hq0
        have HM4 := Sec.mk (HM3.out.transN hm4)
        clear hq0 hm4
        go_wp2_with fail
        refine (HP1.out _).mono ?_
        rintro e w5 ⟨m1, rfl, hq1, hm5⟩
        have HQ1 := Sec.mk hq1
        have HM5 := Sec.mk (HM4.out.transN hm5)
        clear hq1 hm5
        cases hp0 : plL p with
        | none =>
          have HNO : Sec (setOne p = none) := ⟨HNA.out hp0⟩
          clear hp0
          have HED : Sec (SetB xs = (false, [])) := ⟨HDN.out (by rw [HF.out, HDR.out]; exact setFold_none HNO.out)⟩
          have HR9 := Sec.mk (HR.out.mod HM5.out id)
          have hc0 : w5.cell? ⟨w.heap.size, 0, none⟩ = some (.bool false) := HR9.out.cell 0
          have hc1 : w5.cell? ⟨w.heap.size, 1, none⟩ = some (.slice none 0 0) := HR9.out.cell 1
          have hf0 : w5.frozen? ⟨w.heap.size, 0, none⟩ = false := HR9.out.frozen 0
          have hf1 : w5.frozen? ⟨w.heap.size, 1, none⟩ = false := HR9.out.frozen 1
          go_wp2
          refine bodyPost_ret (results_blk rfl rfl ((HR9.out.set_ 0 (.bool false)).set_ 1 (.slice none 0 0)) Tryd.underlying104 (by kernel_rfl)) rfl ?_
          rw [HED.out]
          exact ⟨_, rfl, ofSet (x := (false, [])) (OwI.nil dPair 119 _ _ _), ((HM2.out.trans (HM.out.transN HM5.out) (fun i hi hl => by omega)).setCell (fun h => absurd h (by simp)) _).setCell (fun h => absurd h (by simp)) _⟩
        | some a =>
          have hm0 := HQ0.out a hp0
          have hpa := plL_lt hp0
          subst hm0
          cases hp1 : plL p with
          | none => exact absurd (hp0.symm.trans hp1) (by simp)
          | some b =>
            have hm1 := HQ1.out b hp1
            have hpb := plL_lt hp1
            subst hm1
            have HYES := Sec.mk (HAB.out a b hp0 hp1)
            clear hp1 hp0
            have HFN : Sec (setFold [] ps = setFold (acc ++ [((a : Int), (b : Int))]) (ps.drop (k + 1))) := ⟨by rw [HF.out, HDR.out, setFold_some HYES.out]⟩
            have HO5 := Sec.mk (HO.out.mod HM5.out id)
            have HR5 := Sec.mk (HR.out.mod HM5.out id)
            have hs5 := HM5.out.size
            have HA5 := Sec.mk ((HA.out.new HM5.out).wide (Nat.le_refl _) hs5)
            have k0 : w5.cell? ⟨w.heap.size + 1, 0, none⟩ = some (.bool true) := HO5.out.cell 0
            have k1 : w5.cell? ⟨w.heap.size + 1, 1, none⟩ = some (.slice A' n' c') := HO5.out.cell 1
            have hs3 : w2.heap.size ≤ w5.heap.size := Nat.le_trans HM.out.size hs5
            go_wp2_with (at_builtin; go_loud (refine wpList_appI _ rfl (.tmp 54) (.tmp 58) _ rfl Tryd.underlying36 eltPair flatPair rfl rfl (HA5.out.new ((Mod.refl _ _).alloc _)) (rowPair _ (x := ((a : Int), (b : Int))) (by rw [IntKind.wrap_u32]; omega) (by rw [IntKind.wrap_u32]; omega)) (show w2.heap.size ≤ _ by simp; omega) (show acc.length + [((a : Int), (b : Int))].length ≤ 34359738368 by simp only [List.length_singleton]; omega) ?_; intro A6 n6 c6 w6 ho6 hm6; have HO6 := Sec.mk ((HO5.out.alloc (.cells #[.int .u32 (a : Int), .int .u32 (b : Int)] 119)).mod hm6 (by omega)); have k61 : w6.cell? ⟨w.heap.size + 1, 1, none⟩ = some (.slice A' n' c') := HO6.out.cell 1; have f61 : w6.frozen? ⟨w.heap.size + 1, 1, none⟩ = false := HO6.out.frozen 1; have HA6 := Sec.mk ho6; have HM6 := Sec.mk hm6; clear ho6 hm6))
            refine ⟨⟨k + 1, acc ++ [((a : Int), (b : Int))], A6, n6, c6, by omega, by go_num, HFN, by rw [List.length_append, hal]; rfl, ⟨((HR5.out.alloc _).mod HM6.out (by omega)).far (by simp) _⟩, ⟨HO6.out.set_ 1 _⟩, ⟨?_⟩, ⟨?_⟩⟩, ?_⟩
            · exact (HA6.out.keep (S := fun k => k = w.heap.size + 1) (Mod.setCell (S := fun k => k = w.heap.size + 1) (Mod.refl _ _) (fun _ => rfl) _) (fun k h1 h2 h3 => by omega)).wide (Nat.le_refl _) (by simp [World.setCell])
            · exact (((HM.out.transN HM5.out).alloc _).trans HM6.out (fun i hi hl => by omega)).setCell (fun _ => rfl) _
            · simp [intOf]; omega
      · have hcl := cutL_len 58 p hcc
        have hSE := setOne_hit hcc
        have HCE : Sec (cutL 58 p = ((cutL 58 p).1, (cutL 58 p).2.1, true)) := ⟨by rw [← hcc]⟩
        rw [HCE.out] at HC
        generalize (cutL 58 p).1 = f at *
        generalize (cutL 58 p).2.1 = g at *
        have HNA : Sec (plL f = none → setOne p = none) := ⟨fun h => by rw [hSE, h]⟩
        have HNB : Sec (plL g = none → setOne p = none) := ⟨fun h => by rw [hSE, h]; cases plL f <;> rfl⟩
        have HAB : Sec (∀ a b : Nat, plL f = some a → plL g = some b → setOne p = some ((a : Int), (b : Int))) := ⟨fun a b h h' => by rw [hSE, h, h']⟩
        clear hSE hcc HCE
        have HP0 := Sec.mk (readPlace_calls f (by omega))
        have HP1 := Sec.mk (readPlace_calls g (by omega))
        go_wp2_with fail
        refine (HC.out _ HE3.out).mono ?_
        rintro e w3 ⟨rfl, hm3⟩
        have HM3 := Sec.mk hm3
        clear hm3
        go_wp2_with fail
        refine (HP0.out _).mono ?_
        rintro e w4 ⟨m0, rfl, hq0, hm4⟩
        have HQ0 := Sec.mk hq0
        have HM4 := Sec.mk (HM3.out.transN hm4)
        clear hq0 hm4
        go_wp2_with fail
        refine (HP1.out _).mono ?_
        rintro e w5 ⟨m1, rfl, hq1, hm5⟩
        have HQ1 := Sec.mk hq1
        have HM5 := Sec.mk (HM4.out.transN hm5)
        clear hq1 hm5
        cases hp0 : plL f with
        | none =>
          have HNO : Sec (setOne p = none) := ⟨HNA.out hp0⟩
          clear hp0
          have HED : Sec (SetB xs = (false, [])) := ⟨HDN.out (by rw [HF.out, HDR.out]; exact setFold_none HNO.out)⟩
          have HR9 := Sec.mk (HR.out.mod HM5.out id)
          have hc0 : w5.cell? ⟨w.heap.size, 0, none⟩ = some (.bool false) := HR9.out.cell 0
          have hc1 : w5.cell? ⟨w.heap.size, 1, none⟩ = some (.slice none 0 0) := HR9.out.cell 1
          have hf0 : w5.frozen? ⟨w.heap.size, 0, none⟩ = false := HR9.out.frozen 0
          have hf1 : w5.frozen? ⟨w.heap.size, 1, none⟩ = false := HR9.out.frozen 1
          go_wp2
          refine bodyPost_ret (results_blk rfl rfl ((HR9.out.set_ 0 (.bool false)).set_ 1 (.slice none 0 0)) Tryd.underlying104 (by kernel_rfl)) rfl ?_
          rw [HED.out]
          exact ⟨_, rfl, ofSet (x := (false, [])) (OwI.nil dPair 119 _ _ _), ((HM2.out.trans (HM.out.transN HM5.out) (fun i hi hl => by omega)).setCell (fun h => absurd h (by simp)) _).setCell (fun h => absurd h (by simp)) _⟩
        | some a =>
          have hm0 := HQ0.out a hp0
          have hpa := plL_lt hp0
          subst hm0
          cases hp1 : plL g with
          | none =>
            have HNO : Sec (setOne p = none) := ⟨HNB.out hp1⟩
            clear hp1 hp0
            have HED : Sec (SetB xs = (false, [])) := ⟨HDN.out (by rw [HF.out, HDR.out]; exact setFold_none HNO.out)⟩
            have HR9 := Sec.mk (HR.out.mod HM5.out id)
            have hc0 : w5.cell? ⟨w.heap.size, 0, none⟩ = some (.bool false) := HR9.out.cell 0
            have hc1 : w5.cell? ⟨w.heap.size, 1, none⟩ = some (.slice none 0 0) := HR9.out.cell 1
            have hf0 : w5.frozen? ⟨w.heap.size, 0, none⟩ = false := HR9.out.frozen 0
            have hf1 : w5.frozen? ⟨w.heap.size, 1, none⟩ = false := HR9.out.frozen 1
            go_wp2
            refine bodyPost_ret (results_blk rfl rfl ((HR9.out.set_ 0 (.bool false)).set_ 1 (.slice none 0 0)) Tryd.underlying104 (by kernel_rfl)) rfl ?_
            rw [HED.out]
            exact ⟨_, rfl, ofSet (x := (false, [])) (OwI.nil dPair 119 _ _ _), ((HM2.out.trans (HM.out.transN HM5.out) (fun i hi hl => by omega)).setCell (fun h => absurd h (by simp)) _).setCell (fun h => absurd h (by simp)) _⟩
          | some b =>
            have hm1 := HQ1.out b hp1
            have hpb := plL_lt hp1
            subst hm1
            have HYES := Sec.mk (HAB.out a b hp0 hp1)
            clear hp1 hp0
            have HFN : Sec (setFold [] ps = setFold (acc ++ [((a : Int), (b : Int))]) (ps.drop (k + 1))) := ⟨by rw [HF.out, HDR.out, setFold_some HYES.out]⟩
            have HO5 := Sec.mk (HO.out.mod HM5.out id)
            have HR5 := Sec.mk (HR.out.mod HM5.out id)
            have hs5 := HM5.out.size
            have HA5 := Sec.mk ((HA.out.new HM5.out).wide (Nat.le_refl _) hs5)
            have k0 : w5.cell? ⟨w.heap.size + 1, 0, none⟩ = some (.bool true) := HO5.out.cell 0
            have k1 : w5.cell? ⟨w.heap.size + 1, 1, none⟩ = some (.slice A' n' c') := HO5.out.cell 1
            have hs3 : w2.heap.size ≤ w5.heap.size := Nat.le_trans HM.out.size hs5
            go_wp2_with (at_builtin; go_loud (refine wpList_appI _ rfl (.tmp 54) (.tmp 58) _ rfl Tryd.underlying36 eltPair flatPair rfl rfl (HA5.out.new ((Mod.refl _ _).alloc _)) (rowPair _ (x := ((a : Int), (b : Int))) (by rw [IntKind.wrap_u32]; omega) (by rw [IntKind.wrap_u32]; omega)) (show w2.heap.size ≤ _ by simp; omega) (show acc.length + [((a : Int), (b : Int))].length ≤ 34359738368 by simp only [List.length_singleton]; omega) ?_; intro A6 n6 c6 w6 ho6 hm6; have HO6 := Sec.mk ((HO5.out.alloc (.cells #[.int .u32 (a : Int), .int .u32 (b : Int)] 119)).mod hm6 (by omega)); have k61 : w6.cell? ⟨w.heap.size + 1, 1, none⟩ = some (.slice A' n' c') := HO6.out.cell 1; have f61 : w6.frozen? ⟨w.heap.size + 1, 1, none⟩ = false := HO6.out.frozen 1; have HA6 := Sec.mk ho6; have HM6 := Sec.mk hm6; clear ho6 hm6))
            refine ⟨⟨k + 1, acc ++ [((a : Int), (b : Int))], A6, n6, c6, by omega, by go_num, HFN, by rw [List.length_append, hal]; rfl, ⟨((HR5.out.alloc _).mod HM6.out (by omega)).far (by simp) _⟩, ⟨HO6.out.set_ 1 _⟩, ⟨?_⟩, ⟨?_⟩⟩, ?_⟩
            · exact (HA6.out.keep (S := fun k => k = w.heap.size + 1) (Mod.setCell (S := fun k => k = w.heap.size + 1) (Mod.refl _ _) (fun _ => rfl) _) (fun k h1 h2 h3 => by omega)).wide (Nat.le_refl _) (by simp [World.setCell])
            · exact (((HM.out.transN HM5.out).alloc _).trans HM6.out (fun i hi hl => by omega)).setCell (fun _ => rfl) _
            · simp [intOf]; omega
    · obtain rfl : k = ps.length := by omega
      rw [List.drop_length] at HF
      have HFS : Sec (setFold [] ps = some acc) := HF
      obtain ⟨hn', hnc, hcm⟩ := HA.out.len
      subst hn'
      have HAL := Sec.mk hal
      clear hal
      have k0 : wr.cell? ⟨w.heap.size + 1, 0, none⟩ = some (.bool true) := HO.out.cell 0
      have k1 : wr.cell? ⟨w.heap.size + 1, 1, none⟩ = some (.slice A' acc.length c') := HO.out.cell 1
      have hc0 : wr.cell? ⟨w.heap.size, 0, none⟩ = some (.bool false) := HR.out.cell 0
      have hc1 : wr.cell? ⟨w.heap.size, 1, none⟩ = some (.slice none 0 0) := HR.out.cell 1
      have hf0 : wr.frozen? ⟨w.heap.size, 0, none⟩ = false := HR.out.frozen 0
      have hf1 : wr.frozen? ⟨w.heap.size, 1, none⟩ = false := HR.out.frozen 1
      have HN := Sec.mk (HM2.out.trans HM.out (fun i hi hl => by omega))
      have HED := Sec.mk (HDS.out acc h50 HFS.out)
      have hs9 := HM.out.size
      go_wp2
      refine bodyPost_ret (results_blk rfl rfl ((HR.out.set_ 0 (.bool true)).set_ 1 (.slice A' acc.length c')) Tryd.underlying104 (by kernel_rfl)) rfl ?_
      rw [HED.out]
      refine ⟨_, rfl, ofSet (x := (true, acc)) ?_, (HN.out.setCell (fun h => absurd h (by simp)) _).setCell (fun h => absurd h (by simp)) _⟩
      exact (HA.out.keep (S := fun k => k = w.heap.size) (Mod.setCell (S := fun k => k = w.heap.size) (Mod.setCell (S := fun k => k = w.heap.size) (Mod.refl _ _) (fun _ => rfl) _) (fun _ => rfl) _) (fun k h1 h2 h3 => by omega)).wide (by omega) (by simp [World.setCell])
end Go.Proofs.YtiaknomadhgckaaDoor
