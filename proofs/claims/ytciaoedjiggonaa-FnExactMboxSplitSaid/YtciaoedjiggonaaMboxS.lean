/- The specification's MboxSplit. -/
import Derived.Test.YtciaoedjiggonaaPieceS
import Derived.Test.YtciaoedjiggonaaSSpans
namespace Go.Proofs.Ytciaoedjiggonaa
open Go.RowKit Mem
set_option linter.unusedVariables false
theorem MboxL_big {t : Bytes} (h : 40000 < t.length) : MboxL t = (false, []) := if_pos h
theorem MboxL_none {t : Bytes} (h : ¬ 40000 < t.length) (h2 : specG (lines t) [] 0 [] = none) : MboxL t = (false, []) := by
  unfold MboxL; rw [if_neg h, h2]
theorem MboxL_some {t : Bytes} {l : List SpanL} (h : ¬ 40000 < t.length) (h2 : specG (lines t) [] 0 [] = some l) : MboxL t = (true, l) := by
  unfold MboxL; rw [if_neg h, h2]
theorem specG_cut {l : Bytes} {r : List Bytes} {cur : Bytes} {at_ : Nat} {acc : List SpanL} (hm : marks l = 0) (h0 : 0 < at_) : specG (l :: r) cur at_ acc = if entryOk cur then specG r l (at_ + l.length) (acc ++ [spanOf cur at_]) else none := if_pos ⟨hm, h0⟩
theorem specG_on {l : Bytes} {r : List Bytes} {cur : Bytes} {at_ : Nat} {acc : List SpanL} (h : ¬ (marks l = 0 ∧ 0 < at_)) : specG (l :: r) cur at_ acc = specG r (cur ++ l) (at_ + l.length) acc := if_neg h
theorem specG_end {cur : Bytes} {at_ : Nat} {acc : List SpanL} : specG [] cur at_ acc = if 0 < at_ then (if entryOk cur then some (acc ++ [spanOf cur at_]) else none) else some acc := rfl
theorem retBad {w w' : World} {t : Bytes} {l : List SpanL} (h : MboxL t = (false, [])) (hm : New w w') : RetV true dSpans w (MboxL t) (.returned (.agg #[.bool false, .slice none 0 0])) w' := by
  rw [h]; exact ⟨_, rfl, ofSpans (x := (false, [])) (OwI.nil _ _ _ _ _), hm⟩
theorem OwP_rowlt {α : Type} {d : Ty α} {e : TypeId} {w : World} {X : Nat → Prop} {A : Option Addr} {n c : Nat} {xs : List α} (h : OwP d e w X (.slice A n c) xs) : Row d w (· < w.heap.size) A xs.length xs := by
  obtain ⟨F, ho, hF⟩ := h
  exact (ho.row rfl).mod (fun k hk => ho.lt k hk) (fun _ _ => rfl)
/-- the answer out of the local cell -/
theorem retGood {w w' : World} {F : List Nat} {v : Value} {l : List SpanL} {lo : Nat} (h : Own dSpan 32 w' F v l) (hF : ∀ k, k ∈ F → lo ≤ k) (h1 : w.heap.size < lo) (h2 : w.heap.size + 1 < w'.heap.size) (hm : New w w') :
    RetV true dSpans w (true, l) (.returned (.agg #[.bool true, v])) ((w'.setCell ⟨w.heap.size, 0, none⟩ (.bool true)).setCell ⟨w.heap.size, 1, none⟩ v) := by
  have hm2 := (Mod.refl (fun k => k = w.heap.size) w').setCell (p := ⟨w.heap.size, 0, none⟩) (fun _ => rfl) (.bool true) |>.setCell (p := ⟨w.heap.size, 1, none⟩) (fun _ => rfl) v
  refine ⟨_, rfl, ofSpans (x := (true, l)) ⟨F, h.keep hm2 (fun k hk e => by have := hF k hk; omega), fun k hk => ⟨by have := hF k hk; omega, Nat.lt_of_lt_of_le (h.lt k hk) hm2.size⟩⟩, (hm.setCell (fun h => absurd h (by simp)) _).setCell (fun h => absurd h (by simp)) _⟩
set_option maxHeartbeats 2000000 in
set_option maxRecDepth 100000 in
theorem mboxSpec_calls {A : Option Addr} {c : Nat} {xs : Bytes} {B : Nat → Prop} {w : World} (h : Row Ty.byte w B A xs.length xs) (hB : ∀ k, B k → k < w.heap.size) (hc : xs.length ≤ c) :
    Calls Try.prog 27 #[.slice A xs.length c] w (RetV true dSpans w (MboxL xs)) := by
  have hmx := h.2.1
  have HR := Sec.mk h
  have HB := Sec.mk hB
  have HR0 := Sec.mk (Blk.new w 29 [.bool false, .slice none 0 0])
  clear h hB
  by_cases hbig : 40000 < xs.length
  · have HE := Sec.mk (MboxL_big hbig)
    go_enter Try.func27, Try.ntmps27
    go_wp2
    refine bodyPost_ret (results_blk rfl rfl HR0.out Try.underlying29 (by kernel_rfl)) rfl ?_
    exact retBad (l := []) HE.out ((Mod.refl _ _).alloc _)
  have HO0 := Sec.mk (Blk.new (w.alloc (.cells #[.bool false, .slice none 0 0] 29)) 29 [.bool true, .slice none 0 0])
  rw [show (w.alloc (.cells #[.bool false, .slice none 0 0] 29)).heap.size = w.heap.size + 1 by simp] at HO0
  have HR1 := Sec.mk (HR0.out.alloc (.cells #[.bool true, .slice none 0 0] 29))
  have HM0 := Sec.mk (((Mod.refl (fun _ => False) w).alloc (.cells #[.bool false, .slice none 0 0] 29)).alloc (.cells #[.bool true, .slice none 0 0] 29))
  have HBIG := Sec.mk hbig
  have hbi : ¬ (40000 : Int) < (xs.length : Int) := by omega
  clear hbig
  go_enter Try.func27, Try.ntmps27
  go_wp2_with fail
  refine (l3Lines_calls (HR.out.mod (fun _ h => h) (fun k hk => HM0.out.block k (HB.out k hk) id)) (fun k hk => Nat.lt_of_lt_of_le (HB.out k hk) HM0.out.size) hc (by have := HBIG.out; omega)).mono ?_
  rintro e w1 ⟨A1, n1, c1, F1, hs, rfl, ho1, hn1, hF1, hm1, hh1⟩
  have HO1 := Sec.mk ho1
  have HM1 := Sec.mk (HM0.out.transN hm1)
  have HML := Sec.mk hm1
  have HM0s := Sec.mk HM0.out.size
  have HH1 := Sec.mk hh1
  have HRR := Sec.mk (HR1.out.mod hm1 id)
  have HOO := Sec.mk (HO0.out.mod hm1 id)
  obtain rfl : n1 = (lines xs).length := by rw [hn1, hh1.1]
  have hcnt := lines_count xs
  have HFL : Sec ((lines xs).flatten.length = xs.length) := ⟨by rw [lines_flat]⟩
  have hs1 : w.heap.size + 2 ≤ w1.heap.size := by have := hm1.size; simp at this; omega
  have HF1 : Sec (∀ k, k ∈ F1 → w.heap.size + 2 ≤ k ∧ k < w1.heap.size) := ⟨fun k hk => ⟨by have := hF1 k hk; simp at this; omega, ho1.lt k hk⟩⟩
  clear ho1 hn1 hF1 hm1 hh1 HO0 HR1 HR0 HM0
  have hN : xs.length ≤ 40000 := by have := HBIG.out; omega
  go_wp2
  go_loopw [4, 5, 16] (fun a u i wr => ∃ (k at_ : Nat) (acc : List SpanT) (A2 : Option Addr) (n2 c2 : Nat) (F : List Nat) (A3 : Option Addr) (n3 c3 : Nat) (cur : Bytes), k ≤ (lines xs).length ∧ i = .int .i64 (k : Int) ∧ a = .int .i64 (at_ : Int) ∧ u = .slice A3 n3 c3 ∧ at_ ≤ 40000 ∧ Sec (at_ + ((lines xs).drop k).flatten.length = xs.length) ∧ cur.length ≤ at_ ∧ acc.length ≤ k ∧
    Sec (Blk wr (w.heap.size + 1) 29 [.bool true, .slice A2 n2 c2]) ∧ Sec (Own dSpan 32 wr F (.slice A2 n2 c2) acc) ∧ Sec (∀ k, k ∈ F → w1.heap.size ≤ k) ∧
    Sec (OwP Ty.byte 5 wr (fun k => w1.heap.size ≤ k ∧ k ∉ F) (.slice A3 n3 c3) cur) ∧ Sec (Mod (· = w.heap.size + 1) w1 wr) ∧ Sec (specG (lines xs) [] 0 [] = specG ((lines xs).drop k) cur at_ acc)) (fun _ _ i _ => (lines xs).length - (intOf i).toNat)
  case atStart => exact ⟨0, 0, [], none, 0, 0, [], none, 0, 0, [], Nat.zero_le _, rfl, rfl, rfl, by omega, ⟨by rw [List.drop_zero, HFL.out]; omega⟩, Nat.le_refl _, Nat.le_refl _, HOO, ⟨Own.nil _ _ _⟩, ⟨by simp⟩, ⟨[], Own.nil _ _ _, by simp⟩, ⟨Mod.refl _ _⟩, ⟨by rw [List.drop_zero]⟩⟩
  case round =>
    obtain ⟨k, at_, acc, A2, n2, c2, F, A3, n3, c3, cur, hk, rfl, rfl, rfl, hat, HAT, hcl, hal, HO, HA, HF, HC, HM, HG⟩ := hrel
    by_cases hlt : k < (lines xs).length
    · have HI := Sec.mk (List.getElem?_eq_getElem hlt)
      have HFr : Sec (∀ q, q ∈ F1 → q ≠ w.heap.size + 1) := ⟨fun q hq => by have := HF1.out q hq; omega⟩
      obtain ⟨ad, A4, c4, rfl, hx, hc4, hr4⟩ := HH1.out.at_ ((HO1.out.keep HM.out HFr.out).row rfl) hlt
      have HRL := Sec.mk (hr4.mod (fun _ h => h) (fun k hk => (HM.out.block k (Nat.lt_of_lt_of_le (HB.out k hk) (by omega)) (fun h => by have := HB.out k hk; omega)).trans (HML.out.block k (Nat.lt_of_lt_of_le (HB.out k hk) HM0s.out) id)))
      have HDR := Sec.mk (List.drop_eq_getElem_cons hlt)
      have hki : (k : Int) < ((lines xs).length : Int) := by omega
      clear hr4
      generalize (lines xs)[k] = l at *
      have HAT2 : Sec (at_ + l.length + ((lines xs).drop (k + 1)).flatten.length = xs.length) := ⟨by have := HAT.out; rw [HDR.out, List.flatten_cons, List.length_append] at this; omega⟩
      have hll : at_ + l.length ≤ 40000 := by have := HAT2.out; omega
      have HRB : Sec (∀ W, Mod (· = w.heap.size + 1) w1 W → (∀ q, B q → q < W.heap.size)) := ⟨fun W hW q hq => by have := HB.out q hq; have := hW.size; omega⟩
      obtain ⟨rfl, hcc, hcm⟩ := HC.out.len
      go_wp2_with fail
      refine (l3Marks_calls HRL.out hc4 (by omega)).mono ?_
      rintro e w2 ⟨rfl, rfl⟩
      by_cases hm : marks l = 0
      · rw [hm]
        by_cases h0 : 0 < at_
        · have h0i : (0 : Int) < (at_ : Int) := by omega
          have HGC := Sec.mk (HG.out.trans ((congrArg (fun z => specG z cur at_ acc) HDR.out).trans (specG_cut hm h0)))
          clear hm HG
          go_wp2_with fail
          refine (l3Piece_calls HO.out HA.out (OwP_rowlt HC.out) (fun q hq => hq) hcc (fun h => by have := HF.out _ h; omega) hcl (by omega) (by omega)).mono ?_
          intro e w3 hp
          unfold PieceR at hp
          by_cases hok : entryOk cur
          · rw [if_pos hok] at hp
            obtain ⟨A5, n5, c5, F5, rfl, hB5, hO5, hF5, hm5⟩ := hp
            have HGS := Sec.mk (HGC.out.trans (if_pos hok))
            have HB5 := Sec.mk hB5; have HO5 := Sec.mk hO5
            have HF5 : Sec (∀ q, q ∈ F5 → w1.heap.size ≤ q) := ⟨fun q hq => by rcases hF5 q hq with h | h; exact HF.out q h; have := HM.out.size; omega⟩
            have HM5 : Sec (Mod (· = w.heap.size + 1) w1 w3) := ⟨HM.out.trans hm5 fun i hi hl => by rcases hi with h | h; exact h; have := HF.out i h; omega⟩
            have HRL5 := Sec.mk (HRL.out.mod (w' := w3) (fun _ h => h) (fun q hq => hm5.block q (HRB.out _ HM.out q hq) (fun h => by have := HB.out q hq; rcases h with h | h; omega; have := HF.out q h; omega)))
            clear hok HGC hB5 hO5 hF5 hm5 HO HA HF HC HRL
            go_wp2_with (at_builtin; go_loud (refine wpList_appP (X := fun k => w1.heap.size ≤ k ∧ k ∉ F5) _ rfl (.tmp 32) (.tmp 33) _ rfl Try.underlying22 elt_byte flat_byte rfl rfl ⟨[], Own.nil _ _ _, by simp⟩ HRL5.out (fun q hq => ⟨Nat.le_trans HM5.out.size hq, fun h => by have := HO5.out.lt q h; omega⟩) (by simp; omega) ?_; intro A6 n6 c6 w6 ho6 hm6; have HO6 := Sec.mk ho6; have HM6 := Sec.mk hm6; clear ho6 hm6))
            go_roundw
            case rel => exact ⟨k + 1, at_ + l.length, acc ++ [spanOf cur at_], A5, n5, c5, F5, A6, n6, c6, l, by omega, by go_num, by go_num, rfl, hll, HAT2, by omega, by simp; omega, ⟨HB5.out.mod HM6.out (fun h => by have := h.1; omega)⟩, ⟨HO5.out.keep HM6.out (fun q hq h => h.2 hq)⟩, HF5, HO6, ⟨HM5.out.trans HM6.out (fun i hi hl => by have := hi.1; omega)⟩, HGS⟩
            case measure => simp [intOf]; omega
          · rw [if_neg hok] at hp
            obtain ⟨rfl, hm5⟩ := hp
            have HGS := Sec.mk (MboxL_none HBIG.out (HGC.out.trans (if_neg hok)))
            have HR9 := Sec.mk ((HRR.out.mod HM.out (fun h => by omega)).mod hm5 id)
            have HMM := Sec.mk ((HM1.out.trans HM.out (fun i hi hl => by omega)).transN hm5)
            have hc0 : w3.cell? ⟨w.heap.size, 0, none⟩ = some (.bool false) := HR9.out.cell 0
            have hc1 : w3.cell? ⟨w.heap.size, 1, none⟩ = some (.slice none 0 0) := HR9.out.cell 1
            have hf0 : w3.frozen? ⟨w.heap.size, 0, none⟩ = false := HR9.out.frozen 0
            have hf1 : w3.frozen? ⟨w.heap.size, 1, none⟩ = false := HR9.out.frozen 1
            clear hok hm5
            go_wp2
            refine bodyPost_ret (results_blk rfl rfl ((HR9.out.set_ 0 (.bool false)).set_ 1 (.slice none 0 0)) Try.underlying29 (by kernel_rfl)) rfl ?_
            exact retBad (l := []) HGS.out ((HMM.out.setCell (fun h => absurd h (by simp)) _).setCell (fun h => absurd h (by simp)) _)
        · obtain rfl : at_ = 0 := by omega
          have HGC := Sec.mk (HG.out.trans ((congrArg (fun z => specG z cur 0 acc) HDR.out).trans (specG_on (fun h => h0 h.2))))
          clear hm h0 HG
          go_wp2_with (at_builtin; go_loud (refine wpList_appP (X := fun k => w1.heap.size ≤ k ∧ k ∉ F) _ rfl (.tmp 32) (.tmp 33) _ rfl Try.underlying22 elt_byte flat_byte rfl rfl HC.out HRL.out (fun q hq => ⟨Nat.le_trans HM.out.size hq, fun h => by have := HA.out.lt q h; omega⟩) (by omega) ?_; intro A6 n6 c6 w6 ho6 hm6; have HO6 := Sec.mk ho6; have HM6 := Sec.mk hm6; clear ho6 hm6))
          go_roundw
          case rel => exact ⟨k + 1, 0 + l.length, acc, A2, n2, c2, F, A6, n6, c6, cur ++ l, by omega, by go_num, by go_num, rfl, hll, HAT2, by rw [List.length_append]; omega, by omega, ⟨HO.out.mod HM6.out (fun h => by have := h.1; omega)⟩, ⟨HA.out.keep HM6.out (fun q hq h => h.2 hq)⟩, HF, HO6, ⟨HM.out.trans HM6.out (fun i hi hl => by have := hi.1; omega)⟩, HGC⟩
          case measure => simp [intOf]; omega
      · have HGC := Sec.mk (HG.out.trans ((congrArg (fun z => specG z cur at_ acc) HDR.out).trans (specG_on (fun h => hm h.1))))
        have hmb : (marks l == 0) = false := by simpa using hm
        clear hm HG
        go_wp2_with (at_builtin; go_loud (refine wpList_appP (X := fun k => w1.heap.size ≤ k ∧ k ∉ F) _ rfl (.tmp 32) (.tmp 33) _ rfl Try.underlying22 elt_byte flat_byte rfl rfl HC.out HRL.out (fun q hq => ⟨Nat.le_trans HM.out.size hq, fun h => by have := HA.out.lt q h; omega⟩) (by omega) ?_; intro A6 n6 c6 w6 ho6 hm6; have HO6 := Sec.mk ho6; have HM6 := Sec.mk hm6; clear ho6 hm6))
        go_roundw
        case rel => exact ⟨k + 1, at_ + l.length, acc, A2, n2, c2, F, A6, n6, c6, cur ++ l, by omega, by go_num, by go_num, rfl, hll, HAT2, by rw [List.length_append]; omega, by omega, ⟨HO.out.mod HM6.out (fun h => by have := h.1; omega)⟩, ⟨HA.out.keep HM6.out (fun q hq h => h.2 hq)⟩, HF, HO6, ⟨HM.out.trans HM6.out (fun i hi hl => by have := hi.1; omega)⟩, HGC⟩
        case measure => simp [intOf]; omega
    · obtain rfl : k = (lines xs).length := by omega
      rw [List.drop_length] at HG
      have HG2 := Sec.mk (HG.out.trans specG_end)
      obtain ⟨rfl, hcc, hcm⟩ := HC.out.len
      have HR9 := Sec.mk (HRR.out.mod HM.out (fun h => by omega))
      by_cases h0 : 0 < at_
      · have h0i : (0 : Int) < (at_ : Int) := by omega
        have HG3 := Sec.mk (HG2.out.trans (if_pos h0))
        clear HG HG2 h0
        go_wp2_with fail
        refine (l3Piece_calls HO.out HA.out (OwP_rowlt HC.out) (fun q hq => hq) hcc (fun h => by have := HF.out _ h; omega) hcl (by omega) (by omega)).mono ?_
        intro e w3 hp
        unfold PieceR at hp
        by_cases hok : entryOk cur
        · rw [if_pos hok] at hp
          obtain ⟨A5, n5, c5, F5, rfl, hB5, hO5, hF5, hm5⟩ := hp
          have HGS := Sec.mk (MboxL_some HBIG.out (HG3.out.trans (if_pos hok)))
          have HB5 := Sec.mk hB5; have HO5 := Sec.mk hO5
          have HF5 : Sec (∀ q, q ∈ F5 → w1.heap.size ≤ q) := ⟨fun q hq => by rcases hF5 q hq with h | h; exact HF.out q h; have := HM.out.size; omega⟩
          have HM5 : Sec (Mod (· = w.heap.size + 1) w1 w3) := ⟨HM.out.trans hm5 fun i hi hl => by rcases hi with h | h; exact h; have := HF.out i h; omega⟩
          have HR8 := Sec.mk (HRR.out.mod HM5.out (fun h => by omega))
          have k0 : w3.cell? ⟨w.heap.size + 1, 0, none⟩ = some (.bool true) := HB5.out.cell 0
          have k1 : w3.cell? ⟨w.heap.size + 1, 1, none⟩ = some (.slice A5 n5 c5) := HB5.out.cell 1
          have hc0 : w3.cell? ⟨w.heap.size, 0, none⟩ = some (.bool false) := HR8.out.cell 0
          have hc1 : w3.cell? ⟨w.heap.size, 1, none⟩ = some (.slice none 0 0) := HR8.out.cell 1
          have hf0 : w3.frozen? ⟨w.heap.size, 0, none⟩ = false := HR8.out.frozen 0
          have hf1 : w3.frozen? ⟨w.heap.size, 1, none⟩ = false := HR8.out.frozen 1
          clear hok hB5 hO5 hF5 hm5
          go_wp2
          refine bodyPost_ret (results_blk rfl rfl ((HR8.out.set_ 0 (.bool true)).set_ 1 (.slice A5 n5 c5)) Try.underlying29 (by kernel_rfl)) rfl ?_
          rw [HGS.out]
          refine retGood HO5.out HF5.out (by omega) (by have := HM5.out.size; omega) (HM1.out.trans HM5.out (fun i hi hl => by omega))
        · rw [if_neg hok] at hp
          obtain ⟨rfl, hm5⟩ := hp
          have HGS := Sec.mk (MboxL_none HBIG.out (HG3.out.trans (if_neg hok)))
          have HR8 := Sec.mk (HR9.out.mod hm5 id)
          have HMM := Sec.mk ((HM1.out.trans HM.out (fun i hi hl => by omega)).transN hm5)
          have hc0 : w3.cell? ⟨w.heap.size, 0, none⟩ = some (.bool false) := HR8.out.cell 0
          have hc1 : w3.cell? ⟨w.heap.size, 1, none⟩ = some (.slice none 0 0) := HR8.out.cell 1
          have hf0 : w3.frozen? ⟨w.heap.size, 0, none⟩ = false := HR8.out.frozen 0
          have hf1 : w3.frozen? ⟨w.heap.size, 1, none⟩ = false := HR8.out.frozen 1
          clear hok hm5
          go_wp2
          refine bodyPost_ret (results_blk rfl rfl ((HR8.out.set_ 0 (.bool false)).set_ 1 (.slice none 0 0)) Try.underlying29 (by kernel_rfl)) rfl ?_
          exact retBad (l := []) HGS.out ((HMM.out.setCell (fun h => absurd h (by simp)) _).setCell (fun h => absurd h (by simp)) _)
      · have h0i : ¬ (0 : Int) < (at_ : Int) := by omega
        have HGS := Sec.mk (MboxL_some HBIG.out (HG2.out.trans (if_neg h0)))
        clear HG HG2 h0
        have k0 : wr.cell? ⟨w.heap.size + 1, 0, none⟩ = some (.bool true) := HO.out.cell 0
        have k1 : wr.cell? ⟨w.heap.size + 1, 1, none⟩ = some (.slice A2 n2 c2) := HO.out.cell 1
        have hc0 : wr.cell? ⟨w.heap.size, 0, none⟩ = some (.bool false) := HR9.out.cell 0
        have hc1 : wr.cell? ⟨w.heap.size, 1, none⟩ = some (.slice none 0 0) := HR9.out.cell 1
        have hf0 : wr.frozen? ⟨w.heap.size, 0, none⟩ = false := HR9.out.frozen 0
        have hf1 : wr.frozen? ⟨w.heap.size, 1, none⟩ = false := HR9.out.frozen 1
        go_wp2
        refine bodyPost_ret (results_blk rfl rfl ((HR9.out.set_ 0 (.bool true)).set_ 1 (.slice A2 n2 c2)) Try.underlying29 (by kernel_rfl)) rfl ?_
        rw [HGS.out]
        refine retGood HA.out HF.out (by omega) (by have := HM.out.size; omega) (HM1.out.trans HM.out (fun i hi hl => by omega))
end Go.Proofs.Ytciaoedjiggonaa
