/- Drawn logs' records. -/
import Derived.Test.YtciaoedjiggonaaDrawL
namespace Go.Proofs.Ytciaoedjiggonaa
open Go.RowKit Mem
set_option linter.unusedVariables false

def zerosL (n : Nat) : Bytes := List.replicate n 0
def drawD (xs : Bytes) : List Bytes :=
  if (nextD xs).1 % 20 = 0 then (recsD (nextD xs).2).1 ++ [[]] else if (nextD xs).1 % 20 = 1 then (recsD (nextD xs).2).1 ++ [zerosL (2000 + (nextD xs).1 / 20 % 2)]
  else if (nextD xs).1 % 20 = 2 then ((recsD (nextD xs).2).1 ++ List.replicate 19 (zerosL 2000)) ++ [zerosL (1880 + (nextD xs).1 / 20)] else (recsD (nextD xs).2).1
set_option maxHeartbeats 1000000 in
set_option maxRecDepth 100000 in
theorem drawFrame_calls {A : Option Addr} {c : Nat} {xs : Bytes} {B : Nat → Prop} {w : World} (h : Row Ty.byte w B A xs.length xs) (hB : ∀ k, B k → k < w.heap.size) (hl : xs.length ≤ 34359738368) :
    Calls Try.prog 15 #[.slice A xs.length c] w (RetOwn tB 22 w (drawD xs)) := by
  have HR0 : Sec (Rdr (w.alloc (.cells #[.slice A xs.length c, .int .i64 0] 61)) w.heap.size xs) := ⟨⟨A, c, xs, 0, B, Blk.new w _ _, by omega, rfl, h.mod (fun _ h => h) (fun k hk => ((Mod.refl (fun _ => False) w).alloc _).block k (hB k hk) id), hB, hl⟩⟩
  have hb := nextD_lt xs
  have HD : Sec (drawD xs = if (nextD xs).1 % 20 = 0 then (recsD (nextD xs).2).1 ++ [[]] else if (nextD xs).1 % 20 = 1 then (recsD (nextD xs).2).1 ++ [zerosL (2000 + (nextD xs).1 / 20 % 2)]
    else if (nextD xs).1 % 20 = 2 then ((recsD (nextD xs).2).1 ++ List.replicate 19 (zerosL 2000)) ++ [zerosL (1880 + (nextD xs).1 / 20)] else (recsD (nextD xs).2).1) := ⟨rfl⟩
  clear h hB
  have hM0 : Mod (· = w.heap.size) w (w.alloc (.cells #[.slice A xs.length c, .int .i64 0] 61)) := (Mod.refl _ _).alloc _
  go_enter Try.func15, Try.ntmps15
  go_wp2_with fail
  refine (next_calls HR0.out).mono ?_
  rintro e w1 ⟨rfl, hr1, hm1⟩
  have hM1 := hM0.trans hm1 (fun i h _ => h)
  generalize (nextD xs).1 = q at *
  generalize (nextD xs).2 = zs at *
  have HR1 := Sec.mk hr1
  have HM1 := Sec.mk hM1
  have hs1 := hM1.size
  clear hr1 hm1 hM0 hM1 HR0
  go_wp2_with fail
  refine (l2Records_calls HR1.out).mono ?_
  rintro e w2 ⟨A2, c2, rfl, ho2, hr2, hm2⟩
  have hrl : (recsD zs).1.length < 9 := by unfold recsD; rw [recordsD_len]; omega
  generalize (recsD zs).1 = rs at *
  have HN2 : Sec (New w w2) := ⟨(HM1.out.trans hm2 (fun i h _ => h)).mono (fun i hlt h => by omega)⟩
  have hs2 := hm2.size
  have HO2 := Sec.mk (ho2.wide hs1 (Nat.le_refl _))
  clear ho2 hr2 hm2
  have HLO : Sec (w.heap.size ≤ w2.heap.size) := ⟨by omega⟩
  rcases (show q % 20 = 0 ∨ q % 20 = 1 ∨ q % 20 = 2 ∨ (q % 20 ≠ 0 ∧ q % 20 ≠ 1 ∧ q % 20 ≠ 2) by omega) with hq | hq | hq | ⟨hq0, hq1, hq2⟩
  · have hqi : (q : Int) % 20 = 0 := by omega
    have HE : Sec (drawD xs = rs ++ [[]]) := ⟨by rw [HD.out, if_pos hq]⟩
    have HOW := Sec.mk (HO2.out.new ((Mod.refl _ _).alloc (.cells #[.slice none 0 0] 22)))
    have HSZ : Sec (w2.heap.size ≤ (w2.alloc (.cells #[.slice none 0 0] 22)).heap.size) := ⟨by simp⟩
    have HG : Sec (∀ k, k ∈ ([] : List Nat) → w2.heap.size ≤ k) := ⟨fun k hk => absurd hk (by simp)⟩
    clear hq
    go_wp2_with (at_builtin; go_loud (refine wpList_appO _ rfl (.tmp 18) (.tmp 19) _ rfl Try.underlying23 elt_b rfl rfl HOW.out (y := ([] : Bytes)) (G := []) ⟨_, rfl, Own.nil _ _ _⟩ HG.out (lit_cells _ _ _ rfl) (show w.heap.size ≤ _ from HLO.out) HSZ.out (show rs.length + 1 ≤ 34359738368 by omega) ?_; intro A7 n7 c7 w7 HO7 hm7; have HO7s := Sec.mk HO7; have HM7s := Sec.mk hm7; clear HO7 hm7))
    go_ret
    rw [HE.out]
    exact HO7s.out.ret (Nat.le_refl _) ((HN2.out.alloc _).trans HM7s.out (fun i h1 h2 => by omega))
  · have hqi : (q : Int) % 20 = 1 := by omega
    have HE : Sec (drawD xs = rs ++ [zerosL (2000 + q / 20 % 2)]) := ⟨by rw [HD.out, if_neg (by omega), if_pos hq]⟩
    clear hq
    go_wp2_with (first
      | (refine wpList_mk _ rfl (.tmp 27) _ rfl Ty.byte 5 Try.underlying22 elt_byte 0 (fun _ => ⟨rfl, rfl⟩) (2000 + q / 20 % 2) (congrArg (Value.int .i64) (show (2000 : Int) + (q : Int) / 20 % 2 = ((2000 + q / 20 % 2 : Nat) : Int) by omega)) (by omega) ?_; intro w3 how3; obtain ⟨⟨Fw3, hww3, hFw3⟩, hnw3⟩ := how3; have HOW := Sec.mk ((HO2.out.new hnw3).new ((Mod.refl _ _).alloc (.cells #[.slice (some ⟨w2.heap.size, 0, none⟩) (2000 + q / 20 % 2) (2000 + q / 20 % 2)] 22))); have HSZ : Sec (w2.heap.size ≤ (w3.alloc (.cells #[.slice (some ⟨w2.heap.size, 0, none⟩) (2000 + q / 20 % 2) (2000 + q / 20 % 2)] 22)).heap.size) := ⟨by have := hnw3.size; simp; omega⟩; have HG : Sec (∀ k, k ∈ Fw3 → w2.heap.size ≤ k) := ⟨hFw3⟩; have HF := Sec.mk hww3; have HNW := Sec.mk hnw3; clear hFw3 hww3 hnw3)
      | (at_builtin; go_loud (refine wpList_appO _ rfl (.tmp 23) (.tmp 29) _ rfl Try.underlying23 elt_b rfl rfl HOW.out (y := zerosL (2000 + q / 20 % 2)) (G := Fw3) ⟨_, rfl, HF.out.new ((Mod.refl _ _).alloc _)⟩ HG.out (lit_cells _ _ _ rfl) (show w.heap.size ≤ _ from HLO.out) HSZ.out (show rs.length + 1 ≤ 34359738368 by omega) ?_; intro A7 n7 c7 w7 HO7 hm7; have HO7s := Sec.mk HO7; have HM7s := Sec.mk hm7; clear HO7 hm7)))
    go_ret
    rw [HE.out]
    exact HO7s.out.ret (Nat.le_refl _) (((HN2.out.transN HNW.out).alloc _).trans HM7s.out (fun i h1 h2 => by omega))
  · have hqi : (q : Int) % 20 = 2 := by omega
    have HE : Sec (drawD xs = (rs ++ List.replicate 19 (zerosL 2000)) ++ [zerosL (1880 + q / 20)]) := ⟨by rw [HD.out, if_neg (by omega), if_neg (by omega), if_pos hq]⟩
    clear hq
    go_wp2
    clear hqi
    go_loopw [5, 6] (fun o i wr => ∃ (k : Nat) (A' : Option Addr) (n' c' : Nat), k ≤ 19 ∧ i = .int .i64 (k : Int) ∧ o = .slice A' n' c' ∧ Sec (OwI tB 22 wr w.heap.size wr.heap.size (.slice A' n' c') (rs ++ List.replicate k (zerosL 2000))) ∧ Sec (New w wr)) (fun _ i _ => 19 - (intOf i).toNat)
    case atStart => exact ⟨0, A2, rs.length, c2, by omega, rfl, rfl, ⟨by simpa using HO2.out⟩, HN2⟩
    case round =>
      obtain ⟨k, A', n', c', hk, rfl, rfl, HO, HN⟩ := hrel
      clear HO2 HLO
      have HLO := Sec.mk HN.out.size
      by_cases hlt : k < 19
      · have HR : Sec (List.replicate (k + 1) (zerosL 2000) = List.replicate k (zerosL 2000) ++ [zerosL 2000]) := ⟨List.replicate_succ'⟩
        have hll : (rs ++ List.replicate k (zerosL 2000)).length ≤ 100 := by rw [List.length_append, List.length_replicate]; omega
        have HS1 := Sec.mk hs2
        go_wp2_with (first
          | (refine wpList_mk _ rfl (.const (.int .i64 2000)) _ rfl Ty.byte 5 Try.underlying22 elt_byte 0 (fun _ => ⟨rfl, rfl⟩) (2000) (rfl) (by omega) ?_; intro w3 how3; obtain ⟨⟨Fw3, hww3, hFw3⟩, hnw3⟩ := how3; have HOW := Sec.mk ((HO.out.new hnw3).new ((Mod.refl _ _).alloc (.cells #[.slice (some ⟨wr.heap.size, 0, none⟩) 2000 2000] 22))); have HSZ : Sec (wr.heap.size ≤ (w3.alloc (.cells #[.slice (some ⟨wr.heap.size, 0, none⟩) 2000 2000] 22)).heap.size) := ⟨by have := hnw3.size; simp; omega⟩; have HG : Sec (∀ k, k ∈ Fw3 → wr.heap.size ≤ k) := ⟨hFw3⟩; have HF := Sec.mk hww3; have HNW := Sec.mk hnw3; clear hFw3 hww3 hnw3)
          | (at_builtin; go_loud (refine wpList_appO _ rfl (.tmp 37) (.tmp 39) _ rfl Try.underlying23 elt_b rfl rfl HOW.out (y := zerosL 2000) (G := Fw3) ⟨_, rfl, HF.out.new ((Mod.refl _ _).alloc _)⟩ HG.out (lit_cells _ _ _ rfl) (show w.heap.size ≤ _ from HLO.out) HSZ.out (show (rs ++ List.replicate k (zerosL 2000)).length + 1 ≤ 34359738368 by omega) ?_; intro A7 n7 c7 w7 HO7 hm7; have HO7s := Sec.mk HO7; have HM7s := Sec.mk hm7; clear HO7 hm7)))
        go_roundw
        case rel => exact ⟨k + 1, A7, n7, c7, by omega, by go_num, rfl, ⟨by rw [HR.out, ← List.append_assoc]; exact HO7s.out⟩, ⟨((HN.out.transN HNW.out).alloc _).trans HM7s.out (fun i h1 h2 => by omega)⟩⟩
        case measure => simp [intOf]; omega
      · obtain rfl : k = 19 := by omega
        have hll : (rs ++ List.replicate 19 (zerosL 2000)).length ≤ 100 := by rw [List.length_append, List.length_replicate]; omega
        go_wp2_with (first
          | (refine wpList_mk _ rfl (.tmp 44) _ rfl Ty.byte 5 Try.underlying22 elt_byte 0 (fun _ => ⟨rfl, rfl⟩) (1880 + q / 20) (congrArg (Value.int .i64) (show (1880 : Int) + (q : Int) / 20 = ((1880 + q / 20 : Nat) : Int) by omega)) (by omega) ?_; intro w3 how3; obtain ⟨⟨Fw3, hww3, hFw3⟩, hnw3⟩ := how3; have HOW := Sec.mk ((HO.out.new hnw3).new ((Mod.refl _ _).alloc (.cells #[.slice (some ⟨wr.heap.size, 0, none⟩) (1880 + q / 20) (1880 + q / 20)] 22))); have HSZ : Sec (wr.heap.size ≤ (w3.alloc (.cells #[.slice (some ⟨wr.heap.size, 0, none⟩) (1880 + q / 20) (1880 + q / 20)] 22)).heap.size) := ⟨by have := hnw3.size; simp; omega⟩; have HG : Sec (∀ k, k ∈ Fw3 → wr.heap.size ≤ k) := ⟨hFw3⟩; have HF := Sec.mk hww3; have HNW := Sec.mk hnw3; clear hFw3 hww3 hnw3)
          | (at_builtin; go_loud (refine wpList_appO _ rfl (.tmp 41) (.tmp 46) _ rfl Try.underlying23 elt_b rfl rfl HOW.out (y := zerosL (1880 + q / 20)) (G := Fw3) ⟨_, rfl, HF.out.new ((Mod.refl _ _).alloc _)⟩ HG.out (lit_cells _ _ _ rfl) (show w.heap.size ≤ _ from HLO.out) HSZ.out (show (rs ++ List.replicate 19 (zerosL 2000)).length + 1 ≤ 34359738368 by omega) ?_; intro A7 n7 c7 w7 HO7 hm7; have HO7s := Sec.mk HO7; have HM7s := Sec.mk hm7; clear HO7 hm7)))
        go_ret
        rw [HE.out]
        exact HO7s.out.ret (Nat.le_refl _) (((HN.out.transN HNW.out).alloc _).trans HM7s.out (fun i h1 h2 => by omega))
  · have HE : Sec (drawD xs = rs) := ⟨by rw [HD.out, if_neg hq0, if_neg hq1, if_neg hq2]⟩
    have e0 : ((q : Int) % 20 == 0) = false := by simp only [beq_eq_false_iff_ne, ne_eq]; omega
    have e1 : ((q : Int) % 20 == 1) = false := by simp only [beq_eq_false_iff_ne, ne_eq]; omega
    have e2 : ((q : Int) % 20 == 2) = false := by simp only [beq_eq_false_iff_ne, ne_eq]; omega
    go_wp2
    go_ret
    rw [HE.out]
    exact HO2.out.ret (Nat.le_refl _) HN2.out
end Go.Proofs.Ytciaoedjiggonaa
