/- ParsePop, both sides. -/
import Derived.Test.YtciaoedjiggonaaCut1
import Derived.Test.YtciaoedjiggonaaPurePop
import Derived.Test.YtciaoedjiggonaaPlace
import Derived.Test.YtciaoedjiggonaaSplitS
import Derived.Test.YtciaoedjiggonaaSCmd
import Derived.Test.YtciaoedjiggonaaMapLib
namespace Go.Proofs.Ytciaoedjiggonaa
open Go.RowKit Mem
set_option linter.unusedVariables false
set_option linter.unusedSimpArgs false
theorem retPop {w w' : World} {k n : Int} (hk : IntKind.i64.wrap k = k) (hn : IntKind.u32.wrap n = n) (hm : New w w') :
    RetV true dCmd w (popC k n) (.returned (.agg #[.int .i64 k, .string ⟨#[]⟩, .int .u32 n, .bool false, .slice none 0 0, .int .i64 0, .int .i64 0, .int .u32 0, .slice none 0 0])) w' :=
  ⟨_, rfl, ⟨_, _, rfl, mCmd (x := popC k n) (F4 := []) (F8 := []) hk hn (show IntKind.i64.wrap 0 = 0 by decide) (show IntKind.i64.wrap 0 = 0 by decide) (show IntKind.u32.wrap 0 = 0 by decide) (Own.nil _ _ _) (Own.nil _ _ _) (by simp), by simp⟩, hm⟩
theorem wrap32 {n : Int} (h0 : 0 ≤ n) (h1 : n ≤ 4294967295) : IntKind.u32.wrap n = n := by rw [IntKind.wrap_u32]; omega
set_option maxHeartbeats 1000000 in
set_option maxRecDepth 100000 in
theorem l5Words_calls {A : Option Addr} {c : Nat} {xs : Bytes} {B : Nat → Prop} {w : World} (h : Row Ty.byte w B A xs.length xs) (hx : xs.length ≤ 16777216) : Calls Try.prog 64 #[.slice A xs.length c] w (RetOwn Ty.string 9 w ((splitL 32 xs).map toS)) := by
  have hsl := splitL_len 32 xs
  have hcv := h.conv (P := Try.prog) Try.underlying22 Try.underlying5 Try.underlying9 c
  clear h
  go_enter Try.func64, Try.ntmps64
  go_wp2
  go_loopw [3, 4] (fun o s wr => ∃ (done : List ByteArray) (cur : Bytes) (A : Option Addr) (n c : Nat), Sec ((splitL 32 xs).map toS = done ++ (splitL 32 cur).map toS) ∧ cur.length ≤ xs.length ∧ s = .string ⟨cur.toArray⟩ ∧ o = .slice A n c ∧ Sec (Mine Ty.string 9 w wr (.slice A n c) done)) (fun _ s _ => match s with | .string x => x.size | _ => 0)
  case atStart => exact ⟨[], xs, _, _, _, ⟨rfl⟩, Nat.le_refl _, rfl, rfl, ⟨Mine.nil _ _ (Mod.refl _ _)⟩⟩
  case round =>
    obtain ⟨done, cur, A, n, c, HS, hcl, rfl, rfl, HO⟩ := hrel
    clear hcv
    have HC := Sec.mk (l4Cut_calls cur (by omega) 32)
    have hdl : done.length ≤ 16777217 := by
      have h1 := congrArg List.length HS.out
      rw [List.length_append, List.length_map, List.length_map] at h1
      omega
    cases hq : (cutL 32 cur).2.2
    · have HN := Sec.mk (cutL_no 32 cur hq)
      have HSP := Sec.mk (splitL_no 32 cur hq)
      rw [HN.out] at HC
      simp only [Cut3] at HC
      clear hq
      go_wp2_with fail
      refine (HC.out _).mono ?_
      rintro e w2 ⟨rfl, hm2⟩
      have HO2 := Sec.mk (HO.out.step hm2)
      clear hm2
      go_wp2_with (at_builtin; go_loud (refine wpList_app _ rfl (.tmp 16) (.tmp 18) _ rfl Try.underlying77 elt_str flat_string rfl rfl (HO2.out.alloc _) (row_str _ _ _) (show done.length + [(⟨cur.toArray⟩ : ByteArray)].length ≤ 34359738368 by simp only [List.length_singleton]; omega) ?_; intro A6 n6 c6 w6 HO6))
      go_wp2
      go_ret
      rw [HS.out, HSP.out]
      exact HO6.ret
    · have HL := cutL_len 32 cur hq
      have HSP := Sec.mk (splitL_hit 32 cur hq)
      have HCT : Sec (cutL 32 cur = ((cutL 32 cur).1, (cutL 32 cur).2.1, true)) := ⟨by rw [← hq]⟩
      rw [HCT.out] at HC
      simp only [Cut3] at HC
      generalize (cutL 32 cur).1 = x at *
      generalize (cutL 32 cur).2.1 = y at *
      clear hq HCT
      go_wp2_with fail
      refine (HC.out _).mono ?_
      rintro e w2 ⟨rfl, hm2⟩
      have HO2 := Sec.mk (HO.out.step hm2)
      clear hm2
      go_wp2_with (at_builtin; go_loud (refine wpList_app _ rfl (.tmp 16) (.tmp 18) _ rfl Try.underlying77 elt_str flat_string rfl rfl (HO2.out.alloc _) (row_str _ _ _) (show done.length + [(⟨x.toArray⟩ : ByteArray)].length ≤ 34359738368 by simp only [List.length_singleton]; omega) ?_; intro A6 n6 c6 w6 HO6))
      have HO6' := Sec.mk HO6
      clear HO6
      go_wp2
      go_roundw
      case rel => exact ⟨done ++ [toS x], y, A6, n6, c6, ⟨by rw [HS.out, HSP.out]; simp⟩, by omega, rfl, rfl, HO6'⟩
      case measure => simp [ByteArray.size]; omega
/-- the cell of a row of texts -/
theorem str_cell {w w' : World} {B : Nat → Prop} {A : Option Addr} {n : Nat} {ss : List Bytes} (h : Row Ty.string w B A n (ss.map toS)) (hb : ∀ k, B k → w'.heap[k]? = w.heap[k]?) {k : Nat} (hk : k < ss.length) :
    ∃ ad, A = some ad ∧ w'.cell? (ad.add k) = some (.string ⟨ss[k].toArray⟩) := by
  obtain ⟨ad, c, hlt, rfl, hbl, hK, hc⟩ := h.at_ (k := k) (by rw [← h.1, List.length_map]; exact hk)
  have hK' : c = [.string (toS ss[k])] := by rw [hK]; simp
  subst hK'
  have h1 := hc 0 _ rfl
  rw [show k * Ty.string.sz + 0 = k from by show k * 1 + 0 = k; omega] at h1
  exact ⟨ad, rfl, (World.cell?_of_block (by rw [add_block]; exact hb _ hbl)).trans h1⟩
set_option maxHeartbeats 4000000 in
set_option maxRecDepth 100000 in
theorem popSpec_calls {A : Option Addr} {c : Nat} {xs : Bytes} {B : Nat → Prop} {w : World} (h : Row Ty.byte w B A xs.length xs) (hB : ∀ k, B k → k < w.heap.size) : Calls Try.prog 31 #[.slice A xs.length c] w (RetV true dCmd w (SpecPopL xs)) := by
  have hmx := h.2.1
  have HR := Sec.mk h
  have HB := Sec.mk hB
  have HR0 := Sec.mk (Blk.new w 48 [.int .i64 0, .string ⟨#[]⟩, .int .u32 0, .bool false, .slice none 0 0, .int .i64 0, .int .i64 0, .int .u32 0, .slice none 0 0])
  have HM0 := Sec.mk ((Mod.refl (fun _ => False) w).alloc (.cells #[.int .i64 0, .string ⟨#[]⟩, .int .u32 0, .bool false, .slice none 0 0, .int .i64 0, .int .i64 0, .int .u32 0, .slice none 0 0] 48))
  clear h hB
  by_cases hbig : 40 < xs.length
  · have HE : Sec (SpecPopL xs = popC 0 0) := ⟨if_pos hbig⟩
    go_enter Try.func31, Try.ntmps31
    go_wp2
    refine bodyPost_ret (results_blk rfl rfl HR0.out Try.underlying48 (by kernel_rfl)) rfl ?_
    rw [HE.out]
    exact retPop (by decide) (by decide) HM0.out
  have HS : Sec (SpecPopL xs = match splitL 32 xs with | [] => popC 0 0 | [a] => tailS (loL a) 0 | [a, b] => if numOk b then tailS (loL a) (numL b).1 else popC 0 0 | _ :: _ :: _ :: _ => popC 0 0) := ⟨if_neg hbig⟩
  have hne := splitL_ne 32 xs
  have hmem := splitL_mem 32 xs
  have hlen : xs.length ≤ 40 := by omega
  clear hbig
  go_enter Try.func31, Try.ntmps31
  go_wp2_with fail
  refine (l5Words_calls (HR.out.mod (fun _ h => h) (fun k hk => HM0.out.block k (HB.out k hk) id)) (by omega)).mono ?_
  intro e w1 hret
  obtain ⟨A1, c1, rfl, hmine⟩ := hret.mine
  have HM1 := Sec.mk (HM0.out.transN hmine.new)
  have HR1 := Sec.mk (HR0.out.mod hmine.new id)
  have HW := Sec.mk (hmine.row)
  clear hret hmine HM0 HR0
  rw [List.length_map] at *
  generalize splitL 32 xs = ws at *
  match ws with
  | [] => exact absurd rfl hne
  | [a] =>
    have HS2 : Sec (SpecPopL xs = tailS (loL a) 0) := HS
    obtain ⟨ad, rfl, ha⟩ := str_cell HW.out (w' := w1) (fun _ _ => rfl) (k := 0) (by simp)
    rw [show ad.add 0 = ad from by simp [Addr.add]] at ha
    simp only [List.getElem_cons_zero] at ha
    have hal : a.length ≤ 34359738368 := by have := hmem a List.mem_cons_self; omega
    have hl1 : ([a] : List Bytes).length = 1 := rfl
    clear HS hmem hne
    rw [hl1] at *
    have HLO := Sec.mk (lower_calls a hal)
    go_wp2_with fail
    refine (HLO.out _).mono ?_
    rintro e w2 ⟨rfl, hm2⟩
    have HR2 := Sec.mk (HR1.out.mod hm2 id)
    have HM2 := Sec.mk (HM1.out.transN hm2)
    clear hm2 HLO
    generalize loL a = lw at *
    by_cases e0 : lw = [110, 111, 111, 112]
    · subst e0
      have HE : Sec (tailS [110, 111, 111, 112] 0 = popC 1 0) := ⟨by unfold tailS; simp⟩
      have hc0 : w2.cell? ⟨w.heap.size, 0, none⟩ = some (.int .i64 0) := HR2.out.cell 0
      have hf0 : w2.frozen? ⟨w.heap.size, 0, none⟩ = false := HR2.out.frozen 0
      have hc1 : w2.cell? ⟨w.heap.size, 1, none⟩ = some (.string ⟨#[]⟩) := HR2.out.cell 1
      have hf1 : w2.frozen? ⟨w.heap.size, 1, none⟩ = false := HR2.out.frozen 1
      have hc2 : w2.cell? ⟨w.heap.size, 2, none⟩ = some (.int .u32 0) := HR2.out.cell 2
      have hf2 : w2.frozen? ⟨w.heap.size, 2, none⟩ = false := HR2.out.frozen 2
      have hc3 : w2.cell? ⟨w.heap.size, 3, none⟩ = some (.bool false) := HR2.out.cell 3
      have hf3 : w2.frozen? ⟨w.heap.size, 3, none⟩ = false := HR2.out.frozen 3
      have hc4 : w2.cell? ⟨w.heap.size, 4, none⟩ = some (.slice none 0 0) := HR2.out.cell 4
      have hf4 : w2.frozen? ⟨w.heap.size, 4, none⟩ = false := HR2.out.frozen 4
      have hc5 : w2.cell? ⟨w.heap.size, 5, none⟩ = some (.int .i64 0) := HR2.out.cell 5
      have hf5 : w2.frozen? ⟨w.heap.size, 5, none⟩ = false := HR2.out.frozen 5
      have hc6 : w2.cell? ⟨w.heap.size, 6, none⟩ = some (.int .i64 0) := HR2.out.cell 6
      have hf6 : w2.frozen? ⟨w.heap.size, 6, none⟩ = false := HR2.out.frozen 6
      have hc7 : w2.cell? ⟨w.heap.size, 7, none⟩ = some (.int .u32 0) := HR2.out.cell 7
      have hf7 : w2.frozen? ⟨w.heap.size, 7, none⟩ = false := HR2.out.frozen 7
      have hc8 : w2.cell? ⟨w.heap.size, 8, none⟩ = some (.slice none 0 0) := HR2.out.cell 8
      have hf8 : w2.frozen? ⟨w.heap.size, 8, none⟩ = false := HR2.out.frozen 8
      go_wp2
      refine bodyPost_ret (results_blk rfl rfl (((((((((HR2.out.set_ 0 _).set_ 1 _).set_ 2 _).set_ 3 _).set_ 4 _).set_ 5 _).set_ 6 _).set_ 7 _).set_ 8 _) Try.underlying48 (by kernel_rfl)) rfl ?_
      rw [HS2.out, HE.out]
      exact retPop (k := 1) (n := 0) (by first | decide | assumption) (by first | decide | assumption) (((((((((HM2.out.setCell (fun h => absurd h (by simp)) _).setCell (fun h => absurd h (by simp)) _).setCell (fun h => absurd h (by simp)) _).setCell (fun h => absurd h (by simp)) _).setCell (fun h => absurd h (by simp)) _).setCell (fun h => absurd h (by simp)) _).setCell (fun h => absurd h (by simp)) _).setCell (fun h => absurd h (by simp)) _).setCell (fun h => absurd h (by simp)) _)
    have x0 : (lw == [110, 111, 111, 112]) = false := by simpa using e0
    by_cases e1 : lw = [113, 117, 105, 116]
    · subst e1
      have HE : Sec (tailS [113, 117, 105, 116] 0 = popC 2 0) := ⟨by unfold tailS; simp⟩
      clear x0
      have hc0 : w2.cell? ⟨w.heap.size, 0, none⟩ = some (.int .i64 0) := HR2.out.cell 0
      have hf0 : w2.frozen? ⟨w.heap.size, 0, none⟩ = false := HR2.out.frozen 0
      have hc1 : w2.cell? ⟨w.heap.size, 1, none⟩ = some (.string ⟨#[]⟩) := HR2.out.cell 1
      have hf1 : w2.frozen? ⟨w.heap.size, 1, none⟩ = false := HR2.out.frozen 1
      have hc2 : w2.cell? ⟨w.heap.size, 2, none⟩ = some (.int .u32 0) := HR2.out.cell 2
      have hf2 : w2.frozen? ⟨w.heap.size, 2, none⟩ = false := HR2.out.frozen 2
      have hc3 : w2.cell? ⟨w.heap.size, 3, none⟩ = some (.bool false) := HR2.out.cell 3
      have hf3 : w2.frozen? ⟨w.heap.size, 3, none⟩ = false := HR2.out.frozen 3
      have hc4 : w2.cell? ⟨w.heap.size, 4, none⟩ = some (.slice none 0 0) := HR2.out.cell 4
      have hf4 : w2.frozen? ⟨w.heap.size, 4, none⟩ = false := HR2.out.frozen 4
      have hc5 : w2.cell? ⟨w.heap.size, 5, none⟩ = some (.int .i64 0) := HR2.out.cell 5
      have hf5 : w2.frozen? ⟨w.heap.size, 5, none⟩ = false := HR2.out.frozen 5
      have hc6 : w2.cell? ⟨w.heap.size, 6, none⟩ = some (.int .i64 0) := HR2.out.cell 6
      have hf6 : w2.frozen? ⟨w.heap.size, 6, none⟩ = false := HR2.out.frozen 6
      have hc7 : w2.cell? ⟨w.heap.size, 7, none⟩ = some (.int .u32 0) := HR2.out.cell 7
      have hf7 : w2.frozen? ⟨w.heap.size, 7, none⟩ = false := HR2.out.frozen 7
      have hc8 : w2.cell? ⟨w.heap.size, 8, none⟩ = some (.slice none 0 0) := HR2.out.cell 8
      have hf8 : w2.frozen? ⟨w.heap.size, 8, none⟩ = false := HR2.out.frozen 8
      go_wp2
      refine bodyPost_ret (results_blk rfl rfl (((((((((HR2.out.set_ 0 _).set_ 1 _).set_ 2 _).set_ 3 _).set_ 4 _).set_ 5 _).set_ 6 _).set_ 7 _).set_ 8 _) Try.underlying48 (by kernel_rfl)) rfl ?_
      rw [HS2.out, HE.out]
      exact retPop (k := 2) (n := 0) (by first | decide | assumption) (by first | decide | assumption) (((((((((HM2.out.setCell (fun h => absurd h (by simp)) _).setCell (fun h => absurd h (by simp)) _).setCell (fun h => absurd h (by simp)) _).setCell (fun h => absurd h (by simp)) _).setCell (fun h => absurd h (by simp)) _).setCell (fun h => absurd h (by simp)) _).setCell (fun h => absurd h (by simp)) _).setCell (fun h => absurd h (by simp)) _).setCell (fun h => absurd h (by simp)) _)
    have x1 : (lw == [113, 117, 105, 116]) = false := by simpa using e1
    by_cases e2 : lw = [115, 116, 97, 116]
    · subst e2
      have HE : Sec (tailS [115, 116, 97, 116] 0 = popC 3 0) := ⟨by unfold tailS; simp⟩
      clear x0
      clear x1
      have hc0 : w2.cell? ⟨w.heap.size, 0, none⟩ = some (.int .i64 0) := HR2.out.cell 0
      have hf0 : w2.frozen? ⟨w.heap.size, 0, none⟩ = false := HR2.out.frozen 0
      have hc1 : w2.cell? ⟨w.heap.size, 1, none⟩ = some (.string ⟨#[]⟩) := HR2.out.cell 1
      have hf1 : w2.frozen? ⟨w.heap.size, 1, none⟩ = false := HR2.out.frozen 1
      have hc2 : w2.cell? ⟨w.heap.size, 2, none⟩ = some (.int .u32 0) := HR2.out.cell 2
      have hf2 : w2.frozen? ⟨w.heap.size, 2, none⟩ = false := HR2.out.frozen 2
      have hc3 : w2.cell? ⟨w.heap.size, 3, none⟩ = some (.bool false) := HR2.out.cell 3
      have hf3 : w2.frozen? ⟨w.heap.size, 3, none⟩ = false := HR2.out.frozen 3
      have hc4 : w2.cell? ⟨w.heap.size, 4, none⟩ = some (.slice none 0 0) := HR2.out.cell 4
      have hf4 : w2.frozen? ⟨w.heap.size, 4, none⟩ = false := HR2.out.frozen 4
      have hc5 : w2.cell? ⟨w.heap.size, 5, none⟩ = some (.int .i64 0) := HR2.out.cell 5
      have hf5 : w2.frozen? ⟨w.heap.size, 5, none⟩ = false := HR2.out.frozen 5
      have hc6 : w2.cell? ⟨w.heap.size, 6, none⟩ = some (.int .i64 0) := HR2.out.cell 6
      have hf6 : w2.frozen? ⟨w.heap.size, 6, none⟩ = false := HR2.out.frozen 6
      have hc7 : w2.cell? ⟨w.heap.size, 7, none⟩ = some (.int .u32 0) := HR2.out.cell 7
      have hf7 : w2.frozen? ⟨w.heap.size, 7, none⟩ = false := HR2.out.frozen 7
      have hc8 : w2.cell? ⟨w.heap.size, 8, none⟩ = some (.slice none 0 0) := HR2.out.cell 8
      have hf8 : w2.frozen? ⟨w.heap.size, 8, none⟩ = false := HR2.out.frozen 8
      go_wp2
      refine bodyPost_ret (results_blk rfl rfl (((((((((HR2.out.set_ 0 _).set_ 1 _).set_ 2 _).set_ 3 _).set_ 4 _).set_ 5 _).set_ 6 _).set_ 7 _).set_ 8 _) Try.underlying48 (by kernel_rfl)) rfl ?_
      rw [HS2.out, HE.out]
      exact retPop (k := 3) (n := 0) (by first | decide | assumption) (by first | decide | assumption) (((((((((HM2.out.setCell (fun h => absurd h (by simp)) _).setCell (fun h => absurd h (by simp)) _).setCell (fun h => absurd h (by simp)) _).setCell (fun h => absurd h (by simp)) _).setCell (fun h => absurd h (by simp)) _).setCell (fun h => absurd h (by simp)) _).setCell (fun h => absurd h (by simp)) _).setCell (fun h => absurd h (by simp)) _).setCell (fun h => absurd h (by simp)) _)
    have x2 : (lw == [115, 116, 97, 116]) = false := by simpa using e2
    by_cases e3 : lw = [114, 115, 101, 116]
    · subst e3
      have HE : Sec (tailS [114, 115, 101, 116] 0 = popC 8 0) := ⟨by unfold tailS; simp⟩
      clear x0
      clear x1
      clear x2
      have hc0 : w2.cell? ⟨w.heap.size, 0, none⟩ = some (.int .i64 0) := HR2.out.cell 0
      have hf0 : w2.frozen? ⟨w.heap.size, 0, none⟩ = false := HR2.out.frozen 0
      have hc1 : w2.cell? ⟨w.heap.size, 1, none⟩ = some (.string ⟨#[]⟩) := HR2.out.cell 1
      have hf1 : w2.frozen? ⟨w.heap.size, 1, none⟩ = false := HR2.out.frozen 1
      have hc2 : w2.cell? ⟨w.heap.size, 2, none⟩ = some (.int .u32 0) := HR2.out.cell 2
      have hf2 : w2.frozen? ⟨w.heap.size, 2, none⟩ = false := HR2.out.frozen 2
      have hc3 : w2.cell? ⟨w.heap.size, 3, none⟩ = some (.bool false) := HR2.out.cell 3
      have hf3 : w2.frozen? ⟨w.heap.size, 3, none⟩ = false := HR2.out.frozen 3
      have hc4 : w2.cell? ⟨w.heap.size, 4, none⟩ = some (.slice none 0 0) := HR2.out.cell 4
      have hf4 : w2.frozen? ⟨w.heap.size, 4, none⟩ = false := HR2.out.frozen 4
      have hc5 : w2.cell? ⟨w.heap.size, 5, none⟩ = some (.int .i64 0) := HR2.out.cell 5
      have hf5 : w2.frozen? ⟨w.heap.size, 5, none⟩ = false := HR2.out.frozen 5
      have hc6 : w2.cell? ⟨w.heap.size, 6, none⟩ = some (.int .i64 0) := HR2.out.cell 6
      have hf6 : w2.frozen? ⟨w.heap.size, 6, none⟩ = false := HR2.out.frozen 6
      have hc7 : w2.cell? ⟨w.heap.size, 7, none⟩ = some (.int .u32 0) := HR2.out.cell 7
      have hf7 : w2.frozen? ⟨w.heap.size, 7, none⟩ = false := HR2.out.frozen 7
      have hc8 : w2.cell? ⟨w.heap.size, 8, none⟩ = some (.slice none 0 0) := HR2.out.cell 8
      have hf8 : w2.frozen? ⟨w.heap.size, 8, none⟩ = false := HR2.out.frozen 8
      go_wp2
      refine bodyPost_ret (results_blk rfl rfl (((((((((HR2.out.set_ 0 _).set_ 1 _).set_ 2 _).set_ 3 _).set_ 4 _).set_ 5 _).set_ 6 _).set_ 7 _).set_ 8 _) Try.underlying48 (by kernel_rfl)) rfl ?_
      rw [HS2.out, HE.out]
      exact retPop (k := 8) (n := 0) (by first | decide | assumption) (by first | decide | assumption) (((((((((HM2.out.setCell (fun h => absurd h (by simp)) _).setCell (fun h => absurd h (by simp)) _).setCell (fun h => absurd h (by simp)) _).setCell (fun h => absurd h (by simp)) _).setCell (fun h => absurd h (by simp)) _).setCell (fun h => absurd h (by simp)) _).setCell (fun h => absurd h (by simp)) _).setCell (fun h => absurd h (by simp)) _).setCell (fun h => absurd h (by simp)) _)
    have x3 : (lw == [114, 115, 101, 116]) = false := by simpa using e3
    by_cases e4 : lw = [108, 105, 115, 116]
    · subst e4
      have HE : Sec (tailS [108, 105, 115, 116] 0 = popC 4 0) := ⟨by unfold tailS; simp⟩
      clear x0
      clear x1
      clear x2
      clear x3
      have hc0 : w2.cell? ⟨w.heap.size, 0, none⟩ = some (.int .i64 0) := HR2.out.cell 0
      have hf0 : w2.frozen? ⟨w.heap.size, 0, none⟩ = false := HR2.out.frozen 0
      have hc1 : w2.cell? ⟨w.heap.size, 1, none⟩ = some (.string ⟨#[]⟩) := HR2.out.cell 1
      have hf1 : w2.frozen? ⟨w.heap.size, 1, none⟩ = false := HR2.out.frozen 1
      have hc2 : w2.cell? ⟨w.heap.size, 2, none⟩ = some (.int .u32 0) := HR2.out.cell 2
      have hf2 : w2.frozen? ⟨w.heap.size, 2, none⟩ = false := HR2.out.frozen 2
      have hc3 : w2.cell? ⟨w.heap.size, 3, none⟩ = some (.bool false) := HR2.out.cell 3
      have hf3 : w2.frozen? ⟨w.heap.size, 3, none⟩ = false := HR2.out.frozen 3
      have hc4 : w2.cell? ⟨w.heap.size, 4, none⟩ = some (.slice none 0 0) := HR2.out.cell 4
      have hf4 : w2.frozen? ⟨w.heap.size, 4, none⟩ = false := HR2.out.frozen 4
      have hc5 : w2.cell? ⟨w.heap.size, 5, none⟩ = some (.int .i64 0) := HR2.out.cell 5
      have hf5 : w2.frozen? ⟨w.heap.size, 5, none⟩ = false := HR2.out.frozen 5
      have hc6 : w2.cell? ⟨w.heap.size, 6, none⟩ = some (.int .i64 0) := HR2.out.cell 6
      have hf6 : w2.frozen? ⟨w.heap.size, 6, none⟩ = false := HR2.out.frozen 6
      have hc7 : w2.cell? ⟨w.heap.size, 7, none⟩ = some (.int .u32 0) := HR2.out.cell 7
      have hf7 : w2.frozen? ⟨w.heap.size, 7, none⟩ = false := HR2.out.frozen 7
      have hc8 : w2.cell? ⟨w.heap.size, 8, none⟩ = some (.slice none 0 0) := HR2.out.cell 8
      have hf8 : w2.frozen? ⟨w.heap.size, 8, none⟩ = false := HR2.out.frozen 8
      go_wp2
      refine bodyPost_ret (results_blk rfl rfl (((((((((HR2.out.set_ 0 _).set_ 1 _).set_ 2 _).set_ 3 _).set_ 4 _).set_ 5 _).set_ 6 _).set_ 7 _).set_ 8 _) Try.underlying48 (by kernel_rfl)) rfl ?_
      rw [HS2.out, HE.out]
      exact retPop (k := 4) (n := 0) (by first | decide | assumption) (by first | decide | assumption) (((((((((HM2.out.setCell (fun h => absurd h (by simp)) _).setCell (fun h => absurd h (by simp)) _).setCell (fun h => absurd h (by simp)) _).setCell (fun h => absurd h (by simp)) _).setCell (fun h => absurd h (by simp)) _).setCell (fun h => absurd h (by simp)) _).setCell (fun h => absurd h (by simp)) _).setCell (fun h => absurd h (by simp)) _).setCell (fun h => absurd h (by simp)) _)
    have x4 : (lw == [108, 105, 115, 116]) = false := by simpa using e4
    by_cases e5 : lw = [117, 105, 100, 108]
    · subst e5
      have HE : Sec (tailS [117, 105, 100, 108] 0 = popC 5 0) := ⟨by unfold tailS; simp⟩
      clear x0
      clear x1
      clear x2
      clear x3
      clear x4
      have hc0 : w2.cell? ⟨w.heap.size, 0, none⟩ = some (.int .i64 0) := HR2.out.cell 0
      have hf0 : w2.frozen? ⟨w.heap.size, 0, none⟩ = false := HR2.out.frozen 0
      have hc1 : w2.cell? ⟨w.heap.size, 1, none⟩ = some (.string ⟨#[]⟩) := HR2.out.cell 1
      have hf1 : w2.frozen? ⟨w.heap.size, 1, none⟩ = false := HR2.out.frozen 1
      have hc2 : w2.cell? ⟨w.heap.size, 2, none⟩ = some (.int .u32 0) := HR2.out.cell 2
      have hf2 : w2.frozen? ⟨w.heap.size, 2, none⟩ = false := HR2.out.frozen 2
      have hc3 : w2.cell? ⟨w.heap.size, 3, none⟩ = some (.bool false) := HR2.out.cell 3
      have hf3 : w2.frozen? ⟨w.heap.size, 3, none⟩ = false := HR2.out.frozen 3
      have hc4 : w2.cell? ⟨w.heap.size, 4, none⟩ = some (.slice none 0 0) := HR2.out.cell 4
      have hf4 : w2.frozen? ⟨w.heap.size, 4, none⟩ = false := HR2.out.frozen 4
      have hc5 : w2.cell? ⟨w.heap.size, 5, none⟩ = some (.int .i64 0) := HR2.out.cell 5
      have hf5 : w2.frozen? ⟨w.heap.size, 5, none⟩ = false := HR2.out.frozen 5
      have hc6 : w2.cell? ⟨w.heap.size, 6, none⟩ = some (.int .i64 0) := HR2.out.cell 6
      have hf6 : w2.frozen? ⟨w.heap.size, 6, none⟩ = false := HR2.out.frozen 6
      have hc7 : w2.cell? ⟨w.heap.size, 7, none⟩ = some (.int .u32 0) := HR2.out.cell 7
      have hf7 : w2.frozen? ⟨w.heap.size, 7, none⟩ = false := HR2.out.frozen 7
      have hc8 : w2.cell? ⟨w.heap.size, 8, none⟩ = some (.slice none 0 0) := HR2.out.cell 8
      have hf8 : w2.frozen? ⟨w.heap.size, 8, none⟩ = false := HR2.out.frozen 8
      go_wp2
      refine bodyPost_ret (results_blk rfl rfl (((((((((HR2.out.set_ 0 _).set_ 1 _).set_ 2 _).set_ 3 _).set_ 4 _).set_ 5 _).set_ 6 _).set_ 7 _).set_ 8 _) Try.underlying48 (by kernel_rfl)) rfl ?_
      rw [HS2.out, HE.out]
      exact retPop (k := 5) (n := 0) (by first | decide | assumption) (by first | decide | assumption) (((((((((HM2.out.setCell (fun h => absurd h (by simp)) _).setCell (fun h => absurd h (by simp)) _).setCell (fun h => absurd h (by simp)) _).setCell (fun h => absurd h (by simp)) _).setCell (fun h => absurd h (by simp)) _).setCell (fun h => absurd h (by simp)) _).setCell (fun h => absurd h (by simp)) _).setCell (fun h => absurd h (by simp)) _).setCell (fun h => absurd h (by simp)) _)
    have x5 : (lw == [117, 105, 100, 108]) = false := by simpa using e5
    by_cases e6 : lw = [114, 101, 116, 114]
    · subst e6
      have HE : Sec (tailS [114, 101, 116, 114] 0 = popC 0 0) := ⟨by unfold tailS; simp⟩
      clear x0
      clear x1
      clear x2
      clear x3
      clear x4
      clear x5
      have hc0 : w2.cell? ⟨w.heap.size, 0, none⟩ = some (.int .i64 0) := HR2.out.cell 0
      have hf0 : w2.frozen? ⟨w.heap.size, 0, none⟩ = false := HR2.out.frozen 0
      have hc1 : w2.cell? ⟨w.heap.size, 1, none⟩ = some (.string ⟨#[]⟩) := HR2.out.cell 1
      have hf1 : w2.frozen? ⟨w.heap.size, 1, none⟩ = false := HR2.out.frozen 1
      have hc2 : w2.cell? ⟨w.heap.size, 2, none⟩ = some (.int .u32 0) := HR2.out.cell 2
      have hf2 : w2.frozen? ⟨w.heap.size, 2, none⟩ = false := HR2.out.frozen 2
      have hc3 : w2.cell? ⟨w.heap.size, 3, none⟩ = some (.bool false) := HR2.out.cell 3
      have hf3 : w2.frozen? ⟨w.heap.size, 3, none⟩ = false := HR2.out.frozen 3
      have hc4 : w2.cell? ⟨w.heap.size, 4, none⟩ = some (.slice none 0 0) := HR2.out.cell 4
      have hf4 : w2.frozen? ⟨w.heap.size, 4, none⟩ = false := HR2.out.frozen 4
      have hc5 : w2.cell? ⟨w.heap.size, 5, none⟩ = some (.int .i64 0) := HR2.out.cell 5
      have hf5 : w2.frozen? ⟨w.heap.size, 5, none⟩ = false := HR2.out.frozen 5
      have hc6 : w2.cell? ⟨w.heap.size, 6, none⟩ = some (.int .i64 0) := HR2.out.cell 6
      have hf6 : w2.frozen? ⟨w.heap.size, 6, none⟩ = false := HR2.out.frozen 6
      have hc7 : w2.cell? ⟨w.heap.size, 7, none⟩ = some (.int .u32 0) := HR2.out.cell 7
      have hf7 : w2.frozen? ⟨w.heap.size, 7, none⟩ = false := HR2.out.frozen 7
      have hc8 : w2.cell? ⟨w.heap.size, 8, none⟩ = some (.slice none 0 0) := HR2.out.cell 8
      have hf8 : w2.frozen? ⟨w.heap.size, 8, none⟩ = false := HR2.out.frozen 8
      go_wp2
      refine bodyPost_ret (results_blk rfl rfl (((((((((HR2.out.set_ 0 _).set_ 1 _).set_ 2 _).set_ 3 _).set_ 4 _).set_ 5 _).set_ 6 _).set_ 7 _).set_ 8 _) Try.underlying48 (by kernel_rfl)) rfl ?_
      rw [HS2.out, HE.out]
      exact retPop (k := 0) (n := 0) (by first | decide | assumption) (by first | decide | assumption) (((((((((HM2.out.setCell (fun h => absurd h (by simp)) _).setCell (fun h => absurd h (by simp)) _).setCell (fun h => absurd h (by simp)) _).setCell (fun h => absurd h (by simp)) _).setCell (fun h => absurd h (by simp)) _).setCell (fun h => absurd h (by simp)) _).setCell (fun h => absurd h (by simp)) _).setCell (fun h => absurd h (by simp)) _).setCell (fun h => absurd h (by simp)) _)
    have x6 : (lw == [114, 101, 116, 114]) = false := by simpa using e6
    by_cases e7 : lw = [100, 101, 108, 101]
    · subst e7
      have HE : Sec (tailS [100, 101, 108, 101] 0 = popC 0 0) := ⟨by unfold tailS; simp⟩
      clear x0
      clear x1
      clear x2
      clear x3
      clear x4
      clear x5
      clear x6
      have hc0 : w2.cell? ⟨w.heap.size, 0, none⟩ = some (.int .i64 0) := HR2.out.cell 0
      have hf0 : w2.frozen? ⟨w.heap.size, 0, none⟩ = false := HR2.out.frozen 0
      have hc1 : w2.cell? ⟨w.heap.size, 1, none⟩ = some (.string ⟨#[]⟩) := HR2.out.cell 1
      have hf1 : w2.frozen? ⟨w.heap.size, 1, none⟩ = false := HR2.out.frozen 1
      have hc2 : w2.cell? ⟨w.heap.size, 2, none⟩ = some (.int .u32 0) := HR2.out.cell 2
      have hf2 : w2.frozen? ⟨w.heap.size, 2, none⟩ = false := HR2.out.frozen 2
      have hc3 : w2.cell? ⟨w.heap.size, 3, none⟩ = some (.bool false) := HR2.out.cell 3
      have hf3 : w2.frozen? ⟨w.heap.size, 3, none⟩ = false := HR2.out.frozen 3
      have hc4 : w2.cell? ⟨w.heap.size, 4, none⟩ = some (.slice none 0 0) := HR2.out.cell 4
      have hf4 : w2.frozen? ⟨w.heap.size, 4, none⟩ = false := HR2.out.frozen 4
      have hc5 : w2.cell? ⟨w.heap.size, 5, none⟩ = some (.int .i64 0) := HR2.out.cell 5
      have hf5 : w2.frozen? ⟨w.heap.size, 5, none⟩ = false := HR2.out.frozen 5
      have hc6 : w2.cell? ⟨w.heap.size, 6, none⟩ = some (.int .i64 0) := HR2.out.cell 6
      have hf6 : w2.frozen? ⟨w.heap.size, 6, none⟩ = false := HR2.out.frozen 6
      have hc7 : w2.cell? ⟨w.heap.size, 7, none⟩ = some (.int .u32 0) := HR2.out.cell 7
      have hf7 : w2.frozen? ⟨w.heap.size, 7, none⟩ = false := HR2.out.frozen 7
      have hc8 : w2.cell? ⟨w.heap.size, 8, none⟩ = some (.slice none 0 0) := HR2.out.cell 8
      have hf8 : w2.frozen? ⟨w.heap.size, 8, none⟩ = false := HR2.out.frozen 8
      go_wp2
      refine bodyPost_ret (results_blk rfl rfl (((((((((HR2.out.set_ 0 _).set_ 1 _).set_ 2 _).set_ 3 _).set_ 4 _).set_ 5 _).set_ 6 _).set_ 7 _).set_ 8 _) Try.underlying48 (by kernel_rfl)) rfl ?_
      rw [HS2.out, HE.out]
      exact retPop (k := 0) (n := 0) (by first | decide | assumption) (by first | decide | assumption) (((((((((HM2.out.setCell (fun h => absurd h (by simp)) _).setCell (fun h => absurd h (by simp)) _).setCell (fun h => absurd h (by simp)) _).setCell (fun h => absurd h (by simp)) _).setCell (fun h => absurd h (by simp)) _).setCell (fun h => absurd h (by simp)) _).setCell (fun h => absurd h (by simp)) _).setCell (fun h => absurd h (by simp)) _).setCell (fun h => absurd h (by simp)) _)
    have x7 : (lw == [100, 101, 108, 101]) = false := by simpa using e7
    have HE : Sec (tailS lw 0 = popC 0 0) := ⟨by unfold tailS; simp [e0, e1, e2, e3, e4, e5, e6, e7]⟩
    clear e0 e1 e2 e3 e4 e5 e6 e7
    have hc0 : w2.cell? ⟨w.heap.size, 0, none⟩ = some (.int .i64 0) := HR2.out.cell 0
    have hf0 : w2.frozen? ⟨w.heap.size, 0, none⟩ = false := HR2.out.frozen 0
    have hc1 : w2.cell? ⟨w.heap.size, 1, none⟩ = some (.string ⟨#[]⟩) := HR2.out.cell 1
    have hf1 : w2.frozen? ⟨w.heap.size, 1, none⟩ = false := HR2.out.frozen 1
    have hc2 : w2.cell? ⟨w.heap.size, 2, none⟩ = some (.int .u32 0) := HR2.out.cell 2
    have hf2 : w2.frozen? ⟨w.heap.size, 2, none⟩ = false := HR2.out.frozen 2
    have hc3 : w2.cell? ⟨w.heap.size, 3, none⟩ = some (.bool false) := HR2.out.cell 3
    have hf3 : w2.frozen? ⟨w.heap.size, 3, none⟩ = false := HR2.out.frozen 3
    have hc4 : w2.cell? ⟨w.heap.size, 4, none⟩ = some (.slice none 0 0) := HR2.out.cell 4
    have hf4 : w2.frozen? ⟨w.heap.size, 4, none⟩ = false := HR2.out.frozen 4
    have hc5 : w2.cell? ⟨w.heap.size, 5, none⟩ = some (.int .i64 0) := HR2.out.cell 5
    have hf5 : w2.frozen? ⟨w.heap.size, 5, none⟩ = false := HR2.out.frozen 5
    have hc6 : w2.cell? ⟨w.heap.size, 6, none⟩ = some (.int .i64 0) := HR2.out.cell 6
    have hf6 : w2.frozen? ⟨w.heap.size, 6, none⟩ = false := HR2.out.frozen 6
    have hc7 : w2.cell? ⟨w.heap.size, 7, none⟩ = some (.int .u32 0) := HR2.out.cell 7
    have hf7 : w2.frozen? ⟨w.heap.size, 7, none⟩ = false := HR2.out.frozen 7
    have hc8 : w2.cell? ⟨w.heap.size, 8, none⟩ = some (.slice none 0 0) := HR2.out.cell 8
    have hf8 : w2.frozen? ⟨w.heap.size, 8, none⟩ = false := HR2.out.frozen 8
    go_wp2
    refine bodyPost_ret (results_blk rfl rfl (((((((((HR2.out.set_ 0 _).set_ 1 _).set_ 2 _).set_ 3 _).set_ 4 _).set_ 5 _).set_ 6 _).set_ 7 _).set_ 8 _) Try.underlying48 (by kernel_rfl)) rfl ?_
    rw [HS2.out, HE.out]
    exact retPop (k := 0) (n := 0) (by first | decide | assumption) (by first | decide | assumption) (((((((((HM2.out.setCell (fun h => absurd h (by simp)) _).setCell (fun h => absurd h (by simp)) _).setCell (fun h => absurd h (by simp)) _).setCell (fun h => absurd h (by simp)) _).setCell (fun h => absurd h (by simp)) _).setCell (fun h => absurd h (by simp)) _).setCell (fun h => absurd h (by simp)) _).setCell (fun h => absurd h (by simp)) _).setCell (fun h => absurd h (by simp)) _)
  | [a, b] =>
    have HS2 : Sec (SpecPopL xs = if numOk b then tailS (loL a) (numL b).1 else popC 0 0) := HS
    obtain ⟨ad, rfl, ha⟩ := str_cell HW.out (w' := w1) (fun _ _ => rfl) (k := 0) (by simp)
    obtain ⟨ad', had, hb⟩ := str_cell HW.out (w' := w1) (fun _ _ => rfl) (k := 1) (by simp)
    obtain rfl := Option.some.inj had
    rw [show ad.add 0 = ad from by simp [Addr.add]] at ha
    rw [show ad.add 1 = ⟨ad.block, ad.off + 1, none⟩ from by unfold Addr.add; rw [if_neg (by decide)]] at hb
    simp only [List.getElem_cons_zero, List.getElem_cons_succ] at ha hb
    have hal : a.length ≤ 34359738368 := by have := hmem a List.mem_cons_self; omega
    have hbl : b.length ≤ 34359738368 := by have := hmem b (by simp); omega
    have hl1 : ([a, b] : List Bytes).length = 2 := rfl
    have hadb : ad.block < w1.heap.size := by have := World.block_lt_of_cell? _ _ ha; exact this
    clear HS hmem hne had
    rw [hl1] at *
    have HLO := Sec.mk (lower_calls a hal)
    go_wp2_with fail
    refine (l5Num_calls b hbl 1 4294967295 _).mono ?_
    have HNO : Sec (numOk b = ((numL b).2 && (decide (1 ≤ ((numL b).1 : Int)) && decide (((numL b).1 : Int) ≤ 4294967295)))) := ⟨rfl⟩
    rw [← HNO.out]
    rintro e w2 ⟨rfl, hm2⟩
    have HR2 := Sec.mk (HR1.out.mod hm2 id)
    have HM2 := Sec.mk (HM1.out.transN hm2)
    have ha2 := (hm2.cell hadb id).trans ha
    clear hm2 ha hb
    by_cases hok : numOk b = true
    · have HS3 : Sec (SpecPopL xs = tailS (loL a) (numL b).1) := ⟨by rw [HS2.out, if_pos hok]⟩
      have hp1 : 1 ≤ ((numL b).1 : Int) ∧ ((numL b).1 : Int) ≤ 4294967295 := by
        have := hok; rw [HNO.out] at this; simp only [Bool.and_eq_true, decide_eq_true_eq] at this; exact this.2
      rw [hok]
      clear HS2 HNO hok
      generalize ((numL b).1 : Int) = m at hp1 HS3 ⊢
      have hw := wrap32 (n := m) (by omega) hp1.2
      have HP : Sec (0 < m) := ⟨by omega⟩
      have hp0 : 0 < m := HP.out
      go_wp2_with fail
      refine (HLO.out _).mono ?_
      rintro e w3 ⟨rfl, hm3⟩
      have HR3 := Sec.mk (HR2.out.mod hm3 id)
      have HM3 := Sec.mk (HM2.out.transN hm3)
      clear hm3 HLO
      generalize loL a = lw at *
      by_cases e0 : lw = [110, 111, 111, 112]
      · subst e0
        have HE : Sec (tailS [110, 111, 111, 112] m = popC 0 0) := ⟨by unfold tailS; simp [HP.out]⟩
        have hc0 : w3.cell? ⟨w.heap.size, 0, none⟩ = some (.int .i64 0) := HR3.out.cell 0
        have hf0 : w3.frozen? ⟨w.heap.size, 0, none⟩ = false := HR3.out.frozen 0
        have hc1 : w3.cell? ⟨w.heap.size, 1, none⟩ = some (.string ⟨#[]⟩) := HR3.out.cell 1
        have hf1 : w3.frozen? ⟨w.heap.size, 1, none⟩ = false := HR3.out.frozen 1
        have hc2 : w3.cell? ⟨w.heap.size, 2, none⟩ = some (.int .u32 0) := HR3.out.cell 2
        have hf2 : w3.frozen? ⟨w.heap.size, 2, none⟩ = false := HR3.out.frozen 2
        have hc3 : w3.cell? ⟨w.heap.size, 3, none⟩ = some (.bool false) := HR3.out.cell 3
        have hf3 : w3.frozen? ⟨w.heap.size, 3, none⟩ = false := HR3.out.frozen 3
        have hc4 : w3.cell? ⟨w.heap.size, 4, none⟩ = some (.slice none 0 0) := HR3.out.cell 4
        have hf4 : w3.frozen? ⟨w.heap.size, 4, none⟩ = false := HR3.out.frozen 4
        have hc5 : w3.cell? ⟨w.heap.size, 5, none⟩ = some (.int .i64 0) := HR3.out.cell 5
        have hf5 : w3.frozen? ⟨w.heap.size, 5, none⟩ = false := HR3.out.frozen 5
        have hc6 : w3.cell? ⟨w.heap.size, 6, none⟩ = some (.int .i64 0) := HR3.out.cell 6
        have hf6 : w3.frozen? ⟨w.heap.size, 6, none⟩ = false := HR3.out.frozen 6
        have hc7 : w3.cell? ⟨w.heap.size, 7, none⟩ = some (.int .u32 0) := HR3.out.cell 7
        have hf7 : w3.frozen? ⟨w.heap.size, 7, none⟩ = false := HR3.out.frozen 7
        have hc8 : w3.cell? ⟨w.heap.size, 8, none⟩ = some (.slice none 0 0) := HR3.out.cell 8
        have hf8 : w3.frozen? ⟨w.heap.size, 8, none⟩ = false := HR3.out.frozen 8
        go_wp2
        refine bodyPost_ret (results_blk rfl rfl (((((((((HR3.out.set_ 0 _).set_ 1 _).set_ 2 _).set_ 3 _).set_ 4 _).set_ 5 _).set_ 6 _).set_ 7 _).set_ 8 _) Try.underlying48 (by kernel_rfl)) rfl ?_
        rw [HS3.out, HE.out]
        exact retPop (k := 0) (n := 0) (by first | decide | assumption) (by first | decide | assumption) (((((((((HM3.out.setCell (fun h => absurd h (by simp)) _).setCell (fun h => absurd h (by simp)) _).setCell (fun h => absurd h (by simp)) _).setCell (fun h => absurd h (by simp)) _).setCell (fun h => absurd h (by simp)) _).setCell (fun h => absurd h (by simp)) _).setCell (fun h => absurd h (by simp)) _).setCell (fun h => absurd h (by simp)) _).setCell (fun h => absurd h (by simp)) _)
      have x0 : (lw == [110, 111, 111, 112]) = false := by simpa using e0
      by_cases e1 : lw = [113, 117, 105, 116]
      · subst e1
        have HE : Sec (tailS [113, 117, 105, 116] m = popC 0 0) := ⟨by unfold tailS; simp [HP.out]⟩
        clear x0
        have hc0 : w3.cell? ⟨w.heap.size, 0, none⟩ = some (.int .i64 0) := HR3.out.cell 0
        have hf0 : w3.frozen? ⟨w.heap.size, 0, none⟩ = false := HR3.out.frozen 0
        have hc1 : w3.cell? ⟨w.heap.size, 1, none⟩ = some (.string ⟨#[]⟩) := HR3.out.cell 1
        have hf1 : w3.frozen? ⟨w.heap.size, 1, none⟩ = false := HR3.out.frozen 1
        have hc2 : w3.cell? ⟨w.heap.size, 2, none⟩ = some (.int .u32 0) := HR3.out.cell 2
        have hf2 : w3.frozen? ⟨w.heap.size, 2, none⟩ = false := HR3.out.frozen 2
        have hc3 : w3.cell? ⟨w.heap.size, 3, none⟩ = some (.bool false) := HR3.out.cell 3
        have hf3 : w3.frozen? ⟨w.heap.size, 3, none⟩ = false := HR3.out.frozen 3
        have hc4 : w3.cell? ⟨w.heap.size, 4, none⟩ = some (.slice none 0 0) := HR3.out.cell 4
        have hf4 : w3.frozen? ⟨w.heap.size, 4, none⟩ = false := HR3.out.frozen 4
        have hc5 : w3.cell? ⟨w.heap.size, 5, none⟩ = some (.int .i64 0) := HR3.out.cell 5
        have hf5 : w3.frozen? ⟨w.heap.size, 5, none⟩ = false := HR3.out.frozen 5
        have hc6 : w3.cell? ⟨w.heap.size, 6, none⟩ = some (.int .i64 0) := HR3.out.cell 6
        have hf6 : w3.frozen? ⟨w.heap.size, 6, none⟩ = false := HR3.out.frozen 6
        have hc7 : w3.cell? ⟨w.heap.size, 7, none⟩ = some (.int .u32 0) := HR3.out.cell 7
        have hf7 : w3.frozen? ⟨w.heap.size, 7, none⟩ = false := HR3.out.frozen 7
        have hc8 : w3.cell? ⟨w.heap.size, 8, none⟩ = some (.slice none 0 0) := HR3.out.cell 8
        have hf8 : w3.frozen? ⟨w.heap.size, 8, none⟩ = false := HR3.out.frozen 8
        go_wp2
        refine bodyPost_ret (results_blk rfl rfl (((((((((HR3.out.set_ 0 _).set_ 1 _).set_ 2 _).set_ 3 _).set_ 4 _).set_ 5 _).set_ 6 _).set_ 7 _).set_ 8 _) Try.underlying48 (by kernel_rfl)) rfl ?_
        rw [HS3.out, HE.out]
        exact retPop (k := 0) (n := 0) (by first | decide | assumption) (by first | decide | assumption) (((((((((HM3.out.setCell (fun h => absurd h (by simp)) _).setCell (fun h => absurd h (by simp)) _).setCell (fun h => absurd h (by simp)) _).setCell (fun h => absurd h (by simp)) _).setCell (fun h => absurd h (by simp)) _).setCell (fun h => absurd h (by simp)) _).setCell (fun h => absurd h (by simp)) _).setCell (fun h => absurd h (by simp)) _).setCell (fun h => absurd h (by simp)) _)
      have x1 : (lw == [113, 117, 105, 116]) = false := by simpa using e1
      by_cases e2 : lw = [115, 116, 97, 116]
      · subst e2
        have HE : Sec (tailS [115, 116, 97, 116] m = popC 0 0) := ⟨by unfold tailS; simp [HP.out]⟩
        clear x0
        clear x1
        have hc0 : w3.cell? ⟨w.heap.size, 0, none⟩ = some (.int .i64 0) := HR3.out.cell 0
        have hf0 : w3.frozen? ⟨w.heap.size, 0, none⟩ = false := HR3.out.frozen 0
        have hc1 : w3.cell? ⟨w.heap.size, 1, none⟩ = some (.string ⟨#[]⟩) := HR3.out.cell 1
        have hf1 : w3.frozen? ⟨w.heap.size, 1, none⟩ = false := HR3.out.frozen 1
        have hc2 : w3.cell? ⟨w.heap.size, 2, none⟩ = some (.int .u32 0) := HR3.out.cell 2
        have hf2 : w3.frozen? ⟨w.heap.size, 2, none⟩ = false := HR3.out.frozen 2
        have hc3 : w3.cell? ⟨w.heap.size, 3, none⟩ = some (.bool false) := HR3.out.cell 3
        have hf3 : w3.frozen? ⟨w.heap.size, 3, none⟩ = false := HR3.out.frozen 3
        have hc4 : w3.cell? ⟨w.heap.size, 4, none⟩ = some (.slice none 0 0) := HR3.out.cell 4
        have hf4 : w3.frozen? ⟨w.heap.size, 4, none⟩ = false := HR3.out.frozen 4
        have hc5 : w3.cell? ⟨w.heap.size, 5, none⟩ = some (.int .i64 0) := HR3.out.cell 5
        have hf5 : w3.frozen? ⟨w.heap.size, 5, none⟩ = false := HR3.out.frozen 5
        have hc6 : w3.cell? ⟨w.heap.size, 6, none⟩ = some (.int .i64 0) := HR3.out.cell 6
        have hf6 : w3.frozen? ⟨w.heap.size, 6, none⟩ = false := HR3.out.frozen 6
        have hc7 : w3.cell? ⟨w.heap.size, 7, none⟩ = some (.int .u32 0) := HR3.out.cell 7
        have hf7 : w3.frozen? ⟨w.heap.size, 7, none⟩ = false := HR3.out.frozen 7
        have hc8 : w3.cell? ⟨w.heap.size, 8, none⟩ = some (.slice none 0 0) := HR3.out.cell 8
        have hf8 : w3.frozen? ⟨w.heap.size, 8, none⟩ = false := HR3.out.frozen 8
        go_wp2
        refine bodyPost_ret (results_blk rfl rfl (((((((((HR3.out.set_ 0 _).set_ 1 _).set_ 2 _).set_ 3 _).set_ 4 _).set_ 5 _).set_ 6 _).set_ 7 _).set_ 8 _) Try.underlying48 (by kernel_rfl)) rfl ?_
        rw [HS3.out, HE.out]
        exact retPop (k := 0) (n := 0) (by first | decide | assumption) (by first | decide | assumption) (((((((((HM3.out.setCell (fun h => absurd h (by simp)) _).setCell (fun h => absurd h (by simp)) _).setCell (fun h => absurd h (by simp)) _).setCell (fun h => absurd h (by simp)) _).setCell (fun h => absurd h (by simp)) _).setCell (fun h => absurd h (by simp)) _).setCell (fun h => absurd h (by simp)) _).setCell (fun h => absurd h (by simp)) _).setCell (fun h => absurd h (by simp)) _)
      have x2 : (lw == [115, 116, 97, 116]) = false := by simpa using e2
      by_cases e3 : lw = [114, 115, 101, 116]
      · subst e3
        have HE : Sec (tailS [114, 115, 101, 116] m = popC 0 0) := ⟨by unfold tailS; simp [HP.out]⟩
        clear x0
        clear x1
        clear x2
        have hc0 : w3.cell? ⟨w.heap.size, 0, none⟩ = some (.int .i64 0) := HR3.out.cell 0
        have hf0 : w3.frozen? ⟨w.heap.size, 0, none⟩ = false := HR3.out.frozen 0
        have hc1 : w3.cell? ⟨w.heap.size, 1, none⟩ = some (.string ⟨#[]⟩) := HR3.out.cell 1
        have hf1 : w3.frozen? ⟨w.heap.size, 1, none⟩ = false := HR3.out.frozen 1
        have hc2 : w3.cell? ⟨w.heap.size, 2, none⟩ = some (.int .u32 0) := HR3.out.cell 2
        have hf2 : w3.frozen? ⟨w.heap.size, 2, none⟩ = false := HR3.out.frozen 2
        have hc3 : w3.cell? ⟨w.heap.size, 3, none⟩ = some (.bool false) := HR3.out.cell 3
        have hf3 : w3.frozen? ⟨w.heap.size, 3, none⟩ = false := HR3.out.frozen 3
        have hc4 : w3.cell? ⟨w.heap.size, 4, none⟩ = some (.slice none 0 0) := HR3.out.cell 4
        have hf4 : w3.frozen? ⟨w.heap.size, 4, none⟩ = false := HR3.out.frozen 4
        have hc5 : w3.cell? ⟨w.heap.size, 5, none⟩ = some (.int .i64 0) := HR3.out.cell 5
        have hf5 : w3.frozen? ⟨w.heap.size, 5, none⟩ = false := HR3.out.frozen 5
        have hc6 : w3.cell? ⟨w.heap.size, 6, none⟩ = some (.int .i64 0) := HR3.out.cell 6
        have hf6 : w3.frozen? ⟨w.heap.size, 6, none⟩ = false := HR3.out.frozen 6
        have hc7 : w3.cell? ⟨w.heap.size, 7, none⟩ = some (.int .u32 0) := HR3.out.cell 7
        have hf7 : w3.frozen? ⟨w.heap.size, 7, none⟩ = false := HR3.out.frozen 7
        have hc8 : w3.cell? ⟨w.heap.size, 8, none⟩ = some (.slice none 0 0) := HR3.out.cell 8
        have hf8 : w3.frozen? ⟨w.heap.size, 8, none⟩ = false := HR3.out.frozen 8
        go_wp2
        refine bodyPost_ret (results_blk rfl rfl (((((((((HR3.out.set_ 0 _).set_ 1 _).set_ 2 _).set_ 3 _).set_ 4 _).set_ 5 _).set_ 6 _).set_ 7 _).set_ 8 _) Try.underlying48 (by kernel_rfl)) rfl ?_
        rw [HS3.out, HE.out]
        exact retPop (k := 0) (n := 0) (by first | decide | assumption) (by first | decide | assumption) (((((((((HM3.out.setCell (fun h => absurd h (by simp)) _).setCell (fun h => absurd h (by simp)) _).setCell (fun h => absurd h (by simp)) _).setCell (fun h => absurd h (by simp)) _).setCell (fun h => absurd h (by simp)) _).setCell (fun h => absurd h (by simp)) _).setCell (fun h => absurd h (by simp)) _).setCell (fun h => absurd h (by simp)) _).setCell (fun h => absurd h (by simp)) _)
      have x3 : (lw == [114, 115, 101, 116]) = false := by simpa using e3
      by_cases e4 : lw = [108, 105, 115, 116]
      · subst e4
        have HE : Sec (tailS [108, 105, 115, 116] m = popC 4 m) := ⟨by unfold tailS; simp [HP.out]⟩
        clear x0
        clear x1
        clear x2
        clear x3
        have hc0 : w3.cell? ⟨w.heap.size, 0, none⟩ = some (.int .i64 0) := HR3.out.cell 0
        have hf0 : w3.frozen? ⟨w.heap.size, 0, none⟩ = false := HR3.out.frozen 0
        have hc1 : w3.cell? ⟨w.heap.size, 1, none⟩ = some (.string ⟨#[]⟩) := HR3.out.cell 1
        have hf1 : w3.frozen? ⟨w.heap.size, 1, none⟩ = false := HR3.out.frozen 1
        have hc2 : w3.cell? ⟨w.heap.size, 2, none⟩ = some (.int .u32 0) := HR3.out.cell 2
        have hf2 : w3.frozen? ⟨w.heap.size, 2, none⟩ = false := HR3.out.frozen 2
        have hc3 : w3.cell? ⟨w.heap.size, 3, none⟩ = some (.bool false) := HR3.out.cell 3
        have hf3 : w3.frozen? ⟨w.heap.size, 3, none⟩ = false := HR3.out.frozen 3
        have hc4 : w3.cell? ⟨w.heap.size, 4, none⟩ = some (.slice none 0 0) := HR3.out.cell 4
        have hf4 : w3.frozen? ⟨w.heap.size, 4, none⟩ = false := HR3.out.frozen 4
        have hc5 : w3.cell? ⟨w.heap.size, 5, none⟩ = some (.int .i64 0) := HR3.out.cell 5
        have hf5 : w3.frozen? ⟨w.heap.size, 5, none⟩ = false := HR3.out.frozen 5
        have hc6 : w3.cell? ⟨w.heap.size, 6, none⟩ = some (.int .i64 0) := HR3.out.cell 6
        have hf6 : w3.frozen? ⟨w.heap.size, 6, none⟩ = false := HR3.out.frozen 6
        have hc7 : w3.cell? ⟨w.heap.size, 7, none⟩ = some (.int .u32 0) := HR3.out.cell 7
        have hf7 : w3.frozen? ⟨w.heap.size, 7, none⟩ = false := HR3.out.frozen 7
        have hc8 : w3.cell? ⟨w.heap.size, 8, none⟩ = some (.slice none 0 0) := HR3.out.cell 8
        have hf8 : w3.frozen? ⟨w.heap.size, 8, none⟩ = false := HR3.out.frozen 8
        go_wp2
        refine bodyPost_ret (results_blk rfl rfl (((((((((HR3.out.set_ 0 _).set_ 1 _).set_ 2 _).set_ 3 _).set_ 4 _).set_ 5 _).set_ 6 _).set_ 7 _).set_ 8 _) Try.underlying48 (by kernel_rfl)) rfl ?_
        rw [HS3.out, HE.out]
        exact retPop (k := 4) (n := m) (by first | decide | assumption) (by first | decide | assumption) (((((((((HM3.out.setCell (fun h => absurd h (by simp)) _).setCell (fun h => absurd h (by simp)) _).setCell (fun h => absurd h (by simp)) _).setCell (fun h => absurd h (by simp)) _).setCell (fun h => absurd h (by simp)) _).setCell (fun h => absurd h (by simp)) _).setCell (fun h => absurd h (by simp)) _).setCell (fun h => absurd h (by simp)) _).setCell (fun h => absurd h (by simp)) _)
      have x4 : (lw == [108, 105, 115, 116]) = false := by simpa using e4
      by_cases e5 : lw = [117, 105, 100, 108]
      · subst e5
        have HE : Sec (tailS [117, 105, 100, 108] m = popC 5 m) := ⟨by unfold tailS; simp [HP.out]⟩
        clear x0
        clear x1
        clear x2
        clear x3
        clear x4
        have hc0 : w3.cell? ⟨w.heap.size, 0, none⟩ = some (.int .i64 0) := HR3.out.cell 0
        have hf0 : w3.frozen? ⟨w.heap.size, 0, none⟩ = false := HR3.out.frozen 0
        have hc1 : w3.cell? ⟨w.heap.size, 1, none⟩ = some (.string ⟨#[]⟩) := HR3.out.cell 1
        have hf1 : w3.frozen? ⟨w.heap.size, 1, none⟩ = false := HR3.out.frozen 1
        have hc2 : w3.cell? ⟨w.heap.size, 2, none⟩ = some (.int .u32 0) := HR3.out.cell 2
        have hf2 : w3.frozen? ⟨w.heap.size, 2, none⟩ = false := HR3.out.frozen 2
        have hc3 : w3.cell? ⟨w.heap.size, 3, none⟩ = some (.bool false) := HR3.out.cell 3
        have hf3 : w3.frozen? ⟨w.heap.size, 3, none⟩ = false := HR3.out.frozen 3
        have hc4 : w3.cell? ⟨w.heap.size, 4, none⟩ = some (.slice none 0 0) := HR3.out.cell 4
        have hf4 : w3.frozen? ⟨w.heap.size, 4, none⟩ = false := HR3.out.frozen 4
        have hc5 : w3.cell? ⟨w.heap.size, 5, none⟩ = some (.int .i64 0) := HR3.out.cell 5
        have hf5 : w3.frozen? ⟨w.heap.size, 5, none⟩ = false := HR3.out.frozen 5
        have hc6 : w3.cell? ⟨w.heap.size, 6, none⟩ = some (.int .i64 0) := HR3.out.cell 6
        have hf6 : w3.frozen? ⟨w.heap.size, 6, none⟩ = false := HR3.out.frozen 6
        have hc7 : w3.cell? ⟨w.heap.size, 7, none⟩ = some (.int .u32 0) := HR3.out.cell 7
        have hf7 : w3.frozen? ⟨w.heap.size, 7, none⟩ = false := HR3.out.frozen 7
        have hc8 : w3.cell? ⟨w.heap.size, 8, none⟩ = some (.slice none 0 0) := HR3.out.cell 8
        have hf8 : w3.frozen? ⟨w.heap.size, 8, none⟩ = false := HR3.out.frozen 8
        go_wp2
        refine bodyPost_ret (results_blk rfl rfl (((((((((HR3.out.set_ 0 _).set_ 1 _).set_ 2 _).set_ 3 _).set_ 4 _).set_ 5 _).set_ 6 _).set_ 7 _).set_ 8 _) Try.underlying48 (by kernel_rfl)) rfl ?_
        rw [HS3.out, HE.out]
        exact retPop (k := 5) (n := m) (by first | decide | assumption) (by first | decide | assumption) (((((((((HM3.out.setCell (fun h => absurd h (by simp)) _).setCell (fun h => absurd h (by simp)) _).setCell (fun h => absurd h (by simp)) _).setCell (fun h => absurd h (by simp)) _).setCell (fun h => absurd h (by simp)) _).setCell (fun h => absurd h (by simp)) _).setCell (fun h => absurd h (by simp)) _).setCell (fun h => absurd h (by simp)) _).setCell (fun h => absurd h (by simp)) _)
      have x5 : (lw == [117, 105, 100, 108]) = false := by simpa using e5
      by_cases e6 : lw = [114, 101, 116, 114]
      · subst e6
        have HE : Sec (tailS [114, 101, 116, 114] m = popC 6 m) := ⟨by unfold tailS; simp [HP.out]⟩
        clear x0
        clear x1
        clear x2
        clear x3
        clear x4
        clear x5
        have hc0 : w3.cell? ⟨w.heap.size, 0, none⟩ = some (.int .i64 0) := HR3.out.cell 0
        have hf0 : w3.frozen? ⟨w.heap.size, 0, none⟩ = false := HR3.out.frozen 0
        have hc1 : w3.cell? ⟨w.heap.size, 1, none⟩ = some (.string ⟨#[]⟩) := HR3.out.cell 1
        have hf1 : w3.frozen? ⟨w.heap.size, 1, none⟩ = false := HR3.out.frozen 1
        have hc2 : w3.cell? ⟨w.heap.size, 2, none⟩ = some (.int .u32 0) := HR3.out.cell 2
        have hf2 : w3.frozen? ⟨w.heap.size, 2, none⟩ = false := HR3.out.frozen 2
        have hc3 : w3.cell? ⟨w.heap.size, 3, none⟩ = some (.bool false) := HR3.out.cell 3
        have hf3 : w3.frozen? ⟨w.heap.size, 3, none⟩ = false := HR3.out.frozen 3
        have hc4 : w3.cell? ⟨w.heap.size, 4, none⟩ = some (.slice none 0 0) := HR3.out.cell 4
        have hf4 : w3.frozen? ⟨w.heap.size, 4, none⟩ = false := HR3.out.frozen 4
        have hc5 : w3.cell? ⟨w.heap.size, 5, none⟩ = some (.int .i64 0) := HR3.out.cell 5
        have hf5 : w3.frozen? ⟨w.heap.size, 5, none⟩ = false := HR3.out.frozen 5
        have hc6 : w3.cell? ⟨w.heap.size, 6, none⟩ = some (.int .i64 0) := HR3.out.cell 6
        have hf6 : w3.frozen? ⟨w.heap.size, 6, none⟩ = false := HR3.out.frozen 6
        have hc7 : w3.cell? ⟨w.heap.size, 7, none⟩ = some (.int .u32 0) := HR3.out.cell 7
        have hf7 : w3.frozen? ⟨w.heap.size, 7, none⟩ = false := HR3.out.frozen 7
        have hc8 : w3.cell? ⟨w.heap.size, 8, none⟩ = some (.slice none 0 0) := HR3.out.cell 8
        have hf8 : w3.frozen? ⟨w.heap.size, 8, none⟩ = false := HR3.out.frozen 8
        go_wp2
        refine bodyPost_ret (results_blk rfl rfl (((((((((HR3.out.set_ 0 _).set_ 1 _).set_ 2 _).set_ 3 _).set_ 4 _).set_ 5 _).set_ 6 _).set_ 7 _).set_ 8 _) Try.underlying48 (by kernel_rfl)) rfl ?_
        rw [HS3.out, HE.out]
        exact retPop (k := 6) (n := m) (by first | decide | assumption) (by first | decide | assumption) (((((((((HM3.out.setCell (fun h => absurd h (by simp)) _).setCell (fun h => absurd h (by simp)) _).setCell (fun h => absurd h (by simp)) _).setCell (fun h => absurd h (by simp)) _).setCell (fun h => absurd h (by simp)) _).setCell (fun h => absurd h (by simp)) _).setCell (fun h => absurd h (by simp)) _).setCell (fun h => absurd h (by simp)) _).setCell (fun h => absurd h (by simp)) _)
      have x6 : (lw == [114, 101, 116, 114]) = false := by simpa using e6
      by_cases e7 : lw = [100, 101, 108, 101]
      · subst e7
        have HE : Sec (tailS [100, 101, 108, 101] m = popC 7 m) := ⟨by unfold tailS; simp [HP.out]⟩
        clear x0
        clear x1
        clear x2
        clear x3
        clear x4
        clear x5
        clear x6
        have hc0 : w3.cell? ⟨w.heap.size, 0, none⟩ = some (.int .i64 0) := HR3.out.cell 0
        have hf0 : w3.frozen? ⟨w.heap.size, 0, none⟩ = false := HR3.out.frozen 0
        have hc1 : w3.cell? ⟨w.heap.size, 1, none⟩ = some (.string ⟨#[]⟩) := HR3.out.cell 1
        have hf1 : w3.frozen? ⟨w.heap.size, 1, none⟩ = false := HR3.out.frozen 1
        have hc2 : w3.cell? ⟨w.heap.size, 2, none⟩ = some (.int .u32 0) := HR3.out.cell 2
        have hf2 : w3.frozen? ⟨w.heap.size, 2, none⟩ = false := HR3.out.frozen 2
        have hc3 : w3.cell? ⟨w.heap.size, 3, none⟩ = some (.bool false) := HR3.out.cell 3
        have hf3 : w3.frozen? ⟨w.heap.size, 3, none⟩ = false := HR3.out.frozen 3
        have hc4 : w3.cell? ⟨w.heap.size, 4, none⟩ = some (.slice none 0 0) := HR3.out.cell 4
        have hf4 : w3.frozen? ⟨w.heap.size, 4, none⟩ = false := HR3.out.frozen 4
        have hc5 : w3.cell? ⟨w.heap.size, 5, none⟩ = some (.int .i64 0) := HR3.out.cell 5
        have hf5 : w3.frozen? ⟨w.heap.size, 5, none⟩ = false := HR3.out.frozen 5
        have hc6 : w3.cell? ⟨w.heap.size, 6, none⟩ = some (.int .i64 0) := HR3.out.cell 6
        have hf6 : w3.frozen? ⟨w.heap.size, 6, none⟩ = false := HR3.out.frozen 6
        have hc7 : w3.cell? ⟨w.heap.size, 7, none⟩ = some (.int .u32 0) := HR3.out.cell 7
        have hf7 : w3.frozen? ⟨w.heap.size, 7, none⟩ = false := HR3.out.frozen 7
        have hc8 : w3.cell? ⟨w.heap.size, 8, none⟩ = some (.slice none 0 0) := HR3.out.cell 8
        have hf8 : w3.frozen? ⟨w.heap.size, 8, none⟩ = false := HR3.out.frozen 8
        go_wp2
        refine bodyPost_ret (results_blk rfl rfl (((((((((HR3.out.set_ 0 _).set_ 1 _).set_ 2 _).set_ 3 _).set_ 4 _).set_ 5 _).set_ 6 _).set_ 7 _).set_ 8 _) Try.underlying48 (by kernel_rfl)) rfl ?_
        rw [HS3.out, HE.out]
        exact retPop (k := 7) (n := m) (by first | decide | assumption) (by first | decide | assumption) (((((((((HM3.out.setCell (fun h => absurd h (by simp)) _).setCell (fun h => absurd h (by simp)) _).setCell (fun h => absurd h (by simp)) _).setCell (fun h => absurd h (by simp)) _).setCell (fun h => absurd h (by simp)) _).setCell (fun h => absurd h (by simp)) _).setCell (fun h => absurd h (by simp)) _).setCell (fun h => absurd h (by simp)) _).setCell (fun h => absurd h (by simp)) _)
      have x7 : (lw == [100, 101, 108, 101]) = false := by simpa using e7
      have HE : Sec (tailS lw m = popC 0 0) := ⟨by unfold tailS; simp [e0, e1, e2, e3, e4, e5, e6, e7, HP.out]⟩
      clear e0 e1 e2 e3 e4 e5 e6 e7
      have hc0 : w3.cell? ⟨w.heap.size, 0, none⟩ = some (.int .i64 0) := HR3.out.cell 0
      have hf0 : w3.frozen? ⟨w.heap.size, 0, none⟩ = false := HR3.out.frozen 0
      have hc1 : w3.cell? ⟨w.heap.size, 1, none⟩ = some (.string ⟨#[]⟩) := HR3.out.cell 1
      have hf1 : w3.frozen? ⟨w.heap.size, 1, none⟩ = false := HR3.out.frozen 1
      have hc2 : w3.cell? ⟨w.heap.size, 2, none⟩ = some (.int .u32 0) := HR3.out.cell 2
      have hf2 : w3.frozen? ⟨w.heap.size, 2, none⟩ = false := HR3.out.frozen 2
      have hc3 : w3.cell? ⟨w.heap.size, 3, none⟩ = some (.bool false) := HR3.out.cell 3
      have hf3 : w3.frozen? ⟨w.heap.size, 3, none⟩ = false := HR3.out.frozen 3
      have hc4 : w3.cell? ⟨w.heap.size, 4, none⟩ = some (.slice none 0 0) := HR3.out.cell 4
      have hf4 : w3.frozen? ⟨w.heap.size, 4, none⟩ = false := HR3.out.frozen 4
      have hc5 : w3.cell? ⟨w.heap.size, 5, none⟩ = some (.int .i64 0) := HR3.out.cell 5
      have hf5 : w3.frozen? ⟨w.heap.size, 5, none⟩ = false := HR3.out.frozen 5
      have hc6 : w3.cell? ⟨w.heap.size, 6, none⟩ = some (.int .i64 0) := HR3.out.cell 6
      have hf6 : w3.frozen? ⟨w.heap.size, 6, none⟩ = false := HR3.out.frozen 6
      have hc7 : w3.cell? ⟨w.heap.size, 7, none⟩ = some (.int .u32 0) := HR3.out.cell 7
      have hf7 : w3.frozen? ⟨w.heap.size, 7, none⟩ = false := HR3.out.frozen 7
      have hc8 : w3.cell? ⟨w.heap.size, 8, none⟩ = some (.slice none 0 0) := HR3.out.cell 8
      have hf8 : w3.frozen? ⟨w.heap.size, 8, none⟩ = false := HR3.out.frozen 8
      go_wp2
      refine bodyPost_ret (results_blk rfl rfl (((((((((HR3.out.set_ 0 _).set_ 1 _).set_ 2 _).set_ 3 _).set_ 4 _).set_ 5 _).set_ 6 _).set_ 7 _).set_ 8 _) Try.underlying48 (by kernel_rfl)) rfl ?_
      rw [HS3.out, HE.out]
      exact retPop (k := 0) (n := 0) (by first | decide | assumption) (by first | decide | assumption) (((((((((HM3.out.setCell (fun h => absurd h (by simp)) _).setCell (fun h => absurd h (by simp)) _).setCell (fun h => absurd h (by simp)) _).setCell (fun h => absurd h (by simp)) _).setCell (fun h => absurd h (by simp)) _).setCell (fun h => absurd h (by simp)) _).setCell (fun h => absurd h (by simp)) _).setCell (fun h => absurd h (by simp)) _).setCell (fun h => absurd h (by simp)) _)
    · have HE : Sec (SpecPopL xs = popC 0 0) := ⟨by rw [HS2.out, if_neg hok]⟩
      have hok2 : numOk b = false := by simpa using hok
      rw [hok2]
      clear hok hok2 HS2 HNO
      have hc0 : w2.cell? ⟨w.heap.size, 0, none⟩ = some (.int .i64 0) := HR2.out.cell 0
      have hf0 : w2.frozen? ⟨w.heap.size, 0, none⟩ = false := HR2.out.frozen 0
      have hc1 : w2.cell? ⟨w.heap.size, 1, none⟩ = some (.string ⟨#[]⟩) := HR2.out.cell 1
      have hf1 : w2.frozen? ⟨w.heap.size, 1, none⟩ = false := HR2.out.frozen 1
      have hc2 : w2.cell? ⟨w.heap.size, 2, none⟩ = some (.int .u32 0) := HR2.out.cell 2
      have hf2 : w2.frozen? ⟨w.heap.size, 2, none⟩ = false := HR2.out.frozen 2
      have hc3 : w2.cell? ⟨w.heap.size, 3, none⟩ = some (.bool false) := HR2.out.cell 3
      have hf3 : w2.frozen? ⟨w.heap.size, 3, none⟩ = false := HR2.out.frozen 3
      have hc4 : w2.cell? ⟨w.heap.size, 4, none⟩ = some (.slice none 0 0) := HR2.out.cell 4
      have hf4 : w2.frozen? ⟨w.heap.size, 4, none⟩ = false := HR2.out.frozen 4
      have hc5 : w2.cell? ⟨w.heap.size, 5, none⟩ = some (.int .i64 0) := HR2.out.cell 5
      have hf5 : w2.frozen? ⟨w.heap.size, 5, none⟩ = false := HR2.out.frozen 5
      have hc6 : w2.cell? ⟨w.heap.size, 6, none⟩ = some (.int .i64 0) := HR2.out.cell 6
      have hf6 : w2.frozen? ⟨w.heap.size, 6, none⟩ = false := HR2.out.frozen 6
      have hc7 : w2.cell? ⟨w.heap.size, 7, none⟩ = some (.int .u32 0) := HR2.out.cell 7
      have hf7 : w2.frozen? ⟨w.heap.size, 7, none⟩ = false := HR2.out.frozen 7
      have hc8 : w2.cell? ⟨w.heap.size, 8, none⟩ = some (.slice none 0 0) := HR2.out.cell 8
      have hf8 : w2.frozen? ⟨w.heap.size, 8, none⟩ = false := HR2.out.frozen 8
      go_wp2
      refine bodyPost_ret (results_blk rfl rfl (((((((((HR2.out.set_ 0 _).set_ 1 _).set_ 2 _).set_ 3 _).set_ 4 _).set_ 5 _).set_ 6 _).set_ 7 _).set_ 8 _) Try.underlying48 (by kernel_rfl)) rfl ?_
      rw [HE.out]
      exact retPop (k := 0) (n := 0) (by first | decide | assumption) (by first | decide | assumption) (((((((((HM2.out.setCell (fun h => absurd h (by simp)) _).setCell (fun h => absurd h (by simp)) _).setCell (fun h => absurd h (by simp)) _).setCell (fun h => absurd h (by simp)) _).setCell (fun h => absurd h (by simp)) _).setCell (fun h => absurd h (by simp)) _).setCell (fun h => absurd h (by simp)) _).setCell (fun h => absurd h (by simp)) _).setCell (fun h => absurd h (by simp)) _)
  | a :: b :: d :: r =>
    have HE : Sec (SpecPopL xs = popC 0 0) := HS
    have hl3 : (2 : Int) < (((a :: b :: d :: r).length : Nat) : Int) := by simp; omega
    generalize (a :: b :: d :: r).length = q at *
    clear HS
    have hc0 : w1.cell? ⟨w.heap.size, 0, none⟩ = some (.int .i64 0) := HR1.out.cell 0
    have hf0 : w1.frozen? ⟨w.heap.size, 0, none⟩ = false := HR1.out.frozen 0
    have hc1 : w1.cell? ⟨w.heap.size, 1, none⟩ = some (.string ⟨#[]⟩) := HR1.out.cell 1
    have hf1 : w1.frozen? ⟨w.heap.size, 1, none⟩ = false := HR1.out.frozen 1
    have hc2 : w1.cell? ⟨w.heap.size, 2, none⟩ = some (.int .u32 0) := HR1.out.cell 2
    have hf2 : w1.frozen? ⟨w.heap.size, 2, none⟩ = false := HR1.out.frozen 2
    have hc3 : w1.cell? ⟨w.heap.size, 3, none⟩ = some (.bool false) := HR1.out.cell 3
    have hf3 : w1.frozen? ⟨w.heap.size, 3, none⟩ = false := HR1.out.frozen 3
    have hc4 : w1.cell? ⟨w.heap.size, 4, none⟩ = some (.slice none 0 0) := HR1.out.cell 4
    have hf4 : w1.frozen? ⟨w.heap.size, 4, none⟩ = false := HR1.out.frozen 4
    have hc5 : w1.cell? ⟨w.heap.size, 5, none⟩ = some (.int .i64 0) := HR1.out.cell 5
    have hf5 : w1.frozen? ⟨w.heap.size, 5, none⟩ = false := HR1.out.frozen 5
    have hc6 : w1.cell? ⟨w.heap.size, 6, none⟩ = some (.int .i64 0) := HR1.out.cell 6
    have hf6 : w1.frozen? ⟨w.heap.size, 6, none⟩ = false := HR1.out.frozen 6
    have hc7 : w1.cell? ⟨w.heap.size, 7, none⟩ = some (.int .u32 0) := HR1.out.cell 7
    have hf7 : w1.frozen? ⟨w.heap.size, 7, none⟩ = false := HR1.out.frozen 7
    have hc8 : w1.cell? ⟨w.heap.size, 8, none⟩ = some (.slice none 0 0) := HR1.out.cell 8
    have hf8 : w1.frozen? ⟨w.heap.size, 8, none⟩ = false := HR1.out.frozen 8
    go_wp2
    refine bodyPost_ret (results_blk rfl rfl (((((((((HR1.out.set_ 0 _).set_ 1 _).set_ 2 _).set_ 3 _).set_ 4 _).set_ 5 _).set_ 6 _).set_ 7 _).set_ 8 _) Try.underlying48 (by kernel_rfl)) rfl ?_
    rw [HE.out]
    exact retPop (k := 0) (n := 0) (by first | decide | assumption) (by first | decide | assumption) (((((((((HM1.out.setCell (fun h => absurd h (by simp)) _).setCell (fun h => absurd h (by simp)) _).setCell (fun h => absurd h (by simp)) _).setCell (fun h => absurd h (by simp)) _).setCell (fun h => absurd h (by simp)) _).setCell (fun h => absurd h (by simp)) _).setCell (fun h => absurd h (by simp)) _).setCell (fun h => absurd h (by simp)) _).setCell (fun h => absurd h (by simp)) _)
end Go.Proofs.Ytciaoedjiggonaa
