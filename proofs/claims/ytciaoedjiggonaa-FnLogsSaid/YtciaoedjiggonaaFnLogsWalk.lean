/- The walk of the law FnLogs. -/
import Derived.Test.YtciaoedjiggonaaDrawF
import Derived.Test.YtciaoedjiggonaaPureLogs
import Derived.Test.YtciaoedjiggonaaSame
import Derived.Test.YtciaoedjiggonaaUnframeI
namespace Go.Proofs.Ytciaoedjiggonaa
open Go.RowKit Mem
set_option linter.unusedVariables false

theorem unframe_as {A : Option Addr} {n c : Nat} {xs : Bytes} {B : Nat → Prop} {w : World} (h : Row Ty.byte w B A n xs) (hB : ∀ k, B k → k < w.heap.size) (hc : n ≤ c) (hcc : c ≤ 9223372036854775807) :
    Calls Try.prog 18 #[.slice A n c] w (RetV true dLog w (UnframeL xs)) := by
  obtain rfl := h.1
  exact unframeImpl_calls h hB hc hcc
theorem logField1 (g : Nat) (w : World) : (Instr.fieldAt 36 (.pointer (some ⟨g, 0, none⟩)) 1).run Try.prog w = .ok (.pointer (some ⟨g, 1, none⟩)) w := by
  go_simp
theorem loadInt {w : World} {p : Addr} {v : Value} (h : w.cell? p = some v) : (Instr.loadAt 3 (.pointer (some p))).run Try.prog w = .ok v w := by
  go_simp
theorem intNe_run (a : Int) (x y : Operand) (w : World) : (do eqGuard .neq 3 x y (.int .i64 a) (.int .i64 a); binOp .neq 3 (.int .i64 a) (.int .i64 a) : Sem Value).run Try.prog w = .ok (.bool false) w := by
  go_simp
theorem slice_toB {P : Program} {w : World} {t e : TypeId} {n c k : Nat} {A : Option Addr} (hu : P.underlying t = some (.slice e)) (hk : k ≤ c) (he : (P.info? e).isSome = true) : (Instr.sliceAt t (.slice A n c) none (some (.int .i64 k)) none).run P w = .ok (.slice A k c) w := slice_to hu hk he
/-- what is checked of a prefix -/
theorem check_row {recs : List Bytes} {K : Nat} {E : Int} {w : World} {v : Value} (h : RdV true dLog w v (recs.take K, E)) (hK : K ≤ recs.length) : ∃ A c, v = .agg #[.slice A K c, .int .i64 E] ∧ Row tB w (· < w.heap.size) A K (recs.take K) := by
  obtain ⟨v0, rfl, h0⟩ := rdLog h
  obtain ⟨A, c, rfl, _, hr⟩ := h0.slice
  have hl : (recs.take K).length = K := by rw [List.length_take]; omega
  rw [hl] at hr
  exact ⟨A, c, by rw [hl], hr⟩
set_option maxHeartbeats 4000000 in
set_option maxRecDepth 100000 in
theorem lawFnLogs_walk {w : World} {A : Option Addr} {c : Nat} {xs : Bytes} (h : Row Ty.byte w (· < w.heap.size) A xs.length xs) (hc : xs.length ≤ c) : Calls Try.prog 4 #[.slice A xs.length c] w (Ret (.bool true) w) := by
  have HR := Sec.mk h
  have hmax := h.2.1
  clear h
  by_cases hlong : 1048576 < xs.length
  · go_enter Try.func4, Try.ntmps4
    go_wp2
    go_ret
    exact ⟨by simp, Mod.refl _ _⟩
  go_enter Try.func4, Try.ntmps4
  go_wp2_with fail
  refine (drawFrame_calls HR.out (fun _ h => h) (by omega)).mono ?_
  rintro e w1 h1
  obtain ⟨A1, c1, rfl, ho1⟩ := h1.mine
  have HRD := Sec.mk (fun w' (hm : New w w') => drawFrame_calls (c := c) (HR.out.mod (fun _ h => h) (fun k hk => hm.block k hk id)) (fun k hk => Nat.lt_of_lt_of_le hk hm.size) (by omega))
  generalize drawD xs = recs at *
  have HO1 := Sec.mk ho1
  have HN1 := Sec.mk ho1.new
  have hrl := ho1.row.2.1
  clear h1 ho1
  go_wp2_with fail
  refine (frameImpl_calls (HO1.out.row.mod (B' := (· < w1.heap.size)) (fun _ h => h.2) (fun _ _ => rfl)) (fun _ h => h)).mono ?_
  rintro e w2 h2
  obtain ⟨A2, c2, rfl, ho2⟩ := h2.mine
  have HL := Sec.mk ho2
  have HN2 := Sec.mk (HN1.out.transN ho2.new)
  have HO2 := Sec.mk (HO1.out.step ho2.new)
  clear h2 ho2 HO1
  go_wp2_with fail
  refine (HRD.out w2 HN2.out).mono ?_
  rintro e w3 h3
  obtain ⟨A3, c3, rfl, ho3⟩ := h3.mine
  have HN3 := Sec.mk (HN2.out.transN ho3.new)
  have HO3 := Sec.mk (HO2.out.step ho3.new)
  have HL3 := Sec.mk (HL.out.step ho3.new)
  have HX3 := Sec.mk ho3
  clear h3 ho3 HO2 HL
  go_wp2_with fail
  refine (frameSpec_calls (HX3.out.row.mod (B' := (· < w3.heap.size)) (fun _ h => h.2) (fun _ _ => rfl)) (fun _ h => h)).mono ?_
  rintro e w4 h4
  obtain ⟨A4, c4, rfl, ho4⟩ := h4.mine
  have HN4 := Sec.mk (HN3.out.transN ho4.new)
  have HO4 := Sec.mk (HO3.out.step ho4.new)
  have HL4 := Sec.mk (HL3.out.step ho4.new)
  clear h4 ho4 HO3 HL3 HX3
  by_cases hnil : logL recs = []
  · rw [hnil] at HL4 ⊢
    have hl0 : (([] : Bytes).length : Int) = 0 := rfl
    go_wp2
    go_ret
    exact ⟨by simp, HN4.out⟩
  have HOK : Sec (okLog recs) := ⟨Classical.byContradiction fun h => hnil (if_neg h)⟩
  have hlq : logL recs = recs.flatMap frameL := if_pos HOK.out
  have hll : (recs.flatMap frameL).length ≤ 40000 := HOK.out.2
  rw [hlq] at HL4 hnil ⊢
  have HEA := Sec.mk (endOf_all recs)
  have HES := Sec.mk (fun k (h : k < recs.length) => endOf_succ recs h)
  have HEL := Sec.mk (fun k => endOf_le recs k)
  have HUP := Sec.mk (fun (k n : Nat) (hk : k ≤ recs.length) h1 h2 hn => UnframeL_prefix (n := n) HOK.out hk h1 h2 hn)
  generalize hlog : recs.flatMap frameL = log at *
  have hpos : ¬ ((log.length : Int) = 0) := by
    have : log.length ≠ 0 := fun h => hnil (List.eq_nil_of_length_eq_zero h)
    omega
  have hposb : ((log.length : Int) == 0) = false := by simp only [beq_eq_false_iff_ne, ne_eq]; exact hpos
  have hcl := HL4.out.len
  clear hnil hlq hlog
  go_wp2
  go_loopw [5, 6, 7] (fun e k n wr => ∃ (k' n' : Nat), k' ≤ recs.length ∧ n' ≤ log.length + 1 ∧ e = .int .i64 (endOf recs k' : Int) ∧ k = .int .i64 (k' : Int) ∧ n = .int .i64 (n' : Int) ∧ endOf recs k' ≤ n' ∧ Sec (k' < recs.length → n' ≤ endOf recs (k' + 1)) ∧ Sec (New w4 wr)) (fun _ _ n _ => log.length + 1 - (intOf n).toNat)
  case atStart => exact ⟨0, 0, by omega, by omega, rfl, rfl, rfl, Nat.le_refl _, ⟨fun _ => Nat.zero_le _⟩, ⟨Mod.refl _ _⟩⟩
  case round =>
    obtain ⟨k, n, hk, hn, rfl, rfl, rfl, he1, HE2, HM⟩ := hrel
    by_cases hend : log.length < n
    · have hkk : k = recs.length := by
        rcases Nat.lt_or_ge k recs.length with h | h
        · have h1 := HE2.out h
          have h2 := HEL.out (k + 1)
          omega
        · omega
      subst hkk
      have hEl := HEA.out
      have HNN := Sec.mk (HN4.out.transN HM.out)
      go_wp2
      go_ret
      exact ⟨by simp, HNN.out⟩
    have hni : ¬ (log.length : Int) < (n : Int) := by omega
    have HOr := Sec.mk (HO4.out.step HM.out)
    have HLr := Sec.mk (HL4.out.step HM.out)
    have hsr := HM.out.size
    have hs4 := HN4.out.size
    by_cases hkl : k < recs.length
    · obtain ⟨ad, A', c', rfl, hx0, hxc, hrow⟩ := bss_at (HOr.out.row) (fun i hi => rfl) hkl
      have HS := Sec.mk (HES.out k hkl)
      have hxl := (HOK.out.1 recs[k] (List.getElem_mem _)).2
      have hkli : (k : Int) < (recs.length : Int) := by omega
      have HX : Sec (∃ q, q = recs[k].length) := ⟨⟨_, rfl⟩⟩
      obtain ⟨q, hq⟩ := HX.out
      rw [← hq] at hx0 HS hxl
      clear hrow hxc HX hq
      by_cases hm : n = endOf recs k + 6 + q
      · have hmb : ((n : Int) == (endOf recs k : Int) + 6 + (q : Int)) = true := by simp only [beq_iff_eq]; omega
        have hne2 : n = endOf recs (k + 1) := by rw [HS.out]; exact hm
        have hKl : k + 1 ≤ recs.length := hkl
        have hE1 : endOf recs (k + 1) ≤ n := by omega
        have hE2 : k + 1 < recs.length → n < endOf recs (k + 1 + 1) := fun h => by rw [HES.out (k + 1) h]; omega
        have hns : (n : Int) = (endOf recs (k + 1) : Int) := by omega
        have HU : Sec (UnframeL (log.take n) = (recs.take (k + 1), (n : Int))) := ⟨by rw [HUP.out (k + 1) n hKl hE1 hE2 (by omega), ← hns]⟩
        have HNX : Sec (k + 1 < recs.length → n + 1 ≤ endOf recs (k + 1 + 1)) := ⟨fun h => by have := hE2 h; omega⟩
        have HKC : Sec (k + 1 ≤ c1) := ⟨by have := HO4.out.len; omega⟩
        have HNS := Sec.mk (congrArg (Value.int .i64) hns)
        clear hE2 hm hne2 hns
        by_cases h400 : 400 < n
        rotate_left
        · have h4i : ¬ (400 : Int) < (n : Int) := by omega
          go_wp2_with fail
          refine (unframe_as (HLr.out.row.take (m := n) (by omega)) (fun k hk => hk.2) (by omega) (by omega)).mono ?_
          rw [HU.out]
          rintro e w5 ⟨v5, rfl, ho5, hm5⟩
          obtain ⟨A5, c5, rfl, hrow5⟩ := check_row ho5.rd hKl
          have HM5 := Sec.mk (HM.out.transN hm5)
          have HO5 := Sec.mk (HOr.out.step hm5)
          have hs5 := hm5.size
          have HV5 := Sec.mk hrow5
          have HBK := Sec.mk (Blk.new w5 36 [.slice A5 (k + 1) c5, .int .i64 (n : Int)])
          have HNA := Sec.mk ((Mod.refl (fun _ => False) w5).alloc (.cells #[.slice A5 (k + 1) c5, .int .i64 (n : Int)] 36))
          clear ho5 hm5 hrow5
          go_wp2
          have HBC : Sec (∀ W, New (w5.alloc (.cells #[.slice A5 (k + 1) c5, .int .i64 (n : Int)] 36)) W → W.cell? ⟨w5.heap.size, 0, none⟩ = some (.slice A5 (k + 1) c5) ∧ W.cell? ⟨w5.heap.size, 1, none⟩ = some (.int .i64 (n : Int))) := ⟨fun W hW => ⟨(HBK.out.mod hW id).cell 0, (HBK.out.mod hW id).cell 1⟩⟩
          have HSS : Sec (New (w5.alloc (.cells #[.slice A5 (k + 1) c5, .int .i64 (n : Int)] 36)) (w5.alloc (.cells #[.slice A5 (k + 1) c5, .int .i64 (n : Int)] 36)).drew) := ⟨(Mod.refl _ _).drew⟩
          refine reg_start [] (fun W => Sec (New (w5.alloc (.cells #[.slice A5 (k + 1) c5, .int .i64 (n : Int)] 36)) W)) (by kernel_rfl) ?_
          refine reg_take (.pointer (some ⟨w5.heap.size, 1, none⟩)) (i := 0) (n := 66) HSS rfl (by kernel_rfl) (by kernel_rfl) (by kernel_rfl) (by kernel_rfl) (fun _ _ _ h => h) (fun W hW => exec_field rfl rfl (logField1 _ _)) ?_
          simp only [Act.put, List.setIfInBounds_toArray, List.set_cons_zero, List.set_cons_succ]
          refine reg_take (.int .i64 (n : Int)) (i := 1) (n := 67) HSS rfl (by kernel_rfl) (by kernel_rfl) (by kernel_rfl) (by kernel_rfl) (fun _ _ _ h => h) (fun W hW => exec_load rfl rfl (loadInt (HBC.out W hW.out).2)) ?_
          simp only [Act.put, List.setIfInBounds_toArray, List.set_cons_zero, List.set_cons_succ]
          refine reg_take (.int .i64 (n : Int)) (i := 2) (n := 68) HSS rfl (by kernel_rfl) (by kernel_rfl) (by kernel_rfl) (by kernel_rfl) (fun _ _ _ h => h) (fun W hW => exec_move rfl rfl) ?_
          simp only [Act.put, List.setIfInBounds_toArray, List.set_cons_zero, List.set_cons_succ]
          refine reg_take (.bool false) (i := 3) (n := 69) HSS rfl (by kernel_rfl) (by kernel_rfl) (by kernel_rfl) (by kernel_rfl) (fun _ _ _ h => h) (fun W hW => exec_bin rfl rfl rfl (intNe_run _ _ _ _)) ?_
          simp only [Act.put, List.setIfInBounds_toArray, List.set_cons_zero, List.set_cons_succ]
          refine reg_take (.bool false) (i := 4) (n := 70) HSS rfl (by kernel_rfl) (by kernel_rfl) (by kernel_rfl) (by kernel_rfl) (fun _ _ _ h => h) (fun W hW => exec_move rfl rfl) ?_
          simp only [Act.put, List.setIfInBounds_toArray, List.set_cons_zero, List.set_cons_succ]
          refine reg_takeG (.pointer (some ⟨w5.heap.size, 0, none⟩)) (i := 5) (n := 71) HSS rfl (by rfl) (by kernel_rfl) (by kernel_rfl) (by kernel_rfl) (by kernel_rfl) (fun _ _ _ h => h) (fun W hW => exec_field rfl rfl (logField0 _ _)) ?_
          simp only [Act.put, List.setIfInBounds_toArray, List.set_cons_zero, List.set_cons_succ]
          refine reg_takeG (.slice A5 (k + 1) c5) (i := 6) (n := 72) HSS rfl (by rfl) (by kernel_rfl) (by kernel_rfl) (by kernel_rfl) (by kernel_rfl) (fun _ _ _ h => h) (fun W hW => exec_load rfl rfl (loadBss (HBC.out W hW.out).1)) ?_
          simp only [Act.put, List.setIfInBounds_toArray, List.set_cons_zero, List.set_cons_succ]
          refine reg_takeG (.slice (some ad) recs.length c1) (i := 7) (n := 73) HSS rfl (by rfl) (by kernel_rfl) (by kernel_rfl) (by kernel_rfl) (by kernel_rfl) (fun _ _ _ h => h) (fun W hW => exec_move rfl rfl) ?_
          simp only [Act.put, List.setIfInBounds_toArray, List.set_cons_zero, List.set_cons_succ]
          refine reg_takeG (.int .i64 ((k : Int) + 1)) (i := 8) (n := 74) HSS rfl (by rfl) (by kernel_rfl) (by kernel_rfl) (by kernel_rfl) (by kernel_rfl) (fun _ _ _ h => h) (fun W hW => exec_move rfl rfl) ?_
          simp only [Act.put, List.setIfInBounds_toArray, List.set_cons_zero, List.set_cons_succ]
          refine reg_takeG (.slice (some ad) (k + 1) c1) (i := 9) (n := 75) HSS rfl (by rfl) (by kernel_rfl) (by kernel_rfl) (by kernel_rfl) (by kernel_rfl) (fun _ _ _ h => h) (fun W hW => exec_slice rfl rfl rfl rfl rfl (slice_to Try.underlying23 (k := k + 1) HKC.out (by kernel_rfl))) ?_
          simp only [Act.put, List.setIfInBounds_toArray, List.set_cons_zero, List.set_cons_succ]
          refine reg_stepG (i := 10) rfl (by rfl) (by kernel_rfl) (fun K hK => ?_)
          refine wp_call (n := 76) (vals := [.slice A5 (k + 1) c5, .slice (some ad) (k + 1) c1]) rfl rfl rfl (by kernel_rfl) (sameTexts_calls (B := (· < w5.heap.size)) (B' := (· < w5.heap.size)) (HV5.out.mod (fun _ h => h) (fun k hk => (HNA.out.transN HSS.out).block k hk id)) ((HO5.out.row.take (m := k + 1) hKl).mod (fun k hk => hk.2) (fun k hk => (HNA.out.transN HSS.out).block k hk.2 id)) (fun k hk => by simp; omega) (fun k hk => by simp; omega)) ?_
          rintro e w6 ⟨rfl, hm6⟩
          have HM6 : Sec (New w4 w6) := ⟨((HM5.out.transN HNA.out).transN HSS.out).transN hm6⟩
          have HS6 := Sec.mk (HSS.out.transN hm6)
          refine ⟨_, rfl, hK.out _ _ (fun _ => HS6) ?_⟩
          clear hK K hm6
          simp only [Act.put, List.setIfInBounds_toArray, List.set_cons_zero, List.set_cons_succ]
          refine reg_stepG (i := 11) rfl (by rfl) (by kernel_rfl) (fun K hK => ?_)
          refine wp_val (n := 77) (v := .bool (!true)) (exec_un rfl rfl (not_run true _)) rfl (hK.out _ _ (fun _ => HS6) ?_)
          clear hK K
          simp only [Act.put, List.setIfInBounds_toArray, List.set_cons_zero, List.set_cons_succ]
          refine reg_step (i := 12) rfl (by kernel_rfl) (fun K hK => ?_)
          refine wp_val (n := 78) (v := .bool false) (exec_pick rfl rfl rfl rfl rfl) rfl (hK.out _ _ (fun _ => HS6) ?_)
          clear hK K
          simp only [Act.put, List.setIfInBounds_toArray, List.set_cons_zero, List.set_cons_succ]
          refine reg_done (by kernel_rfl) ?_ _
          go_wp2
          go_roundw
          case rel => exact ⟨k + 1, n + 1, hKl, by omega, HNS.out, by go_num, by go_num, by omega, HNX, HM6⟩
          case measure => simp [intOf]; omega
        have h4i : (400 : Int) < (n : Int) := by omega
        go_wp2_with fail
        refine (unframe_as (HLr.out.row.take (m := n) (by omega)) (fun k hk => hk.2) (by omega) (by omega)).mono ?_
        rw [HU.out]
        rintro e w5 ⟨v5, rfl, ho5, hm5⟩
        obtain ⟨A5, c5, rfl, hrow5⟩ := check_row ho5.rd hKl
        have HM5 := Sec.mk (HM.out.transN hm5)
        have HO5 := Sec.mk (HOr.out.step hm5)
        have hs5 := hm5.size
        have HV5 := Sec.mk hrow5
        have HBK := Sec.mk (Blk.new w5 36 [.slice A5 (k + 1) c5, .int .i64 (n : Int)])
        have HNA := Sec.mk ((Mod.refl (fun _ => False) w5).alloc (.cells #[.slice A5 (k + 1) c5, .int .i64 (n : Int)] 36))
        clear ho5 hm5 hrow5
        go_wp2
        have HBC : Sec (∀ W, New (w5.alloc (.cells #[.slice A5 (k + 1) c5, .int .i64 (n : Int)] 36)) W → W.cell? ⟨w5.heap.size, 0, none⟩ = some (.slice A5 (k + 1) c5) ∧ W.cell? ⟨w5.heap.size, 1, none⟩ = some (.int .i64 (n : Int))) := ⟨fun W hW => ⟨(HBK.out.mod hW id).cell 0, (HBK.out.mod hW id).cell 1⟩⟩
        have HSS : Sec (New (w5.alloc (.cells #[.slice A5 (k + 1) c5, .int .i64 (n : Int)] 36)) (w5.alloc (.cells #[.slice A5 (k + 1) c5, .int .i64 (n : Int)] 36)).drew) := ⟨(Mod.refl _ _).drew⟩
        refine reg_start [] (fun W => Sec (New (w5.alloc (.cells #[.slice A5 (k + 1) c5, .int .i64 (n : Int)] 36)) W)) (by kernel_rfl) ?_
        refine reg_take (.pointer (some ⟨w5.heap.size, 1, none⟩)) (i := 0) (n := 66) HSS rfl (by kernel_rfl) (by kernel_rfl) (by kernel_rfl) (by kernel_rfl) (fun _ _ _ h => h) (fun W hW => exec_field rfl rfl (logField1 _ _)) ?_
        simp only [Act.put, List.setIfInBounds_toArray, List.set_cons_zero, List.set_cons_succ]
        refine reg_take (.int .i64 (n : Int)) (i := 1) (n := 67) HSS rfl (by kernel_rfl) (by kernel_rfl) (by kernel_rfl) (by kernel_rfl) (fun _ _ _ h => h) (fun W hW => exec_load rfl rfl (loadInt (HBC.out W hW.out).2)) ?_
        simp only [Act.put, List.setIfInBounds_toArray, List.set_cons_zero, List.set_cons_succ]
        refine reg_take (.int .i64 (n : Int)) (i := 2) (n := 68) HSS rfl (by kernel_rfl) (by kernel_rfl) (by kernel_rfl) (by kernel_rfl) (fun _ _ _ h => h) (fun W hW => exec_move rfl rfl) ?_
        simp only [Act.put, List.setIfInBounds_toArray, List.set_cons_zero, List.set_cons_succ]
        refine reg_take (.bool false) (i := 3) (n := 69) HSS rfl (by kernel_rfl) (by kernel_rfl) (by kernel_rfl) (by kernel_rfl) (fun _ _ _ h => h) (fun W hW => exec_bin rfl rfl rfl (intNe_run _ _ _ _)) ?_
        simp only [Act.put, List.setIfInBounds_toArray, List.set_cons_zero, List.set_cons_succ]
        refine reg_take (.bool false) (i := 4) (n := 70) HSS rfl (by kernel_rfl) (by kernel_rfl) (by kernel_rfl) (by kernel_rfl) (fun _ _ _ h => h) (fun W hW => exec_move rfl rfl) ?_
        simp only [Act.put, List.setIfInBounds_toArray, List.set_cons_zero, List.set_cons_succ]
        refine reg_takeG (.pointer (some ⟨w5.heap.size, 0, none⟩)) (i := 5) (n := 71) HSS rfl (by rfl) (by kernel_rfl) (by kernel_rfl) (by kernel_rfl) (by kernel_rfl) (fun _ _ _ h => h) (fun W hW => exec_field rfl rfl (logField0 _ _)) ?_
        simp only [Act.put, List.setIfInBounds_toArray, List.set_cons_zero, List.set_cons_succ]
        refine reg_takeG (.slice A5 (k + 1) c5) (i := 6) (n := 72) HSS rfl (by rfl) (by kernel_rfl) (by kernel_rfl) (by kernel_rfl) (by kernel_rfl) (fun _ _ _ h => h) (fun W hW => exec_load rfl rfl (loadBss (HBC.out W hW.out).1)) ?_
        simp only [Act.put, List.setIfInBounds_toArray, List.set_cons_zero, List.set_cons_succ]
        refine reg_takeG (.slice (some ad) recs.length c1) (i := 7) (n := 73) HSS rfl (by rfl) (by kernel_rfl) (by kernel_rfl) (by kernel_rfl) (by kernel_rfl) (fun _ _ _ h => h) (fun W hW => exec_move rfl rfl) ?_
        simp only [Act.put, List.setIfInBounds_toArray, List.set_cons_zero, List.set_cons_succ]
        refine reg_takeG (.int .i64 ((k : Int) + 1)) (i := 8) (n := 74) HSS rfl (by rfl) (by kernel_rfl) (by kernel_rfl) (by kernel_rfl) (by kernel_rfl) (fun _ _ _ h => h) (fun W hW => exec_move rfl rfl) ?_
        simp only [Act.put, List.setIfInBounds_toArray, List.set_cons_zero, List.set_cons_succ]
        refine reg_takeG (.slice (some ad) (k + 1) c1) (i := 9) (n := 75) HSS rfl (by rfl) (by kernel_rfl) (by kernel_rfl) (by kernel_rfl) (by kernel_rfl) (fun _ _ _ h => h) (fun W hW => exec_slice rfl rfl rfl rfl rfl (slice_to Try.underlying23 (k := k + 1) HKC.out (by kernel_rfl))) ?_
        simp only [Act.put, List.setIfInBounds_toArray, List.set_cons_zero, List.set_cons_succ]
        refine reg_stepG (i := 10) rfl (by rfl) (by kernel_rfl) (fun K hK => ?_)
        refine wp_call (n := 76) (vals := [.slice A5 (k + 1) c5, .slice (some ad) (k + 1) c1]) rfl rfl rfl (by kernel_rfl) (sameTexts_calls (B := (· < w5.heap.size)) (B' := (· < w5.heap.size)) (HV5.out.mod (fun _ h => h) (fun k hk => (HNA.out.transN HSS.out).block k hk id)) ((HO5.out.row.take (m := k + 1) hKl).mod (fun k hk => hk.2) (fun k hk => (HNA.out.transN HSS.out).block k hk.2 id)) (fun k hk => by simp; omega) (fun k hk => by simp; omega)) ?_
        rintro e w6 ⟨rfl, hm6⟩
        have HM6 : Sec (New w4 w6) := ⟨((HM5.out.transN HNA.out).transN HSS.out).transN hm6⟩
        have HS6 := Sec.mk (HSS.out.transN hm6)
        refine ⟨_, rfl, hK.out _ _ (fun _ => HS6) ?_⟩
        clear hK K hm6
        simp only [Act.put, List.setIfInBounds_toArray, List.set_cons_zero, List.set_cons_succ]
        refine reg_stepG (i := 11) rfl (by rfl) (by kernel_rfl) (fun K hK => ?_)
        refine wp_val (n := 77) (v := .bool (!true)) (exec_un rfl rfl (not_run true _)) rfl (hK.out _ _ (fun _ => HS6) ?_)
        clear hK K
        simp only [Act.put, List.setIfInBounds_toArray, List.set_cons_zero, List.set_cons_succ]
        refine reg_step (i := 12) rfl (by kernel_rfl) (fun K hK => ?_)
        refine wp_val (n := 78) (v := .bool false) (exec_pick rfl rfl rfl rfl rfl) rfl (hK.out _ _ (fun _ => HS6) ?_)
        clear hK K
        simp only [Act.put, List.setIfInBounds_toArray, List.set_cons_zero, List.set_cons_succ]
        refine reg_done (by kernel_rfl) ?_ _
        go_wp2
        go_roundw
        case rel => exact ⟨k + 1, n + 1, hKl, by omega, HNS.out, by go_num, by go_num, by omega, HNX, HM6⟩
        case measure => simp [intOf]; omega
      · have hmb : ((n : Int) == (endOf recs k : Int) + 6 + (q : Int)) = false := by simp only [beq_eq_false_iff_ne, ne_eq]; omega
        have hKl : k ≤ recs.length := hk
        have hE1 : endOf recs k ≤ n := he1
        have hE2 : k < recs.length → n < endOf recs (k + 1) := fun h => by have := HE2.out h; rw [HS.out] at this ⊢; omega
        clear hm
        have HU := Sec.mk (HUP.out (k) n hKl hE1 hE2 (by omega))
        have HNX : Sec (k < recs.length → n + 1 ≤ endOf recs (k + 1)) := ⟨fun h => by have := hE2 h; omega⟩
        have HKC : Sec (k ≤ c1) := ⟨by have := HO4.out.len; omega⟩
        clear hE2
        by_cases h400 : 400 < n
        rotate_left
        · have h4i : ¬ (400 : Int) < (n : Int) := by omega
          go_wp2_with fail
          refine (unframe_as (HLr.out.row.take (m := n) (by omega)) (fun k hk => hk.2) (by omega) (by omega)).mono ?_
          rw [HU.out]
          rintro e w5 ⟨v5, rfl, ho5, hm5⟩
          obtain ⟨A5, c5, rfl, hrow5⟩ := check_row ho5.rd hKl
          have HM5 := Sec.mk (HM.out.transN hm5)
          have HO5 := Sec.mk (HOr.out.step hm5)
          have hs5 := hm5.size
          have HV5 := Sec.mk hrow5
          have HBK := Sec.mk (Blk.new w5 36 [.slice A5 (k) c5, .int .i64 (endOf recs (k) : Int)])
          have HNA := Sec.mk ((Mod.refl (fun _ => False) w5).alloc (.cells #[.slice A5 (k) c5, .int .i64 (endOf recs (k) : Int)] 36))
          clear ho5 hm5 hrow5
          go_wp2
          have HBC : Sec (∀ W, New (w5.alloc (.cells #[.slice A5 (k) c5, .int .i64 (endOf recs (k) : Int)] 36)) W → W.cell? ⟨w5.heap.size, 0, none⟩ = some (.slice A5 (k) c5) ∧ W.cell? ⟨w5.heap.size, 1, none⟩ = some (.int .i64 (endOf recs (k) : Int))) := ⟨fun W hW => ⟨(HBK.out.mod hW id).cell 0, (HBK.out.mod hW id).cell 1⟩⟩
          have HSS : Sec (New (w5.alloc (.cells #[.slice A5 (k) c5, .int .i64 (endOf recs (k) : Int)] 36)) (w5.alloc (.cells #[.slice A5 (k) c5, .int .i64 (endOf recs (k) : Int)] 36)).drew) := ⟨(Mod.refl _ _).drew⟩
          refine reg_start [] (fun W => Sec (New (w5.alloc (.cells #[.slice A5 (k) c5, .int .i64 (endOf recs (k) : Int)] 36)) W)) (by kernel_rfl) ?_
          refine reg_take (.pointer (some ⟨w5.heap.size, 1, none⟩)) (i := 0) (n := 66) HSS rfl (by kernel_rfl) (by kernel_rfl) (by kernel_rfl) (by kernel_rfl) (fun _ _ _ h => h) (fun W hW => exec_field rfl rfl (logField1 _ _)) ?_
          simp only [Act.put, List.setIfInBounds_toArray, List.set_cons_zero, List.set_cons_succ]
          refine reg_take (.int .i64 (endOf recs (k) : Int)) (i := 1) (n := 67) HSS rfl (by kernel_rfl) (by kernel_rfl) (by kernel_rfl) (by kernel_rfl) (fun _ _ _ h => h) (fun W hW => exec_load rfl rfl (loadInt (HBC.out W hW.out).2)) ?_
          simp only [Act.put, List.setIfInBounds_toArray, List.set_cons_zero, List.set_cons_succ]
          refine reg_take (.int .i64 (endOf recs (k) : Int)) (i := 2) (n := 68) HSS rfl (by kernel_rfl) (by kernel_rfl) (by kernel_rfl) (by kernel_rfl) (fun _ _ _ h => h) (fun W hW => exec_move rfl rfl) ?_
          simp only [Act.put, List.setIfInBounds_toArray, List.set_cons_zero, List.set_cons_succ]
          refine reg_take (.bool false) (i := 3) (n := 69) HSS rfl (by kernel_rfl) (by kernel_rfl) (by kernel_rfl) (by kernel_rfl) (fun _ _ _ h => h) (fun W hW => exec_bin rfl rfl rfl (intNe_run _ _ _ _)) ?_
          simp only [Act.put, List.setIfInBounds_toArray, List.set_cons_zero, List.set_cons_succ]
          refine reg_take (.bool false) (i := 4) (n := 70) HSS rfl (by kernel_rfl) (by kernel_rfl) (by kernel_rfl) (by kernel_rfl) (fun _ _ _ h => h) (fun W hW => exec_move rfl rfl) ?_
          simp only [Act.put, List.setIfInBounds_toArray, List.set_cons_zero, List.set_cons_succ]
          refine reg_takeG (.pointer (some ⟨w5.heap.size, 0, none⟩)) (i := 5) (n := 71) HSS rfl (by rfl) (by kernel_rfl) (by kernel_rfl) (by kernel_rfl) (by kernel_rfl) (fun _ _ _ h => h) (fun W hW => exec_field rfl rfl (logField0 _ _)) ?_
          simp only [Act.put, List.setIfInBounds_toArray, List.set_cons_zero, List.set_cons_succ]
          refine reg_takeG (.slice A5 (k) c5) (i := 6) (n := 72) HSS rfl (by rfl) (by kernel_rfl) (by kernel_rfl) (by kernel_rfl) (by kernel_rfl) (fun _ _ _ h => h) (fun W hW => exec_load rfl rfl (loadBss (HBC.out W hW.out).1)) ?_
          simp only [Act.put, List.setIfInBounds_toArray, List.set_cons_zero, List.set_cons_succ]
          refine reg_takeG (.slice (some ad) recs.length c1) (i := 7) (n := 73) HSS rfl (by rfl) (by kernel_rfl) (by kernel_rfl) (by kernel_rfl) (by kernel_rfl) (fun _ _ _ h => h) (fun W hW => exec_move rfl rfl) ?_
          simp only [Act.put, List.setIfInBounds_toArray, List.set_cons_zero, List.set_cons_succ]
          refine reg_takeG (.int .i64 (((k : Nat) : Int))) (i := 8) (n := 74) HSS rfl (by rfl) (by kernel_rfl) (by kernel_rfl) (by kernel_rfl) (by kernel_rfl) (fun _ _ _ h => h) (fun W hW => exec_move rfl rfl) ?_
          simp only [Act.put, List.setIfInBounds_toArray, List.set_cons_zero, List.set_cons_succ]
          refine reg_takeG (.slice (some ad) (k) c1) (i := 9) (n := 75) HSS rfl (by rfl) (by kernel_rfl) (by kernel_rfl) (by kernel_rfl) (by kernel_rfl) (fun _ _ _ h => h) (fun W hW => exec_slice rfl rfl rfl rfl rfl (slice_to Try.underlying23 (k := k) HKC.out (by kernel_rfl))) ?_
          simp only [Act.put, List.setIfInBounds_toArray, List.set_cons_zero, List.set_cons_succ]
          refine reg_stepG (i := 10) rfl (by rfl) (by kernel_rfl) (fun K hK => ?_)
          refine wp_call (n := 76) (vals := [.slice A5 (k) c5, .slice (some ad) (k) c1]) rfl rfl rfl (by kernel_rfl) (sameTexts_calls (B := (· < w5.heap.size)) (B' := (· < w5.heap.size)) (HV5.out.mod (fun _ h => h) (fun k hk => (HNA.out.transN HSS.out).block k hk id)) ((HO5.out.row.take (m := k) hKl).mod (fun k hk => hk.2) (fun k hk => (HNA.out.transN HSS.out).block k hk.2 id)) (fun k hk => by simp; omega) (fun k hk => by simp; omega)) ?_
          rintro e w6 ⟨rfl, hm6⟩
          have HM6 : Sec (New w4 w6) := ⟨((HM5.out.transN HNA.out).transN HSS.out).transN hm6⟩
          have HS6 := Sec.mk (HSS.out.transN hm6)
          refine ⟨_, rfl, hK.out _ _ (fun _ => HS6) ?_⟩
          clear hK K hm6
          simp only [Act.put, List.setIfInBounds_toArray, List.set_cons_zero, List.set_cons_succ]
          refine reg_stepG (i := 11) rfl (by rfl) (by kernel_rfl) (fun K hK => ?_)
          refine wp_val (n := 77) (v := .bool (!true)) (exec_un rfl rfl (not_run true _)) rfl (hK.out _ _ (fun _ => HS6) ?_)
          clear hK K
          simp only [Act.put, List.setIfInBounds_toArray, List.set_cons_zero, List.set_cons_succ]
          refine reg_step (i := 12) rfl (by kernel_rfl) (fun K hK => ?_)
          refine wp_val (n := 78) (v := .bool false) (exec_pick rfl rfl rfl rfl rfl) rfl (hK.out _ _ (fun _ => HS6) ?_)
          clear hK K
          simp only [Act.put, List.setIfInBounds_toArray, List.set_cons_zero, List.set_cons_succ]
          refine reg_done (by kernel_rfl) ?_ _
          go_wp2
          go_roundw
          case rel => exact ⟨k, n + 1, hKl, by omega, by go_num, by go_num, by go_num, by omega, HNX, HM6⟩
          case measure => simp [intOf]; omega
        have h4i : (400 : Int) < (n : Int) := by omega
        by_cases hne : n = endOf recs (k)
        · have hnb : ((n : Int) != (endOf recs (k) : Int)) = false := by simp [hne]
          have HNEs := Sec.mk hne
          clear hne
          go_wp2_with fail
          refine (unframe_as (HLr.out.row.take (m := n) (by omega)) (fun k hk => hk.2) (by omega) (by omega)).mono ?_
          rw [HU.out]
          rintro e w5 ⟨v5, rfl, ho5, hm5⟩
          obtain ⟨A5, c5, rfl, hrow5⟩ := check_row ho5.rd hKl
          have HM5 := Sec.mk (HM.out.transN hm5)
          have HO5 := Sec.mk (HOr.out.step hm5)
          have hs5 := hm5.size
          have HV5 := Sec.mk hrow5
          have HBK := Sec.mk (Blk.new w5 36 [.slice A5 (k) c5, .int .i64 (endOf recs (k) : Int)])
          have HNA := Sec.mk ((Mod.refl (fun _ => False) w5).alloc (.cells #[.slice A5 (k) c5, .int .i64 (endOf recs (k) : Int)] 36))
          clear ho5 hm5 hrow5
          go_wp2
          have HBC : Sec (∀ W, New (w5.alloc (.cells #[.slice A5 (k) c5, .int .i64 (endOf recs (k) : Int)] 36)) W → W.cell? ⟨w5.heap.size, 0, none⟩ = some (.slice A5 (k) c5) ∧ W.cell? ⟨w5.heap.size, 1, none⟩ = some (.int .i64 (endOf recs (k) : Int))) := ⟨fun W hW => ⟨(HBK.out.mod hW id).cell 0, (HBK.out.mod hW id).cell 1⟩⟩
          have HSS : Sec (New (w5.alloc (.cells #[.slice A5 (k) c5, .int .i64 (endOf recs (k) : Int)] 36)) (w5.alloc (.cells #[.slice A5 (k) c5, .int .i64 (endOf recs (k) : Int)] 36)).drew) := ⟨(Mod.refl _ _).drew⟩
          refine reg_start [] (fun W => Sec (New (w5.alloc (.cells #[.slice A5 (k) c5, .int .i64 (endOf recs (k) : Int)] 36)) W)) (by kernel_rfl) ?_
          refine reg_take (.pointer (some ⟨w5.heap.size, 1, none⟩)) (i := 0) (n := 66) HSS rfl (by kernel_rfl) (by kernel_rfl) (by kernel_rfl) (by kernel_rfl) (fun _ _ _ h => h) (fun W hW => exec_field rfl rfl (logField1 _ _)) ?_
          simp only [Act.put, List.setIfInBounds_toArray, List.set_cons_zero, List.set_cons_succ]
          refine reg_take (.int .i64 (endOf recs (k) : Int)) (i := 1) (n := 67) HSS rfl (by kernel_rfl) (by kernel_rfl) (by kernel_rfl) (by kernel_rfl) (fun _ _ _ h => h) (fun W hW => exec_load rfl rfl (loadInt (HBC.out W hW.out).2)) ?_
          simp only [Act.put, List.setIfInBounds_toArray, List.set_cons_zero, List.set_cons_succ]
          refine reg_take (.int .i64 (endOf recs (k) : Int)) (i := 2) (n := 68) HSS rfl (by kernel_rfl) (by kernel_rfl) (by kernel_rfl) (by kernel_rfl) (fun _ _ _ h => h) (fun W hW => exec_move rfl rfl) ?_
          simp only [Act.put, List.setIfInBounds_toArray, List.set_cons_zero, List.set_cons_succ]
          refine reg_take (.bool false) (i := 3) (n := 69) HSS rfl (by kernel_rfl) (by kernel_rfl) (by kernel_rfl) (by kernel_rfl) (fun _ _ _ h => h) (fun W hW => exec_bin rfl rfl rfl (intNe_run _ _ _ _)) ?_
          simp only [Act.put, List.setIfInBounds_toArray, List.set_cons_zero, List.set_cons_succ]
          refine reg_take (.bool false) (i := 4) (n := 70) HSS rfl (by kernel_rfl) (by kernel_rfl) (by kernel_rfl) (by kernel_rfl) (fun _ _ _ h => h) (fun W hW => exec_move rfl rfl) ?_
          simp only [Act.put, List.setIfInBounds_toArray, List.set_cons_zero, List.set_cons_succ]
          refine reg_takeG (.pointer (some ⟨w5.heap.size, 0, none⟩)) (i := 5) (n := 71) HSS rfl (by rfl) (by kernel_rfl) (by kernel_rfl) (by kernel_rfl) (by kernel_rfl) (fun _ _ _ h => h) (fun W hW => exec_field rfl rfl (logField0 _ _)) ?_
          simp only [Act.put, List.setIfInBounds_toArray, List.set_cons_zero, List.set_cons_succ]
          refine reg_takeG (.slice A5 (k) c5) (i := 6) (n := 72) HSS rfl (by rfl) (by kernel_rfl) (by kernel_rfl) (by kernel_rfl) (by kernel_rfl) (fun _ _ _ h => h) (fun W hW => exec_load rfl rfl (loadBss (HBC.out W hW.out).1)) ?_
          simp only [Act.put, List.setIfInBounds_toArray, List.set_cons_zero, List.set_cons_succ]
          refine reg_takeG (.slice (some ad) recs.length c1) (i := 7) (n := 73) HSS rfl (by rfl) (by kernel_rfl) (by kernel_rfl) (by kernel_rfl) (by kernel_rfl) (fun _ _ _ h => h) (fun W hW => exec_move rfl rfl) ?_
          simp only [Act.put, List.setIfInBounds_toArray, List.set_cons_zero, List.set_cons_succ]
          refine reg_takeG (.int .i64 (((k : Nat) : Int))) (i := 8) (n := 74) HSS rfl (by rfl) (by kernel_rfl) (by kernel_rfl) (by kernel_rfl) (by kernel_rfl) (fun _ _ _ h => h) (fun W hW => exec_move rfl rfl) ?_
          simp only [Act.put, List.setIfInBounds_toArray, List.set_cons_zero, List.set_cons_succ]
          refine reg_takeG (.slice (some ad) (k) c1) (i := 9) (n := 75) HSS rfl (by rfl) (by kernel_rfl) (by kernel_rfl) (by kernel_rfl) (by kernel_rfl) (fun _ _ _ h => h) (fun W hW => exec_slice rfl rfl rfl rfl rfl (slice_to Try.underlying23 (k := k) HKC.out (by kernel_rfl))) ?_
          simp only [Act.put, List.setIfInBounds_toArray, List.set_cons_zero, List.set_cons_succ]
          refine reg_stepG (i := 10) rfl (by rfl) (by kernel_rfl) (fun K hK => ?_)
          refine wp_call (n := 76) (vals := [.slice A5 (k) c5, .slice (some ad) (k) c1]) rfl rfl rfl (by kernel_rfl) (sameTexts_calls (B := (· < w5.heap.size)) (B' := (· < w5.heap.size)) (HV5.out.mod (fun _ h => h) (fun k hk => (HNA.out.transN HSS.out).block k hk id)) ((HO5.out.row.take (m := k) hKl).mod (fun k hk => hk.2) (fun k hk => (HNA.out.transN HSS.out).block k hk.2 id)) (fun k hk => by simp; omega) (fun k hk => by simp; omega)) ?_
          rintro e w6 ⟨rfl, hm6⟩
          have HM6 : Sec (New w4 w6) := ⟨((HM5.out.transN HNA.out).transN HSS.out).transN hm6⟩
          have HS6 := Sec.mk (HSS.out.transN hm6)
          refine ⟨_, rfl, hK.out _ _ (fun _ => HS6) ?_⟩
          clear hK K hm6
          simp only [Act.put, List.setIfInBounds_toArray, List.set_cons_zero, List.set_cons_succ]
          refine reg_stepG (i := 11) rfl (by rfl) (by kernel_rfl) (fun K hK => ?_)
          refine wp_val (n := 77) (v := .bool (!true)) (exec_un rfl rfl (not_run true _)) rfl (hK.out _ _ (fun _ => HS6) ?_)
          clear hK K
          simp only [Act.put, List.setIfInBounds_toArray, List.set_cons_zero, List.set_cons_succ]
          refine reg_step (i := 12) rfl (by kernel_rfl) (fun K hK => ?_)
          refine wp_val (n := 78) (v := .bool false) (exec_pick rfl rfl rfl rfl rfl) rfl (hK.out _ _ (fun _ => HS6) ?_)
          clear hK K
          simp only [Act.put, List.setIfInBounds_toArray, List.set_cons_zero, List.set_cons_succ]
          refine reg_done (by kernel_rfl) ?_ _
          go_wp2
          go_roundw
          case rel => exact ⟨k, n + 1, hKl, by omega, by go_num, by go_num, by go_num, by omega, HNX, HM6⟩
          case measure => simp [intOf]; omega
        have hnb : ((n : Int) != (endOf recs (k) : Int)) = true := by simp only [bne_iff_ne, ne_eq]; omega
        by_cases hnl : n = log.length
        · have hnc : ((n : Int) != (log.length : Int)) = false := by simp [hnl]
          have HNLs := Sec.mk hnl
          clear hnl hne
          go_wp2_with fail
          refine (unframe_as (HLr.out.row.take (m := n) (by omega)) (fun k hk => hk.2) (by omega) (by omega)).mono ?_
          rw [HU.out]
          rintro e w5 ⟨v5, rfl, ho5, hm5⟩
          obtain ⟨A5, c5, rfl, hrow5⟩ := check_row ho5.rd hKl
          have HM5 := Sec.mk (HM.out.transN hm5)
          have HO5 := Sec.mk (HOr.out.step hm5)
          have hs5 := hm5.size
          have HV5 := Sec.mk hrow5
          have HBK := Sec.mk (Blk.new w5 36 [.slice A5 (k) c5, .int .i64 (endOf recs (k) : Int)])
          have HNA := Sec.mk ((Mod.refl (fun _ => False) w5).alloc (.cells #[.slice A5 (k) c5, .int .i64 (endOf recs (k) : Int)] 36))
          clear ho5 hm5 hrow5
          go_wp2
          have HBC : Sec (∀ W, New (w5.alloc (.cells #[.slice A5 (k) c5, .int .i64 (endOf recs (k) : Int)] 36)) W → W.cell? ⟨w5.heap.size, 0, none⟩ = some (.slice A5 (k) c5) ∧ W.cell? ⟨w5.heap.size, 1, none⟩ = some (.int .i64 (endOf recs (k) : Int))) := ⟨fun W hW => ⟨(HBK.out.mod hW id).cell 0, (HBK.out.mod hW id).cell 1⟩⟩
          have HSS : Sec (New (w5.alloc (.cells #[.slice A5 (k) c5, .int .i64 (endOf recs (k) : Int)] 36)) (w5.alloc (.cells #[.slice A5 (k) c5, .int .i64 (endOf recs (k) : Int)] 36)).drew) := ⟨(Mod.refl _ _).drew⟩
          refine reg_start [] (fun W => Sec (New (w5.alloc (.cells #[.slice A5 (k) c5, .int .i64 (endOf recs (k) : Int)] 36)) W)) (by kernel_rfl) ?_
          refine reg_take (.pointer (some ⟨w5.heap.size, 1, none⟩)) (i := 0) (n := 66) HSS rfl (by kernel_rfl) (by kernel_rfl) (by kernel_rfl) (by kernel_rfl) (fun _ _ _ h => h) (fun W hW => exec_field rfl rfl (logField1 _ _)) ?_
          simp only [Act.put, List.setIfInBounds_toArray, List.set_cons_zero, List.set_cons_succ]
          refine reg_take (.int .i64 (endOf recs (k) : Int)) (i := 1) (n := 67) HSS rfl (by kernel_rfl) (by kernel_rfl) (by kernel_rfl) (by kernel_rfl) (fun _ _ _ h => h) (fun W hW => exec_load rfl rfl (loadInt (HBC.out W hW.out).2)) ?_
          simp only [Act.put, List.setIfInBounds_toArray, List.set_cons_zero, List.set_cons_succ]
          refine reg_take (.int .i64 (endOf recs (k) : Int)) (i := 2) (n := 68) HSS rfl (by kernel_rfl) (by kernel_rfl) (by kernel_rfl) (by kernel_rfl) (fun _ _ _ h => h) (fun W hW => exec_move rfl rfl) ?_
          simp only [Act.put, List.setIfInBounds_toArray, List.set_cons_zero, List.set_cons_succ]
          refine reg_take (.bool false) (i := 3) (n := 69) HSS rfl (by kernel_rfl) (by kernel_rfl) (by kernel_rfl) (by kernel_rfl) (fun _ _ _ h => h) (fun W hW => exec_bin rfl rfl rfl (intNe_run _ _ _ _)) ?_
          simp only [Act.put, List.setIfInBounds_toArray, List.set_cons_zero, List.set_cons_succ]
          refine reg_take (.bool false) (i := 4) (n := 70) HSS rfl (by kernel_rfl) (by kernel_rfl) (by kernel_rfl) (by kernel_rfl) (fun _ _ _ h => h) (fun W hW => exec_move rfl rfl) ?_
          simp only [Act.put, List.setIfInBounds_toArray, List.set_cons_zero, List.set_cons_succ]
          refine reg_takeG (.pointer (some ⟨w5.heap.size, 0, none⟩)) (i := 5) (n := 71) HSS rfl (by rfl) (by kernel_rfl) (by kernel_rfl) (by kernel_rfl) (by kernel_rfl) (fun _ _ _ h => h) (fun W hW => exec_field rfl rfl (logField0 _ _)) ?_
          simp only [Act.put, List.setIfInBounds_toArray, List.set_cons_zero, List.set_cons_succ]
          refine reg_takeG (.slice A5 (k) c5) (i := 6) (n := 72) HSS rfl (by rfl) (by kernel_rfl) (by kernel_rfl) (by kernel_rfl) (by kernel_rfl) (fun _ _ _ h => h) (fun W hW => exec_load rfl rfl (loadBss (HBC.out W hW.out).1)) ?_
          simp only [Act.put, List.setIfInBounds_toArray, List.set_cons_zero, List.set_cons_succ]
          refine reg_takeG (.slice (some ad) recs.length c1) (i := 7) (n := 73) HSS rfl (by rfl) (by kernel_rfl) (by kernel_rfl) (by kernel_rfl) (by kernel_rfl) (fun _ _ _ h => h) (fun W hW => exec_move rfl rfl) ?_
          simp only [Act.put, List.setIfInBounds_toArray, List.set_cons_zero, List.set_cons_succ]
          refine reg_takeG (.int .i64 (((k : Nat) : Int))) (i := 8) (n := 74) HSS rfl (by rfl) (by kernel_rfl) (by kernel_rfl) (by kernel_rfl) (by kernel_rfl) (fun _ _ _ h => h) (fun W hW => exec_move rfl rfl) ?_
          simp only [Act.put, List.setIfInBounds_toArray, List.set_cons_zero, List.set_cons_succ]
          refine reg_takeG (.slice (some ad) (k) c1) (i := 9) (n := 75) HSS rfl (by rfl) (by kernel_rfl) (by kernel_rfl) (by kernel_rfl) (by kernel_rfl) (fun _ _ _ h => h) (fun W hW => exec_slice rfl rfl rfl rfl rfl (slice_to Try.underlying23 (k := k) HKC.out (by kernel_rfl))) ?_
          simp only [Act.put, List.setIfInBounds_toArray, List.set_cons_zero, List.set_cons_succ]
          refine reg_stepG (i := 10) rfl (by rfl) (by kernel_rfl) (fun K hK => ?_)
          refine wp_call (n := 76) (vals := [.slice A5 (k) c5, .slice (some ad) (k) c1]) rfl rfl rfl (by kernel_rfl) (sameTexts_calls (B := (· < w5.heap.size)) (B' := (· < w5.heap.size)) (HV5.out.mod (fun _ h => h) (fun k hk => (HNA.out.transN HSS.out).block k hk id)) ((HO5.out.row.take (m := k) hKl).mod (fun k hk => hk.2) (fun k hk => (HNA.out.transN HSS.out).block k hk.2 id)) (fun k hk => by simp; omega) (fun k hk => by simp; omega)) ?_
          rintro e w6 ⟨rfl, hm6⟩
          have HM6 : Sec (New w4 w6) := ⟨((HM5.out.transN HNA.out).transN HSS.out).transN hm6⟩
          have HS6 := Sec.mk (HSS.out.transN hm6)
          refine ⟨_, rfl, hK.out _ _ (fun _ => HS6) ?_⟩
          clear hK K hm6
          simp only [Act.put, List.setIfInBounds_toArray, List.set_cons_zero, List.set_cons_succ]
          refine reg_stepG (i := 11) rfl (by rfl) (by kernel_rfl) (fun K hK => ?_)
          refine wp_val (n := 77) (v := .bool (!true)) (exec_un rfl rfl (not_run true _)) rfl (hK.out _ _ (fun _ => HS6) ?_)
          clear hK K
          simp only [Act.put, List.setIfInBounds_toArray, List.set_cons_zero, List.set_cons_succ]
          refine reg_step (i := 12) rfl (by kernel_rfl) (fun K hK => ?_)
          refine wp_val (n := 78) (v := .bool false) (exec_pick rfl rfl rfl rfl rfl) rfl (hK.out _ _ (fun _ => HS6) ?_)
          clear hK K
          simp only [Act.put, List.setIfInBounds_toArray, List.set_cons_zero, List.set_cons_succ]
          refine reg_done (by kernel_rfl) ?_ _
          go_wp2
          go_roundw
          case rel => exact ⟨k, n + 1, hKl, by omega, by go_num, by go_num, by go_num, by omega, HNX, HM6⟩
          case measure => simp [intOf]; omega
        have hnc : ((n : Int) != (log.length : Int)) = true := by simp only [bne_iff_ne, ne_eq]; omega
        clear hnl hne
        go_wp2
        go_roundw
        case rel => exact ⟨k, n + 1, hKl, by omega, by go_num, by go_num, by go_num, by omega, HNX, HM⟩
        case measure => simp [intOf]; omega
    · obtain rfl : k = recs.length := by omega
      have hKl : recs.length ≤ recs.length := Nat.le_refl _
      have hE1 : endOf recs recs.length ≤ n := he1
      have hE2 : recs.length < recs.length → n < endOf recs (recs.length + 1) := fun h => absurd h (Nat.lt_irrefl _)
      have HU := Sec.mk (HUP.out (recs.length) n hKl hE1 hE2 (by omega))
      have HNX : Sec (recs.length < recs.length → n + 1 ≤ endOf recs (recs.length + 1)) := ⟨fun h => by have := hE2 h; omega⟩
      have HKC : Sec (recs.length ≤ c1) := ⟨by have := HO4.out.len; omega⟩
      clear hE2
      by_cases h400 : 400 < n
      rotate_left
      · have h4i : ¬ (400 : Int) < (n : Int) := by omega
        go_wp2_with fail
        refine (unframe_as (HLr.out.row.take (m := n) (by omega)) (fun k hk => hk.2) (by omega) (by omega)).mono ?_
        rw [HU.out]
        rintro e w5 ⟨v5, rfl, ho5, hm5⟩
        obtain ⟨A5, c5, rfl, hrow5⟩ := check_row ho5.rd hKl
        have HM5 := Sec.mk (HM.out.transN hm5)
        have HO5 := Sec.mk (HOr.out.step hm5)
        have hs5 := hm5.size
        have HV5 := Sec.mk hrow5
        have HBK := Sec.mk (Blk.new w5 36 [.slice A5 (recs.length) c5, .int .i64 (endOf recs (recs.length) : Int)])
        have HNA := Sec.mk ((Mod.refl (fun _ => False) w5).alloc (.cells #[.slice A5 (recs.length) c5, .int .i64 (endOf recs (recs.length) : Int)] 36))
        clear ho5 hm5 hrow5
        go_wp2
        have HBC : Sec (∀ W, New (w5.alloc (.cells #[.slice A5 (recs.length) c5, .int .i64 (endOf recs (recs.length) : Int)] 36)) W → W.cell? ⟨w5.heap.size, 0, none⟩ = some (.slice A5 (recs.length) c5) ∧ W.cell? ⟨w5.heap.size, 1, none⟩ = some (.int .i64 (endOf recs (recs.length) : Int))) := ⟨fun W hW => ⟨(HBK.out.mod hW id).cell 0, (HBK.out.mod hW id).cell 1⟩⟩
        have HSS : Sec (New (w5.alloc (.cells #[.slice A5 (recs.length) c5, .int .i64 (endOf recs (recs.length) : Int)] 36)) (w5.alloc (.cells #[.slice A5 (recs.length) c5, .int .i64 (endOf recs (recs.length) : Int)] 36)).drew) := ⟨(Mod.refl _ _).drew⟩
        refine reg_start [] (fun W => Sec (New (w5.alloc (.cells #[.slice A5 (recs.length) c5, .int .i64 (endOf recs (recs.length) : Int)] 36)) W)) (by kernel_rfl) ?_
        refine reg_take (.pointer (some ⟨w5.heap.size, 1, none⟩)) (i := 0) (n := 66) HSS rfl (by kernel_rfl) (by kernel_rfl) (by kernel_rfl) (by kernel_rfl) (fun _ _ _ h => h) (fun W hW => exec_field rfl rfl (logField1 _ _)) ?_
        simp only [Act.put, List.setIfInBounds_toArray, List.set_cons_zero, List.set_cons_succ]
        refine reg_take (.int .i64 (endOf recs (recs.length) : Int)) (i := 1) (n := 67) HSS rfl (by kernel_rfl) (by kernel_rfl) (by kernel_rfl) (by kernel_rfl) (fun _ _ _ h => h) (fun W hW => exec_load rfl rfl (loadInt (HBC.out W hW.out).2)) ?_
        simp only [Act.put, List.setIfInBounds_toArray, List.set_cons_zero, List.set_cons_succ]
        refine reg_take (.int .i64 (endOf recs (recs.length) : Int)) (i := 2) (n := 68) HSS rfl (by kernel_rfl) (by kernel_rfl) (by kernel_rfl) (by kernel_rfl) (fun _ _ _ h => h) (fun W hW => exec_move rfl rfl) ?_
        simp only [Act.put, List.setIfInBounds_toArray, List.set_cons_zero, List.set_cons_succ]
        refine reg_take (.bool false) (i := 3) (n := 69) HSS rfl (by kernel_rfl) (by kernel_rfl) (by kernel_rfl) (by kernel_rfl) (fun _ _ _ h => h) (fun W hW => exec_bin rfl rfl rfl (intNe_run _ _ _ _)) ?_
        simp only [Act.put, List.setIfInBounds_toArray, List.set_cons_zero, List.set_cons_succ]
        refine reg_take (.bool false) (i := 4) (n := 70) HSS rfl (by kernel_rfl) (by kernel_rfl) (by kernel_rfl) (by kernel_rfl) (fun _ _ _ h => h) (fun W hW => exec_move rfl rfl) ?_
        simp only [Act.put, List.setIfInBounds_toArray, List.set_cons_zero, List.set_cons_succ]
        refine reg_takeG (.pointer (some ⟨w5.heap.size, 0, none⟩)) (i := 5) (n := 71) HSS rfl (by rfl) (by kernel_rfl) (by kernel_rfl) (by kernel_rfl) (by kernel_rfl) (fun _ _ _ h => h) (fun W hW => exec_field rfl rfl (logField0 _ _)) ?_
        simp only [Act.put, List.setIfInBounds_toArray, List.set_cons_zero, List.set_cons_succ]
        refine reg_takeG (.slice A5 (recs.length) c5) (i := 6) (n := 72) HSS rfl (by rfl) (by kernel_rfl) (by kernel_rfl) (by kernel_rfl) (by kernel_rfl) (fun _ _ _ h => h) (fun W hW => exec_load rfl rfl (loadBss (HBC.out W hW.out).1)) ?_
        simp only [Act.put, List.setIfInBounds_toArray, List.set_cons_zero, List.set_cons_succ]
        refine reg_takeG (.slice (A1) recs.length c1) (i := 7) (n := 73) HSS rfl (by rfl) (by kernel_rfl) (by kernel_rfl) (by kernel_rfl) (by kernel_rfl) (fun _ _ _ h => h) (fun W hW => exec_move rfl rfl) ?_
        simp only [Act.put, List.setIfInBounds_toArray, List.set_cons_zero, List.set_cons_succ]
        refine reg_takeG (.int .i64 (((recs.length : Nat) : Int))) (i := 8) (n := 74) HSS rfl (by rfl) (by kernel_rfl) (by kernel_rfl) (by kernel_rfl) (by kernel_rfl) (fun _ _ _ h => h) (fun W hW => exec_move rfl rfl) ?_
        simp only [Act.put, List.setIfInBounds_toArray, List.set_cons_zero, List.set_cons_succ]
        refine reg_takeG (.slice (A1) (recs.length) c1) (i := 9) (n := 75) HSS rfl (by rfl) (by kernel_rfl) (by kernel_rfl) (by kernel_rfl) (by kernel_rfl) (fun _ _ _ h => h) (fun W hW => exec_slice rfl rfl rfl rfl rfl (slice_to Try.underlying23 (k := recs.length) HKC.out (by kernel_rfl))) ?_
        simp only [Act.put, List.setIfInBounds_toArray, List.set_cons_zero, List.set_cons_succ]
        refine reg_stepG (i := 10) rfl (by rfl) (by kernel_rfl) (fun K hK => ?_)
        refine wp_call (n := 76) (vals := [.slice A5 (recs.length) c5, .slice (A1) (recs.length) c1]) rfl rfl rfl (by kernel_rfl) (sameTexts_calls (B := (· < w5.heap.size)) (B' := (· < w5.heap.size)) (HV5.out.mod (fun _ h => h) (fun k hk => (HNA.out.transN HSS.out).block k hk id)) ((HO5.out.row.take (m := recs.length) hKl).mod (fun k hk => hk.2) (fun k hk => (HNA.out.transN HSS.out).block k hk.2 id)) (fun k hk => by simp; omega) (fun k hk => by simp; omega)) ?_
        rintro e w6 ⟨rfl, hm6⟩
        have HM6 : Sec (New w4 w6) := ⟨((HM5.out.transN HNA.out).transN HSS.out).transN hm6⟩
        have HS6 := Sec.mk (HSS.out.transN hm6)
        refine ⟨_, rfl, hK.out _ _ (fun _ => HS6) ?_⟩
        clear hK K hm6
        simp only [Act.put, List.setIfInBounds_toArray, List.set_cons_zero, List.set_cons_succ]
        refine reg_stepG (i := 11) rfl (by rfl) (by kernel_rfl) (fun K hK => ?_)
        refine wp_val (n := 77) (v := .bool (!true)) (exec_un rfl rfl (not_run true _)) rfl (hK.out _ _ (fun _ => HS6) ?_)
        clear hK K
        simp only [Act.put, List.setIfInBounds_toArray, List.set_cons_zero, List.set_cons_succ]
        refine reg_step (i := 12) rfl (by kernel_rfl) (fun K hK => ?_)
        refine wp_val (n := 78) (v := .bool false) (exec_pick rfl rfl rfl rfl rfl) rfl (hK.out _ _ (fun _ => HS6) ?_)
        clear hK K
        simp only [Act.put, List.setIfInBounds_toArray, List.set_cons_zero, List.set_cons_succ]
        refine reg_done (by kernel_rfl) ?_ _
        go_wp2
        go_roundw
        case rel => exact ⟨recs.length, n + 1, hKl, by omega, by go_num, by go_num, by go_num, by omega, HNX, HM6⟩
        case measure => simp [intOf]; omega
      have h4i : (400 : Int) < (n : Int) := by omega
      by_cases hne : n = endOf recs (recs.length)
      · have hnb : ((n : Int) != (endOf recs (recs.length) : Int)) = false := by simp [hne]
        have HNEs := Sec.mk hne
        clear hne
        go_wp2_with fail
        refine (unframe_as (HLr.out.row.take (m := n) (by omega)) (fun k hk => hk.2) (by omega) (by omega)).mono ?_
        rw [HU.out]
        rintro e w5 ⟨v5, rfl, ho5, hm5⟩
        obtain ⟨A5, c5, rfl, hrow5⟩ := check_row ho5.rd hKl
        have HM5 := Sec.mk (HM.out.transN hm5)
        have HO5 := Sec.mk (HOr.out.step hm5)
        have hs5 := hm5.size
        have HV5 := Sec.mk hrow5
        have HBK := Sec.mk (Blk.new w5 36 [.slice A5 (recs.length) c5, .int .i64 (endOf recs (recs.length) : Int)])
        have HNA := Sec.mk ((Mod.refl (fun _ => False) w5).alloc (.cells #[.slice A5 (recs.length) c5, .int .i64 (endOf recs (recs.length) : Int)] 36))
        clear ho5 hm5 hrow5
        go_wp2
        have HBC : Sec (∀ W, New (w5.alloc (.cells #[.slice A5 (recs.length) c5, .int .i64 (endOf recs (recs.length) : Int)] 36)) W → W.cell? ⟨w5.heap.size, 0, none⟩ = some (.slice A5 (recs.length) c5) ∧ W.cell? ⟨w5.heap.size, 1, none⟩ = some (.int .i64 (endOf recs (recs.length) : Int))) := ⟨fun W hW => ⟨(HBK.out.mod hW id).cell 0, (HBK.out.mod hW id).cell 1⟩⟩
        have HSS : Sec (New (w5.alloc (.cells #[.slice A5 (recs.length) c5, .int .i64 (endOf recs (recs.length) : Int)] 36)) (w5.alloc (.cells #[.slice A5 (recs.length) c5, .int .i64 (endOf recs (recs.length) : Int)] 36)).drew) := ⟨(Mod.refl _ _).drew⟩
        refine reg_start [] (fun W => Sec (New (w5.alloc (.cells #[.slice A5 (recs.length) c5, .int .i64 (endOf recs (recs.length) : Int)] 36)) W)) (by kernel_rfl) ?_
        refine reg_take (.pointer (some ⟨w5.heap.size, 1, none⟩)) (i := 0) (n := 66) HSS rfl (by kernel_rfl) (by kernel_rfl) (by kernel_rfl) (by kernel_rfl) (fun _ _ _ h => h) (fun W hW => exec_field rfl rfl (logField1 _ _)) ?_
        simp only [Act.put, List.setIfInBounds_toArray, List.set_cons_zero, List.set_cons_succ]
        refine reg_take (.int .i64 (endOf recs (recs.length) : Int)) (i := 1) (n := 67) HSS rfl (by kernel_rfl) (by kernel_rfl) (by kernel_rfl) (by kernel_rfl) (fun _ _ _ h => h) (fun W hW => exec_load rfl rfl (loadInt (HBC.out W hW.out).2)) ?_
        simp only [Act.put, List.setIfInBounds_toArray, List.set_cons_zero, List.set_cons_succ]
        refine reg_take (.int .i64 (endOf recs (recs.length) : Int)) (i := 2) (n := 68) HSS rfl (by kernel_rfl) (by kernel_rfl) (by kernel_rfl) (by kernel_rfl) (fun _ _ _ h => h) (fun W hW => exec_move rfl rfl) ?_
        simp only [Act.put, List.setIfInBounds_toArray, List.set_cons_zero, List.set_cons_succ]
        refine reg_take (.bool false) (i := 3) (n := 69) HSS rfl (by kernel_rfl) (by kernel_rfl) (by kernel_rfl) (by kernel_rfl) (fun _ _ _ h => h) (fun W hW => exec_bin rfl rfl rfl (intNe_run _ _ _ _)) ?_
        simp only [Act.put, List.setIfInBounds_toArray, List.set_cons_zero, List.set_cons_succ]
        refine reg_take (.bool false) (i := 4) (n := 70) HSS rfl (by kernel_rfl) (by kernel_rfl) (by kernel_rfl) (by kernel_rfl) (fun _ _ _ h => h) (fun W hW => exec_move rfl rfl) ?_
        simp only [Act.put, List.setIfInBounds_toArray, List.set_cons_zero, List.set_cons_succ]
        refine reg_takeG (.pointer (some ⟨w5.heap.size, 0, none⟩)) (i := 5) (n := 71) HSS rfl (by rfl) (by kernel_rfl) (by kernel_rfl) (by kernel_rfl) (by kernel_rfl) (fun _ _ _ h => h) (fun W hW => exec_field rfl rfl (logField0 _ _)) ?_
        simp only [Act.put, List.setIfInBounds_toArray, List.set_cons_zero, List.set_cons_succ]
        refine reg_takeG (.slice A5 (recs.length) c5) (i := 6) (n := 72) HSS rfl (by rfl) (by kernel_rfl) (by kernel_rfl) (by kernel_rfl) (by kernel_rfl) (fun _ _ _ h => h) (fun W hW => exec_load rfl rfl (loadBss (HBC.out W hW.out).1)) ?_
        simp only [Act.put, List.setIfInBounds_toArray, List.set_cons_zero, List.set_cons_succ]
        refine reg_takeG (.slice (A1) recs.length c1) (i := 7) (n := 73) HSS rfl (by rfl) (by kernel_rfl) (by kernel_rfl) (by kernel_rfl) (by kernel_rfl) (fun _ _ _ h => h) (fun W hW => exec_move rfl rfl) ?_
        simp only [Act.put, List.setIfInBounds_toArray, List.set_cons_zero, List.set_cons_succ]
        refine reg_takeG (.int .i64 (((recs.length : Nat) : Int))) (i := 8) (n := 74) HSS rfl (by rfl) (by kernel_rfl) (by kernel_rfl) (by kernel_rfl) (by kernel_rfl) (fun _ _ _ h => h) (fun W hW => exec_move rfl rfl) ?_
        simp only [Act.put, List.setIfInBounds_toArray, List.set_cons_zero, List.set_cons_succ]
        refine reg_takeG (.slice (A1) (recs.length) c1) (i := 9) (n := 75) HSS rfl (by rfl) (by kernel_rfl) (by kernel_rfl) (by kernel_rfl) (by kernel_rfl) (fun _ _ _ h => h) (fun W hW => exec_slice rfl rfl rfl rfl rfl (slice_to Try.underlying23 (k := recs.length) HKC.out (by kernel_rfl))) ?_
        simp only [Act.put, List.setIfInBounds_toArray, List.set_cons_zero, List.set_cons_succ]
        refine reg_stepG (i := 10) rfl (by rfl) (by kernel_rfl) (fun K hK => ?_)
        refine wp_call (n := 76) (vals := [.slice A5 (recs.length) c5, .slice (A1) (recs.length) c1]) rfl rfl rfl (by kernel_rfl) (sameTexts_calls (B := (· < w5.heap.size)) (B' := (· < w5.heap.size)) (HV5.out.mod (fun _ h => h) (fun k hk => (HNA.out.transN HSS.out).block k hk id)) ((HO5.out.row.take (m := recs.length) hKl).mod (fun k hk => hk.2) (fun k hk => (HNA.out.transN HSS.out).block k hk.2 id)) (fun k hk => by simp; omega) (fun k hk => by simp; omega)) ?_
        rintro e w6 ⟨rfl, hm6⟩
        have HM6 : Sec (New w4 w6) := ⟨((HM5.out.transN HNA.out).transN HSS.out).transN hm6⟩
        have HS6 := Sec.mk (HSS.out.transN hm6)
        refine ⟨_, rfl, hK.out _ _ (fun _ => HS6) ?_⟩
        clear hK K hm6
        simp only [Act.put, List.setIfInBounds_toArray, List.set_cons_zero, List.set_cons_succ]
        refine reg_stepG (i := 11) rfl (by rfl) (by kernel_rfl) (fun K hK => ?_)
        refine wp_val (n := 77) (v := .bool (!true)) (exec_un rfl rfl (not_run true _)) rfl (hK.out _ _ (fun _ => HS6) ?_)
        clear hK K
        simp only [Act.put, List.setIfInBounds_toArray, List.set_cons_zero, List.set_cons_succ]
        refine reg_step (i := 12) rfl (by kernel_rfl) (fun K hK => ?_)
        refine wp_val (n := 78) (v := .bool false) (exec_pick rfl rfl rfl rfl rfl) rfl (hK.out _ _ (fun _ => HS6) ?_)
        clear hK K
        simp only [Act.put, List.setIfInBounds_toArray, List.set_cons_zero, List.set_cons_succ]
        refine reg_done (by kernel_rfl) ?_ _
        go_wp2
        go_roundw
        case rel => exact ⟨recs.length, n + 1, hKl, by omega, by go_num, by go_num, by go_num, by omega, HNX, HM6⟩
        case measure => simp [intOf]; omega
      have hnb : ((n : Int) != (endOf recs (recs.length) : Int)) = true := by simp only [bne_iff_ne, ne_eq]; omega
      by_cases hnl : n = log.length
      · have hnc : ((n : Int) != (log.length : Int)) = false := by simp [hnl]
        have HNLs := Sec.mk hnl
        clear hnl hne
        go_wp2_with fail
        refine (unframe_as (HLr.out.row.take (m := n) (by omega)) (fun k hk => hk.2) (by omega) (by omega)).mono ?_
        rw [HU.out]
        rintro e w5 ⟨v5, rfl, ho5, hm5⟩
        obtain ⟨A5, c5, rfl, hrow5⟩ := check_row ho5.rd hKl
        have HM5 := Sec.mk (HM.out.transN hm5)
        have HO5 := Sec.mk (HOr.out.step hm5)
        have hs5 := hm5.size
        have HV5 := Sec.mk hrow5
        have HBK := Sec.mk (Blk.new w5 36 [.slice A5 (recs.length) c5, .int .i64 (endOf recs (recs.length) : Int)])
        have HNA := Sec.mk ((Mod.refl (fun _ => False) w5).alloc (.cells #[.slice A5 (recs.length) c5, .int .i64 (endOf recs (recs.length) : Int)] 36))
        clear ho5 hm5 hrow5
        go_wp2
        have HBC : Sec (∀ W, New (w5.alloc (.cells #[.slice A5 (recs.length) c5, .int .i64 (endOf recs (recs.length) : Int)] 36)) W → W.cell? ⟨w5.heap.size, 0, none⟩ = some (.slice A5 (recs.length) c5) ∧ W.cell? ⟨w5.heap.size, 1, none⟩ = some (.int .i64 (endOf recs (recs.length) : Int))) := ⟨fun W hW => ⟨(HBK.out.mod hW id).cell 0, (HBK.out.mod hW id).cell 1⟩⟩
        have HSS : Sec (New (w5.alloc (.cells #[.slice A5 (recs.length) c5, .int .i64 (endOf recs (recs.length) : Int)] 36)) (w5.alloc (.cells #[.slice A5 (recs.length) c5, .int .i64 (endOf recs (recs.length) : Int)] 36)).drew) := ⟨(Mod.refl _ _).drew⟩
        refine reg_start [] (fun W => Sec (New (w5.alloc (.cells #[.slice A5 (recs.length) c5, .int .i64 (endOf recs (recs.length) : Int)] 36)) W)) (by kernel_rfl) ?_
        refine reg_take (.pointer (some ⟨w5.heap.size, 1, none⟩)) (i := 0) (n := 66) HSS rfl (by kernel_rfl) (by kernel_rfl) (by kernel_rfl) (by kernel_rfl) (fun _ _ _ h => h) (fun W hW => exec_field rfl rfl (logField1 _ _)) ?_
        simp only [Act.put, List.setIfInBounds_toArray, List.set_cons_zero, List.set_cons_succ]
        refine reg_take (.int .i64 (endOf recs (recs.length) : Int)) (i := 1) (n := 67) HSS rfl (by kernel_rfl) (by kernel_rfl) (by kernel_rfl) (by kernel_rfl) (fun _ _ _ h => h) (fun W hW => exec_load rfl rfl (loadInt (HBC.out W hW.out).2)) ?_
        simp only [Act.put, List.setIfInBounds_toArray, List.set_cons_zero, List.set_cons_succ]
        refine reg_take (.int .i64 (endOf recs (recs.length) : Int)) (i := 2) (n := 68) HSS rfl (by kernel_rfl) (by kernel_rfl) (by kernel_rfl) (by kernel_rfl) (fun _ _ _ h => h) (fun W hW => exec_move rfl rfl) ?_
        simp only [Act.put, List.setIfInBounds_toArray, List.set_cons_zero, List.set_cons_succ]
        refine reg_take (.bool false) (i := 3) (n := 69) HSS rfl (by kernel_rfl) (by kernel_rfl) (by kernel_rfl) (by kernel_rfl) (fun _ _ _ h => h) (fun W hW => exec_bin rfl rfl rfl (intNe_run _ _ _ _)) ?_
        simp only [Act.put, List.setIfInBounds_toArray, List.set_cons_zero, List.set_cons_succ]
        refine reg_take (.bool false) (i := 4) (n := 70) HSS rfl (by kernel_rfl) (by kernel_rfl) (by kernel_rfl) (by kernel_rfl) (fun _ _ _ h => h) (fun W hW => exec_move rfl rfl) ?_
        simp only [Act.put, List.setIfInBounds_toArray, List.set_cons_zero, List.set_cons_succ]
        refine reg_takeG (.pointer (some ⟨w5.heap.size, 0, none⟩)) (i := 5) (n := 71) HSS rfl (by rfl) (by kernel_rfl) (by kernel_rfl) (by kernel_rfl) (by kernel_rfl) (fun _ _ _ h => h) (fun W hW => exec_field rfl rfl (logField0 _ _)) ?_
        simp only [Act.put, List.setIfInBounds_toArray, List.set_cons_zero, List.set_cons_succ]
        refine reg_takeG (.slice A5 (recs.length) c5) (i := 6) (n := 72) HSS rfl (by rfl) (by kernel_rfl) (by kernel_rfl) (by kernel_rfl) (by kernel_rfl) (fun _ _ _ h => h) (fun W hW => exec_load rfl rfl (loadBss (HBC.out W hW.out).1)) ?_
        simp only [Act.put, List.setIfInBounds_toArray, List.set_cons_zero, List.set_cons_succ]
        refine reg_takeG (.slice (A1) recs.length c1) (i := 7) (n := 73) HSS rfl (by rfl) (by kernel_rfl) (by kernel_rfl) (by kernel_rfl) (by kernel_rfl) (fun _ _ _ h => h) (fun W hW => exec_move rfl rfl) ?_
        simp only [Act.put, List.setIfInBounds_toArray, List.set_cons_zero, List.set_cons_succ]
        refine reg_takeG (.int .i64 (((recs.length : Nat) : Int))) (i := 8) (n := 74) HSS rfl (by rfl) (by kernel_rfl) (by kernel_rfl) (by kernel_rfl) (by kernel_rfl) (fun _ _ _ h => h) (fun W hW => exec_move rfl rfl) ?_
        simp only [Act.put, List.setIfInBounds_toArray, List.set_cons_zero, List.set_cons_succ]
        refine reg_takeG (.slice (A1) (recs.length) c1) (i := 9) (n := 75) HSS rfl (by rfl) (by kernel_rfl) (by kernel_rfl) (by kernel_rfl) (by kernel_rfl) (fun _ _ _ h => h) (fun W hW => exec_slice rfl rfl rfl rfl rfl (slice_to Try.underlying23 (k := recs.length) HKC.out (by kernel_rfl))) ?_
        simp only [Act.put, List.setIfInBounds_toArray, List.set_cons_zero, List.set_cons_succ]
        refine reg_stepG (i := 10) rfl (by rfl) (by kernel_rfl) (fun K hK => ?_)
        refine wp_call (n := 76) (vals := [.slice A5 (recs.length) c5, .slice (A1) (recs.length) c1]) rfl rfl rfl (by kernel_rfl) (sameTexts_calls (B := (· < w5.heap.size)) (B' := (· < w5.heap.size)) (HV5.out.mod (fun _ h => h) (fun k hk => (HNA.out.transN HSS.out).block k hk id)) ((HO5.out.row.take (m := recs.length) hKl).mod (fun k hk => hk.2) (fun k hk => (HNA.out.transN HSS.out).block k hk.2 id)) (fun k hk => by simp; omega) (fun k hk => by simp; omega)) ?_
        rintro e w6 ⟨rfl, hm6⟩
        have HM6 : Sec (New w4 w6) := ⟨((HM5.out.transN HNA.out).transN HSS.out).transN hm6⟩
        have HS6 := Sec.mk (HSS.out.transN hm6)
        refine ⟨_, rfl, hK.out _ _ (fun _ => HS6) ?_⟩
        clear hK K hm6
        simp only [Act.put, List.setIfInBounds_toArray, List.set_cons_zero, List.set_cons_succ]
        refine reg_stepG (i := 11) rfl (by rfl) (by kernel_rfl) (fun K hK => ?_)
        refine wp_val (n := 77) (v := .bool (!true)) (exec_un rfl rfl (not_run true _)) rfl (hK.out _ _ (fun _ => HS6) ?_)
        clear hK K
        simp only [Act.put, List.setIfInBounds_toArray, List.set_cons_zero, List.set_cons_succ]
        refine reg_step (i := 12) rfl (by kernel_rfl) (fun K hK => ?_)
        refine wp_val (n := 78) (v := .bool false) (exec_pick rfl rfl rfl rfl rfl) rfl (hK.out _ _ (fun _ => HS6) ?_)
        clear hK K
        simp only [Act.put, List.setIfInBounds_toArray, List.set_cons_zero, List.set_cons_succ]
        refine reg_done (by kernel_rfl) ?_ _
        go_wp2
        go_roundw
        case rel => exact ⟨recs.length, n + 1, hKl, by omega, by go_num, by go_num, by go_num, by omega, HNX, HM6⟩
        case measure => simp [intOf]; omega
      have hnc : ((n : Int) != (log.length : Int)) = true := by simp only [bne_iff_ne, ne_eq]; omega
      clear hnl hne
      go_wp2
      go_roundw
      case rel => exact ⟨recs.length, n + 1, hKl, by omega, by go_num, by go_num, by go_num, by omega, HNX, HM⟩
      case measure => simp [intOf]; omega
end Go.Proofs.Ytciaoedjiggonaa
