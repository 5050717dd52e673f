/- Lists of entries: bound anew, compared, in order. -/
import Derived.Test.YtinfibggdbakoaaDiskA
import Derived.Deep.RegionHeld3
namespace Go.Proofs.Ytinfibggdbakoaa
open Go.RowKit Mem
set_option linter.unusedVariables false
set_option linter.unusedSimpArgs false
theorem strGt (xs ys : Bytes) (w : World) : (binOp .gtr 9 (.string ⟨xs.toArray⟩) (.string ⟨ys.toArray⟩)).run Try.prog w = .ok (.bool (decide (ys < xs))) w := by
  have e : binOp .gtr 9 (.string ⟨xs.toArray⟩) (.string ⟨ys.toArray⟩) = pure (.bool !(Op.bytesLess (⟨xs.toArray⟩ : ByteArray).toList (⟨ys.toArray⟩ : ByteArray).toList || (⟨xs.toArray⟩ : ByteArray).toList == (⟨ys.toArray⟩ : ByteArray).toList)) := by simp [binOp, Op.stringOp]
  rw [e, bl_run, show (⟨xs.toArray⟩ : ByteArray).toList = xs from by rw [ByteArray.toList_eq], show (⟨ys.toArray⟩ : ByteArray).toList = ys from by rw [ByteArray.toList_eq], Sem.run_pure]
  congr 2
  by_cases h : ys < xs
  · have h1 : ¬ xs < ys := lb_asym h
    have h2 : (xs == ys) = false := by simp only [beq_eq_false_iff_ne, ne_eq]; intro e; rw [e] at h; exact lb_irr _ h
    simp [h, h1, h2]
  · by_cases h1 : xs < ys
    · simp [h, h1]
    · have h2 : (xs == ys) = true := by simp [lb_tri h1 h]
      simp [h, h1, h2]
theorem strGe (xs ys : Bytes) (w : World) : (binOp .geq 9 (.string ⟨xs.toArray⟩) (.string ⟨ys.toArray⟩)).run Try.prog w = .ok (.bool (decide (¬ xs < ys))) w := by
  have e : binOp .geq 9 (.string ⟨xs.toArray⟩) (.string ⟨ys.toArray⟩) = pure (.bool !(Op.bytesLess (⟨xs.toArray⟩ : ByteArray).toList (⟨ys.toArray⟩ : ByteArray).toList)) := by simp [binOp, Op.stringOp]
  rw [e, bl_run, Sem.run_pure]
  by_cases h : xs < ys
  · rw [decide_eq_true h, decide_eq_false (fun hh => hh h)]; rfl
  · rw [decide_eq_false h, decide_eq_true h]; rfl
theorem withG_at (n : LB) (v : Int) {l : List EntL} {k : Nat} (hk : k < l.length) (d : Bool) : withG n v (l.drop k) d = if d = false ∧ n < l[k].1 then (n, v) :: l[k] :: withG n v (l.drop (k + 1)) true else l[k] :: withG n v (l.drop (k + 1)) d := by
  rw [List.drop_eq_getElem_cons hk]; rfl
theorem withG_end (n : LB) (v : Int) (d : Bool) : withG n v [] d = if d then [] else [(n, v)] := rfl
set_option maxHeartbeats 2000000 in
set_option maxRecDepth 100000 in
theorem l1With_calls {A : Option Addr} {c : Nat} {xs : List EntryT} {B : Nat → Prop} {w : World} (h : Row dEntry w B A xs.length xs) (hB : ∀ k, B k → k < w.heap.size) (hl : xs.length ≤ 1048576) (nm : Bytes) (hn : nm.length ≤ 9223372036854775807) (v : Int) (hv : IntKind.i64.wrap v = v) (ho : Ord xs) : Calls Try.prog 55 #[.slice A xs.length c, .string ⟨nm.toArray⟩, .int .i64 v] w (RetOwn dEntry 70 w (withE xs nm v)) := by
  have HW := Sec.mk (withS_is ho nm v)
  have HC := Sec.mk (l1Without_calls (c := c) h hB hl nm)
  have hol := outE_len xs nm
  have HN := Sec.mk hn
  have HV := Sec.mk hv
  clear h hB ho hn hv
  go_enter Try.func55, Try.ntmps55
  go_wp2_with fail
  refine HC.out.mono ?_
  intro e w1 hret
  obtain ⟨A1, c1, rfl, hmine⟩ := hret.mine
  have HR := Sec.mk hmine.row
  have HM1 := Sec.mk hmine.new
  clear hret hmine HC
  generalize outE xs nm = ys at *
  go_wp2
  go_loopw [7, 8, 15] (fun o d i wr => ∃ (k : Nat) (A' : Option Addr) (n' c' : Nat) (acc : List EntryT) (dn : Bool), k ≤ ys.length ∧ i = .int .i64 (k : Int) ∧ o = .slice A' n' c' ∧ d = .bool dn ∧ acc.length ≤ k + dn.toNat ∧ Sec (Mine dEntry 70 w1 wr (.slice A' n' c') acc) ∧ Sec (withG nm v ys false = acc ++ withG nm v (ys.drop k) dn)) (fun _ _ i _ => ys.length - (intOf i).toNat)
  case atStart => exact ⟨0, none, 0, 0, [], false, Nat.zero_le _, rfl, rfl, rfl, by simp, ⟨Mine.nil _ _ (Mod.refl _ _)⟩, ⟨by simp⟩⟩
  case round =>
    obtain ⟨k, A', n', c', acc, dn, hk, rfl, rfl, rfl, hal, HO, HG⟩ := hrel
    by_cases hlt : k < ys.length
    · obtain ⟨ad, rfl, h0, h1, hzn, hzv⟩ := ent_at HR.out (w' := wr) (fun i hi => HO.out.new.block i hi.2 id) hlt
      have HS := Sec.mk (HG.out.trans (congrArg (acc ++ ·) (withG_at nm v hlt dn)))
      have hki : (k : Int) < (ys.length : Int) := by omega
      have HZN := Sec.mk hzn
      have HZV := Sec.mk hzv
      obtain ⟨⟨z, u⟩, hx⟩ : ∃ q, q = ys[k] := ⟨_, rfl⟩
      rw [← hx] at h0 h1 HS HZN HZV
      clear hx hzn hzv HG
      simp only at h0 h1 HS HZN HZV
      have HO2 := Sec.mk (HO.out.alloc (.cells #[.string ⟨z.toArray⟩, .int .i64 u] 70))
      have HOr := HO
      have HM1r := Sec.mk HO.out.new.size
      clear HO
      have hgt := fun w => strGt z nm w
      cases dn
      all_goals simp only [Bool.toNat_false, Bool.toNat_true, Nat.add_zero] at hal
      · by_cases hlt2 : nm < z
        · have HA : Sec (withG nm v ys false = ((acc ++ [(nm, v)]) ++ [(z, u)]) ++ withG nm v (ys.drop (k + 1)) true) := ⟨by rw [HS.out]; show acc ++ (if false = false ∧ nm < z then _ else _) = _; rw [if_pos ⟨rfl, hlt2⟩]; simp⟩
          rw [decide_eq_true hlt2] at hgt
          clear hlt2
          have hsz1 := HM1r.out
          have HP0 : Sec (OwP dEntry 70 (wr.alloc (.cells #[.string ⟨z.toArray⟩, .int .i64 u] 70)) (fun k => w1.heap.size ≤ k ∧ k ≠ wr.heap.size) (.slice A' n' c') acc) := ⟨(HOr.out.owp (X := fun k => w1.heap.size ≤ k ∧ k ≠ wr.heap.size) (fun k h1 h2 => ⟨h1, by omega⟩)).new ((Mod.refl _ _).alloc _)⟩
          have HB0 := Sec.mk (Blk.new wr 70 [.string ⟨z.toArray⟩, .int .i64 u])
          have HN0 := Sec.mk HO2.out.new
          go_wp2_with (first
            | (at_builtin; go_loud (refine wpList_appP (X := fun k => w1.heap.size ≤ k ∧ k ≠ wr.heap.size) _ rfl (.tmp 27) (.tmp 31) _ rfl Try.underlying30 elt_entry flatEntry rfl rfl (HP0.out.new ((Mod.refl _ _).alloc _)) (rowEnt _ HN.out HV.out (by simp)) (fun k hk => by simp at hk; exact ⟨by omega, by omega⟩) (show acc.length + [((nm, v) : EntryT)].length ≤ 34359738368 by simp only [List.length_singleton]; omega) ?_; intro A6 n6 c6 w6 ho6 hm6; have HO7 := Sec.mk ho6; have HB7 := Sec.mk ((HB0.out.alloc (.cells #[.string ⟨nm.toArray⟩, .int .i64 v] 70)).mod hm6 (fun h => h.2 rfl)); have HN7 := Sec.mk ((HN0.out.alloc (.cells #[.string ⟨nm.toArray⟩, .int .i64 v] 70)).trans hm6 (fun i hi hl => by have := hi.1; omega)); have y0 : w6.cell? ⟨wr.heap.size, 0, none⟩ = some (.string ⟨z.toArray⟩) := HB7.out.cell 0; have y1 : w6.cell? ⟨wr.heap.size, 1, none⟩ = some (.int .i64 u) := HB7.out.cell 1; have hs6 := hm6.size; simp at hs6; clear ho6 hm6))
            | (at_builtin; go_loud (refine wpList_appP (X := fun k => w1.heap.size ≤ k ∧ k ≠ wr.heap.size) _ rfl (.tmp 33) (.tmp 35) _ rfl Try.underlying30 elt_entry flatEntry rfl rfl (HO7.out.new ((Mod.refl _ _).alloc _)) (rowEnt _ HZN.out HZV.out (by simp)) (fun k hk => by simp at hk; exact ⟨by omega, by omega⟩) (show (acc ++ [((nm, v) : EntryT)]).length + [((z, u) : EntryT)].length ≤ 34359738368 by simp only [List.length_append, List.length_singleton]; omega) ?_; intro A8 n8 c8 w8 ho8 hm8; obtain ⟨F8, ho8, hF8⟩ := ho8; have HO9 : Sec (Mine dEntry 70 w1 w8 (.slice A8 n8 c8) ((acc ++ [((nm, v) : EntryT)]) ++ [((z, u) : EntryT)])) := ⟨⟨⟨F8, ho8, fun k hk => (hF8 k hk).1⟩, (HN7.out.alloc (.cells #[.string ⟨z.toArray⟩, .int .i64 u] 70)).trans hm8 (fun i hi hl => by have := hi.1; omega)⟩⟩; clear ho8 hm8 hF8)))
          go_roundw
          case rel => exact ⟨k + 1, A8, n8, c8, _, true, by omega, by go_num, rfl, rfl, by simp; omega, HO9, HA⟩
          case measure => simp [intOf]; omega
        · have HA : Sec (withG nm v ys false = (acc ++ [(z, u)]) ++ withG nm v (ys.drop (k + 1)) false) := ⟨by rw [HS.out]; show acc ++ (if false = false ∧ nm < z then _ else _) = _; rw [if_neg (fun h => hlt2 h.2)]; simp⟩
          rw [decide_eq_false hlt2] at hgt
          clear hlt2
          go_wp2_with (at_builtin; go_loud (refine wpList_app _ rfl (.tmp 33) (.tmp 35) _ rfl Try.underlying30 elt_entry flatEntry rfl rfl (HO2.out.alloc _) (rowEnt _ HZN.out HZV.out (by simp)) (show acc.length + [((z, u) : EntryT)].length ≤ 34359738368 by simp only [List.length_singleton]; omega) ?_; intro A8 n8 c8 w8 HO8; have HO9 := Sec.mk HO8; clear HO8))
          go_roundw
          case rel => exact ⟨k + 1, A8, n8, c8, _, false, by omega, by go_num, rfl, rfl, by simp; omega, HO9, HA⟩
          case measure => simp [intOf]; omega
      · have HA : Sec (withG nm v ys false = (acc ++ [(z, u)]) ++ withG nm v (ys.drop (k + 1)) true) := ⟨by rw [HS.out]; show acc ++ (if true = false ∧ nm < z then _ else _) = _; rw [if_neg (fun h => by cases h.1)]; simp⟩
        go_wp2_with (at_builtin; go_loud (refine wpList_app _ rfl (.tmp 33) (.tmp 35) _ rfl Try.underlying30 elt_entry flatEntry rfl rfl (HO2.out.alloc _) (rowEnt _ HZN.out HZV.out (by simp)) (show acc.length + [((z, u) : EntryT)].length ≤ 34359738368 by simp only [List.length_singleton]; omega) ?_; intro A8 n8 c8 w8 HO8; have HO9 := Sec.mk HO8; clear HO8))
        go_roundw
        case rel => exact ⟨k + 1, A8, n8, c8, _, true, by omega, by go_num, rfl, rfl, by simp; omega, HO9, HA⟩
        case measure => simp [intOf]; omega
    · obtain rfl : k = ys.length := by omega
      rw [List.drop_length] at HG
      cases dn
      all_goals simp only [Bool.toNat_false, Bool.toNat_true, Nat.add_zero] at hal
      · have HA : Sec (withE xs nm v = acc ++ [(nm, v)]) := ⟨by rw [← HW.out, HG.out]; rfl⟩
        go_wp2_with (at_builtin; go_loud (refine wpList_app _ rfl (.tmp 40) (.tmp 44) _ rfl Try.underlying30 elt_entry flatEntry rfl rfl (HO.out.alloc _) (rowEnt _ HN.out HV.out (by simp)) (show acc.length + [((nm, v) : EntryT)].length ≤ 34359738368 by simp only [List.length_singleton]; omega) ?_; intro A8 n8 c8 w8 HO8; have HO9 := Sec.mk HO8; clear HO8))
        go_wp2
        go_ret
        rw [HA.out]
        exact (HO9.out.base HM1.out).ret
      · have HA : Sec (withE xs nm v = acc) := ⟨by rw [← HW.out, HG.out]; simp [withG_end]⟩
        go_wp2
        go_ret
        rw [HA.out]
        exact (HO.out.base HM1.out).ret
end Go.Proofs.Ytinfibggdbakoaa
