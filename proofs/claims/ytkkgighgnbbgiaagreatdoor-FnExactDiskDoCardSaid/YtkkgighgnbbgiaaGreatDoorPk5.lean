/- Lists of entries: bound anew, compared, in order. Two lists of entries compared. The specification's test of a list of names. Elements of a disk's rows; when a disk is valid. What the laws' sizes come to; rows in ranges one behind the other. The laws' copies and sizes of Node. The laws' copies and sizes of Entry. -/
import Derived.Test.YtkkgighgnbbgiaaGreatDoorPk4
import Derived.Deep.RegionHeld3
import Derived.Test.YtkkgighgnbbgiaaGreatDoorPk2
import Derived.Test.YtkkgighgnbbgiaaGreatDoorPk3
namespace Go.Proofs.YtkkgighgnbbgiaaGreatDoor
open Go.RowKit Mem
set_option linter.unusedVariables false
set_option linter.unusedSimpArgs false
theorem strGt (xs ys : Bytes) (w : World) : (binOp .gtr 9 (.string ⟨xs.toArray⟩) (.string ⟨ys.toArray⟩)).run Tryz.prog w = .ok (.bool (decide (ys < xs))) w := by
  have e : binOp .gtr 9 (.string ⟨xs.toArray⟩) (.string ⟨ys.toArray⟩) = pure (.bool !(Op.bytesLess (⟨xs.toArray⟩ : ByteArray).toList (⟨ys.toArray⟩ : ByteArray).toList || (⟨xs.toArray⟩ : ByteArray).toList == (⟨ys.toArray⟩ : ByteArray).toList)) := by simp [binOp, Op.stringOp]
  rw [e, bl_run, show (⟨xs.toArray⟩ : ByteArray).toList = xs from by rw [ByteArray.toList_eq], show (⟨ys.toArray⟩ : ByteArray).toList = ys from by rw [ByteArray.toList_eq], Sem.run_pure]
  congr 2
  by_cases h : ys < xs
  · have h1 : ¬ xs < ys := lb_asym h
    have h2 : (xs == ys) = false := by simp only [beq_eq_false_iff_ne, ne_eq]; intro e; rw [e] at h; exact lb_irr _ h
    simp [h, h1, h2]
  · by_cases h1 : xs < ys
    · simp [h, h1]
    · have h2 : (xs == ys) = true := by simp [lb_tri h1 h]
      simp [h, h1, h2]
theorem strGe (xs ys : Bytes) (w : World) : (binOp .geq 9 (.string ⟨xs.toArray⟩) (.string ⟨ys.toArray⟩)).run Tryz.prog w = .ok (.bool (decide (¬ xs < ys))) w := by
  have e : binOp .geq 9 (.string ⟨xs.toArray⟩) (.string ⟨ys.toArray⟩) = pure (.bool !(Op.bytesLess (⟨xs.toArray⟩ : ByteArray).toList (⟨ys.toArray⟩ : ByteArray).toList)) := by simp [binOp, Op.stringOp]
  rw [e, bl_run, Sem.run_pure]
  by_cases h : xs < ys
  · rw [decide_eq_true h, decide_eq_false (fun hh => hh h)]; rfl
  · rw [decide_eq_false h, decide_eq_true h]; rfl
theorem withG_at (n : LB) (v : Int) {l : List EntL} {k : Nat} (hk : k < l.length) (d : Bool) : withG n v (l.drop k) d = if d = false ∧ n < l[k].1 then (n, v) :: l[k] :: withG n v (l.drop (k + 1)) true else l[k] :: withG n v (l.drop (k + 1)) d := by
  rw [List.drop_eq_getElem_cons hk]; rfl
theorem withG_end (n : LB) (v : Int) (d : Bool) : withG n v [] d = if d then [] else [(n, v)] := rfl
set_option maxHeartbeats 2000000 in
set_option maxRecDepth 100000 in
theorem l1With_calls {A : Option Addr} {c : Nat} {xs : List EntryT} {B : Nat → Prop} {w : World} (h : Row dEntry w B A xs.length xs) (hB : ∀ k, B k → k < w.heap.size) (hl : xs.length ≤ 1048576) (nm : Bytes) (hn : nm.length ≤ 9223372036854775807) (v : Int) (hv : IntKind.i64.wrap v = v) (ho : Ord xs) : Calls Tryz.prog 78 #[.slice A xs.length c, .string ⟨nm.toArray⟩, .int .i64 v] w (RetOwn dEntry 98 w (withE xs nm v)) := by
  have HW := Sec.mk (withS_is ho nm v)
  have HC := Sec.mk (l1Without_calls (c := c) h hB hl nm)
  have hol := outE_len xs nm
  have HN := Sec.mk hn
  have HV := Sec.mk hv
  clear h hB ho hn hv
  go_enter Tryz.func78, Tryz.ntmps78
  go_wp2_with fail
  refine HC.out.mono ?_
  intro e w1 hret
  obtain ⟨A1, c1, rfl, hmine⟩ := hret.mine
  have HR := Sec.mk hmine.row
  have HM1 := Sec.mk hmine.new
  clear hret hmine HC
  generalize outE xs nm = ys at *
  go_wp2
  go_loopw [7, 8, 15] (fun o d i wr => ∃ (k : Nat) (A' : Option Addr) (n' c' : Nat) (acc : List EntryT) (dn : Bool), k ≤ ys.length ∧ i = .int .i64 (k : Int) ∧ o = .slice A' n' c' ∧ d = .bool dn ∧ acc.length ≤ k + dn.toNat ∧ Sec (Mine dEntry 98 w1 wr (.slice A' n' c') acc) ∧ Sec (withG nm v ys false = acc ++ withG nm v (ys.drop k) dn)) (fun _ _ i _ => ys.length - (intOf i).toNat)
  case atStart => exact ⟨0, none, 0, 0, [], false, Nat.zero_le _, rfl, rfl, rfl, by simp, ⟨Mine.nil _ _ (Mod.refl _ _)⟩, ⟨by simp⟩⟩
  case round =>
    obtain ⟨k, A', n', c', acc, dn, hk, rfl, rfl, rfl, hal, HO, HG⟩ := hrel
    by_cases hlt : k < ys.length
    · obtain ⟨ad, rfl, h0, h1, hzn, hzv⟩ := ent_at HR.out (w' := wr) (fun i hi => HO.out.new.block i hi.2 id) hlt
      have HS := Sec.mk (HG.out.trans (congrArg (acc ++ ·) (withG_at nm v hlt dn)))
      have hki : (k : Int) < (ys.length : Int) := by omega
      have HZN := Sec.mk hzn
      have HZV := Sec.mk hzv
      obtain ⟨⟨z, u⟩, hx⟩ : ∃ q, q = ys[k] := ⟨_, rfl⟩
      rw [← hx] at h0 h1 HS HZN HZV
      clear hx hzn hzv HG
      simp only at h0 h1 HS HZN HZV
      have HO2 := Sec.mk (HO.out.alloc (.cells #[.string ⟨z.toArray⟩, .int .i64 u] 98))
      have HOr := HO
      have HM1r := Sec.mk HO.out.new.size
      clear HO
      have hgt := fun w => strGt z nm w
      cases dn
      all_goals simp only [Bool.toNat_false, Bool.toNat_true, Nat.add_zero] at hal
      · by_cases hlt2 : nm < z
        · have HA : Sec (withG nm v ys false = ((acc ++ [(nm, v)]) ++ [(z, u)]) ++ withG nm v (ys.drop (k + 1)) true) := ⟨by rw [HS.out]; show acc ++ (if false = false ∧ nm < z then _ else _) = _; rw [if_pos ⟨rfl, hlt2⟩]; simp⟩
          rw [decide_eq_true hlt2] at hgt
          clear hlt2
          have hsz1 := HM1r.out
          have HP0 : Sec (OwP dEntry 98 (wr.alloc (.cells #[.string ⟨z.toArray⟩, .int .i64 u] 98)) (fun k => w1.heap.size ≤ k ∧ k ≠ wr.heap.size) (.slice A' n' c') acc) := ⟨(HOr.out.owp (X := fun k => w1.heap.size ≤ k ∧ k ≠ wr.heap.size) (fun k h1 h2 => ⟨h1, by omega⟩)).new ((Mod.refl _ _).alloc _)⟩
          have HB0 := Sec.mk (Blk.new wr 98 [.string ⟨z.toArray⟩, .int .i64 u])
          have HN0 := Sec.mk HO2.out.new
          go_wp2_with (first
            | (at_builtin; go_loud (refine wpList_appP (X := fun k => w1.heap.size ≤ k ∧ k ≠ wr.heap.size) _ rfl (.tmp 27) (.tmp 31) _ rfl Tryz.underlying31 elt_entry flatEntry rfl rfl (HP0.out.new ((Mod.refl _ _).alloc _)) (rowEnt _ HN.out HV.out (by simp)) (fun k hk => by simp at hk; exact ⟨by omega, by omega⟩) (show acc.length + [((nm, v) : EntryT)].length ≤ 34359738368 by simp only [List.length_singleton]; omega) ?_; intro A6 n6 c6 w6 ho6 hm6; have HO7 := Sec.mk ho6; have HB7 := Sec.mk ((HB0.out.alloc (.cells #[.string ⟨nm.toArray⟩, .int .i64 v] 98)).mod hm6 (fun h => h.2 rfl)); have HN7 := Sec.mk ((HN0.out.alloc (.cells #[.string ⟨nm.toArray⟩, .int .i64 v] 98)).trans hm6 (fun i hi hl => by have := hi.1; omega)); have y0 : w6.cell? ⟨wr.heap.size, 0, none⟩ = some (.string ⟨z.toArray⟩) := HB7.out.cell 0; have y1 : w6.cell? ⟨wr.heap.size, 1, none⟩ = some (.int .i64 u) := HB7.out.cell 1; have hs6 := hm6.size; simp at hs6; clear ho6 hm6))
            | (at_builtin; go_loud (refine wpList_appP (X := fun k => w1.heap.size ≤ k ∧ k ≠ wr.heap.size) _ rfl (.tmp 33) (.tmp 35) _ rfl Tryz.underlying31 elt_entry flatEntry rfl rfl (HO7.out.new ((Mod.refl _ _).alloc _)) (rowEnt _ HZN.out HZV.out (by simp)) (fun k hk => by simp at hk; exact ⟨by omega, by omega⟩) (show (acc ++ [((nm, v) : EntryT)]).length + [((z, u) : EntryT)].length ≤ 34359738368 by simp only [List.length_append, List.length_singleton]; omega) ?_; intro A8 n8 c8 w8 ho8 hm8; obtain ⟨F8, ho8, hF8⟩ := ho8; have HO9 : Sec (Mine dEntry 98 w1 w8 (.slice A8 n8 c8) ((acc ++ [((nm, v) : EntryT)]) ++ [((z, u) : EntryT)])) := ⟨⟨⟨F8, ho8, fun k hk => (hF8 k hk).1⟩, (HN7.out.alloc (.cells #[.string ⟨z.toArray⟩, .int .i64 u] 98)).trans hm8 (fun i hi hl => by have := hi.1; omega)⟩⟩; clear ho8 hm8 hF8)))
          go_roundw
          case rel => exact ⟨k + 1, A8, n8, c8, _, true, by omega, by go_num, rfl, rfl, by simp; omega, HO9, HA⟩
          case measure => simp [intOf]; omega
        · have HA : Sec (withG nm v ys false = (acc ++ [(z, u)]) ++ withG nm v (ys.drop (k + 1)) false) := ⟨by rw [HS.out]; show acc ++ (if false = false ∧ nm < z then _ else _) = _; rw [if_neg (fun h => hlt2 h.2)]; simp⟩
          rw [decide_eq_false hlt2] at hgt
          clear hlt2
          go_wp2_with (at_builtin; go_loud (refine wpList_app _ rfl (.tmp 33) (.tmp 35) _ rfl Tryz.underlying31 elt_entry flatEntry rfl rfl (HO2.out.alloc _) (rowEnt _ HZN.out HZV.out (by simp)) (show acc.length + [((z, u) : EntryT)].length ≤ 34359738368 by simp only [List.length_singleton]; omega) ?_; intro A8 n8 c8 w8 HO8; have HO9 := Sec.mk HO8; clear HO8))
          go_roundw
          case rel => exact ⟨k + 1, A8, n8, c8, _, false, by omega, by go_num, rfl, rfl, by simp; omega, HO9, HA⟩
          case measure => simp [intOf]; omega
      · have HA : Sec (withG nm v ys false = (acc ++ [(z, u)]) ++ withG nm v (ys.drop (k + 1)) true) := ⟨by rw [HS.out]; show acc ++ (if true = false ∧ nm < z then _ else _) = _; rw [if_neg (fun h => by cases h.1)]; simp⟩
        go_wp2_with (at_builtin; go_loud (refine wpList_app _ rfl (.tmp 33) (.tmp 35) _ rfl Tryz.underlying31 elt_entry flatEntry rfl rfl (HO2.out.alloc _) (rowEnt _ HZN.out HZV.out (by simp)) (show acc.length + [((z, u) : EntryT)].length ≤ 34359738368 by simp only [List.length_singleton]; omega) ?_; intro A8 n8 c8 w8 HO8; have HO9 := Sec.mk HO8; clear HO8))
        go_roundw
        case rel => exact ⟨k + 1, A8, n8, c8, _, true, by omega, by go_num, rfl, rfl, by simp; omega, HO9, HA⟩
        case measure => simp [intOf]; omega
    · obtain rfl : k = ys.length := by omega
      rw [List.drop_length] at HG
      cases dn
      all_goals simp only [Bool.toNat_false, Bool.toNat_true, Nat.add_zero] at hal
      · have HA : Sec (withE xs nm v = acc ++ [(nm, v)]) := ⟨by rw [← HW.out, HG.out]; rfl⟩
        go_wp2_with (at_builtin; go_loud (refine wpList_app _ rfl (.tmp 40) (.tmp 44) _ rfl Tryz.underlying31 elt_entry flatEntry rfl rfl (HO.out.alloc _) (rowEnt _ HN.out HV.out (by simp)) (show acc.length + [((nm, v) : EntryT)].length ≤ 34359738368 by simp only [List.length_singleton]; omega) ?_; intro A8 n8 c8 w8 HO8; have HO9 := Sec.mk HO8; clear HO8))
        go_wp2
        go_ret
        rw [HA.out]
        exact (HO9.out.base HM1.out).ret
      · have HA : Sec (withE xs nm v = acc) := ⟨by rw [← HW.out, HG.out]; simp [withG_end]⟩
        go_wp2
        go_ret
        rw [HA.out]
        exact (HO.out.base HM1.out).ret
end Go.Proofs.YtkkgighgnbbgiaaGreatDoor

namespace Go.Proofs.YtkkgighgnbbgiaaGreatDoor
open Go.RowKit Mem
set_option linter.unusedVariables false
set_option linter.unusedSimpArgs false
theorem aggNe (xs ys : Bytes) (a b : Int) (w : World) : (binOp .neq 98 (.agg #[.string ⟨xs.toArray⟩, .int .i64 a]) (.agg #[.string ⟨ys.toArray⟩, .int .i64 b])).run Tryz.prog w = .ok (.bool (decide (((xs, a) : EntryT) ≠ (ys, b)))) w := by
  by_cases h1 : xs = ys
  · by_cases h2 : a = b
    · subst h1; subst h2; simp; go_simp
    · subst h1; have : (a == b) = false := by simpa using h2
      simp [h2]; go_simp
  · have : (xs == ys) = false := by simpa using h1
    simp [h1]; go_simp
set_option maxHeartbeats 2000000 in
set_option maxRecDepth 100000 in
theorem l1Same_calls {A A' : Option Addr} {c c' : Nat} {xs ys : List EntryT} {B : Nat → Prop} {w : World} (h : Row dEntry w B A xs.length xs) (h' : Row dEntry w B A' ys.length ys) (hB : ∀ k, B k → k < w.heap.size) :
    Calls Tryz.prog 48 #[.slice A xs.length c, .slice A' ys.length c'] w (Ret (.bool (decide (xs = ys))) w) := by
  have hl := h.2.1
  have HR := Sec.mk h
  have HR' := Sec.mk h'
  have HB := Sec.mk hB
  clear h h' hB
  by_cases hne : xs.length = ys.length
  rotate_left
  · have hnb : ((xs.length : Int) != (ys.length : Int)) = true := by simp; omega
    have HE : Sec (decide (xs = ys) = false) := ⟨by simp [show xs ≠ ys from fun e => hne (by rw [e])]⟩
    clear hne
    go_enter Tryz.func48, Tryz.ntmps48
    go_wp2
    go_ret
    exact ⟨by rw [HE.out]; rfl, Mod.refl _ _⟩
  have hnb : ((xs.length : Int) != (ys.length : Int)) = false := by simp [hne]
  have HNE := Sec.mk hne
  clear hne
  go_enter Tryz.func48, Tryz.ntmps48
  go_wp2
  go_loopw [13] (fun i wr => ∃ k : Nat, k ≤ xs.length ∧ i = .int .i64 (k : Int) ∧ Sec (xs.take k = ys.take k) ∧ Sec (New w wr)) (fun i _ => xs.length - (intOf i).toNat)
  case atStart => exact ⟨0, Nat.zero_le _, rfl, ⟨by simp⟩, ⟨Mod.refl _ _⟩⟩
  case round =>
    obtain ⟨k, hk, rfl, HT, HM⟩ := hrel
    by_cases hlt : k < xs.length
    · have hlt2 : k < ys.length := by rw [← HNE.out]; exact hlt
      obtain ⟨ad, rfl, hx0, hx1, _, _⟩ := ent_at HR.out (w' := wr) (fun i hi => HM.out.block i (HB.out i hi) id) hlt
      obtain ⟨ad', rfl, hy0, hy1, _, _⟩ := ent_at HR'.out (w' := wr) (fun i hi => HM.out.block i (HB.out i hi) id) hlt2
      have HXY : Sec (xs[k] = ys[k] → xs.take (k + 1) = ys.take (k + 1)) := ⟨fun h => by rw [List.take_succ_eq_append_getElem hlt, List.take_succ_eq_append_getElem hlt2, HT.out, h]⟩
      have HNQ : Sec (xs[k] ≠ ys[k] → decide (xs = ys) = false) := ⟨fun h => by simp only [decide_eq_false_iff_not]; intro e; exact h (by subst e; rfl)⟩
      have hki : (k : Int) < (xs.length : Int) := by omega
      have hkj : (k : Int) < (ys.length : Int) := by omega
      obtain ⟨⟨z, a⟩, hx⟩ : ∃ q, q = xs[k] := ⟨_, rfl⟩
      obtain ⟨⟨z', a'⟩, hy⟩ : ∃ q, q = ys[k] := ⟨_, rfl⟩
      rw [← hx] at hx0 hx1 HXY HNQ
      rw [← hy] at hy0 hy1 HXY HNQ
      simp only at hx0 hx1 hy0 hy1
      clear hx hy HT
      by_cases he : z = z'
      · have hz : (z == z') = true := by simp [he]
        by_cases hv : a = a'
        · have hvb : (a != a') = false := by simp [hv]
          have HT' := Sec.mk (HXY.out (by rw [he, hv]))
          clear he hv HXY HNQ
          go_wp2
          go_quiet (fail)
          go_wp2
          go_roundw
          case rel => exact ⟨k + 1, by omega, by go_num, HT', ⟨HM.out.drewN _⟩⟩
          case measure => simp [intOf]; omega
        · have hvb : (a != a') = true := by simpa using hv
          have HE := Sec.mk (HNQ.out (fun h => hv (congrArg (fun x : EntryT => x.2) h)))
          clear he hv HXY HNQ
          go_wp2
          go_quiet (fail)
          go_wp2
          go_ret
          exact ⟨by rw [HE.out]; rfl, HM.out.drewN _⟩
      · have hz : (z == z') = false := by simpa using he
        have HE := Sec.mk (HNQ.out (fun h => he (congrArg (fun x : EntryT => x.1) h)))
        clear he HXY HNQ
        go_wp2
        go_quiet (fail)
        go_wp2
        go_ret
        exact ⟨by rw [HE.out]; rfl, HM.out.drewN _⟩
    · obtain rfl : k = xs.length := by omega
      have HE : Sec (decide (xs = ys) = true) := ⟨by
        have h1 := HT.out
        rw [List.take_of_length_le (by omega), List.take_of_length_le (by rw [← HNE.out]; omega)] at h1
        simp [h1]⟩
      go_wp2
      go_ret
      exact ⟨by rw [HE.out]; rfl, HM.out⟩
set_option maxHeartbeats 2000000 in
set_option maxRecDepth 100000 in
theorem sameEntries_calls {A A' : Option Addr} {c c' : Nat} {xs ys : List EntryT} {B : Nat → Prop} {w : World} (h : Row dEntry w B A xs.length xs) (h' : Row dEntry w B A' ys.length ys) (hB : ∀ k, B k → k < w.heap.size) :
    Calls Tryz.prog 63 #[.slice A xs.length c, .slice A' ys.length c'] w (Ret (.bool (decide (xs = ys))) w) := by
  have hl := h.2.1
  have HR := Sec.mk h
  have HR' := Sec.mk h'
  have HB := Sec.mk hB
  clear h h' hB
  by_cases hne : xs.length = ys.length
  rotate_left
  · have hnb : ((xs.length : Int) != (ys.length : Int)) = true := by simp; omega
    have HE : Sec (decide (xs = ys) = false) := ⟨by simp [show xs ≠ ys from fun e => hne (by rw [e])]⟩
    clear hne
    go_enter Tryz.func63, Tryz.ntmps63
    go_wp2
    go_ret
    exact ⟨by rw [HE.out]; rfl, Mod.refl _ _⟩
  have hnb : ((xs.length : Int) != (ys.length : Int)) = false := by simp [hne]
  have HNE := Sec.mk hne
  clear hne
  go_enter Tryz.func63, Tryz.ntmps63
  go_wp2
  go_loopw [13] (fun i wr => ∃ k : Nat, k ≤ xs.length ∧ i = .int .i64 (k : Int) ∧ Sec (xs.take k = ys.take k) ∧ Sec (New w wr)) (fun i _ => xs.length - (intOf i).toNat)
  case atStart => exact ⟨0, Nat.zero_le _, rfl, ⟨by simp⟩, ⟨Mod.refl _ _⟩⟩
  case round =>
    obtain ⟨k, hk, rfl, HT, HM⟩ := hrel
    by_cases hlt : k < xs.length
    · have hlt2 : k < ys.length := by rw [← HNE.out]; exact hlt
      obtain ⟨ad, rfl, hx0, hx1, _, _⟩ := ent_at HR.out (w' := wr) (fun i hi => HM.out.block i (HB.out i hi) id) hlt
      obtain ⟨ad', rfl, hy0, hy1, _, _⟩ := ent_at HR'.out (w' := wr) (fun i hi => HM.out.block i (HB.out i hi) id) hlt2
      have HXY : Sec (xs[k] = ys[k] → xs.take (k + 1) = ys.take (k + 1)) := ⟨fun h => by rw [List.take_succ_eq_append_getElem hlt, List.take_succ_eq_append_getElem hlt2, HT.out, h]⟩
      have HNQ : Sec (xs[k] ≠ ys[k] → decide (xs = ys) = false) := ⟨fun h => by simp only [decide_eq_false_iff_not]; intro e; exact h (by subst e; rfl)⟩
      have hki : (k : Int) < (xs.length : Int) := by omega
      have hkj : (k : Int) < (ys.length : Int) := by omega
      obtain ⟨⟨z, a⟩, hx⟩ : ∃ q, q = xs[k] := ⟨_, rfl⟩
      obtain ⟨⟨z', a'⟩, hy⟩ : ∃ q, q = ys[k] := ⟨_, rfl⟩
      rw [← hx] at hx0 hx1 HXY HNQ
      rw [← hy] at hy0 hy1 HXY HNQ
      simp only at hx0 hx1 hy0 hy1
      clear hx hy HT
      have hag := fun w => aggNe z z' a a' w
      by_cases he : ((z, a) : EntryT) = (z', a')
      · have HT' := Sec.mk (HXY.out he)
        rw [decide_eq_false (fun h => h he)] at hag
        clear he HXY HNQ
        go_wp2
        go_quiet (fail)
        go_wp2
        go_roundw
        case rel => exact ⟨k + 1, by omega, by go_num, HT', ⟨HM.out.drewN _⟩⟩
        case measure => simp [intOf]; omega
      · have HE := Sec.mk (HNQ.out he)
        rw [decide_eq_true he] at hag
        clear he HXY HNQ
        go_wp2
        go_quiet (fail)
        go_wp2
        go_ret
        exact ⟨by rw [HE.out]; rfl, HM.out.drewN _⟩
    · obtain rfl : k = xs.length := by omega
      have HE : Sec (decide (xs = ys) = true) := ⟨by
        have h1 := HT.out
        rw [List.take_of_length_le (by omega), List.take_of_length_le (by rw [← HNE.out]; omega)] at h1
        simp [h1]⟩
      go_wp2
      go_ret
      exact ⟨by rw [HE.out]; rfl, HM.out⟩
end Go.Proofs.YtkkgighgnbbgiaaGreatDoor

namespace Go.Proofs.YtkkgighgnbbgiaaGreatDoor
open Go.RowKit Mem
set_option linter.unusedVariables false
set_option linter.unusedSimpArgs false
def atOk (l : List EntL) (nodes : Int) (k : Nat) : Prop := ∀ hk : k < l.length, goodL l[k].1 = true ∧ 0 ≤ l[k].2 ∧ l[k].2 < nodes ∧ ∀ j (hj : j < k), l[j].1 < l[k].1 ∧ l[j].2 ≠ l[k].2
theorem inOrdL_iff (l : List EntL) (nodes : Int) : inOrdL l nodes = true ↔ l.length ≤ 300 ∧ ∀ k, atOk l nodes k := by
  unfold inOrdL atOk
  simp only [Bool.and_eq_true, decide_eq_true_eq, List.all_eq_true, List.pairwise_iff_getElem]
  constructor
  · rintro ⟨⟨h1, h2⟩, h3⟩
    refine ⟨h1, fun k hk => ?_⟩
    have := h2 _ (List.getElem_mem hk)
    exact ⟨this.1, this.2.1, this.2.2, fun j hj => h3 j k (by omega) hk hj⟩
  · rintro ⟨h1, h2⟩
    refine ⟨⟨h1, fun x hx => ?_⟩, fun i j hi hj hij => (h2 j hj).2.2.2 i hij⟩
    obtain ⟨j, hj, rfl⟩ := List.getElem_of_mem hx
    have := h2 j hj
    exact ⟨this.1, this.2.1, this.2.2.1⟩
set_option maxHeartbeats 4000000 in
set_option maxRecDepth 100000 in
theorem l1InOrder_calls {A : Option Addr} {c : Nat} {xs : List EntryT} {B : Nat → Prop} {w : World} (h : Row dEntry w B A xs.length xs) (hB : ∀ k, B k → k < w.heap.size) (nodes : Int) : Calls Tryz.prog 46 #[.slice A xs.length c, .int .i64 nodes] w (Ret (.bool (inOrdL xs nodes)) w) := by
  have hmx := h.2.1
  have HR := Sec.mk h
  have HB := Sec.mk hB
  have HI := Sec.mk (inOrdL_iff xs nodes)
  have HF : Sec (¬ (xs.length ≤ 300 ∧ ∀ k, atOk xs nodes k) → inOrdL xs nodes = false) := ⟨fun h => by
    cases hg : inOrdL xs nodes with
    | false => rfl
    | true => exact absurd (HI.out.1 hg) h⟩
  generalize inOrdL xs nodes = r at *
  clear h hB
  by_cases h3 : xs.length ≤ 300
  rotate_left
  · have HE : Sec (r = false) := ⟨HF.out (fun h => h3 h.1)⟩
    have h3i : (300 : Int) < (xs.length : Int) := by omega
    clear h3
    go_enter Tryz.func46, Tryz.ntmps46
    go_wp2
    go_ret
    exact ⟨by rw [HE.out]; rfl, Mod.refl _ _⟩
  have h3i : ¬ (300 : Int) < (xs.length : Int) := by omega
  go_enter Tryz.func46, Tryz.ntmps46
  go_wp2
  go_loopw [13] (fun i wr => ∃ k : Nat, k ≤ xs.length ∧ i = .int .i64 (k : Int) ∧ Sec (∀ j, j < k → atOk xs nodes j) ∧ Sec (New w wr)) (fun i _ => xs.length - (intOf i).toNat)
  case atStart => exact ⟨0, Nat.zero_le _, rfl, ⟨fun j h => absurd h (Nat.not_lt_zero _)⟩, ⟨Mod.refl _ _⟩⟩
  case round =>
    obtain ⟨k, hk, rfl, HN, HM⟩ := hrel
    by_cases hlt : k < xs.length
    · obtain ⟨ad, rfl, h0, h1, hzn, _⟩ := ent_at HR.out (w' := wr) (fun i hi => HM.out.block i (HB.out i hi) id) hlt
      have hki : (k : Int) < (xs.length : Int) := by omega
      have HAT : Sec (atOk xs nodes k ↔ (goodL xs[k].1 = true ∧ 0 ≤ xs[k].2 ∧ xs[k].2 < nodes ∧ ∀ j (hj : j < k), (xs[j]'(by omega)).1 < xs[k].1 ∧ (xs[j]'(by omega)).2 ≠ xs[k].2)) := ⟨⟨fun h => h hlt, fun h _ => h⟩⟩
      have HBAD : Sec (¬ atOk xs nodes k → r = false) := ⟨fun h => HF.out (fun hh => h (hh.2 k))⟩
      have HNX : Sec (atOk xs nodes k → ∀ j, j < k + 1 → atOk xs nodes j) := ⟨fun h j hj => by rcases Nat.lt_succ_iff_lt_or_eq.1 hj with h' | rfl; exact HN.out j h'; exact h⟩
      obtain ⟨⟨z, u⟩, hx⟩ : ∃ q, q = xs[k] := ⟨_, rfl⟩
      rw [← hx] at h0 h1 HAT hzn
      simp only at h0 h1 HAT hzn
      clear hx
      generalize atOk xs nodes k = OKK at *
      have HBz := Sec.mk (Blk.new wr 98 [.string ⟨z.toArray⟩, .int .i64 u])
      have HMa := Sec.mk (HM.out.alloc (.cells #[.string ⟨z.toArray⟩, .int .i64 u] 98))
      go_wp2_with fail
      refine (goodS_calls z hzn _).mono ?_
      rintro e w2 ⟨rfl, hw2⟩
      have HM2 : Sec (New w w2) := ⟨by rw [hw2]; exact HMa.out⟩
      have HB2 : Sec (Blk w2 wr.heap.size 98 [.string ⟨z.toArray⟩, .int .i64 u]) := ⟨by rw [hw2]; exact HBz.out⟩
      have z0 : w2.cell? ⟨wr.heap.size, 0, none⟩ = some (.string ⟨z.toArray⟩) := HB2.out.cell 0
      have z1 : w2.cell? ⟨wr.heap.size, 1, none⟩ = some (.int .i64 u) := HB2.out.cell 1
      clear hw2 h0 h1 HMa HBz hzn
      by_cases hg : goodL z = true
      rotate_left
      · have HE : Sec (r = false) := ⟨HBAD.out (fun h => hg (HAT.out.1 h).1)⟩
        have hg' : goodL z = false := by simpa using hg
        rw [hg']
        clear hg hg'
        go_wp2
        go_ret
        exact ⟨by rw [HE.out]; rfl, HM2.out⟩
      rw [hg]
      by_cases hn0 : 0 ≤ u
      rotate_left
      · have HE : Sec (r = false) := ⟨HBAD.out (fun h => hn0 (HAT.out.1 h).2.1)⟩
        have hn0' : u < 0 := by omega
        clear hn0
        go_wp2
        go_ret
        exact ⟨by rw [HE.out]; rfl, HM2.out⟩
      have hn0' : ¬ u < 0 := by omega
      by_cases hn1 : u < nodes
      rotate_left
      · have HE : Sec (r = false) := ⟨HBAD.out (fun h => hn1 (HAT.out.1 h).2.2.1)⟩
        have hn1' : nodes ≤ u := by omega
        clear hn1
        go_wp2
        go_ret
        exact ⟨by rw [HE.out]; rfl, HM2.out⟩
      have hn1' : ¬ nodes ≤ u := by omega
      generalize wr.heap.size = O at *
      go_wp2
      go_loopw [7] (fun i wi => ∃ j : Nat, j ≤ k ∧ i = .int .i64 (j : Int) ∧ Sec (∀ t (ht : t < j) (htk : t < k), (xs[t]'(by omega)).1 < z ∧ (xs[t]'(by omega)).2 ≠ u) ∧ Sec (New w2 wi)) (fun i _ => k - (intOf i).toNat)
      case atStart => exact ⟨0, Nat.zero_le _, rfl, ⟨fun t h => absurd h (Nat.not_lt_zero _)⟩, ⟨Mod.refl _ _⟩⟩
      case round =>
        obtain ⟨j, hj, rfl, HJ, HMi⟩ := hrel
        by_cases hjk : j < k
        · obtain ⟨ad', hA, y0, y1, _, _⟩ := ent_at HR.out (w' := wr) (fun i hi => (HMi.out.block i (Nat.lt_of_lt_of_le (HB.out i hi) HM2.out.size) id).trans (HM2.out.block i (HB.out i hi) id)) (k := j) (by omega)
          obtain rfl := Option.some.inj hA
          have x0 : wr.cell? ⟨O, 0, none⟩ = some (.string ⟨z.toArray⟩) := HMi.out.cell_of z0
          have x1 : wr.cell? ⟨O, 1, none⟩ = some (.int .i64 u) := HMi.out.cell_of z1
          have hji : (j : Int) < (k : Int) := by omega
          have hjx : (j : Int) < (xs.length : Int) := by omega
          have hjl : j < xs.length := by omega
          have HBJ : Sec (¬ ((xs[j]'hjl).1 < z ∧ (xs[j]'hjl).2 ≠ u) → r = false) := ⟨fun h => HBAD.out (fun hh => h ((HAT.out.1 hh).2.2.2 j hjk))⟩
          have HJX : Sec ((xs[j]'hjl).1 < z ∧ (xs[j]'hjl).2 ≠ u → ∀ t (ht : t < j + 1) (htk : t < k), (xs[t]'(by omega)).1 < z ∧ (xs[t]'(by omega)).2 ≠ u) := ⟨fun h t ht htk => by rcases Nat.lt_succ_iff_lt_or_eq.1 ht with h' | rfl; exact HJ.out t h' htk; exact h⟩
          generalize (xs[j]'hjl).1 = zj at *
          generalize (xs[j]'hjl).2 = uj at *
          have hge := fun w => strGe zj z w
          clear hA
          by_cases he : zj < z
          rotate_left
          · have HE : Sec (r = false) := ⟨HBJ.out (fun h => he h.1)⟩
            rw [decide_eq_true he] at hge
            clear he
            go_wp2
            go_quiet (fail)
            go_wp2
            go_ret
            exact ⟨by rw [HE.out]; rfl, HM2.out.transN (HMi.out.drewN _)⟩
          rw [decide_eq_false (fun h => h he)] at hge
          by_cases hu : uj = u
          · have HE : Sec (r = false) := ⟨HBJ.out (fun h => h.2 hu)⟩
            have hub : (uj == u) = true := by simp [hu]
            clear he hu
            go_wp2
            go_quiet (fail)
            go_wp2
            go_ret
            exact ⟨by rw [HE.out]; rfl, HM2.out.transN (HMi.out.drewN _)⟩
          have HJ' := Sec.mk (HJX.out ⟨he, hu⟩)
          have hub : (uj == u) = false := by simpa using hu
          clear he hu
          go_wp2
          go_quiet (fail)
          go_wp2
          go_roundw
          case rel => exact ⟨j + 1, by omega, by go_num, HJ', ⟨HMi.out.drewN _⟩⟩
          case measure => simp [intOf]; omega
        · obtain rfl : j = k := by omega
          have HOK : Sec OKK := ⟨HAT.out.2 ⟨hg, hn0, hn1, fun t ht => HJ.out t ht ht⟩⟩
          have hji : ¬ (j : Int) < (j : Int) := by omega
          go_wp2
          go_roundw
          case rel => exact ⟨j + 1, by omega, by go_num, ⟨HNX.out HOK.out⟩, ⟨HM2.out.transN HMi.out⟩⟩
          case measure => simp [intOf]; omega
    · obtain rfl : k = xs.length := by omega
      have HE : Sec (r = true) := ⟨HI.out.2 ⟨h3, fun j hj => HN.out j hj hj⟩⟩
      go_wp2
      go_ret
      exact ⟨by rw [HE.out]; rfl, HM.out⟩
end Go.Proofs.YtkkgighgnbbgiaaGreatDoor

namespace Go.Proofs.YtkkgighgnbbgiaaGreatDoor
open Go.RowKit Mem
set_option linter.unusedVariables false
theorem node_at {w w' : World} {B : Nat → Prop} {A : Option Addr} {n : Nat} {xs : List NodeT} (h : Row dNode w B A n xs) (hb : ∀ k, B k → w'.heap[k]? = w.heap[k]?) {k : Nat} (hk : k < xs.length) :
    ∃ ad A' c', A = some ad ∧ w'.cell? (ad.add (k * 2)) = some (.slice A' xs[k].1.length c') ∧ w'.cell? ⟨(ad.add (k * 2)).block, (ad.add (k * 2)).off + 1, none⟩ = some (.int .i64 xs[k].2) ∧ xs[k].1.length ≤ c' ∧ c' ≤ 9223372036854775807 ∧ Row Ty.byte w' B A' xs[k].1.length xs[k].1 ∧ IntKind.i64.wrap xs[k].2 = xs[k].2 := by
  obtain ⟨ad, cs, rfl, hK, h0, h1⟩ := h.cells_at hb hk
  obtain ⟨c0, c1, rfl, ⟨A', c', rfl, g1, g2, g3⟩, ⟨rfl, g4⟩⟩ := hK
  exact ⟨ad, A', c', rfl, h0 _ rfl, h1 0 _ rfl, g1, g2, g3.mod (fun _ h => h) hb, g4⟩
theorem dop_at {w w' : World} {B : Nat → Prop} {A : Option Addr} {n : Nat} {xs : List DirOpT} (h : Row dDirOp w B A n xs) (hb : ∀ k, B k → w'.heap[k]? = w.heap[k]?) {k : Nat} (hk : k < xs.length) :
    ∃ ad, A = some ad ∧ w'.cell? (ad.add (k * 4)) = some (.int .i64 xs[k].1) ∧ w'.cell? ⟨(ad.add (k * 4)).block, (ad.add (k * 4)).off + 1, none⟩ = some (.string ⟨xs[k].2.1.toArray⟩) ∧ w'.cell? ⟨(ad.add (k * 4)).block, (ad.add (k * 4)).off + 2, none⟩ = some (.string ⟨xs[k].2.2.1.toArray⟩) ∧ w'.cell? ⟨(ad.add (k * 4)).block, (ad.add (k * 4)).off + 3, none⟩ = some (.int .i64 xs[k].2.2.2) ∧
      IntKind.i64.wrap xs[k].1 = xs[k].1 ∧ xs[k].2.1.length ≤ 9223372036854775807 ∧ xs[k].2.2.1.length ≤ 9223372036854775807 ∧ IntKind.i64.wrap xs[k].2.2.2 = xs[k].2.2.2 := by
  obtain ⟨ad, cs, rfl, hK, h0, h1⟩ := h.cells_at hb hk
  obtain ⟨c0, r0, rfl, ⟨rfl, g0⟩, c1, r1, rfl, ⟨rfl, g1⟩, c2, c3, rfl, ⟨rfl, g2⟩, ⟨rfl, g3⟩⟩ := hK
  exact ⟨ad, rfl, h0 _ rfl, h1 0 _ rfl, h1 1 _ rfl, h1 2 _ rfl, g0, g1, g2, g3⟩
def diskOk (d : DiskL) : Prop := 0 ≤ d.2.2.2.2 ∧ d.2.2.2.2 ≤ 1000000 ∧ d.1.length ≤ 600 ∧ d.2.2.2.1.length ≤ 1000 ∧ (∀ k, (hk : k < d.1.length) → nodeOk d.1[k] = true) ∧ sumD d.1 ≤ 200000 ∧ inOrdL d.2.1 d.1.length = true ∧ inOrdL d.2.2.1 d.1.length = true ∧ replaysL d.1.length d.2.2.1 d.2.2.2.1 = some d.2.1
theorem DiskValidL_iff (d : DiskL) : DiskValidL d = true ↔ diskOk d := by
  unfold DiskValidL diskOk
  simp only [Bool.and_eq_true, decide_eq_true_eq, List.all_eq_true]
  constructor
  · rintro ⟨⟨⟨⟨⟨h1, h2⟩, h3⟩, h4⟩, h5⟩, h6⟩
    refine ⟨h1.1, h1.2.1, h1.2.2.1, h1.2.2.2, fun k hk => h2 _ (List.getElem_mem hk), h3, h4, h5, ?_⟩
    cases hr : replaysL d.1.length d.2.2.1 d.2.2.2.1 with
    | none => rw [hr] at h6; cases h6
    | some l => rw [hr] at h6; rw [of_decide_eq_true h6]
  · rintro ⟨h1, h1b, h1c, h1d, h2, h3, h4, h5, h6⟩
    refine ⟨⟨⟨⟨⟨⟨h1, h1b, h1c, h1d⟩, fun x hx => ?_⟩, h3⟩, h4⟩, h5⟩, ?_⟩
    · obtain ⟨j, hj, rfl⟩ := List.getElem_of_mem hx
      exact h2 j hj
    · rw [h6]; simp
theorem DiskValidL_not {d : DiskL} (h : ¬ diskOk d) : DiskValidL d = false := by
  cases hg : DiskValidL d with
  | false => rfl
  | true => exact absurd ((DiskValidL_iff d).1 hg) h
theorem sumD_take {l : List NodL} {k : Nat} (hk : k < l.length) : sumD (l.take (k + 1)) = sumD (l.take k) + l[k].1.length := by
  unfold sumD
  rw [List.take_succ_eq_append_getElem hk, List.map_append, List.sum_append, List.map_cons, List.map_nil, List.sum_cons, List.sum_nil, Nat.add_zero]
theorem replaysL_at {nodes : Int} {l : List EntL} {p : List DopL} {k : Nat} (hk : k < p.length) : replaysL nodes l (p.drop k) = match replayL l p[k] nodes with | none => none | some m => if m.length ≤ 300 then replaysL nodes m (p.drop (k + 1)) else none := by
  rw [List.drop_eq_getElem_cons hk]; rfl
end Go.Proofs.YtkkgighgnbbgiaaGreatDoor

namespace Go.Proofs.YtkkgighgnbbgiaaGreatDoor
open Go.RowKit Mem
set_option linter.unusedVariables false
def SzR (w : World) (left : Int) (s : Nat) (e : Ending) (w' : World) : Prop := e = .returned (.int .i64 (if left < (s : Int) then -1 else left - (s : Int))) ∧ New w w'
theorem owSl_form {α : Type} {d : Ty α} {e : TypeId} {w : World} {lo hi : Nat} {v : Value} {xs : List α} (h : OwV false (Ty.slice e d) w lo hi v xs) : ∃ A c, v = .slice A xs.length c := by
  obtain ⟨A, c, F, rfl, _⟩ := h.slice
  exact ⟨A, c, rfl⟩

theorem szByteS_s {w : World} {v : Value} {x : Bytes} (h : RdV false dBS w v x) (left : Int) (h0 : 0 ≤ left) (h1 : left ≤ 1048576) : Calls Tryz.prog 45 #[v, .int .i64 left] w (SzR w left (szBS x)) :=
  (szByteS_v h left h0 h1).mono fun e w' ⟨h1, h2⟩ => ⟨h1, h2 ▸ Mod.refl _ _⟩

theorem sz_set (w : World) (p : Addr) (v : Value) : (w.setCell p v).heap.size = w.heap.size := by simp [World.setCell]
theorem nd2 {F0 F1 : List Nat} {l0 u0 l1 u1 : Nat} (n0 : F0.Nodup) (r0 : ∀ k, k ∈ F0 → l0 ≤ k ∧ k < u0) (n1 : F1.Nodup) (r1 : ∀ k, k ∈ F1 → l1 ≤ k ∧ k < u1) (h01 : u0 ≤ l1) : (F0 ++ F1).Nodup :=
  List.nodup_append.2 ⟨n0, n1, fun p hp q hq e => by subst e; have := r0 p hp; have := r1 p hq; omega⟩
theorem nd4 {F0 F1 F2 F3 : List Nat} {l0 u0 l1 u1 l2 u2 l3 u3 : Nat} (n0 : F0.Nodup) (r0 : ∀ k, k ∈ F0 → l0 ≤ k ∧ k < u0) (n1 : F1.Nodup) (r1 : ∀ k, k ∈ F1 → l1 ≤ k ∧ k < u1)
    (n2 : F2.Nodup) (r2 : ∀ k, k ∈ F2 → l2 ≤ k ∧ k < u2) (n3 : F3.Nodup) (r3 : ∀ k, k ∈ F3 → l3 ≤ k ∧ k < u3) (h01 : u0 ≤ l1) (h12 : u1 ≤ l2) (h23 : u2 ≤ l3) (hl1 : l1 ≤ u1) (hl2 : l2 ≤ u2) :
    (F0 ++ (F1 ++ (F2 ++ (F3 ++ ([] : List Nat))))).Nodup := by
  rw [List.append_nil]
  refine List.nodup_append.2 ⟨n0, List.nodup_append.2 ⟨n1, List.nodup_append.2 ⟨n2, n3, fun p hp q hq e => ?_⟩, fun p hp q hq e => ?_⟩, fun p hp q hq e => ?_⟩
  · subst e; have := r2 p hp; have := r3 p hq; omega
  · subst e; have := r1 p hp
    rcases List.mem_append.1 hq with h | h
    · have := r2 p h; omega
    · have := r3 p h; omega
  · subst e; have := r0 p hp
    rcases List.mem_append.1 hq with h | h
    · have := r1 p h; omega
    · rcases List.mem_append.1 h with h | h
      · have := r2 p h; omega
      · have := r3 p h; omega
end Go.Proofs.YtkkgighgnbbgiaaGreatDoor

namespace Go.Proofs.YtkkgighgnbbgiaaGreatDoor
open Go.RowKit Mem
set_option linter.unusedVariables false
set_option linter.unusedSimpArgs false
theorem okNode {w : World} {v : Value} {x : NodeT} (h : RdV true dNode w v x) : IntKind.i64.wrap x.2 = x.2 := by
  obtain ⟨cs, rfl, c0, c1, rfl, h0, h1⟩ := h
  exact h1.2
def zNode : NodeT := ([], 0)
theorem zmNode (w : World) : dNode.M w [] zNode [.slice none 0 0, .int .i64 0] := mNode (F0 := []) (show IntKind.i64.wrap 0 = 0 by decide) (Own.nil _ _ _)
theorem cellsNode_M {w : World} {F : List Nat} {x : NodeT} {cs : List Value} (h : dNode.M w F x cs) : ∃ A0 q0, cs = [.slice A0 x.1.length q0, .int .i64 x.2] := by
  obtain ⟨c0, c1, E0, E1, rfl, rfl, nd0, h0, h1⟩ := h
  obtain ⟨v0, rfl, h0'⟩ := h0
  obtain ⟨A0, q0, rfl, _⟩ := h0'.form
  obtain ⟨_, rfl, _⟩ := h1
  exact ⟨_, _, rfl⟩
def szNode (x : NodeT) : Nat := (szBS x.1)

set_option maxHeartbeats 1000000 in
set_option maxRecDepth 100000 in
theorem szNode_v {w : World} {v : Value} {x : NodeT} (h : RdV true dNode w v x) (left : Int) (h0 : 0 ≤ left) (h1 : left ≤ 1048576) : Calls Tryz.prog 42 #[v, .int .i64 left] w (SzR w left (szNode x)) := by
  obtain ⟨v0, rfl, k0⟩ := rdNode h
  have HB0 := Sec.mk (Blk.new w 81 [v0, .int .i64 x.2])
  have HM0 := Sec.mk ((Mod.refl (fun _ => False) w).alloc (.cells #[v0, .int .i64 x.2] 81))
  have H0 := Sec.mk k0
  have HS : Sec (szNode x = (szBS x.1)) := ⟨rfl⟩
  clear h k0
  generalize hs : szNode x = s at *
  clear hs
  obtain ⟨c0, hc0⟩ : ∃ c, c = szBS x.1 := ⟨_, rfl⟩
  rw [← hc0] at HS
  have HC0 := Sec.mk hc0
  clear hc0
  by_cases g0 : left < (c0 : Int)
  · have hn0 : left - (c0 : Int) < 0 := by omega
    go_enter Tryz.func42, Tryz.ntmps42
    go_wp2_with fail
    refine (szByteS_s (H0.out.step HM0.out) (left) (by omega) (by omega)).mono ?_
    rintro e w0 ⟨rfl, hm0⟩
    rw [← HC0.out, if_pos (by omega)]
    have HM0 := Sec.mk (HM0.out.transN hm0)
    have HB1 := Sec.mk (HB0.out.mod hm0 id)
    clear hm0
    go_wp2
    go_ret
    exact ⟨by rw [if_pos (by have := HS.out; omega)]; rfl, HM0.out⟩
  go_enter Tryz.func42, Tryz.ntmps42
  go_wp2_with fail
  refine (szByteS_s (H0.out.step HM0.out) (left) (by omega) (by omega)).mono ?_
  rintro e w0 ⟨rfl, hm0⟩
  rw [← HC0.out, if_neg (by omega)]
  have HM0 := Sec.mk (HM0.out.transN hm0)
  have HB1 := Sec.mk (HB0.out.mod hm0 id)
  clear hm0
  have l0 : ¬ left - (c0 : Int) < 0 := by omega
  go_wp2
  go_ret
  exact ⟨by rw [if_neg (by have := HS.out; omega)]; have := HS.out; simp; omega, HM0.out⟩


set_option maxHeartbeats 1000000 in
set_option maxRecDepth 100000 in
theorem toNode_v {w : World} {v : Value} {x : NodeT} (h : RdV true dNode w v x) (hs : szNode x ≤ 1048576) : Calls Tryz.prog 57 #[v] w (RetV true dNode w x) := by
  obtain ⟨v0, rfl, k0⟩ := rdNode h
  have HG := Sec.mk (okNode h)
  have hsz : (szBS x.1) ≤ 1048576 := hs
  have HX := Sec.mk (((Blk.new w 81 [v0, .int .i64 x.2]).alloc (.cells #[.slice none 0 0, .int .i64 0] 88)).alloc (.cells #[.slice none 0 0, .int .i64 0] 88))
  have HR := Sec.mk ((Blk.new (w.alloc (.cells #[v0, .int .i64 x.2] 81)) 88 [.slice none 0 0, .int .i64 0]).alloc (.cells #[.slice none 0 0, .int .i64 0] 88))
  have HO := Sec.mk (Blk.new ((w.alloc (.cells #[v0, .int .i64 x.2] 81)).alloc (.cells #[.slice none 0 0, .int .i64 0] 88)) 88 [.slice none 0 0, .int .i64 0])
  rw [show (w.alloc (.cells #[v0, .int .i64 x.2] 81)).heap.size = w.heap.size + 1 by simp] at HR
  rw [show ((w.alloc (.cells #[v0, .int .i64 x.2] 81)).alloc (.cells #[.slice none 0 0, .int .i64 0] 88)).heap.size = w.heap.size + 2 by simp] at HO
  have HM := Sec.mk ((((Mod.refl (fun _ => False) w).alloc (.cells #[v0, .int .i64 x.2] 81)).alloc (.cells #[.slice none 0 0, .int .i64 0] 88)).alloc (.cells #[.slice none 0 0, .int .i64 0] 88))
  have H0 := Sec.mk k0
  clear h k0
  go_enter Tryz.func57, Tryz.ntmps57
  go_wp2_with fail
  refine (toByteS_v (H0.out.step HM.out) (by omega)).mono ?_
  rintro e w0 ⟨y0, rfl, ho0, hm0⟩
  have HM0 := Sec.mk (HM.out.transN hm0)
  have hs0 := hm0.size
  simp [World.setCell] at hs0
  have HX0 := Sec.mk (HX.out.mod hm0 id)
  have HR0 := Sec.mk (HR.out.mod hm0 id)
  have HO0' := Sec.mk (HO.out.mod hm0 id)
  have hO0 : w0.cell? ⟨w.heap.size + 2, 0, none⟩ = some (.slice none 0 0) := HO0'.out.cell 0
  have hF0 : w0.frozen? ⟨w.heap.size + 2, 0, none⟩ = false := HO0'.out.frozen 0
  have pX0_1 : w0.cell? ⟨w.heap.size, 1, none⟩ = some (.int .i64 x.2) := HX0.out.cell 1
  have hO1 : w0.cell? ⟨w.heap.size + 2, 1, none⟩ = some (.int .i64 0) := HO0'.out.cell 1
  have hF1 : w0.frozen? ⟨w.heap.size + 2, 1, none⟩ = false := HO0'.out.frozen 1
  obtain ⟨aY0, qY0, rfl⟩ := owSl_form ho0
  have HO0 := Sec.mk ((HO0'.out.set_ 0 (.slice aY0 x.1.length qY0)).set_ 1 (.int .i64 x.2))
  simp only [List.set_cons_zero, List.set_cons_succ] at HO0
  have HX0' := Sec.mk ((HX0.out.far (p := ⟨w.heap.size + 2, 0, none⟩) (by simp; try omega) (.slice aY0 x.1.length qY0)).far (p := ⟨w.heap.size + 2, 1, none⟩) (by simp; try omega) (.int .i64 x.2))
  have HR0' := Sec.mk ((HR0.out.far (p := ⟨w.heap.size + 2, 0, none⟩) (by simp; try omega) (.slice aY0 x.1.length qY0)).far (p := ⟨w.heap.size + 2, 1, none⟩) (by simp; try omega) (.int .i64 x.2))
  have HM0' := Sec.mk ((HM0.out.setCell (p := ⟨w.heap.size + 2, 0, none⟩) (fun h => absurd h (by simp; try omega)) (.slice aY0 x.1.length qY0)).setCell (p := ⟨w.heap.size + 2, 1, none⟩) (fun h => absurd h (by simp; try omega)) (.int .i64 x.2))
  have hMo0 := (((Mod.refl (fun k => k = w.heap.size + 2) w0).setCell (p := ⟨w.heap.size + 2, 0, none⟩) (fun _ => rfl) (.slice aY0 x.1.length qY0)).setCell (p := ⟨w.heap.size + 2, 1, none⟩) (fun _ => rfl) (.int .i64 x.2))
  have HW0_0 := Sec.mk (ho0.keep hMo0 (fun k h1 h2 h3 => by simp at h1; omega))
  clear ho0 hm0 hMo0
  have tO0 := HO0.out.cell 0
  have tR0 := HR0'.out.cell 0
  have tF0 := HR0'.out.frozen 0
  have tO1 := HO0.out.cell 1
  have tR1 := HR0'.out.cell 1
  have tF1 := HR0'.out.frozen 1
  simp only [List.getElem?_cons_zero, List.getElem?_cons_succ] at tO0 tR0 tO1 tR1
  skip
  go_wp2
  refine bodyPost_ret (results_blk rfl rfl ((HR0'.out.set_ 0 (.slice aY0 x.1.length qY0)).set_ 1 (.int .i64 x.2)) Tryz.underlying88 (by kernel_rfl)) rfl ?_
  have hMr := (((Mod.refl (fun k => k = w.heap.size + 1) ((w0.setCell ⟨w.heap.size + 2, 0, none⟩ (.slice aY0 x.1.length qY0)).setCell ⟨w.heap.size + 2, 1, none⟩ (.int .i64 x.2))).setCell (p := ⟨w.heap.size + 1, 0, none⟩) (fun _ => rfl) (.slice aY0 x.1.length qY0)).setCell (p := ⟨w.heap.size + 1, 1, none⟩) (fun _ => rfl) (.int .i64 x.2))
  have z0 := HW0_0.out.keep hMr (fun k h1 h2 h3 => by simp at h1; omega)
  obtain ⟨_, _, F0, _, f0, r0⟩ := OwV.slice z0
  refine ⟨_, rfl, ⟨_, _, rfl, mNode (HG.out) f0, ?_⟩, ((HM0'.out.setCell (fun h => absurd h (by simp; try omega)) _).setCell (fun h => absurd h (by simp; try omega)) _)⟩
  · intro k hk; simp only [List.mem_append, List.mem_nil_iff, or_false, false_or] at hk; have := r0 k hk; simp at this ⊢; omega

def szNodeS (xs : NodeST) : Nat := xs.length + preS szNode xs xs.length
theorem szNodeS_mem {xs : NodeST} {x : NodeT} (h : x ∈ xs) : szNode x ≤ szNodeS xs := by
  obtain ⟨j, hj, rfl⟩ := List.getElem_of_mem h
  have h1 := preS_succ szNode xs hj
  have h2 := preS_le szNode xs (j + 1)
  unfold szNodeS; omega

set_option maxHeartbeats 1000000 in
set_option maxRecDepth 100000 in
theorem szNodeS_s {w : World} {v : Value} {xs : NodeST} (h : RdV false dNodeS w v xs) (left : Int) (h0 : 0 ≤ left) (h1 : left ≤ 1048576) : Calls Tryz.prog 17 #[v, .int .i64 left] w (SzR w left (szNodeS xs)) := by
  obtain ⟨A, c, rfl, -, hr⟩ := h.slice
  have hl := hr.2.1
  have HR := Sec.mk hr
  have HS : Sec (szNodeS xs = xs.length + preS szNode xs xs.length) := ⟨rfl⟩
  clear h hr
  generalize hs : szNodeS xs = S at *
  clear hs
  by_cases hlt : left < xs.length
  · have hlt0 : left - (xs.length : Int) < 0 := by omega
    go_enter Tryz.func17, Tryz.ntmps17
    go_wp2
    go_ret
    exact ⟨by rw [if_pos (by have := HS.out; omega)]; rfl, Mod.refl _ _⟩
  have hlt0 : ¬ left - (xs.length : Int) < 0 := by omega
  go_enter Tryz.func17, Tryz.ntmps17
  go_wp2
  go_loopw [1, 5] (fun q i wr => ∃ (k : Nat), k ≤ xs.length ∧ i = .int .i64 k ∧ q = .int .i64 (left - xs.length - (preS szNode xs k : Nat)) ∧ (preS szNode xs k : Int) ≤ left - xs.length ∧ Sec (New w wr)) (fun _ i _ => xs.length - (intOf i).toNat)
  case atStart => exact ⟨0, Nat.zero_le _, rfl, by rw [preS_zero]; simp, by rw [preS_zero]; omega, ⟨Mod.refl _ _⟩⟩
  case round =>
    obtain ⟨k, hk, rfl, rfl, hle, HM⟩ := hrel
    by_cases hkl : k < xs.length
    · obtain ⟨ad, cs, rfl, hx⟩ := HR.out.elemc hkl
      obtain ⟨hx2, hc0, hcs⟩ := hx wr (fun i hi => HM.out.block i hi id) (fun i hi => Nat.lt_of_lt_of_le hi HM.out.size)
      obtain ⟨z0, hv, -⟩ := rdNode hx2
      have hcc : cs = [z0, .int .i64 xs[k].2] := by injection hv with hv; simpa using hv
      subst hcc
      have e0 := hc0 _ rfl
      have e1 := hcs 0 _ rfl
      simp only [show dNode.sz = 2 from rfl] at e0 e1
      have HX2 := Sec.mk hx2
      clear hx hx2 hc0 hcs hv
      have HP := Sec.mk (preS_succ szNode xs hkl)
      have HPL := Sec.mk (preS_le szNode xs (k + 1))
      have HSX : Sec (∃ t, t = szNode xs[k]) := ⟨⟨_, rfl⟩⟩
      obtain ⟨t, ht⟩ := HSX.out
      rw [← ht] at HP
      have HT := Sec.mk ht
      clear ht HSX
      generalize preS szNode xs k = s at *
      have hki : (k : Int) < (xs.length : Int) := by omega
      by_cases hs : left - xs.length - s < t
      · go_wp2_with fail
        refine (szNode_v HX2.out (left - xs.length - s) (by omega) (by omega)).mono ?_
        rintro e w1 ⟨rfl, hm1⟩
        rw [← HT.out, if_pos hs]
        have HM1 := Sec.mk (HM.out.transN hm1)
        clear hm1
        go_wp2
        go_ret
        exact ⟨by rw [if_pos (by have := HS.out; have := HP.out; have := HPL.out; omega)]; rfl, HM1.out⟩
      · go_wp2_with fail
        refine (szNode_v HX2.out (left - xs.length - s) (by omega) (by omega)).mono ?_
        rintro e w1 ⟨rfl, hm1⟩
        rw [← HT.out, if_neg (by omega)]
        have HM1 := Sec.mk (HM.out.transN hm1)
        have hs0 : ¬ left - (xs.length : Int) - (s : Int) - (t : Int) < 0 := by omega
        clear hm1
        go_wp2
        go_roundw
        case rel => exact ⟨k + 1, by omega, by go_num, by rw [HP.out]; congr 1; omega, by rw [HP.out]; omega, HM1⟩
        case measure => simp [intOf]; omega
    · obtain rfl : k = xs.length := by omega
      generalize preS szNode xs xs.length = s at *
      go_wp2
      go_ret
      exact ⟨by rw [if_neg (by have := HS.out; omega)]; have := HS.out; simp; omega, HM.out⟩


set_option maxHeartbeats 1000000 in
set_option maxRecDepth 100000 in
theorem toNodeS_v {w : World} {v : Value} {xs : NodeST} (h : RdV false dNodeS w v xs) (hs : szNodeS xs ≤ 1048576) : Calls Tryz.prog 24 #[v] w (RetV false dNodeS w xs) := by
  obtain ⟨A, c, rfl, -, hr⟩ := h.slice
  have hl := hr.2.1
  have HR := Sec.mk hr
  have hlen : xs.length ≤ 1048576 := by unfold szNodeS at hs; omega
  have HEL := Sec.mk (fun x (hx : x ∈ xs) => Nat.le_trans (szNodeS_mem hx) hs)
  clear h hr hs
  refine Calls.mono (R := RetOwn dNode 88 w xs) ?_ (fun _ _ h => h.toV)
  go_enter Tryz.func24, Tryz.ntmps24
  go_wp2_with (refine wpList_make _ rfl (.tmp 6) _ rfl dNode 88 Tryz.underlying30 eltNode zNode (fun _ => zmNode _) xs.length rfl (by omega) ?_; intro w1 ho1 hm1; have HO1 := Sec.mk ho1; have HM1 := Sec.mk hm1; clear ho1 hm1)
  go_loopw [4] (fun i wr => ∃ (k : Nat) (ys : NodeST) (F : List Nat), k ≤ xs.length ∧ i = .int .i64 k ∧ Sec (ys.length = xs.length) ∧ Sec (ys.take k = xs.take k) ∧ Sec (Own dNode 88 wr F (.slice (some ⟨w.heap.size, 0, none⟩) xs.length xs.length) ys) ∧ Sec (∀ k, k ∈ F → w.heap.size ≤ k) ∧ Sec (New w wr)) (fun i _ => xs.length - (intOf i).toNat)
  case atStart => exact ⟨0, _, _, Nat.zero_le _, rfl, Sec.mk (by simp), Sec.mk (by simp), HO1, Sec.mk (by simp), HM1⟩
  case round =>
    obtain ⟨k, ys, F, hk, rfl, HL, HT, HO, HF, HM⟩ := hrel
    clear HO1 HM1
    by_cases hlt : k < xs.length
    · obtain ⟨ad, cs, rfl, hx⟩ := HR.out.elemc hlt
      obtain ⟨hx2, hc0, hcs⟩ := hx wr (fun i hi => HM.out.block i hi id) (fun i hi => Nat.lt_of_lt_of_le hi HM.out.size)
      obtain ⟨z0, hv, -⟩ := rdNode hx2
      have hcc : cs = [z0, .int .i64 xs[k].2] := by injection hv with hv; simpa using hv
      subst hcc
      have e0 := hc0 _ rfl
      have e1 := hcs 0 _ rfl
      simp only [show dNode.sz = 2 from rfl] at e0 e1
      have HX2 := Sec.mk hx2
      clear hx hx2 hc0 hcs hv
      have HE := Sec.mk (HEL.out xs[k] (List.getElem_mem _))
      have HPX : Sec (∃ q : NodeT, q = xs[k]) := ⟨⟨_, rfl⟩⟩
      obtain ⟨q, hq⟩ := HPX.out
      rw [← hq] at HX2 HE e1
      have HQ := Sec.mk hq
      clear hq HPX
      have hki : (k : Int) < (xs.length : Int) := by omega
      go_wp2_with fail
      refine (toNode_v HX2.out HE.out).mono ?_
      rintro e w2 ⟨v2, rfl, ⟨cs2, F2, hv2, hM2, hF2⟩, hm2⟩
      have hM2' := hM2
      obtain ⟨a0, b0, hcs2⟩ := cellsNode_M hM2'
      have hv3 : v2 = .agg #[.slice a0 q.1.length b0, .int .i64 q.2] := by rw [hv2, hcs2]; rfl
      subst hcs2
      clear hv2
      subst hv3
      have HM2 := Sec.mk (HM.out.transN hm2)
      have HLT := Sec.mk HO.out.lt
      obtain ⟨g, f, hA, hgF, hgf, hff, hcell, hfz, hst⟩ := (HO.out.new hm2).put (j := k) (by rw [HL.out]; exact hlt)
      have hA' : w.heap.size = g := by injection hA with hA; injection hA
      subst hA'
      obtain ⟨o0, hc0⟩ := hcell 0 (by decide)
      have hf0 := hfz (k * 2)
      obtain ⟨o1, hc1⟩ := hcell 1 (by decide)
      have hf1 := hfz (k * 2 + 1)
      simp only [show dNode.sz = 2 from rfl, Nat.add_zero] at hc0 hc1 hst
      have hs2 := hm2.size
      obtain ⟨F', ho', hg', hF'⟩ := hst [.slice a0 q.1.length b0, .int .i64 q.2] q F2 (dNode.M_mod hM2 fun i hi => putRow_far _ _ _ _ (fun e => by have := hF2 i hi; have := HLT.out _ hgF; omega)) (fun i hi => .inr fun hiF => absurd (HLT.out i hiF) (by have := hF2 i hi; omega))
      have HO' := Sec.mk ho'
      have HF' : Sec (∀ i, i ∈ F' → w.heap.size ≤ i) := ⟨fun i hi => (hF' i hi).elim (HF.out i) (fun h => by have := hF2 i h; have := HM.out.size; omega)⟩
      clear hA hgF hgf hff hcell hfz hst ho' hg' hF' hm2 hM2 hF2 HLT
      go_wp2
      go_roundw
      case rel => exact ⟨k + 1, _, F', by omega, by go_num, ⟨(set_len ys k q).trans HL.out⟩, ⟨by rw [HQ.out]; exact set_prefix xs ys k hlt HL.out HT.out⟩, HO', HF', ⟨putRow_mod (fun h => absurd h (Nat.lt_irrefl _)) [.slice a0 q.1.length b0, .int .i64 q.2] _ 0 HM2.out⟩⟩
      case measure => simp [intOf]; omega
    · go_wp2
      go_ret
      have he : ys = xs := by
        have h1 := HT.out
        rw [List.take_of_length_le (by rw [HL.out]; omega), List.take_of_length_le (by omega)] at h1
        exact h1
      subst he
      exact RetOwn.of HO.out HF.out HM.out

end Go.Proofs.YtkkgighgnbbgiaaGreatDoor

namespace Go.Proofs.YtkkgighgnbbgiaaGreatDoor
open Go.RowKit Mem
set_option linter.unusedVariables false
set_option linter.unusedSimpArgs false
theorem lenEntry0 {w : World} {v : Value} {x : EntryT} (h : RdV true dEntry w v x) : x.1.length ≤ 9223372036854775807 := by
  obtain ⟨cs, rfl, c0, c1, rfl, h0, h1⟩ := h
  exact h0.2
theorem okEntry {w : World} {v : Value} {x : EntryT} (h : RdV true dEntry w v x) : x.1.length ≤ 9223372036854775807 ∧ IntKind.i64.wrap x.2 = x.2 := by
  obtain ⟨cs, rfl, c0, c1, rfl, h0, h1⟩ := h
  exact ⟨h0.2, h1.2⟩
def zEntry : EntryT := ([], 0)
theorem zmEntry (w : World) : dEntry.M w [] zEntry [.string ⟨#[]⟩, .int .i64 0] := mEntry (Nat.zero_le _) (show IntKind.i64.wrap 0 = 0 by decide)
theorem cellsEntry_M {w : World} {F : List Nat} {x : EntryT} {cs : List Value} (h : dEntry.M w F x cs) : cs = [.string ⟨(x.1).toArray⟩, .int .i64 x.2] := by
  obtain ⟨c0, c1, E0, E1, rfl, rfl, nd0, h0, h1⟩ := h
  obtain ⟨_, rfl, _⟩ := h0
  obtain ⟨_, rfl, _⟩ := h1
  exact rfl
def szEntry (x : EntryT) : Nat := (x.1.length)

set_option maxHeartbeats 1000000 in
set_option maxRecDepth 100000 in
theorem szEntry_v {w : World} {v : Value} {x : EntryT} (h : RdV true dEntry w v x) (left : Int) (h0 : 0 ≤ left) (h1 : left ≤ 1048576) : Calls Tryz.prog 43 #[v, .int .i64 left] w (SzR w left (szEntry x)) := by
  obtain rfl := rdEntry h
  have b0 : x.1.length ≤ 9223372036854775807 := lenEntry0 h
  have HB0 := Sec.mk (Blk.new w 84 [.string ⟨(x.1).toArray⟩, .int .i64 x.2])
  have HM0 := Sec.mk ((Mod.refl (fun _ => False) w).alloc (.cells #[.string ⟨(x.1).toArray⟩, .int .i64 x.2] 84))
  have HS : Sec (szEntry x = (x.1.length)) := ⟨rfl⟩
  clear h 
  have hz0 : (⟨x.1.toArray⟩ : ByteArray).size = x.1.length := by simp [ByteArray.size]
  generalize hs : szEntry x = s at *
  clear hs
  obtain ⟨c0, hc0⟩ : ∃ c, c = x.1.length := ⟨_, rfl⟩
  rw [← hc0] at HS
  rw [← hc0] at hz0 b0
  have HC0 := Sec.mk hc0
  clear hc0
  by_cases g0 : left < (c0 : Int)
  · have hn0 : left - (c0 : Int) < 0 := by omega
    go_enter Tryz.func43, Tryz.ntmps43
    go_wp2
    go_ret
    exact ⟨by rw [if_pos (by have := HS.out; omega)]; rfl, HM0.out⟩
  go_enter Tryz.func43, Tryz.ntmps43
  have l0 : ¬ left - (c0 : Int) < 0 := by omega
  go_wp2
  go_ret
  exact ⟨by rw [if_neg (by have := HS.out; omega)]; have := HS.out; simp; omega, HM0.out⟩


set_option maxHeartbeats 1000000 in
set_option maxRecDepth 100000 in
theorem toEntry_v {w : World} {v : Value} {x : EntryT} (h : RdV true dEntry w v x) (hs : szEntry x ≤ 1048576) : Calls Tryz.prog 58 #[v] w (RetV true dEntry w x) := by
  have HG := Sec.mk (okEntry h)
  obtain rfl := rdEntry h
  clear h
  go_enter Tryz.func58, Tryz.ntmps58
  go_wp2
  exact bodyPost_ret (v := .agg #[.string ⟨(x.1).toArray⟩, .int .i64 x.2]) (by simp [results, Tryz.results58, go_sem]) rfl ⟨_, rfl, ⟨_, [], rfl, mEntry HG.out.1 HG.out.2, by simp⟩, ((Mod.refl _ _).alloc _).alloc _ |>.alloc _⟩

def szEntryS (xs : EntryST) : Nat := xs.length + preS szEntry xs xs.length
theorem szEntryS_mem {xs : EntryST} {x : EntryT} (h : x ∈ xs) : szEntry x ≤ szEntryS xs := by
  obtain ⟨j, hj, rfl⟩ := List.getElem_of_mem h
  have h1 := preS_succ szEntry xs hj
  have h2 := preS_le szEntry xs (j + 1)
  unfold szEntryS; omega

set_option maxHeartbeats 1000000 in
set_option maxRecDepth 100000 in
theorem szEntryS_s {w : World} {v : Value} {xs : EntryST} (h : RdV false dEntryS w v xs) (left : Int) (h0 : 0 ≤ left) (h1 : left ≤ 1048576) : Calls Tryz.prog 18 #[v, .int .i64 left] w (SzR w left (szEntryS xs)) := by
  obtain ⟨A, c, rfl, -, hr⟩ := h.slice
  have hl := hr.2.1
  have HR := Sec.mk hr
  have HS : Sec (szEntryS xs = xs.length + preS szEntry xs xs.length) := ⟨rfl⟩
  clear h hr
  generalize hs : szEntryS xs = S at *
  clear hs
  by_cases hlt : left < xs.length
  · have hlt0 : left - (xs.length : Int) < 0 := by omega
    go_enter Tryz.func18, Tryz.ntmps18
    go_wp2
    go_ret
    exact ⟨by rw [if_pos (by have := HS.out; omega)]; rfl, Mod.refl _ _⟩
  have hlt0 : ¬ left - (xs.length : Int) < 0 := by omega
  go_enter Tryz.func18, Tryz.ntmps18
  go_wp2
  go_loopw [1, 5] (fun q i wr => ∃ (k : Nat), k ≤ xs.length ∧ i = .int .i64 k ∧ q = .int .i64 (left - xs.length - (preS szEntry xs k : Nat)) ∧ (preS szEntry xs k : Int) ≤ left - xs.length ∧ Sec (New w wr)) (fun _ i _ => xs.length - (intOf i).toNat)
  case atStart => exact ⟨0, Nat.zero_le _, rfl, by rw [preS_zero]; simp, by rw [preS_zero]; omega, ⟨Mod.refl _ _⟩⟩
  case round =>
    obtain ⟨k, hk, rfl, rfl, hle, HM⟩ := hrel
    by_cases hkl : k < xs.length
    · obtain ⟨ad, cs, rfl, hx⟩ := HR.out.elemc hkl
      obtain ⟨hx2, hc0, hcs⟩ := hx wr (fun i hi => HM.out.block i hi id) (fun i hi => Nat.lt_of_lt_of_le hi HM.out.size)
      have hv := rdEntry hx2
      have hcc : cs = [.string ⟨(xs[k].1).toArray⟩, .int .i64 xs[k].2] := by injection hv with hv; simpa using hv
      subst hcc
      have e0 := hc0 _ rfl
      have e1 := hcs 0 _ rfl
      simp only [show dEntry.sz = 2 from rfl] at e0 e1
      have HX2 := Sec.mk hx2
      clear hx hx2 hc0 hcs hv
      have HP := Sec.mk (preS_succ szEntry xs hkl)
      have HPL := Sec.mk (preS_le szEntry xs (k + 1))
      have HSX : Sec (∃ t, t = szEntry xs[k]) := ⟨⟨_, rfl⟩⟩
      obtain ⟨t, ht⟩ := HSX.out
      rw [← ht] at HP
      have HT := Sec.mk ht
      clear ht HSX
      generalize preS szEntry xs k = s at *
      have hki : (k : Int) < (xs.length : Int) := by omega
      by_cases hs : left - xs.length - s < t
      · go_wp2_with fail
        refine (szEntry_v HX2.out (left - xs.length - s) (by omega) (by omega)).mono ?_
        rintro e w1 ⟨rfl, hm1⟩
        rw [← HT.out, if_pos hs]
        have HM1 := Sec.mk (HM.out.transN hm1)
        clear hm1
        go_wp2
        go_ret
        exact ⟨by rw [if_pos (by have := HS.out; have := HP.out; have := HPL.out; omega)]; rfl, HM1.out⟩
      · go_wp2_with fail
        refine (szEntry_v HX2.out (left - xs.length - s) (by omega) (by omega)).mono ?_
        rintro e w1 ⟨rfl, hm1⟩
        rw [← HT.out, if_neg (by omega)]
        have HM1 := Sec.mk (HM.out.transN hm1)
        have hs0 : ¬ left - (xs.length : Int) - (s : Int) - (t : Int) < 0 := by omega
        clear hm1
        go_wp2
        go_roundw
        case rel => exact ⟨k + 1, by omega, by go_num, by rw [HP.out]; congr 1; omega, by rw [HP.out]; omega, HM1⟩
        case measure => simp [intOf]; omega
    · obtain rfl : k = xs.length := by omega
      generalize preS szEntry xs xs.length = s at *
      go_wp2
      go_ret
      exact ⟨by rw [if_neg (by have := HS.out; omega)]; have := HS.out; simp; omega, HM.out⟩


set_option maxHeartbeats 1000000 in
set_option maxRecDepth 100000 in
theorem toEntryS_v {w : World} {v : Value} {xs : EntryST} (h : RdV false dEntryS w v xs) (hs : szEntryS xs ≤ 1048576) : Calls Tryz.prog 25 #[v] w (RetV false dEntryS w xs) := by
  obtain ⟨A, c, rfl, -, hr⟩ := h.slice
  have hl := hr.2.1
  have HR := Sec.mk hr
  have hlen : xs.length ≤ 1048576 := by unfold szEntryS at hs; omega
  have HEL := Sec.mk (fun x (hx : x ∈ xs) => Nat.le_trans (szEntryS_mem hx) hs)
  clear h hr hs
  refine Calls.mono (R := RetOwn dEntry 98 w xs) ?_ (fun _ _ h => h.toV)
  go_enter Tryz.func25, Tryz.ntmps25
  go_wp2_with (refine wpList_make _ rfl (.tmp 6) _ rfl dEntry 98 Tryz.underlying31 eltEntry zEntry (fun _ => zmEntry _) xs.length rfl (by omega) ?_; intro w1 ho1 hm1; have HO1 := Sec.mk ho1; have HM1 := Sec.mk hm1; clear ho1 hm1)
  go_loopw [4] (fun i wr => ∃ (k : Nat) (ys : EntryST) (F : List Nat), k ≤ xs.length ∧ i = .int .i64 k ∧ Sec (ys.length = xs.length) ∧ Sec (ys.take k = xs.take k) ∧ Sec (Own dEntry 98 wr F (.slice (some ⟨w.heap.size, 0, none⟩) xs.length xs.length) ys) ∧ Sec (∀ k, k ∈ F → w.heap.size ≤ k) ∧ Sec (New w wr)) (fun i _ => xs.length - (intOf i).toNat)
  case atStart => exact ⟨0, _, _, Nat.zero_le _, rfl, Sec.mk (by simp), Sec.mk (by simp), HO1, Sec.mk (by simp), HM1⟩
  case round =>
    obtain ⟨k, ys, F, hk, rfl, HL, HT, HO, HF, HM⟩ := hrel
    clear HO1 HM1
    by_cases hlt : k < xs.length
    · obtain ⟨ad, cs, rfl, hx⟩ := HR.out.elemc hlt
      obtain ⟨hx2, hc0, hcs⟩ := hx wr (fun i hi => HM.out.block i hi id) (fun i hi => Nat.lt_of_lt_of_le hi HM.out.size)
      have hv := rdEntry hx2
      have hcc : cs = [.string ⟨(xs[k].1).toArray⟩, .int .i64 xs[k].2] := by injection hv with hv; simpa using hv
      subst hcc
      have e0 := hc0 _ rfl
      have e1 := hcs 0 _ rfl
      simp only [show dEntry.sz = 2 from rfl] at e0 e1
      have HX2 := Sec.mk hx2
      clear hx hx2 hc0 hcs hv
      have HE := Sec.mk (HEL.out xs[k] (List.getElem_mem _))
      have HPX : Sec (∃ q : EntryT, q = xs[k]) := ⟨⟨_, rfl⟩⟩
      obtain ⟨q, hq⟩ := HPX.out
      rw [← hq] at HX2 HE e0 e1
      have HQ := Sec.mk hq
      clear hq HPX
      have hki : (k : Int) < (xs.length : Int) := by omega
      go_wp2_with fail
      refine (toEntry_v HX2.out HE.out).mono ?_
      rintro e w2 ⟨v2, rfl, ⟨cs2, F2, hv2, hM2, hF2⟩, hm2⟩
      have hM2' := hM2
      have hcs2 := cellsEntry_M hM2'
      have hv3 : v2 = .agg #[.string ⟨(q.1).toArray⟩, .int .i64 q.2] := by rw [hv2, hcs2]; rfl
      subst hcs2
      clear hv2
      subst hv3
      have HM2 := Sec.mk (HM.out.transN hm2)
      have HLT := Sec.mk HO.out.lt
      obtain ⟨g, f, hA, hgF, hgf, hff, hcell, hfz, hst⟩ := (HO.out.new hm2).put (j := k) (by rw [HL.out]; exact hlt)
      have hA' : w.heap.size = g := by injection hA with hA; injection hA
      subst hA'
      obtain ⟨o0, hc0⟩ := hcell 0 (by decide)
      have hf0 := hfz (k * 2)
      obtain ⟨o1, hc1⟩ := hcell 1 (by decide)
      have hf1 := hfz (k * 2 + 1)
      simp only [show dEntry.sz = 2 from rfl, Nat.add_zero] at hc0 hc1 hst
      have hs2 := hm2.size
      obtain ⟨F', ho', hg', hF'⟩ := hst [.string ⟨(q.1).toArray⟩, .int .i64 q.2] q F2 (dEntry.M_mod hM2 fun i hi => putRow_far _ _ _ _ (fun e => by have := hF2 i hi; have := HLT.out _ hgF; omega)) (fun i hi => .inr fun hiF => absurd (HLT.out i hiF) (by have := hF2 i hi; omega))
      have HO' := Sec.mk ho'
      have HF' : Sec (∀ i, i ∈ F' → w.heap.size ≤ i) := ⟨fun i hi => (hF' i hi).elim (HF.out i) (fun h => by have := hF2 i h; have := HM.out.size; omega)⟩
      clear hA hgF hgf hff hcell hfz hst ho' hg' hF' hm2 hM2 hF2 HLT
      go_wp2
      go_roundw
      case rel => exact ⟨k + 1, _, F', by omega, by go_num, ⟨(set_len ys k q).trans HL.out⟩, ⟨by rw [HQ.out]; exact set_prefix xs ys k hlt HL.out HT.out⟩, HO', HF', ⟨putRow_mod (fun h => absurd h (Nat.lt_irrefl _)) [.string ⟨(q.1).toArray⟩, .int .i64 q.2] _ 0 HM2.out⟩⟩
      case measure => simp [intOf]; omega
    · go_wp2
      go_ret
      have he : ys = xs := by
        have h1 := HT.out
        rw [List.take_of_length_le (by rw [HL.out]; omega), List.take_of_length_le (by omega)] at h1
        exact h1
      subst he
      exact RetOwn.of HO.out HF.out HM.out

end Go.Proofs.YtkkgighgnbbgiaaGreatDoor
