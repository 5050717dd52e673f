/- The specification's cuts of a text. -/
import Derived.Test.YtbkccffpipcjeaaDoorStr
import Derived.Test.YtbkccffpipcjeaaDoorPureSplit
import Derived.BigQuiet
import Derived.OwnWalk
namespace Go.Proofs.YtbkccffpipcjeaaDoor
open Go.RowKit Mem
set_option linter.unusedVariables false

def Cut3 (x : Bytes × Bytes × Bool) : Value := .tuple #[.string ⟨x.1.toArray⟩, .string ⟨x.2.1.toArray⟩, .bool x.2.2]
set_option maxHeartbeats 1000000 in
set_option maxRecDepth 100000 in
theorem l4Cut_calls (xs : Bytes) (hx : xs.length ≤ 34359738368) (b : UInt8) (w : World) : Calls Tryd.prog 35 #[.string ⟨xs.toArray⟩, .int .u8 (b.toNat : Int)] w (Ret (Cut3 (cutL b xs)) w) := by
  have hsz : (⟨xs.toArray⟩ : ByteArray).size = xs.length := by simp [ByteArray.size]
  go_enter Tryd.func35, Tryd.ntmps35
  go_wp2
  go_loopw [7] (fun i wr => ∃ k : Nat, k ≤ xs.length ∧ i = .int .i64 (k : Int) ∧ Sec (∀ j, (hj : j < xs.length) → j < k → xs[j] ≠ b) ∧ Sec (New w wr)) (fun i _ => xs.length - (intOf i).toNat)
  case atStart => exact ⟨0, Nat.zero_le _, rfl, ⟨fun j _ h => absurd h (Nat.not_lt_zero _)⟩, ⟨Mod.refl _ _⟩⟩
  case round =>
    obtain ⟨k, hk, rfl, HN, HM⟩ := hrel
    by_cases hlt : k < xs.length
    · have hki : (k : Int) < (xs.length : Int) := by omega
      have hgx := strIdx_run xs k hlt
      by_cases he : xs[k] = b
      · have HC := Sec.mk (cutL_hit b xs k hlt (fun j hj => HN.out j (by omega) hj) he)
        rw [he] at hgx
        have e1 := ba_ext xs 0 k
        have e2 := ba_ext xs (k + 1) xs.length
        rw [List.drop_zero] at e1
        rw [List.take_length] at e2
        clear he
        have hub : ((k : Int) + 1) ≤ (xs.length : Int) := by omega
        go_wp2
        go_quiet (fail)
        go_wp2
        go_ret3
        rw [HC.out]
        exact ⟨rfl, HM.out.drewN _⟩
      · have he2 : ¬ ((xs[k].toNat : Int) = (b.toNat : Int)) := fun h => he (UInt8.toNat.inj (by omega))
        have HN2 : Sec (∀ j, (hj : j < xs.length) → j < k + 1 → xs[j] ≠ b) := ⟨fun j hj h => by rcases Nat.lt_succ_iff_lt_or_eq.1 h with h | rfl; exact HN.out j hj h; exact he⟩
        clear he
        go_wp2
        go_roundw
        case rel => exact ⟨k + 1, by omega, by go_num, HN2, HM⟩
        case measure => simp [intOf]; omega
    · obtain rfl : k = xs.length := by omega
      have HC := Sec.mk (cutL_miss b xs (fun j hj => HN.out j hj hj))
      go_wp2
      go_ret3
      rw [HC.out]
      exact ⟨rfl, HM.out⟩

set_option maxHeartbeats 1000000 in
set_option maxRecDepth 100000 in
theorem l6Split_calls (xs : Bytes) (hx : xs.length ≤ 16777216) (b : UInt8) (w : World) : Calls Tryd.prog 30 #[.string ⟨xs.toArray⟩, .int .u8 (b.toNat : Int)] w (RetOwn Ty.string 9 w ((splitL b xs).map toS)) := by
  have hsl := splitL_len b xs
  go_enter Tryd.func30, Tryd.ntmps30
  go_wp2
  go_loopw [0, 5] (fun s o wr => ∃ (done : List ByteArray) (cur : Bytes) (A : Option Addr) (n c : Nat), Sec ((splitL b xs).map toS = done ++ (splitL b cur).map toS) ∧ cur.length ≤ xs.length ∧ s = .string ⟨cur.toArray⟩ ∧ o = .slice A n c ∧ Sec (Mine Ty.string 9 w wr (.slice A n c) done)) (fun s _ _ => match s with | .string x => x.size | _ => 0)
  case atStart => exact ⟨[], xs, _, _, _, ⟨rfl⟩, Nat.le_refl _, rfl, rfl, ⟨Mine.nil _ _ (Mod.refl _ _)⟩⟩
  case round =>
    obtain ⟨done, cur, A, n, c, HS, hcl, rfl, rfl, HO⟩ := hrel
    have HC := Sec.mk (l4Cut_calls cur (by omega) b)
    have hdl : done.length ≤ 16777217 := by
      have h1 := congrArg List.length HS.out
      rw [List.length_append, List.length_map, List.length_map] at h1
      omega
    cases hq : (cutL b cur).2.2
    · have HN := Sec.mk (cutL_no b cur hq)
      have HSP := Sec.mk (splitL_no b cur hq)
      rw [HN.out] at HC
      simp only [Cut3] at HC
      clear hq
      go_wp2_with fail
      refine (HC.out _).mono ?_
      rintro e w2 ⟨rfl, hm2⟩
      have HO2 := Sec.mk (HO.out.step hm2)
      clear hm2
      go_wp2_with (at_builtin; go_loud (refine wpList_app _ rfl (.tmp 16) (.tmp 18) _ rfl Tryd.underlying42 elt_str flat_string rfl rfl (HO2.out.alloc _) (row_str _ _ _) (show done.length + [(⟨cur.toArray⟩ : ByteArray)].length ≤ 34359738368 by simp only [List.length_singleton]; omega) ?_; intro A6 n6 c6 w6 HO6))
      go_wp2
      go_ret
      rw [HS.out, HSP.out]
      exact HO6.ret
    · have HL := cutL_len b cur hq
      have HSP := Sec.mk (splitL_hit b cur hq)
      have HCT : Sec (cutL b cur = ((cutL b cur).1, (cutL b cur).2.1, true)) := ⟨by rw [← hq]⟩
      rw [HCT.out] at HC
      simp only [Cut3] at HC
      generalize (cutL b cur).1 = x at *
      generalize (cutL b cur).2.1 = y at *
      clear hq HCT
      go_wp2_with fail
      refine (HC.out _).mono ?_
      rintro e w2 ⟨rfl, hm2⟩
      have HO2 := Sec.mk (HO.out.step hm2)
      clear hm2
      go_wp2_with (at_builtin; go_loud (refine wpList_app _ rfl (.tmp 16) (.tmp 18) _ rfl Tryd.underlying42 elt_str flat_string rfl rfl (HO2.out.alloc _) (row_str _ _ _) (show done.length + [(⟨x.toArray⟩ : ByteArray)].length ≤ 34359738368 by simp only [List.length_singleton]; omega) ?_; intro A6 n6 c6 w6 HO6))
      have HO6' := Sec.mk HO6
      clear HO6
      go_wp2
      go_roundw
      case rel => exact ⟨done ++ [toS x], y, A6, n6, c6, ⟨by rw [HS.out, HSP.out]; simp⟩, by omega, rfl, rfl, HO6'⟩
      case measure => simp [ByteArray.size]; omega
end Go.Proofs.YtbkccffpipcjeaaDoor
