/- The specification's cuts of a text. -/
import Derived.Test.YtciaoedjiggonaaStr
import Derived.Test.YtciaoedjiggonaaPureSplit
import Derived.BigQuiet
import Derived.OwnWalk
namespace Go.Proofs.Ytciaoedjiggonaa
open Go.RowKit Mem
set_option linter.unusedVariables false

def Cut3 (x : Bytes × Bytes × Bool) : Value := .tuple #[.string ⟨x.1.toArray⟩, .string ⟨x.2.1.toArray⟩, .bool x.2.2]
set_option maxHeartbeats 1000000 in
set_option maxRecDepth 100000 in
theorem l4Cut_calls (xs : Bytes) (hx : xs.length ≤ 34359738368) (b : UInt8) (w : World) : Calls Try.prog 91 #[.string ⟨xs.toArray⟩, .int .u8 (b.toNat : Int)] w (Ret (Cut3 (cutL b xs)) w) := by
  have hsz : (⟨xs.toArray⟩ : ByteArray).size = xs.length := by simp [ByteArray.size]
  go_enter Try.func91, Try.ntmps91
  go_wp2
  go_loopw [7] (fun i wr => ∃ k : Nat, k ≤ xs.length ∧ i = .int .i64 (k : Int) ∧ Sec (∀ j, (hj : j < xs.length) → j < k → xs[j] ≠ b) ∧ Sec (New w wr)) (fun i _ => xs.length - (intOf i).toNat)
  case atStart => exact ⟨0, Nat.zero_le _, rfl, ⟨fun j _ h => absurd h (Nat.not_lt_zero _)⟩, ⟨Mod.refl _ _⟩⟩
  case round =>
    obtain ⟨k, hk, rfl, HN, HM⟩ := hrel
    by_cases hlt : k < xs.length
    · have hki : (k : Int) < (xs.length : Int) := by omega
      have hgx := strIdx_run xs k hlt
      by_cases he : xs[k] = b
      · have HC := Sec.mk (cutL_hit b xs k hlt (fun j hj => HN.out j (by omega) hj) he)
        rw [he] at hgx
        have e1 := ba_ext xs 0 k
        have e2 := ba_ext xs (k + 1) xs.length
        rw [List.drop_zero] at e1
        rw [List.take_length] at e2
        clear he
        have hub : ((k : Int) + 1) ≤ (xs.length : Int) := by omega
        go_wp2
        go_quiet (fail)
        go_wp2
        go_ret3
        rw [HC.out]
        exact ⟨rfl, HM.out.drewN _⟩
      · have he2 : ¬ ((xs[k].toNat : Int) = (b.toNat : Int)) := fun h => he (UInt8.toNat.inj (by omega))
        have HN2 : Sec (∀ j, (hj : j < xs.length) → j < k + 1 → xs[j] ≠ b) := ⟨fun j hj h => by rcases Nat.lt_succ_iff_lt_or_eq.1 h with h | rfl; exact HN.out j hj h; exact he⟩
        clear he
        go_wp2
        go_roundw
        case rel => exact ⟨k + 1, by omega, by go_num, HN2, HM⟩
        case measure => simp [intOf]; omega
    · obtain rfl : k = xs.length := by omega
      have HC := Sec.mk (cutL_miss b xs (fun j hj => HN.out j hj hj))
      go_wp2
      go_ret3
      rw [HC.out]
      exact ⟨rfl, HM.out⟩
end Go.Proofs.Ytciaoedjiggonaa
