/- Decimal numerals of the specification. -/
import Derived.Test.YtinfibggdbakoaaMem3
import Derived.Test.YtinfibggdbakoaaBytes
import Derived.Lib.ItoaNum
namespace Go.Proofs.Ytinfibggdbakoaa
open Go.RowKit Mem
set_option linter.unusedVariables false

theorem ba_app' (xs ys : Bytes) : (⟨xs.toArray⟩ : ByteArray) ++ ⟨ys.toArray⟩ = ⟨(xs ++ ys).toArray⟩ := ByteArray.ext (by rw [ByteArray.data_append]; simp)
theorem dec_big {u : Nat} (h : 10 ≤ u) : Lib.decDigits u = Lib.decDigits (u / 10) ++ [UInt8.ofNat (48 + u % 10)] := by rw [Lib.decDigits, dif_neg (by omega)]
theorem dec_small {u : Nat} (h : u < 10) : Lib.decDigits u = [UInt8.ofNat (48 + u)] := by rw [Lib.decDigits, dif_pos h]
theorem dec_len (u : Nat) (h : u ≤ 1000000000000) : (Lib.decDigits u).length ≤ 13 := by
  rw [Lib.decDigits_length]
  rcases Nat.lt_or_ge (Lib.nDigits u) 14 with h1 | h1
  · omega
  · exfalso
    have hlow : ∀ k u, k + 1 ≤ Lib.nDigits u → 10 ^ k ≤ u ∨ k = 0 := by
      intro k
      induction k with
      | zero => intro u _; exact .inr rfl
      | succ k ih =>
        intro u hk
        by_cases hu : u < 10
        · rw [Lib.nDigits_small hu] at hk; omega
        · rw [Lib.nDigits_big hu] at hk
          left
          rw [Nat.pow_succ]
          rcases ih (u / 10) (by omega) with h | h
          · have := Nat.mul_le_mul_right 10 h
            omega
          · subst h; simp; omega
    rcases hlow 13 u h1 with h2 | h2
    · have : (10 : Nat) ^ 13 = 10000000000000 := by decide
      omega
    · omega
/-- what is still to be put ahead -/
def DecSt (N m : Nat) (s : Bytes) : Prop := if m = 0 then s = Lib.decDigits N else Lib.decDigits m ++ s = Lib.decDigits N
theorem DecSt.step {N m : Nat} {s : Bytes} (h : DecSt N m s) (hm : m ≠ 0) : DecSt N (m / 10) ([UInt8.ofNat (48 + m % 10)] ++ s) := by
  unfold DecSt at h ⊢
  rw [if_neg hm] at h
  by_cases h10 : m < 10
  · rw [if_pos (by omega), ← h, dec_small h10, show m % 10 = m by omega]
  · rw [if_neg (by omega), ← h, dec_big (u := m) (by omega), List.append_assoc]
end Go.Proofs.Ytinfibggdbakoaa
