/- Decimal numerals of the specification. -/
import Derived.Test.YtciaoedjiggonaaMem3
import Derived.Test.YtciaoedjiggonaaBytes
import Derived.Lib.ItoaNum
namespace Go.Proofs.Ytciaoedjiggonaa
open Go.RowKit Mem
set_option linter.unusedVariables false

theorem ba_app' (xs ys : Bytes) : (⟨xs.toArray⟩ : ByteArray) ++ ⟨ys.toArray⟩ = ⟨(xs ++ ys).toArray⟩ := ByteArray.ext (by rw [ByteArray.data_append]; simp)
theorem dec_big {u : Nat} (h : 10 ≤ u) : Lib.decDigits u = Lib.decDigits (u / 10) ++ [UInt8.ofNat (48 + u % 10)] := by rw [Lib.decDigits, dif_neg (by omega)]
theorem dec_small {u : Nat} (h : u < 10) : Lib.decDigits u = [UInt8.ofNat (48 + u)] := by rw [Lib.decDigits, dif_pos h]
theorem dec_len (u : Nat) (h : u ≤ 1000000000000) : (Lib.decDigits u).length ≤ 13 := by
  rw [Lib.decDigits_length]
  rcases Nat.lt_or_ge (Lib.nDigits u) 14 with h1 | h1
  · omega
  · exfalso
    have hlow : ∀ k u, k + 1 ≤ Lib.nDigits u → 10 ^ k ≤ u ∨ k = 0 := by
      intro k
      induction k with
      | zero => intro u _; exact .inr rfl
      | succ k ih =>
        intro u hk
        by_cases hu : u < 10
        · rw [Lib.nDigits_small hu] at hk; omega
        · rw [Lib.nDigits_big hu] at hk
          left
          rw [Nat.pow_succ]
          rcases ih (u / 10) (by omega) with h | h
          · have := Nat.mul_le_mul_right 10 h
            omega
          · subst h; simp; omega
    rcases hlow 13 u h1 with h2 | h2
    · have : (10 : Nat) ^ 13 = 10000000000000 := by decide
      omega
    · omega
/-- what is still to be put ahead -/
def DecSt (N m : Nat) (s : Bytes) : Prop := if m = 0 then s = Lib.decDigits N else Lib.decDigits m ++ s = Lib.decDigits N
theorem DecSt.step {N m : Nat} {s : Bytes} (h : DecSt N m s) (hm : m ≠ 0) : DecSt N (m / 10) ([UInt8.ofNat (48 + m % 10)] ++ s) := by
  unfold DecSt at h ⊢
  rw [if_neg hm] at h
  by_cases h10 : m < 10
  · rw [if_pos (by omega), ← h, dec_small h10, show m % 10 = m by omega]
  · rw [if_neg (by omega), ← h, dec_big (u := m) (by omega), List.append_assoc]
set_option maxHeartbeats 1000000 in
set_option maxRecDepth 100000 in
theorem l1Dec_calls (N : Nat) (hN : N ≤ 9999999999999) (w : World) : Calls Try.prog 104 #[.int .i64 (N : Int)] w (Ret (.string ⟨(Lib.decDigits N).toArray⟩) w) := by
  by_cases h0 : N = 0
  · subst h0
    go_enter Try.func104, Try.ntmps104
    go_wp2
    go_ret
    rw [dec_small (u := 0) (by omega)]
    exact ⟨rfl, Mod.refl _ _⟩
  · have hni : ¬ (N : Int) = 0 := by omega
    have hnb : ((N : Int) == 0) = false := by simp only [beq_eq_false_iff_ne, ne_eq]; exact hni
    have HS0 : Sec (DecSt N N []) := ⟨by unfold DecSt; rw [if_neg h0, List.append_nil]⟩
    clear h0
    go_enter Try.func104, Try.ntmps104
    go_wp2
    clear hni hnb
    go_loopw [0, 3] (fun q s wr => ∃ (m : Nat) (js : Bytes), m ≤ N ∧ q = .int .i64 (m : Int) ∧ s = .string ⟨js.toArray⟩ ∧ js.length ≤ 100000000000000 - m ∧ Sec (DecSt N m js) ∧ Sec (New w wr)) (fun q _ _ => (intOf q).toNat)
    case atStart => exact ⟨N, [], Nat.le_refl _, rfl, rfl, by simp, HS0, ⟨Mod.refl _ _⟩⟩
    case round =>
      obtain ⟨m, js, hm, rfl, rfl, hjl, HS, HM⟩ := hrel
      clear HS0
      by_cases hm0 : m = 0
      · subst hm0
        have hE : js = Lib.decDigits N := by have := HS.out; unfold DecSt at this; rwa [if_pos rfl] at this
        have HE := Sec.mk hE
        clear hE
        go_wp2
        go_ret
        rw [HE.out]
        exact ⟨rfl, HM.out⟩
      · have hmi : (0 : Int) < (m : Int) := by omega
        have HS' := Sec.mk (HS.out.step hm0)
        have HRO := Row.one wr 5 (UInt8.ofNat (48 + m % 10)) (48 + (m : Int) % 10) (by rw [UInt8.toNat_ofNat']; omega)
        have hcv := HRO.conv (P := Try.prog) Try.underlying22 Try.underlying5 Try.underlying9 1
        clear HRO
        go_wp2
        refine ⟨⟨m / 10, [UInt8.ofNat (48 + m % 10)] ++ js, by omega, ?_, ?_, ?_, HS', ⟨HM.out.alloc _⟩⟩, ?_⟩
        · go_num
        · rw [← ba_app']; simp
        · simp only [List.length_append, List.length_singleton]; omega
        · simp [intOf]; omega
end Go.Proofs.Ytciaoedjiggonaa
