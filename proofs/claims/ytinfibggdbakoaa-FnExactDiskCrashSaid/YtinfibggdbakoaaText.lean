/- The laws' marks of texts. -/
import Derived.Test.YtinfibggdbakoaaFld
import Derived.Test.YtinfibggdbakoaaReg
import Derived.Test.YtinfibggdbakoaaDec1
namespace Go.Proofs.Ytinfibggdbakoaa
open Go.RowKit Mem
set_option linter.unusedVariables false
/-- the text for a number -/
def markT (k : Nat) : Bytes := 109 :: Lib.decDigits k
theorem markT_len (k : Nat) (hk : k ≤ 2000000000000000000) : (markT k).length ≤ 9223372036854775807 := by
  have hlow : ∀ n, ∀ u, n + 1 ≤ Lib.nDigits u → 10 ^ n ≤ u ∨ n = 0 := by
    intro n
    induction n with
    | zero => intro u _; exact .inr rfl
    | succ n ih =>
      intro u hu
      by_cases h10 : u < 10
      · rw [Lib.nDigits_small h10] at hu; omega
      · rw [Lib.nDigits_big h10] at hu
        left
        rw [Nat.pow_succ]
        rcases ih (u / 10) (by omega) with h | h
        · have := Nat.mul_le_mul_right 10 h
          omega
        · subst h; simp; omega
  have h1 : (markT k).length = Lib.nDigits k + 1 := by unfold markT; rw [List.length_cons, Lib.decDigits_length]
  rw [h1]
  rcases Nat.lt_or_ge (Lib.nDigits k) 20 with h | h
  · omega
  · rcases hlow 19 k h with h2 | h2
    · have : (10 : Nat) ^ 19 = 10000000000000000000 := by decide
      omega
    · omega
theorem ldStr {w : World} {p : Addr} {v : Value} (h : w.cell? p = some v) : (Instr.loadAt 9 (.pointer (some p))).run Try.prog w = .ok v w := by go_simp
theorem strNe (s : ByteArray) (x y : Operand) (w : World) : (do eqGuard .neq 9 x y (.string s) (.string s); binOp .neq 9 (.string s) (.string s) : Sem Value).run Try.prog w = .ok (.bool false) w := by go_simp
theorem pow_small {n N : Nat} (h : 10 ^ n ≤ N) (hN : N ≤ 2000000000000000000) : n ≤ 18 := by
  rcases Nat.lt_or_ge n 19 with h1 | h1
  · omega
  · have := Nat.pow_le_pow_right (n := 10) (by decide) h1
    have e : (10 : Nat) ^ 19 = 10000000000000000000 := by decide
    omega
set_option maxHeartbeats 1000000 in
set_option maxRecDepth 100000 in
theorem markText_i (q : Int) (N : Nat) (hq : q = (N : Int)) (hN : N ≤ 2000000000000000000) (w : World) : Calls Try.prog 69 #[.int .i64 q] w (Ret (.string ⟨(markT N).toArray⟩) w) := by
  subst hq
  by_cases h0 : N = 0
  · subst h0
    have HE : Sec (markT 0 = [109, 48]) := ⟨by unfold markT; rw [dec_small (by omega)]; rfl⟩
    go_enter Try.func69, Try.ntmps69
    go_wp2
    go_ret
    rw [HE.out]
    exact ⟨rfl, Mod.refl _ _⟩
  · have hni : ¬ (N : Int) ≤ 0 := by omega
    have HS0 : Sec (DecSt N N []) := ⟨by unfold DecSt; rw [if_neg h0, List.append_nil]⟩
    have HMT : Sec (markT N = [109] ++ Lib.decDigits N) := ⟨rfl⟩
    clear h0
    go_enter Try.func69, Try.ntmps69
    go_wp2
    clear hni
    go_loopw [0, 3] (fun q s wr => ∃ (m : Nat) (js : Bytes), m ≤ N ∧ q = .int .i64 (m : Int) ∧ s = .string ⟨js.toArray⟩ ∧ js.length ≤ 30 ∧ Sec (m = 0 ∨ m * 10 ^ js.length ≤ N) ∧ Sec (DecSt N m js) ∧ Sec (New w wr)) (fun q _ _ => (intOf q).toNat)
    case atStart => exact ⟨N, [], Nat.le_refl _, rfl, rfl, by simp, ⟨.inr (by simp)⟩, HS0, ⟨Mod.refl _ _⟩⟩
    case round =>
      obtain ⟨m, js, hm, rfl, rfl, hjl, HP, HS, HM⟩ := hrel
      clear HS0
      by_cases hm0 : m = 0
      · subst hm0
        have hE : js = Lib.decDigits N := by have := HS.out; unfold DecSt at this; rwa [if_pos rfl] at this
        have HE := Sec.mk hE
        have hap := ba_app' [109] js
        clear hE
        go_wp2
        go_ret
        rw [HMT.out, ← HE.out]
        exact ⟨rfl, HM.out⟩
      · have hmi : (0 : Int) < (m : Int) := by omega
        have HS' := Sec.mk (HS.out.step hm0)
        have hp := HP.out.resolve_left hm0
        have hj18 : js.length ≤ 18 := pow_small (N := N) (Nat.le_trans (Nat.le_mul_of_pos_left _ (by omega)) hp) hN
        have HP' : Sec (m / 10 = 0 ∨ m / 10 * 10 ^ (js.length + 1) ≤ N) := ⟨.inr (by
          rw [Nat.pow_succ, ← Nat.mul_assoc, Nat.mul_right_comm]
          exact Nat.le_trans (Nat.mul_le_mul_right _ (Nat.div_mul_le_self m 10)) hp)⟩
        have HRO := Row.one wr 5 (UInt8.ofNat (48 + m % 10)) (48 + (m : Int) % 10) (by rw [UInt8.toNat_ofNat']; omega)
        have hcv := HRO.conv (P := Try.prog) Try.underlying37 Try.underlying5 Try.underlying9 1
        clear HRO hp HP
        go_wp2
        refine ⟨⟨m / 10, [UInt8.ofNat (48 + m % 10)] ++ js, by omega, ?_, ?_, ?_, ?_, HS', ⟨HM.out.alloc _⟩⟩, ?_⟩
        · go_num
        · rw [← ba_app']; simp
        · simp only [List.length_append, List.length_singleton]; omega
        · rw [List.length_append, List.length_singleton, Nat.add_comm]; exact HP'
        · simp [intOf]; omega
end Go.Proofs.Ytinfibggdbakoaa
