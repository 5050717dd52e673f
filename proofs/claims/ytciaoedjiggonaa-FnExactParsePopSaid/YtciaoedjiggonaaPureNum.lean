/- Numbers read, in plain lists. -/
import Derived.Test.YtciaoedjiggonaaDec1
namespace Go.Proofs.Ytciaoedjiggonaa
set_option linter.unusedVariables false
open Mem
def digB (b : UInt8) : Prop := 48 ≤ b.toNat ∧ b.toNat ≤ 57
instance (b : UInt8) : Decidable (digB b) := inferInstanceAs (Decidable (_ ∧ _))
def valL (xs : Bytes) : Nat := xs.foldl (fun n b => 10 * n + (b.toNat - 48)) 0
theorem valL_snoc (xs : Bytes) (b : UInt8) : valL (xs ++ [b]) = 10 * valL xs + (b.toNat - 48) := by unfold valL; rw [List.foldl_append]; rfl
theorem valL_take (xs : Bytes) {k : Nat} (h : k < xs.length) : valL (xs.take (k + 1)) = 10 * valL (xs.take k) + (xs[k].toNat - 48) := by
  rw [List.take_succ_eq_append_getElem h, valL_snoc]
theorem valL_lt (xs : Bytes) : ∀ k, k ≤ xs.length → (∀ j, (hj : j < xs.length) → j < k → digB xs[j]) → valL (xs.take k) < 10 ^ k := by
  intro k
  induction k with
  | zero => intro _ _; simp [valL]
  | succ k ih =>
    intro hk h
    have h1 := ih (by omega) (fun j hj hjk => h j hj (by omega))
    have h2 := h k (by omega) (by omega)
    rw [valL_take xs (by omega), Nat.pow_succ]
    unfold digB at h2
    omega
theorem pow_le18 {k : Nat} (h : k ≤ 17) : (10 : Nat) ^ k ≤ 100000000000000000 := by
  have : (10 : Nat) ^ k ≤ 10 ^ 17 := Nat.pow_le_pow_right (by decide) h
  exact Nat.le_trans this (by decide)
def numL (xs : Bytes) : Nat × Bool := if 1 ≤ xs.length ∧ xs.length ≤ 13 ∧ ∀ b, b ∈ xs → digB b then (valL xs, decide (Lib.decDigits (valL xs) = xs)) else (0, false)
def decL (m : Nat) (xs : Bytes) : Nat × Bool := if 1 ≤ xs.length ∧ xs.length ≤ m ∧ ¬ (xs[0]? = some 48 ∧ 1 < xs.length) ∧ ∀ b, b ∈ xs → digB b then (valL xs, true) else (0, false)
theorem dec_len_pow : ∀ m u, 1 ≤ m → u < 10 ^ m → (Lib.decDigits u).length ≤ m
  | 0, _, h, _ => absurd h (by decide)
  | m + 1, u, _, h => by
    by_cases hu : u < 10
    · rw [dec_small hu]; simp
    · rw [dec_big (by omega), List.length_append]
      have hm : 1 ≤ m := by
        rcases Nat.eq_zero_or_pos m with h0 | h0
        · subst h0; simp at h; omega
        · exact h0
      have := dec_len_pow m (u / 10) hm (by rw [Nat.pow_succ] at h; omega)
      simp only [List.length_singleton]; omega
theorem dec_ne (u : Nat) : Lib.decDigits u ≠ [] := by
  by_cases hu : u < 10
  · rw [dec_small hu]; simp
  · rw [dec_big (by omega)]; simp
theorem dec_head : ∀ n u, u ≤ n → (Lib.decDigits u)[0]? = some 48 → u = 0
  | 0, u, h, _ => by omega
  | n + 1, u, h, h0 => by
    by_cases hu : u < 10
    · rw [dec_small hu] at h0
      have : UInt8.ofNat (48 + u) = 48 := by simpa using h0
      have := congrArg UInt8.toNat this
      rw [UInt8.toNat_ofNat'] at this
      have h48 : (48 : UInt8).toNat = 48 := rfl
      omega
    · rw [dec_big (by omega), List.getElem?_append_left (List.length_pos_iff.2 (dec_ne _))] at h0
      have := dec_head n (u / 10) (by omega) h0
      omega
theorem dec_val : ∀ n (xs : Bytes), xs.length = n + 1 → (∀ b, b ∈ xs → digB b) → ¬ (xs[0]? = some 48 ∧ 1 < xs.length) → Lib.decDigits (valL xs) = xs := by
  intro n
  induction n with
  | zero =>
    intro xs hl hd _
    match xs, hl with
    | [b], _ =>
      have hb := hd b (by simp)
      unfold digB at hb
      have hv : valL [b] = b.toNat - 48 := by simp [valL]
      rw [hv, dec_small (by omega)]
      congr 1
      apply UInt8.toNat.inj
      rw [UInt8.toNat_ofNat']; omega
  | succ n ih =>
    intro xs hl hd hz
    obtain ⟨ys, b, rfl⟩ : ∃ ys b, xs = ys ++ [b] := ⟨xs.dropLast, xs.getLast (by intro h; rw [h] at hl; cases hl), (List.dropLast_concat_getLast _).symm⟩
    rw [List.length_append, List.length_singleton] at hl
    have hyl : ys.length = n + 1 := by omega
    have hb := hd b (by simp)
    unfold digB at hb
    have h0 : (ys ++ [b])[0]? = ys[0]? := List.getElem?_append_left (by omega)
    have hz' : ys[0]? ≠ some 48 := fun h => hz ⟨by rw [h0, h], by simp; omega⟩
    have hy := ih ys hyl (fun c hc => hd c (by simp [hc])) (fun h => hz' h.1)
    have hpos : 1 ≤ valL ys := by
      rcases Nat.eq_zero_or_pos (valL ys) with h | h
      · rw [h, dec_small (by decide)] at hy
        exact absurd (by rw [← hy]; rfl) hz'
      · exact h
    rw [valL_snoc, dec_big (by omega), show (10 * valL ys + (b.toNat - 48)) / 10 = valL ys by omega, hy]
    congr 2
    apply UInt8.toNat.inj
    rw [UInt8.toNat_ofNat']; omega
theorem dec_val_iff {xs : Bytes} (hl : 1 ≤ xs.length) (hd : ∀ b, b ∈ xs → digB b) : Lib.decDigits (valL xs) = xs ↔ ¬ (xs[0]? = some 48 ∧ 1 < xs.length) := by
  constructor
  · intro h ⟨h0, h1⟩
    have hv := dec_head _ (valL xs) (Nat.le_refl _) (by rw [h]; exact h0)
    rw [hv, dec_small (by decide)] at h
    rw [← h] at h1
    simp at h1
  · intro h
    exact dec_val (xs.length - 1) xs (by omega) hd h
/-- a place of a set: '*' or a uid -/
def plL (xs : Bytes) : Option Nat := if xs = [42] then some 0 else if (decL 10 xs).2 = true ∧ 1 ≤ (decL 10 xs).1 ∧ (decL 10 xs).1 ≤ 4294967295 then some (decL 10 xs).1 else none
theorem dec_num {xs : Bytes} {n : Nat} (h : n ≤ 4294967295) : (numL xs = (n, true) ↔ decL 10 xs = (n, true)) := by
  constructor
  · intro hn
    unfold numL at hn
    split at hn
    · rename_i hc
      injection hn with h1 h2
      have hiff := dec_val_iff hc.1 hc.2.2
      have hd := of_decide_eq_true h2
      have hl := dec_len_pow 10 (valL xs) (by decide) (by rw [h1]; omega)
      rw [hd] at hl
      unfold decL
      rw [if_pos ⟨hc.1, hl, hiff.1 hd, hc.2.2⟩, h1]
    · injection hn with h1 h2; cases h2
  · intro hn
    unfold decL at hn
    split at hn
    · rename_i hc
      injection hn with h1 h2
      unfold numL
      rw [if_pos ⟨hc.1, by omega, hc.2.2.2⟩, h1]
      congr 1
      rw [← h1]
      exact decide_eq_true ((dec_val_iff hc.1 hc.2.2.2).2 hc.2.2.1)
    · injection hn with h1 h2; cases h2
theorem plL_num {xs : Bytes} (h : xs ≠ [42]) : plL xs = if (numL xs).2 = true ∧ 1 ≤ (numL xs).1 ∧ (numL xs).1 ≤ 4294967295 then some (numL xs).1 else none := by
  unfold plL
  rw [if_neg h]
  by_cases hc : (numL xs).2 = true ∧ 1 ≤ (numL xs).1 ∧ (numL xs).1 ≤ 4294967295
  · have := (dec_num (xs := xs) hc.2.2).1 (by rw [← hc.1])
    rw [if_pos hc, this, if_pos ⟨rfl, hc.2⟩]
  · rw [if_neg hc]
    by_cases hd : (decL 10 xs).2 = true ∧ 1 ≤ (decL 10 xs).1 ∧ (decL 10 xs).1 ≤ 4294967295
    · have := (dec_num (xs := xs) hd.2.2).2 (by rw [← hd.1])
      rw [this] at hc
      exact absurd ⟨rfl, hd.2⟩ hc
    · rw [if_neg hd]
end Go.Proofs.Ytciaoedjiggonaa
