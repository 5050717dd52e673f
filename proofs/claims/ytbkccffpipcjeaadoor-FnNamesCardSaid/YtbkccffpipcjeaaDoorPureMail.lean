/- Names of mails read back, in plain lists. -/
import Derived.Test.YtbkccffpipcjeaaDoorPureSet
import Derived.Test.YtbkccffpipcjeaaDoorPureLet
import Derived.Test.YtbkccffpipcjeaaDoorPureName
namespace Go.Proofs.YtbkccffpipcjeaaDoor
set_option linter.unusedVariables false
open Mem
theorem orL_bit (L : List (Nat × Nat)) (b j : Nat) : ∀ f, (orL L b f).testBit j = (f.testBit j || L.any fun p => decide (p.1 = b) && decide (p.2 = j)) := by
  induction L with
  | nil => intro f; simp [orL]
  | cons p L ih =>
    intro f
    have h1 : orL (p :: L) b f = orL L b (if p.1 = b then f ||| 2 ^ p.2 else f) := rfl
    rw [h1, ih, List.any_cons]
    by_cases h : p.1 = b
    · rw [if_pos h, Nat.testBit_or, Nat.testBit_two_pow]
      simp [h, Bool.or_assoc]
    · rw [if_neg h]; simp [h]
theorem bitsOf_bit (j : Nat) : ∀ (xs : Bytes) (f : Nat), (xs.foldl (fun f b => orL lets b.toNat f) f).testBit j = (f.testBit j || xs.any fun b => lets.any fun p => decide (p.1 = b.toNat) && decide (p.2 = j))
  | [], f => by simp
  | b :: r, f => by rw [List.foldl_cons, bitsOf_bit j r, orL_bit, List.any_cons, Bool.or_assoc]
theorem lets_inj : ∀ p, p ∈ lets → ∀ q, q ∈ lets → p.1 = q.1 → p.2 = q.2 := by decide +kernel
theorem lets_has : ∀ j, j < 31 → ∃ p, p ∈ lets ∧ p.2 = j := by decide +kernel
theorem bits_flags (f : Nat) (hf : f < 2147483648) : bitsOf (flagsL f) = f := by
  apply Nat.eq_of_testBit_eq
  intro j
  unfold bitsOf
  rw [bitsOf_bit, Nat.zero_testBit, Bool.false_or, Bool.eq_iff_iff]
  constructor
  · intro h
    obtain ⟨b, hb, h⟩ := List.any_eq_true.1 h
    obtain ⟨p, hp, h⟩ := List.any_eq_true.1 h
    rw [Bool.and_eq_true] at h
    have h1 := of_decide_eq_true h.1
    have h2 := of_decide_eq_true h.2
    unfold flagsL at hb
    obtain ⟨q, hq, rfl⟩ := List.mem_map.1 hb
    obtain ⟨hq1, hq2⟩ := List.mem_filter.1 hq
    have hl := lets_low q hq1
    have : (UInt8.ofNat q.1).toNat = q.1 := by rw [UInt8.toNat_ofNat']; omega
    rw [this] at h1
    rw [← h2, lets_inj p hp q hq1 h1]; exact hq2
  · intro h
    have hj : j < 31 := by
      rcases Nat.lt_or_ge j 31 with h1 | h1
      · exact h1
      · have : f < 2 ^ j := Nat.lt_of_lt_of_le hf (Nat.le_trans (by decide : 2147483648 ≤ 2 ^ 31) (Nat.pow_le_pow_right (by decide) h1))
        rw [Nat.testBit_lt_two_pow this] at h; cases h
    obtain ⟨p, hp, rfl⟩ := lets_has j hj
    refine List.any_eq_true.2 ⟨UInt8.ofNat p.1, ?_, List.any_eq_true.2 ⟨p, hp, ?_⟩⟩
    · unfold flagsL
      exact List.mem_map.2 ⟨p, List.mem_filter.2 ⟨hp, h⟩, rfl⟩
    · have hl := lets_low p hp
      have : (UInt8.ofNat p.1).toNat = p.1 := by rw [UInt8.toNat_ofNat']; omega
      simp [this]
theorem LetL_flags (f : Nat) (hf : f < 2147483648) : LetL (flagsL f) = (true, (f : Int)) := by
  unfold LetL; rw [bits_flags f hf, if_pos rfl]
theorem dec_dig : ∀ n u, u ≤ n → ∀ b, b ∈ Lib.decDigits u → digB b := by
  intro n
  induction n with
  | zero =>
    intro u h b hb
    obtain rfl : u = 0 := by omega
    rw [dec_small (by decide)] at hb
    obtain rfl : b = UInt8.ofNat (48 + 0) := by simpa using hb
    decide
  | succ n ih =>
    intro u h b hb
    by_cases hu : u < 10
    · rw [dec_small hu] at hb
      obtain rfl : b = UInt8.ofNat (48 + u) := by simpa using hb
      unfold digB; rw [UInt8.toNat_ofNat']; omega
    · rw [dec_big (by omega)] at hb
      rcases List.mem_append.1 hb with hb | hb
      · exact ih (u / 10) (by omega) b hb
      · obtain rfl : b = UInt8.ofNat (48 + u % 10) := by simpa using hb
        unfold digB; rw [UInt8.toNat_ofNat']; omega
theorem valL_dec : ∀ n u, u ≤ n → valL (Lib.decDigits u) = u := by
  intro n
  induction n with
  | zero =>
    intro u h
    obtain rfl : u = 0 := by omega
    rw [dec_small (by decide)]; rfl
  | succ n ih =>
    intro u h
    by_cases hu : u < 10
    · rw [dec_small hu]
      show 10 * 0 + ((UInt8.ofNat (48 + u)).toNat - 48) = u
      rw [UInt8.toNat_ofNat']; omega
    · rw [dec_big (by omega), valL_snoc, ih (u / 10) (by omega), UInt8.toNat_ofNat']; omega
theorem dec_len1 (u : Nat) : 1 ≤ (Lib.decDigits u).length := List.length_pos_iff.2 (dec_ne u)
theorem numL_dec (u : Nat) (h : u < 10000000000000) : numL (Lib.decDigits u) = (u, true) := by
  unfold numL
  rw [if_pos ⟨dec_len1 u, dec_len_pow 13 u (by decide) h, fun b hb => dec_dig u u (Nat.le_refl _) b hb⟩, valL_dec u u (Nat.le_refl _)]
  simp
theorem dig_ne {b c : UInt8} (h : digB b) (hc : c.toNat < 48 ∨ 57 < c.toNat) : b ≠ c := by
  intro e; subst e; unfold digB at h; omega
theorem cutL_app (c : UInt8) : ∀ (xs ys : Bytes), (∀ b, b ∈ xs → b ≠ c) → cutL c (xs ++ c :: ys) = (xs, ys, true)
  | [], ys, _ => by unfold cutL; simp
  | b :: r, ys, h => by
    have hb := h b (List.mem_cons_self ..)
    have := cutL_app c r ys (fun b' hb' => h b' (List.mem_cons_of_mem _ hb'))
    rw [List.cons_append]
    unfold cutL
    rw [if_neg hb, this]
/-- what a name comes from -/
def Valid (u s f : Nat) : Prop := 1 ≤ u ∧ u ≤ 4294967295 ∧ s ≤ 1000000000000 ∧ f < 2147483648
theorem name_is {u s f : Nat} (h : Valid u s f) : MailNameL u (s : Int) f = [99, 117, 114, 47] ++ (Lib.decDigits u ++ 46 :: (Lib.decDigits s ++ 58 :: (50 :: 44 :: flagsL f))) := by
  rw [MailNameL_yes (by have := h.1; omega) h.2.2.1]
  simp
theorem head_ne {u s : Nat} : ∀ b, b ∈ Lib.decDigits u ++ 46 :: Lib.decDigits s → b ≠ 58 := by
  intro b hb
  rcases List.mem_append.1 hb with h | h
  · exact dig_ne (dec_dig u u (Nat.le_refl _) b h) (by decide)
  · rcases List.mem_cons.1 h with rfl | h
    · decide
    · exact dig_ne (dec_dig s s (Nat.le_refl _) b h) (by decide)
theorem name_cut58 {u s f : Nat} (h : Valid u s f) : cutL 58 ((MailNameL u (s : Int) f).drop 4) = (Lib.decDigits u ++ 46 :: Lib.decDigits s, 50 :: 44 :: flagsL f, true) := by
  rw [name_is h]
  have : List.drop 4 ([99, 117, 114, 47] ++ (Lib.decDigits u ++ 46 :: (Lib.decDigits s ++ 58 :: (50 :: 44 :: flagsL f)))) = (Lib.decDigits u ++ 46 :: Lib.decDigits s) ++ 58 :: (50 :: 44 :: flagsL f) := by simp
  rw [this, cutL_app _ _ _ head_ne]
theorem cut46 (u : Nat) (ys : Bytes) : cutL 46 (Lib.decDigits u ++ 46 :: ys) = (Lib.decDigits u, ys, true) :=
  cutL_app _ _ _ fun b hb => dig_ne (dec_dig u u (Nat.le_refl _) b hb) (by decide)
theorem name_inj {u s f u' s' f' : Nat} (h : Valid u s f) (h' : Valid u' s' f') (e : MailNameL u (s : Int) f = MailNameL u' (s' : Int) f') : u = u' ∧ s = s' ∧ f = f' := by
  have h1 := name_cut58 h
  rw [e, name_cut58 h'] at h1
  injection h1 with h2 h3
  injection h3 with h3 _
  have h4 := cut46 u (Lib.decDigits s)
  rw [← h2, cut46] at h4
  injection h4 with h5 h6
  injection h6 with h6 _
  have k1 := valL_dec u u (Nat.le_refl _)
  have k2 := valL_dec s s (Nat.le_refl _)
  have k3 := bits_flags f h.2.2.2
  rw [← h5, valL_dec u' u' (Nat.le_refl _)] at k1
  rw [← h6, valL_dec s' s' (Nat.le_refl _)] at k2
  have h7 : flagsL f' = flagsL f := by simpa using h3
  rw [← h7, bits_flags f' h'.2.2.2] at k3
  exact ⟨k1.symm, k2.symm, k3.symm⟩
theorem name_len {u s f : Nat} (h : Valid u s f) : 4 ≤ (MailNameL u (s : Int) f).length ∧ (MailNameL u (s : Int) f).length ≤ 62 := by
  rw [name_is h]
  have h1 := dec_len_pow 10 u (by decide) (by have := h.2.1; omega)
  have h2 := dec_len_pow 13 s (by decide) (by have := h.2.2.1; omega)
  have h3 := flagsL_len f
  simp
  omega
abbrev MailedT := Bool × Int × Int × Int
/-- the answer: read, and put together again -/
def RMN (n : Bytes) : MailedT :=
  if (1 ≤ valL (cutL 46 (cutL 58 (n.drop 4)).1).1 ∧ valL (cutL 46 (cutL 58 (n.drop 4)).1).1 ≤ 4294967295 ∧ valL (cutL 46 (cutL 58 (n.drop 4)).1).2.1 ≤ 1000000000000 ∧ bitsOf ((cutL 58 (n.drop 4)).2.1.drop 2) < 2147483648) ∧ MailNameL (valL (cutL 46 (cutL 58 (n.drop 4)).1).1) (valL (cutL 46 (cutL 58 (n.drop 4)).1).2.1 : Int) (bitsOf ((cutL 58 (n.drop 4)).2.1.drop 2)) = n
  then (true, (valL (cutL 46 (cutL 58 (n.drop 4)).1).1 : Int), (valL (cutL 46 (cutL 58 (n.drop 4)).1).2.1 : Int), (bitsOf ((cutL 58 (n.drop 4)).2.1.drop 2) : Int)) else (false, 0, 0, 0)
theorem RMN_some {n : Bytes} {u s f : Nat} (h : Valid u s f) (e : MailNameL u (s : Int) f = n) : RMN n = (true, (u : Int), (s : Int), (f : Int)) := by
  subst e
  unfold RMN
  rw [name_cut58 h]
  simp only []
  rw [cut46]
  simp only [List.drop_succ_cons, List.drop_zero]
  rw [valL_dec u u (Nat.le_refl _), valL_dec s s (Nat.le_refl _), bits_flags f h.2.2.2, if_pos ⟨h, rfl⟩]
theorem RMN_none {n : Bytes} (h : ∀ u s f, Valid u s f → MailNameL u (s : Int) f ≠ n) : RMN n = (false, 0, 0, 0) := by
  unfold RMN
  rw [if_neg]
  rintro ⟨h1, h2⟩
  exact h _ _ _ h1 h2
end Go.Proofs.YtbkccffpipcjeaaDoor
