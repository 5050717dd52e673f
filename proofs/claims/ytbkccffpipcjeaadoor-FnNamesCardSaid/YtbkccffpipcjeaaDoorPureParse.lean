/- What the library's readers of numbers and its cut answer at a mail's name. -/
import Derived.Test.YtbkccffpipcjeaaDoorPureMail
import Derived.Lib.ParseIntBCases
import Derived.Lib.ParseIntBTie
import Derived.Lib.IndexMore
import Derived.Lib.Strings
namespace Go.Proofs.YtbkccffpipcjeaaDoor
set_option linter.unusedVariables false
open Mem
theorem valF_mono : ∀ (xs : Bytes) (a : Nat), a ≤ xs.foldl (fun n b => 10 * n + (b.toNat - 48)) a
  | [], a => Nat.le_refl _
  | b :: r, a => by
    rw [List.foldl_cons]
    exact Nat.le_trans (by omega) (valF_mono r (10 * a + (b.toNat - 48)))
theorem parseM (M : Nat) (hM : M < 18446744073709551616) : ∀ (xs : Bytes) (a : Nat), (∀ b, b ∈ xs → digB b) → xs.foldl (fun n b => 10 * n + (b.toNat - 48)) a ≤ M → Lib.parseUintM M a xs = .ok (xs.foldl (fun n b => 10 * n + (b.toNat - 48)) a)
  | [], a, _, _ => rfl
  | b :: r, a, hd, h => by
    have hb := hd b (List.mem_cons_self ..)
    rw [List.foldl_cons] at h ⊢
    have hm := valF_mono r (10 * a + (b.toNat - 48))
    unfold digB at hb
    unfold Lib.parseUintM
    rw [if_pos hb, if_neg (by omega), if_neg (by omega), show a * 10 + (b.toNat - 48) = 10 * a + (b.toNat - 48) by omega]
    exact parseM M hM r _ (fun c hc => hd c (List.mem_cons_of_mem _ hc)) h
theorem parseU_dec {u : Nat} (h : u ≤ 4294967295) : Lib.parseUintB 32 (Lib.decDigits u) = .ok u := by
  unfold Lib.parseUintB
  rw [if_neg (dec_ne u)]
  have hv : (Lib.decDigits u).foldl (fun n b => 10 * n + (b.toNat - 48)) 0 = u := valL_dec u u (Nat.le_refl _)
  rw [parseM _ (by decide) _ 0 (fun b hb => dec_dig u u (Nat.le_refl _) b hb) (by rw [hv]; exact h), hv]
theorem parseI_dec {s : Nat} (h : s ≤ 1000000000000) : Lib.parseIntB 64 (Lib.decDigits s) = .ok (s : Int) := by
  have hu : Lib.parseUintB 64 (Lib.decDigits s) = .ok s := by
    unfold Lib.parseUintB
    rw [if_neg (dec_ne s)]
    have hv : (Lib.decDigits s).foldl (fun n b => 10 * n + (b.toNat - 48)) 0 = s := valL_dec s s (Nat.le_refl _)
    rw [parseM _ (by decide) _ 0 (fun b hb => dec_dig s s (Nat.le_refl _) b hb) (by rw [hv]; exact Nat.le_trans h (by decide)), hv]
  have hd : ∀ b, b ∈ Lib.decDigits s → digB b := fun b hb => dec_dig s s (Nat.le_refl _) b hb
  cases hl : Lib.decDigits s with
  | nil => exact absurd hl (dec_ne s)
  | cons c r =>
    rw [hl] at hu hd
    have hc := hd c (List.mem_cons_self ..)
    unfold digB at hc
    unfold Lib.parseIntB
    simp only []
    rw [if_neg (by omega), hu]
    simp only []
    have h63 : (2 : Nat) ^ (64 - 1) = 9223372036854775808 := by decide
    rw [if_neg (fun hh => by have h2 := hh.2; rw [h63] at h2; omega), if_neg (fun hh => by have h2 := hh.1; omega), if_neg (by omega)]
theorem cut3_app (xs ys : Bytes) (h : ∀ b, b ∈ xs → b ≠ 58) : Lib.cut (xs ++ 58 :: 50 :: 44 :: ys) [58, 50, 44] = (xs, ys, true) := by
  have hi : Lib.index (xs ++ 58 :: 50 :: 44 :: ys) [58, 50, 44] = (xs.length : Int) := by
    refine Lib.index_first (by simp) ?_ fun j hj => ?_
    · simp [Lib.occAt]
    · have hc : (xs ++ 58 :: 50 :: 44 :: ys)[j]? = some xs[j] := by rw [List.getElem?_append_left hj]; exact List.getElem?_eq_getElem hj
      cases ho : Lib.occAt (xs ++ 58 :: 50 :: 44 :: ys) [58, 50, 44] j with
      | false => rfl
      | true =>
        have := Lib.occAt_head (c := 58) rfl ho
        rw [hc] at this
        exact absurd (Option.some.inj this) (h _ (List.getElem_mem hj))
  unfold Lib.cut
  rw [hi, if_pos (by omega), Int.toNat_natCast]
  simp
theorem dec_no58 (s : Nat) : ∀ b, b ∈ Lib.decDigits s → b ≠ 58 := fun b hb => dig_ne (dec_dig s s (Nat.le_refl _) b hb) (by decide)
/-- what the program reads of a name -/
theorem name_prefix {u s f : Nat} (h : Valid u s f) : Lib.hasPrefix (MailNameL u (s : Int) f) [99, 117, 114, 47] = true ∧ Lib.trimPrefix (MailNameL u (s : Int) f) [99, 117, 114, 47] = Lib.decDigits u ++ 46 :: (Lib.decDigits s ++ 58 :: (50 :: 44 :: flagsL f)) := by
  rw [name_is h]
  have : Lib.hasPrefix ([99, 117, 114, 47] ++ (Lib.decDigits u ++ 46 :: (Lib.decDigits s ++ 58 :: (50 :: 44 :: flagsL f)))) [99, 117, 114, 47] = true := by simp [Lib.hasPrefix]
  refine ⟨this, ?_⟩
  unfold Lib.trimPrefix
  rw [if_pos this]
  simp
end Go.Proofs.YtbkccffpipcjeaaDoor
