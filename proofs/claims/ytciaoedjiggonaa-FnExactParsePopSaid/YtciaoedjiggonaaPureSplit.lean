/- Texts cut at a byte, in plain lists. -/
import Derived.Test.YtciaoedjiggonaaMem
import Derived.Lib.SplitLaws
import Derived.Lib.IndexBytes
namespace Go.Proofs.Ytciaoedjiggonaa
set_option linter.unusedVariables false
open Mem
def toSx (xs : Bytes) : ByteArray := ⟨xs.toArray⟩
def cutL (b : UInt8) : Bytes → Bytes × Bytes × Bool
  | [] => ([], [], false)
  | c :: r => if c = b then ([], r, true) else (c :: (cutL b r).1, (cutL b r).2.1, (cutL b r).2.2)
theorem cutL_hit (b : UInt8) : ∀ (xs : Bytes) (i : Nat) (hi : i < xs.length), (∀ j, (hj : j < i) → xs[j] ≠ b) → xs[i] = b → cutL b xs = (xs.take i, xs.drop (i + 1), true)
  | [], i, hi, _, _ => absurd hi (Nat.not_lt_zero _)
  | c :: r, 0, _, _, h => by
    have : c = b := h
    unfold cutL; rw [if_pos this]; rfl
  | c :: r, i + 1, hi, hn, h => by
    have hc : c ≠ b := hn 0 (by omega)
    have := cutL_hit b r i (by simpa using hi) (fun j hj => hn (j + 1) (by omega)) h
    unfold cutL; rw [if_neg hc, this]; rfl
theorem cutL_miss (b : UInt8) : ∀ (xs : Bytes), (∀ j, (hj : j < xs.length) → xs[j] ≠ b) → cutL b xs = (xs, [], false)
  | [], _ => rfl
  | c :: r, hn => by
    have hc : c ≠ b := hn 0 (by simp)
    have := cutL_miss b r (fun j hj => hn (j + 1) (by simpa using hj))
    unfold cutL; rw [if_neg hc, this]
theorem cutL_len (b : UInt8) : ∀ xs : Bytes, (cutL b xs).2.2 = true → (cutL b xs).1.length + 1 + (cutL b xs).2.1.length = xs.length
  | [], h => by simp [cutL] at h
  | c :: r, h => by
    unfold cutL at h ⊢
    by_cases hc : c = b
    · simp [if_pos hc]; omega
    · simp only [if_neg hc] at h ⊢
      have := cutL_len b r h
      simp only [List.length_cons]; omega
theorem cutL_no (b : UInt8) : ∀ xs : Bytes, (cutL b xs).2.2 = false → cutL b xs = (xs, [], false)
  | [], _ => rfl
  | c :: r, h => by
    unfold cutL at h ⊢
    by_cases hc : c = b
    · simp [if_pos hc] at h
    · simp only [if_neg hc] at h ⊢
      rw [cutL_no b r h]
def splitL (b : UInt8) : Bytes → List Bytes
  | [] => [[]]
  | c :: r => if c = b then [] :: splitL b r else match splitL b r with
    | h :: t => (c :: h) :: t
    | [] => [[c]]
theorem splitL_ne (b : UInt8) (xs : Bytes) : splitL b xs ≠ [] := by
  cases xs with
  | nil => simp [splitL]
  | cons c r => unfold splitL; (repeat' split) <;> simp
theorem splitL_hit (b : UInt8) : ∀ xs : Bytes, (cutL b xs).2.2 = true → splitL b xs = (cutL b xs).1 :: splitL b (cutL b xs).2.1
  | [], h => by simp [cutL] at h
  | c :: r, h => by
    by_cases hc : c = b
    · simp [splitL, cutL, if_pos hc]
    · unfold cutL at h ⊢
      simp only [if_neg hc] at h ⊢
      have := splitL_hit b r h
      rw [show splitL b (c :: r) = if c = b then [] :: splitL b r else match splitL b r with | h :: t => (c :: h) :: t | [] => [[c]] from rfl, if_neg hc, this]
theorem splitL_no (b : UInt8) : ∀ xs : Bytes, (cutL b xs).2.2 = false → splitL b xs = [xs]
  | [], _ => rfl
  | c :: r, h => by
    by_cases hc : c = b
    · simp [cutL, if_pos hc] at h
    · unfold cutL at h
      simp only [if_neg hc] at h
      have := splitL_no b r h
      unfold splitL
      rw [if_neg hc, this]
theorem splitL_len (b : UInt8) : ∀ xs : Bytes, (splitL b xs).length ≤ xs.length + 1
  | [] => by simp [splitL]
  | c :: r => by
    have := splitL_len b r
    have hn := splitL_ne b r
    unfold splitL
    split
    · simp only [List.length_cons]; omega
    · split
      · rename_i h; rw [h] at this; simp only [List.length_cons] at this ⊢; omega
      · rename_i h; exact absurd h hn
theorem splitL_mem (b : UInt8) : ∀ xs : Bytes, ∀ x, x ∈ splitL b xs → x.length ≤ xs.length
  | [], x, h => by simp [splitL] at h; subst h; simp
  | c :: r, x, h => by
    have ih := splitL_mem b r
    have hn := splitL_ne b r
    unfold splitL at h
    split at h
    · rcases List.mem_cons.1 h with rfl | h
      · simp
      · have := ih x h; simp only [List.length_cons]; omega
    · split at h
      · rename_i h0 t0 he
        rcases List.mem_cons.1 h with rfl | h
        · have := ih h0 (by rw [he]; exact List.mem_cons_self ..); simp only [List.length_cons]; omega
        · have := ih x (by rw [he]; exact List.mem_cons_of_mem _ h); simp only [List.length_cons]; omega
      · rename_i he; exact absurd he hn
/-- the library's index of one byte is where cutL cuts -/
theorem index_cut (b : UInt8) : ∀ xs : Bytes, Lib.index xs [b] = if (cutL b xs).2.2 then ((cutL b xs).1.length : Int) else -1 := by
  intro xs
  rw [Lib.index_one]
  induction xs with
  | nil => rfl
  | cons c r ih =>
    unfold Lib.indexByte cutL
    by_cases hc : c = b
    · simp [hc]
    · have hcb : (c == b) = false := by simpa using hc
      simp only [hcb, if_neg hc, ih]
      cases hq : (cutL b r).2.2
      · simp
      · simp <;> omega
theorem cutL_parts (b : UInt8) : ∀ xs : Bytes, (cutL b xs).2.2 = true → xs.take (cutL b xs).1.length = (cutL b xs).1 ∧ xs.drop ((cutL b xs).1.length + 1) = (cutL b xs).2.1
  | [], h => by simp [cutL] at h
  | c :: r, h => by
    unfold cutL at h ⊢
    by_cases hc : c = b
    · simp [if_pos hc]
    · simp only [if_neg hc] at h ⊢
      have := cutL_parts b r h
      exact ⟨by simp [this.1], by simpa using this.2⟩
theorem split_is (b : UInt8) : ∀ (n : Nat) (xs : Bytes), xs.length ≤ n → Lib.splitK [b] 0 (Lib.count xs [b]) xs = splitL b xs := by
  intro n
  induction n with
  | zero =>
    intro xs h
    obtain rfl : xs = [] := List.eq_nil_of_length_eq_zero (by omega)
    rfl
  | succ n ih =>
    intro xs h
    have hi := index_cut b xs
    cases hq : (cutL b xs).2.2
    · rw [hq] at hi
      rw [Lib.count_miss (by simpa using hi), splitL_no b xs hq]; rfl
    · rw [hq, if_pos rfl] at hi
      have hp := cutL_parts b xs hq
      have hl := cutL_len b xs hq
      rw [Lib.count_hit (by simp) hi, Nat.add_comm, splitL_hit b xs hq]
      unfold Lib.splitK
      rw [if_neg (by rw [hi]; simp <;> omega), hi]
      simp only [Int.toNat_natCast, Nat.add_zero, List.length_singleton]
      rw [hp.1, hp.2, ih _ (by omega)]
theorem toSx_list (s : ByteArray) : toSx s.data.toList = s := by cases s; simp [toSx]
theorem splitB_is (b : UInt8) (xs : Bytes) : Lib.splitB ⟨#[b]⟩ 0 (Lib.countB (toSx xs) ⟨#[b]⟩) (toSx xs) = (splitL b xs).map toSx := by
  have h := Lib.splitB_data ⟨#[b]⟩ 0 (Lib.countB (toSx xs) ⟨#[b]⟩) (toSx xs)
  have e1 : (toSx xs).data.toList = xs := by simp [toSx]
  have e2 : Lib.countB (toSx xs) ⟨#[b]⟩ = Lib.count xs [b] := by unfold Lib.countB; rw [e1]
  rw [e1, e2] at h
  rw [e2]
  have h2 := h.trans (split_is b xs.length xs (Nat.le_refl _))
  rw [← h2, List.map_map]
  conv => lhs; rw [← List.map_id (Lib.splitB ⟨#[b]⟩ 0 (Lib.count xs [b]) (toSx xs))]
  congr 1
  try (funext s; exact (toSx_list s).symm)
theorem countB_is (b : UInt8) (xs : Bytes) : Lib.countB (toSx xs) ⟨#[b]⟩ + 1 = (splitL b xs).length := by
  have h := Lib.splitB_all ⟨#[b]⟩ (by simp [ByteArray.size]) 0 _ (toSx xs) rfl
  rw [splitB_is, List.length_map] at h
  exact h.symm
end Go.Proofs.Ytciaoedjiggonaa
