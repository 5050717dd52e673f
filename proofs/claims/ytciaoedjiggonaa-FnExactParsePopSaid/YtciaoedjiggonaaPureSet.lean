/- Sets read, in plain lists. -/
import Derived.Test.YtciaoedjiggonaaPureNum
import Derived.Test.YtciaoedjiggonaaPureSplit
namespace Go.Proofs.Ytciaoedjiggonaa
set_option linter.unusedVariables false
open Mem
/-- one part of a set -/
def setOne (p : Bytes) : Option (Int × Int) :=
  match plL (cutL 58 p).1, plL (if (cutL 58 p).2.2 = true then (cutL 58 p).2.1 else (cutL 58 p).1) with
  | some a, some b => some ((a : Int), (b : Int))
  | _, _ => none
def setFold : List (Int × Int) → List Bytes → Option (List (Int × Int))
  | acc, [] => some acc
  | acc, p :: ps => match setOne p with
    | none => none
    | some q => setFold (acc ++ [q]) ps
def SetB (xs : Bytes) : Bool × List (Int × Int) :=
  if 50 < (splitL 44 xs).length then (false, []) else match setFold [] (splitL 44 xs) with
  | none => (false, [])
  | some l => (true, l)
theorem plL_dig {xs : Bytes} (h : xs ≠ [42]) {n : Nat} (hp : plL xs = some n) : (∀ b, b ∈ xs → digB b) ∧ xs.length ≤ 10 := by
  unfold plL at hp
  rw [if_neg h] at hp
  split at hp
  · rename_i hc
    have := hc.1
    unfold decL at this
    split at this
    · rename_i hd; exact ⟨hd.2.2.2, hd.2.1⟩
    · cases this
  · cases hp
theorem plL_len {xs : Bytes} {n : Nat} (hp : plL xs = some n) : xs.length ≤ 10 := by
  by_cases h : xs = [42]
  · subst h; simp
  · exact (plL_dig h hp).2
theorem plL_colon {xs : Bytes} (h : (58 : UInt8) ∈ xs) : plL xs = none := by
  cases hq : plL xs with
  | none => rfl
  | some n =>
    have h42 : xs ≠ [42] := by intro e; subst e; simp at h
    have := (plL_dig h42 hq).1 58 h
    unfold digB at this
    exact absurd this.2 (by decide)
theorem plL_lt {xs : Bytes} {n : Nat} (hp : plL xs = some n) : n ≤ 4294967295 := by
  unfold plL at hp
  split at hp
  · have := Option.some.inj hp; omega
  · split at hp
    · rename_i hc; have := Option.some.inj hp; omega
    · cases hp
theorem cutL_mem (b : UInt8) : ∀ xs : Bytes, (cutL b xs).2.2 = true → b ∈ xs
  | [], h => by simp [cutL] at h
  | c :: r, h => by
    unfold cutL at h
    by_cases hc : c = b
    · simp [hc]
    · simp only [if_neg hc] at h
      exact List.mem_cons_of_mem _ (cutL_mem b r h)
/-- the ends of a part, as the specification takes them -/
theorem setOne_hit {p : Bytes} (h : (cutL 58 p).2.2 = true) : setOne p = match plL (cutL 58 p).1, plL (cutL 58 p).2.1 with | some a, some b => some ((a : Int), (b : Int)) | _, _ => none := by
  unfold setOne; rw [if_pos h]
theorem setOne_miss {p : Bytes} (h : (cutL 58 p).2.2 = false) : setOne p = match plL p with | some a => some ((a : Int), (a : Int)) | none => none := by
  unfold setOne
  rw [if_neg (by simp [h]), cutL_no 58 p h]
  cases plL p <;> rfl
theorem setOne_len {p : Bytes} {q : Int × Int} (h : setOne p = some q) : p.length ≤ 21 := by
  cases hc : (cutL 58 p).2.2
  · rw [setOne_miss hc] at h
    cases hp : plL p with
    | none => rw [hp] at h; cases h
    | some n => have := plL_len hp; omega
  · have hl := cutL_len 58 p hc
    rw [setOne_hit hc] at h
    cases h1 : plL (cutL 58 p).1 with
    | none => rw [h1] at h; cases h
    | some a =>
      cases h2 : plL (cutL 58 p).2.1 with
      | none => rw [h1, h2] at h; cases h
      | some b => have := plL_len h1; have := plL_len h2; omega
theorem splitL_sum (b : UInt8) : ∀ xs : Bytes, ((splitL b xs).map fun p => p.length + 1).sum = xs.length + 1
  | [] => by simp [splitL]
  | c :: r => by
    have ih := splitL_sum b r
    have hn := splitL_ne b r
    unfold splitL
    split
    · simp [ih]; omega
    · split
      · rename_i h0 t0 he
        rw [he] at ih
        simp at ih ⊢; omega
      · rename_i he; exact absurd he hn
theorem setFold_len : ∀ (ps : List Bytes) (acc l : List (Int × Int)), setFold acc ps = some l → ((ps.map fun p => p.length + 1).sum ≤ 22 * ps.length) ∧ l.length = acc.length + ps.length
  | [], acc, l, h => by
    have : acc = l := by simpa [setFold] using h
    subst this; simp
  | p :: ps, acc, l, h => by
    unfold setFold at h
    cases hs : setOne p with
    | none => rw [hs] at h; cases h
    | some q =>
      rw [hs] at h
      have ih := setFold_len ps (acc ++ [q]) l h
      have hp := setOne_len hs
      simp only [List.map_cons, List.sum_cons, List.length_cons, List.length_append, List.length_nil] at ih ⊢
      omega
theorem SetB_long {xs : Bytes} (h : 1100 < xs.length) : SetB xs = (false, []) := by
  unfold SetB
  split
  · rfl
  · rename_i hc
    cases hq : setFold [] (splitL 44 xs) with
    | none => rfl
    | some l =>
      have := (setFold_len _ _ _ hq).1
      rw [splitL_sum] at this
      omega
theorem SetB_none {xs : Bytes} (h : setFold [] (splitL 44 xs) = none) : SetB xs = (false, []) := by
  unfold SetB; split
  · rfl
  · rw [h]
theorem setFold_none {acc : List (Int × Int)} {p : Bytes} {ps : List Bytes} (h : setOne p = none) : setFold acc (p :: ps) = none := by unfold setFold; rw [h]
theorem setFold_some {acc : List (Int × Int)} {p : Bytes} {ps : List Bytes} {q : Int × Int} (h : setOne p = some q) : setFold acc (p :: ps) = setFold (acc ++ [q]) ps := by
  conv => lhs; unfold setFold
  rw [h]
theorem SetB_cnt (xs : Bytes) : (SetB xs).2.length ≤ 50 := by
  unfold SetB
  split
  · simp
  · rename_i hc
    cases hq : setFold [] (splitL 44 xs) with
    | none => simp
    | some l =>
      have := (setFold_len _ _ _ hq).2
      simp at this ⊢; omega
end Go.Proofs.Ytciaoedjiggonaa
