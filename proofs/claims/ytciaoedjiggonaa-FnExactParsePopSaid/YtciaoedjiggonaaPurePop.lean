/- A POP line, as both read it. -/
import Derived.Test.YtciaoedjiggonaaPureNum
import Derived.Test.YtciaoedjiggonaaPureSplit
import Derived.Test.YtciaoedjiggonaaUpper
namespace Go.Proofs.Ytciaoedjiggonaa
open Mem
set_option linter.unusedVariables false
abbrev PairL := Int × Int
abbrev CmdL := Int × (Bytes × (Int × (Bool × (List PairL × (Int × (Int × (Int × Bytes)))))))
def popC (k n : Int) : CmdL := (k, [], n, false, [], 0, 0, 0, [])
def aloneK (u : Bytes) : Int :=
  if u = [85, 73, 68, 76] then 5 else if u = [76, 73, 83, 84] then 4 else if u = [82, 83, 69, 84] then 8 else if u = [83, 84, 65, 84] then 3 else if u = [81, 85, 73, 84] then 2 else if u = [78, 79, 79, 80] then 1 else 0
def withK (u : Bytes) : Int :=
  if u = [85, 73, 68, 76] then 5 else if u = [76, 73, 83, 84] then 4 else if u = [68, 69, 76, 69] then 7 else if u = [82, 69, 84, 82] then 6 else 0
def goodN (num : Bytes) : Bool := (decL 10 num).2 && decide (1 ≤ ((decL 10 num).1 : Int) ∧ ((decL 10 num).1 : Int) ≤ 4294967295)
/-- the program's reading -/
def PopL (xs : Bytes) : CmdL :=
  if (cutL 32 xs).2.2 then (if goodN (cutL 32 xs).2.1 then (if withK (upL (cutL 32 xs).1) = 0 then popC 0 0 else popC (withK (upL (cutL 32 xs).1)) (decL 10 (cutL 32 xs).2.1).1) else popC 0 0)
  else popC (aloneK (upL (cutL 32 xs).1)) 0
/-- the specification's tail: kind by kind -/
def tailS (lw : Bytes) (n : Int) : CmdL :=
  if lw = [110, 111, 111, 112] then (if 0 < n then popC 0 0 else popC 1 n)
  else if lw = [113, 117, 105, 116] then (if 0 < n then popC 0 0 else popC 2 n)
  else if lw = [115, 116, 97, 116] then (if 0 < n then popC 0 0 else popC 3 n)
  else if lw = [114, 115, 101, 116] then (if 0 < n then popC 0 0 else popC 8 n)
  else if lw = [108, 105, 115, 116] then popC 4 n
  else if lw = [117, 105, 100, 108] then popC 5 n
  else if lw = [114, 101, 116, 114] then (if 0 < n then popC 6 n else popC 0 0)
  else if lw = [100, 101, 108, 101] then (if 0 < n then popC 7 n else popC 0 0)
  else (if 0 < n then popC 0 0 else popC 0 n)
def numOk (num : Bytes) : Bool := (numL num).2 && (decide (1 ≤ ((numL num).1 : Int)) && decide (((numL num).1 : Int) ≤ 4294967295))
def SpecPopL (xs : Bytes) : CmdL :=
  if 40 < xs.length then popC 0 0 else
  match splitL 32 xs with
  | [] => popC 0 0
  | [a] => tailS (loL a) 0
  | [a, b] => if numOk b then tailS (loL a) (numL b).1 else popC 0 0
  | _ :: _ :: _ :: _ => popC 0 0
theorem num_good (b : Bytes) : (numOk b = true ↔ goodN b = true) ∧ (goodN b = true → (numL b).1 = (decL 10 b).1) := by
  unfold numOk goodN
  simp only [Bool.and_eq_true, decide_eq_true_eq]
  constructor
  · constructor
    · rintro ⟨h1, h2, h3⟩
      have hn : numL b = ((numL b).1, true) := Prod.ext rfl h1
      have := (dec_num (xs := b) (n := (numL b).1) (by omega)).1 hn
      rw [this]; exact ⟨rfl, h2, h3⟩
    · rintro ⟨h1, h2, h3⟩
      have hn : decL 10 b = ((decL 10 b).1, true) := Prod.ext rfl h1
      have := (dec_num (xs := b) (n := (decL 10 b).1) (by omega)).2 hn
      rw [this]; exact ⟨rfl, h2, h3⟩
  · rintro ⟨h1, h2, h3⟩
    have hn : decL 10 b = ((decL 10 b).1, true) := Prod.ext rfl h1
    have := (dec_num (xs := b) (n := (decL 10 b).1) (by omega)).2 hn
    rw [this]
theorem lo_is (w u l : Bytes) (h : upL u = u) (h2 : loL u = l) : loL w = l ↔ upL w = u := by
  rw [← h2, ← upL_iff, h]
theorem goodN_dig {num : Bytes} (h : goodN num = true) : num.length ≤ 10 ∧ ∀ b, b ∈ num → digB b := by
  unfold goodN at h
  rw [Bool.and_eq_true] at h
  have h1 := h.1
  unfold decL at h1
  split at h1
  · rename_i hc; exact ⟨hc.2.1, hc.2.2.2⟩
  · cases h1
theorem upL_len (w : Bytes) : (upL w).length = w.length := by unfold upL; rw [List.length_map]
theorem withK_len {u : Bytes} (h : withK u ≠ 0) : u.length = 4 := by
  unfold withK at h
  repeat' (split at h; · rename_i hh; rw [hh]; rfl)
  exact absurd rfl h
theorem aloneK_len {u : Bytes} (h : aloneK u ≠ 0) : u.length = 4 := by
  unfold aloneK at h
  repeat' (split at h; · rename_i hh; rw [hh]; rfl)
  exact absurd rfl h
theorem tail_zero (w : Bytes) : tailS (loL w) 0 = popC (aloneK (upL w)) 0 := by
  have e1 := lo_is w [78, 79, 79, 80] [110, 111, 111, 112] (by decide) (by decide)
  have e2 := lo_is w [81, 85, 73, 84] [113, 117, 105, 116] (by decide) (by decide)
  have e3 := lo_is w [83, 84, 65, 84] [115, 116, 97, 116] (by decide) (by decide)
  have e4 := lo_is w [82, 83, 69, 84] [114, 115, 101, 116] (by decide) (by decide)
  have e5 := lo_is w [76, 73, 83, 84] [108, 105, 115, 116] (by decide) (by decide)
  have e6 := lo_is w [85, 73, 68, 76] [117, 105, 100, 108] (by decide) (by decide)
  have e7 := lo_is w [82, 69, 84, 82] [114, 101, 116, 114] (by decide) (by decide)
  have e8 := lo_is w [68, 69, 76, 69] [100, 101, 108, 101] (by decide) (by decide)
  unfold tailS aloneK
  simp only [e1, e2, e3, e4, e5, e6, e7, e8]
  generalize upL w = u
  by_cases h1 : u = [78, 79, 79, 80]
  · subst h1; simp
  by_cases h2 : u = [81, 85, 73, 84]
  · subst h2; simp
  by_cases h3 : u = [83, 84, 65, 84]
  · subst h3; simp
  by_cases h4 : u = [82, 83, 69, 84]
  · subst h4; simp
  by_cases h5 : u = [76, 73, 83, 84]
  · subst h5; simp
  by_cases h6 : u = [85, 73, 68, 76]
  · subst h6; simp
  simp [h1, h2, h3, h4, h5, h6]
theorem tail_pos (w : Bytes) {n : Int} (hn : 0 < n) : tailS (loL w) n = if withK (upL w) = 0 then popC 0 0 else popC (withK (upL w)) n := by
  have e1 := lo_is w [78, 79, 79, 80] [110, 111, 111, 112] (by decide) (by decide)
  have e2 := lo_is w [81, 85, 73, 84] [113, 117, 105, 116] (by decide) (by decide)
  have e3 := lo_is w [83, 84, 65, 84] [115, 116, 97, 116] (by decide) (by decide)
  have e4 := lo_is w [82, 83, 69, 84] [114, 115, 101, 116] (by decide) (by decide)
  have e5 := lo_is w [76, 73, 83, 84] [108, 105, 115, 116] (by decide) (by decide)
  have e6 := lo_is w [85, 73, 68, 76] [117, 105, 100, 108] (by decide) (by decide)
  have e7 := lo_is w [82, 69, 84, 82] [114, 101, 116, 114] (by decide) (by decide)
  have e8 := lo_is w [68, 69, 76, 69] [100, 101, 108, 101] (by decide) (by decide)
  unfold tailS withK
  simp only [e1, e2, e3, e4, e5, e6, e7, e8, if_pos hn]
  generalize upL w = u
  by_cases h1 : u = [78, 79, 79, 80]
  · subst h1; simp
  by_cases h2 : u = [81, 85, 73, 84]
  · subst h2; simp
  by_cases h3 : u = [83, 84, 65, 84]
  · subst h3; simp
  by_cases h4 : u = [82, 83, 69, 84]
  · subst h4; simp
  by_cases h5 : u = [76, 73, 83, 84]
  · subst h5; simp
  by_cases h6 : u = [85, 73, 68, 76]
  · subst h6; simp
  by_cases h7 : u = [82, 69, 84, 82]
  · subst h7; simp
  by_cases h8 : u = [68, 69, 76, 69]
  · subst h8; simp
  simp [h1, h2, h3, h4, h5, h6, h7, h8]
theorem pop_long {xs : Bytes} (h : 40 < xs.length) : PopL xs = popC 0 0 := by
  unfold PopL
  cases hq : (cutL 32 xs).2.2
  · have := cutL_no 32 xs hq
    rw [if_neg (by simp), this]
    have h0 : aloneK (upL xs) = 0 := by
      by_cases hz : aloneK (upL xs) = 0
      · exact hz
      · have := aloneK_len hz; rw [upL_len] at this; omega
    rw [h0]
  · rw [if_pos rfl]
    have hl := cutL_len 32 xs hq
    by_cases hg : goodN (cutL 32 xs).2.1 = true
    · have := (goodN_dig hg).1
      have h0 : withK (upL (cutL 32 xs).1) = 0 := by
        by_cases hz : withK (upL (cutL 32 xs).1) = 0
        · exact hz
        · have := withK_len hz; rw [upL_len] at this; omega
      rw [if_pos hg, if_pos h0]
    · rw [if_neg hg]
theorem cut_has (b : UInt8) : ∀ xs : Bytes, (cutL b xs).2.2 = true → b ∈ xs
  | [], h => by simp [cutL] at h
  | c :: r, h => by
    unfold cutL at h
    by_cases hc : c = b
    · exact hc ▸ List.mem_cons_self
    · rw [if_neg hc] at h
      exact List.mem_cons_of_mem _ (cut_has b r h)
theorem pop_is (xs : Bytes) : SpecPopL xs = PopL xs := by
  unfold SpecPopL
  by_cases hb : 40 < xs.length
  · rw [if_pos hb, pop_long hb]
  rw [if_neg hb]
  unfold PopL
  cases hq : (cutL 32 xs).2.2
  · rw [splitL_no 32 xs hq, cutL_no 32 xs hq]
    simp only [Bool.false_eq_true, if_false]
    exact tail_zero xs
  · rw [splitL_hit 32 xs hq, if_pos rfl]
    generalize (cutL 32 xs).1 = a
    generalize (cutL 32 xs).2.1 = num
    cases hr : (cutL 32 num).2.2
    · rw [splitL_no 32 num hr]
      simp only
      obtain ⟨h1, h2⟩ := num_good num
      by_cases hg : goodN num = true
      · rw [if_pos (h1.2 hg), if_pos hg, h2 hg]
        have hp : (0 : Int) < ((decL 10 num).1 : Int) := by
          unfold goodN at hg
          simp only [Bool.and_eq_true, decide_eq_true_eq] at hg
          omega
        exact tail_pos a hp
      · rw [if_neg (fun h => hg (h1.1 h)), if_neg hg]
    · have hng : ¬ goodN num = true := fun hg => by
        have := (goodN_dig hg).2 32 (cut_has 32 num hr)
        unfold digB at this
        exact absurd this.1 (by decide)
      rw [if_neg hng, splitL_hit 32 num hr]
      cases hs : splitL 32 (cutL 32 num).2.1 with
      | nil => exact absurd hs (splitL_ne 32 _)
      | cons x r => rfl
end Go.Proofs.Ytciaoedjiggonaa
