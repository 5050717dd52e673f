/- Letters read back into flags, in plain lists. -/
import Derived.Test.YtbkccffpipcjeaaDoorPureFlag
namespace Go.Proofs.YtbkccffpipcjeaaDoor
set_option linter.unusedVariables false
open Mem
/-- the bits of the letters that are b, put into f -/
def orL (L : List (Nat × Nat)) (b f : Nat) : Nat := L.foldl (fun f p => if p.1 = b then f ||| 2 ^ p.2 else f) f
theorem orL_zero (L : List (Nat × Nat)) (b : Nat) : ∀ f, orL L b f = f ||| orL L b 0 := by
  induction L with
  | nil => intro f; simp [orL]
  | cons p L ih =>
    intro f
    have h1 : ∀ f, orL (p :: L) b f = orL L b (if p.1 = b then f ||| 2 ^ p.2 else f) := fun f => rfl
    rw [h1 f, h1 0]
    by_cases h : p.1 = b
    · rw [if_pos h, if_pos h, ih (f ||| 2 ^ p.2), ih (0 ||| 2 ^ p.2), Nat.zero_or, Nat.or_assoc]
    · rw [if_neg h, if_neg h, ih f]
theorem orL_take (L : List (Nat × Nat)) (b f : Nat) {k : Nat} (h : k < L.length) : orL (L.take (k + 1)) b f = if L[k].1 = b then orL (L.take k) b f ||| 2 ^ L[k].2 else orL (L.take k) b f := by
  unfold orL
  rw [List.take_succ_eq_append_getElem h, List.foldl_append]
  rfl
theorem orL_lt (L : List (Nat × Nat)) (hL : ∀ p, p ∈ L → p.2 < 31) (b : Nat) : ∀ f, f < 2147483648 → orL L b f < 2147483648 := by
  induction L with
  | nil => intro f h; exact h
  | cons p L ih =>
    intro f h
    have h1 : orL (p :: L) b f = orL L b (if p.1 = b then f ||| 2 ^ p.2 else f) := rfl
    rw [h1]
    refine ih (fun q hq => hL q (List.mem_cons_of_mem _ hq)) _ ?_
    split
    · exact Nat.or_lt_two_pow (n := 31) h (Nat.pow_lt_pow_right (by decide) (hL p (List.mem_cons_self ..)))
    · exact h
theorem lets_bits : ∀ p, p ∈ lets → p.2 < 31 := by decide
def specL : List (Nat × Nat) := (List.range 31).map fun k => (letOf k, k)
theorem specL_bits : ∀ p, p ∈ specL → p.2 < 31 := by decide
theorem specL_len : specL.length = 31 := by decide
theorem specL_at (k : Nat) (hk : k < specL.length) : specL[k] = (letOf k, k) := by
  have hk' : k < 31 := by rw [specL_len] at hk; exact hk
  have : specL[k]? = some (letOf k, k) := by unfold specL; rw [List.getElem?_map, List.getElem?_range hk']; rfl
  rw [List.getElem?_eq_getElem hk] at this
  exact Option.some.inj this
theorem same0 : ∀ b, b < 256 → orL specL b 0 = orL lets b 0 := by decide +kernel
theorem orL_same (b f : Nat) (hb : b < 256) : orL specL b f = orL lets b f := by rw [orL_zero, orL_zero lets, same0 b hb]
/-- all letters of a text -/
def bitsOf (xs : Bytes) : Nat := xs.foldl (fun f b => orL lets b.toNat f) 0
theorem bitsOf_snoc (xs : Bytes) {k : Nat} (h : k < xs.length) : bitsOf (xs.take (k + 1)) = orL lets xs[k].toNat (bitsOf (xs.take k)) := by
  unfold bitsOf
  rw [List.take_succ_eq_append_getElem h, List.foldl_append]; rfl
theorem bitsOf_lt (xs : Bytes) : bitsOf xs < 2147483648 := by
  unfold bitsOf
  have : ∀ (xs : Bytes) f, f < 2147483648 → xs.foldl (fun f b => orL lets b.toNat f) f < 2147483648 := by
    intro xs
    induction xs with
    | nil => intro f h; exact h
    | cons x xs ih => intro f h; exact ih _ (orL_lt _ lets_bits _ _ h)
  exact this xs 0 (by decide)
def LetL (xs : Bytes) : Bool × Int := if flagsL (bitsOf xs) = xs then (true, (bitsOf xs : Int)) else (false, 0)
theorem lets_low : ∀ p, p ∈ lets → p.1 < 128 := by decide
theorem flagsL_low (f : Nat) : ∀ b, b ∈ flagsL f → b.toNat < 128 := by
  intro b hb
  unfold flagsL at hb
  obtain ⟨p, hp, rfl⟩ := List.mem_map.1 hb
  have := lets_low p (List.mem_filter.1 hp).1
  rw [UInt8.toNat_ofNat']; omega
theorem LetL_long {xs : Bytes} (h : 31 < xs.length) : LetL xs = (false, 0) := if_neg fun he => by have := flagsL_len (bitsOf xs); rw [he] at this; omega
theorem LetL_high {xs : Bytes} (h : ¬ ∀ b, b ∈ xs → b.toNat < 128) (f : Nat) : flagsL f ≠ xs := fun he => h fun b hb => flagsL_low f b (he ▸ hb)
end Go.Proofs.YtbkccffpipcjeaaDoor
