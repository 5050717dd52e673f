/- The sum of Chapter 2 in plain numbers. -/
import Derived.Laws.BitsAllLaws
namespace Go.Proofs.Ytciaoedjiggonaa
def crcBit (c : Nat) : Nat := if c % 2 = 1 then (c / 2) ^^^ 3988292384 else c / 2
def crcIter : Nat → Nat → Nat
  | 0, c => c
  | k + 1, c => crcBit (crcIter k c)
def crcRaw (xs : List UInt8) : Nat := xs.foldl (fun c b => crcIter 8 (c ^^^ b.toNat)) 4294967295
def crc (xs : List UInt8) : Nat := 4294967295 ^^^ crcRaw xs
theorem xor_lt32 {a b : Nat} (ha : a < 4294967296) (hb : b < 4294967296) : a ^^^ b < 4294967296 := Nat.xor_lt_two_pow (n := 32) ha hb
theorem crcBit_lt {c : Nat} (h : c < 4294967296) : crcBit c < 4294967296 := by
  unfold crcBit
  split
  · exact xor_lt32 (by omega) (by decide)
  · omega
theorem crcIter_lt : ∀ (k : Nat) {c : Nat}, c < 4294967296 → crcIter k c < 4294967296
  | 0, _, h => h
  | k + 1, _, h => crcBit_lt (crcIter_lt k h)
theorem crcRaw_snoc (xs : List UInt8) (b : UInt8) : crcRaw (xs ++ [b]) = crcIter 8 (crcRaw xs ^^^ b.toNat) := by simp [crcRaw]
theorem crcRaw_lt (xs : List UInt8) : crcRaw xs < 4294967296 := by
  rcases List.eq_nil_or_concat xs with rfl | ⟨l, b, rfl⟩
  · decide
  · rw [List.concat_eq_append, crcRaw_snoc]
    have key : ∀ (l : List UInt8) (c : Nat), c < 4294967296 → l.foldl (fun c b => crcIter 8 (c ^^^ b.toNat)) c < 4294967296 := by
      intro l
      induction l with
      | nil => intro c h; exact h
      | cons x l ih => intro c h; exact ih _ (crcIter_lt 8 (xor_lt32 h (by have := x.toNat_lt; omega)))
    exact crcIter_lt 8 (xor_lt32 (key l _ (by decide)) (by have := b.toNat_lt; omega))
theorem crc_lt (xs : List UInt8) : crc xs < 4294967296 := xor_lt32 (by decide) (crcRaw_lt xs)
/-- the other way to take a bit: the byte comes in bit by bit -/
theorem crc_other (c b k : Nat) : crcBit (c ^^^ (b >>> k)) = (if (c ^^^ (b >>> k)) % 2 = 1 then (c / 2) ^^^ 3988292384 else c / 2) ^^^ (b >>> (k + 1)) := by
  have h1 : (c ^^^ (b >>> k)) / 2 = (c / 2) ^^^ (b >>> (k + 1)) := by
    have := Nat.shiftRight_xor_distrib (a := c) (b := b >>> k) (i := 1)
    rw [Nat.shiftRight_eq_div_pow, Nat.shiftRight_eq_div_pow c, ← Nat.shiftRight_add] at this
    simpa using this
  unfold crcBit
  split
  · rw [h1, Nat.xor_assoc, Nat.xor_assoc, Nat.xor_comm (b >>> (k + 1))]
  · rw [h1]
end Go.Proofs.Ytciaoedjiggonaa
