/- The log of frames read back, in plain lists. -/
import Derived.Test.YtciaoedjiggonaaFrame
namespace Go.Proofs.Ytciaoedjiggonaa
set_option linter.unusedVariables false
open Mem
/-- the record of the frame that xs begins with -/
def firstN (xs : Bytes) : Nat := (xs.getD 0 0).toNat * 256 + (xs.getD 1 0).toNat
def recOf (xs : Bytes) : Bytes := (xs.take (6 + firstN xs)).drop 6
def okFirst (xs : Bytes) : Prop := 6 ≤ xs.length ∧ 1 ≤ firstN xs ∧ firstN xs ≤ 2000 ∧ 6 + firstN xs ≤ xs.length ∧ headL (recOf xs) = xs.take 6
instance (xs : Bytes) : Decidable (okFirst xs) := by unfold okFirst; infer_instance
theorem recOf_len {xs : Bytes} (h : 6 + firstN xs ≤ xs.length) : (recOf xs).length = firstN xs := by
  unfold recOf; rw [List.length_drop, List.length_take]; omega
theorem frame_of {xs : Bytes} (h : 6 + firstN xs ≤ xs.length) (hd : headL (recOf xs) = xs.take 6) : frameL (recOf xs) = xs.take (6 + firstN xs) := by
  unfold frameL
  rw [hd]
  have : xs.take 6 = (xs.take (6 + firstN xs)).take 6 := by rw [List.take_take]; congr 1; omega
  rw [this]
  exact List.take_append_drop 6 _
theorem head_of {xs : Bytes} (h : 6 + firstN xs ≤ xs.length) (hd : frameL (recOf xs) = xs.take (6 + firstN xs)) : headL (recOf xs) = xs.take 6 := by
  have := congrArg (List.take 6) hd
  rw [List.take_take] at this
  rw [show min 6 (6 + firstN xs) = 6 by omega] at this
  rw [← this]
  unfold frameL
  rw [List.take_left' (headL_len _)]
def unfr : Nat → Bytes → List Bytes × Nat
  | 0, _ => ([], 0)
  | f + 1, xs => if okFirst xs then (recOf xs :: (unfr f (xs.drop (6 + firstN xs))).1, 6 + firstN xs + (unfr f (xs.drop (6 + firstN xs))).2) else ([], 0)
theorem unfr_none {f : Nat} {xs : Bytes} (h : ¬ okFirst xs) : unfr f xs = ([], 0) := by
  cases f with
  | zero => rfl
  | succ f => exact if_neg h
theorem unfr_some {f : Nat} {xs : Bytes} (h : okFirst xs) : unfr (f + 1) xs = (recOf xs :: (unfr f (xs.drop (6 + firstN xs))).1, 6 + firstN xs + (unfr f (xs.drop (6 + firstN xs))).2) := if_pos h
def UnframeL (xs : Bytes) : List Bytes × Int := if 40000 < xs.length then ([], 0) else ((unfr xs.length xs).1, ((unfr xs.length xs).2 : Int))
/-- what stands behind some rounds -/
structure UnSt (xs : Bytes) (rs : List Bytes) (g : Nat) : Prop where
  le : g ≤ xs.length
  few : rs.length ≤ g
  is : ∃ f, xs.length - g ≤ f ∧ UnframeL xs = (rs ++ (unfr f (xs.drop g)).1, ((g + (unfr f (xs.drop g)).2 : Nat) : Int))
theorem UnSt.start {xs : Bytes} (h : xs.length ≤ 40000) : UnSt xs [] 0 := ⟨Nat.zero_le _, by simp, xs.length, by omega, by unfold UnframeL; rw [if_neg (by omega)]; simp⟩
theorem UnSt.stop {xs : Bytes} {rs : List Bytes} {g : Nat} (h : UnSt xs rs g) (hn : ¬ okFirst (xs.drop g)) : UnframeL xs = (rs, (g : Int)) := by
  obtain ⟨f, hf, he⟩ := h.is
  rw [he, unfr_none hn]; simp
theorem UnSt.next {xs : Bytes} {rs : List Bytes} {g : Nat} (h : UnSt xs rs g) (hn : okFirst (xs.drop g)) : UnSt xs (rs ++ [recOf (xs.drop g)]) (g + (6 + firstN (xs.drop g))) := by
  obtain ⟨f, hf, he⟩ := h.is
  have h4 := hn.2.2.2.1
  rw [List.length_drop] at h4
  have hle := h.le
  have hfew := h.few
  refine ⟨by omega, by simp; omega, ?_⟩
  cases f with
  | zero => omega
  | succ f =>
    rw [unfr_some hn] at he
    refine ⟨f, by omega, ?_⟩
    rw [he, List.drop_drop]
    simp [Nat.add_assoc]
theorem Unframe_few {xs : Bytes} {rs : List Bytes} {g : Nat} (h : UnSt xs rs g) : True := trivial
end Go.Proofs.Ytciaoedjiggonaa
