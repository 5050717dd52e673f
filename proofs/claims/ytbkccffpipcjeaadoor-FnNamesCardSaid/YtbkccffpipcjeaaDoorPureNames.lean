/- Lists of flags read back, in plain lists. -/
import Derived.Test.YtbkccffpipcjeaaDoorPureRead
import Derived.Test.YtbkccffpipcjeaaDoorPureMail
namespace Go.Proofs.YtbkccffpipcjeaaDoor
set_option linter.unusedVariables false
open Mem
theorem splitL_none {b : UInt8} {x : Bytes} (h : ∀ c, c ∈ x → c ≠ b) : splitL b x = [x] := by
  have h1 := cutL_miss b x (fun j hj => h _ (List.getElem_mem hj))
  exact splitL_no b x (by rw [h1])
theorem splitL_app {b : UInt8} {x y : Bytes} (h : ∀ c, c ∈ x → c ≠ b) : splitL b (x ++ b :: y) = x :: splitL b y := by
  have h1 := cutL_app b x y h
  rw [splitL_hit b _ (by rw [h1]), h1]
theorem split_join : ∀ (x : Bytes) (r : List Bytes), (∀ y, y ∈ x :: r → ∀ c, c ∈ y → c ≠ 32) → splitL 32 (joinSp (x :: r)) = x :: r
  | x, [], h => by
    show splitL 32 (Lib.join [x] [32]) = [x]
    rw [Lib.join_one]
    exact splitL_none (h x (List.mem_cons_self ..))
  | x, y :: r, h => by
    have ih := split_join y r (fun z hz => h z (List.mem_cons_of_mem _ hz))
    unfold joinSp at ih ⊢
    rw [Lib.join_cons] at ih ⊢
    have : Lib.joinTail [32] (y :: r) = 32 :: (y ++ Lib.joinTail [32] r) := by simp [Lib.joinTail]
    rw [this, splitL_app (h x (List.mem_cons_self ..)), ih]
theorem name_no32 : ∀ k, k < 31 → ∀ c, c ∈ nameL k → c ≠ 32 := by decide +kernel
def foldN (acc : Nat) (ks : List Nat) : Nat := ks.foldl (fun a k => a ||| 2 ^ k) acc
theorem foldL_names : ∀ (ks : List Nat) (acc : Nat), (∀ k, k ∈ ks → k < 31) → foldL acc (ks.map nameL) = (true, (foldN acc ks : Int))
  | [], acc, _ => rfl
  | k :: ks, acc, h => by
    have hk := h k (List.mem_cons_self ..)
    rw [List.map_cons]
    unfold foldL
    rw [bitL_some hk (.inl rfl)]
    exact foldL_names ks _ (fun j hj => h j (List.mem_cons_of_mem _ hj))
theorem foldN_bit (j : Nat) : ∀ (ks : List Nat) (acc : Nat), (foldN acc ks).testBit j = (acc.testBit j || ks.any (fun k => decide (k = j)))
  | [], acc => by simp [foldN]
  | k :: ks, acc => by
    have h1 : foldN acc (k :: ks) = foldN (acc ||| 2 ^ k) ks := rfl
    rw [h1, foldN_bit j ks, Nat.testBit_or, Nat.testBit_two_pow, List.any_cons, Bool.or_assoc]
theorem foldN_bits (f : Nat) (hf : f < 2147483648) : foldN 0 ((List.range 31).filter fun k => f.testBit k) = f := by
  apply Nat.eq_of_testBit_eq
  intro j
  rw [foldN_bit, Nat.zero_testBit, Bool.false_or, Bool.eq_iff_iff]
  constructor
  · intro h
    obtain ⟨k, hk, e⟩ := List.any_eq_true.1 h
    obtain rfl := of_decide_eq_true e
    exact (List.mem_filter.1 hk).2
  · intro h
    have hj : j < 31 := by
      rcases Nat.lt_or_ge j 31 with h1 | h1
      · exact h1
      · have : f < 2 ^ j := Nat.lt_of_lt_of_le hf (Nat.le_trans (by decide : 2147483648 ≤ 2 ^ 31) (Nat.pow_le_pow_right (by decide) h1))
        rw [Nat.testBit_lt_two_pow this] at h; cases h
    exact List.any_eq_true.2 ⟨j, List.mem_filter.2 ⟨by simp [hj], h⟩, by simp⟩
theorem brL_wrap (ys : Bytes) : brL ([40] ++ ys ++ [41]) = some ys := by
  unfold brL
  have hl : ([40] ++ ys ++ [41] : Bytes).length = ys.length + 2 := by simp
  have h1 : ([40] ++ ys ++ [41] : Bytes)[ys.length + 1]? = some 41 := by
    rw [List.getElem?_append_right (by simp)]; simp
  rw [hl, if_pos ⟨by omega, by simp, by simp⟩]
  simp
theorem readList_names (f : Nat) (hf : f < 2147483648) : ReadListL (FlagListL f) = (true, (f : Int)) := by
  unfold ReadListL FlagListL
  rw [brL_wrap]
  have hb := foldN_bits f hf
  have hlt : ∀ k, k ∈ (List.range 31).filter (fun k => f.testBit k) → k < 31 := fun k hk => by simpa using (List.mem_filter.1 hk).1
  unfold namesTo
  generalize (List.range 31).filter (fun k => f.testBit k) = ks at *
  cases ks with
  | nil =>
    have : f = 0 := by rw [← hb]; rfl
    subst this
    rfl
  | cons k r =>
    have hne : joinSp ((k :: r).map nameL) ≠ [] := joinSp_ne _ (by simp) (fun x hx => by obtain ⟨j, _, rfl⟩ := List.mem_map.1 hx; exact nameL_ne j)
    have hs : splitL 32 (joinSp ((k :: r).map nameL)) = (k :: r).map nameL := by
      rw [List.map_cons]
      refine split_join _ _ fun y hy => ?_
      rw [← List.map_cons] at hy
      obtain ⟨j, hj, rfl⟩ := List.mem_map.1 hy
      exact name_no32 j (hlt j hj)
    have hm : (match some (joinSp ((k :: r).map nameL)) with | none => (false, (0 : Int)) | some [] => (true, 0) | some ys => foldL 0 (splitL 32 ys)) = foldL 0 (splitL 32 (joinSp ((k :: r).map nameL))) := by
      generalize joinSp ((k :: r).map nameL) = js at *
      cases js with
      | nil => exact absurd rfl hne
      | cons a b => rfl
    refine hm.trans ?_
    rw [hs, foldL_names _ _ hlt, hb]
theorem RMN_nil : RMN [] = (false, 0, 0, 0) := RMN_none fun u s f hv e => by
  have := (name_len hv).1
  rw [e] at this
  simp at this
end Go.Proofs.YtbkccffpipcjeaaDoor
