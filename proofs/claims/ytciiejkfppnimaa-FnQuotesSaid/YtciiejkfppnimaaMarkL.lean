/- Marks over lists in plain words. -/
namespace Go.Proofs.Ytciiejkfppnimaa
section
variable {α : Type}
def preS (cnt : α → Nat) (xs : List α) (i : Nat) : Nat := ((xs.take i).map cnt).sum
def markL (mk : Nat → α → α) (cnt : α → Nat) (k : Nat) (xs : List α) : List α := xs.mapIdx fun i x => mk (k + preS cnt xs i) x
theorem preS_zero (cnt : α → Nat) (xs : List α) : preS cnt xs 0 = 0 := by simp [preS]
theorem preS_succ (cnt : α → Nat) (xs : List α) {i : Nat} (h : i < xs.length) : preS cnt xs (i + 1) = preS cnt xs i + cnt xs[i] := by
  unfold preS
  rw [List.take_succ_eq_append_getElem h, List.map_append, List.sum_append]
  simp
theorem preS_mono (cnt : α → Nat) (xs : List α) : ∀ {i j : Nat}, i ≤ j → preS cnt xs i ≤ preS cnt xs j := by
  intro i j hij
  unfold preS
  have : xs.take j = xs.take i ++ (xs.drop i).take (j - i) := by
    rw [← List.take_append_drop i (xs.take j), List.take_take, Nat.min_eq_left hij, List.drop_take]
  rw [this, List.map_append, List.sum_append]; omega
theorem preS_le (cnt : α → Nat) (xs : List α) (i : Nat) : preS cnt xs i ≤ preS cnt xs xs.length := by
  rcases Nat.le_total i xs.length with h | h
  · exact preS_mono cnt xs h
  · unfold preS; rw [List.take_of_length_le h, List.take_length]; omega
theorem markL_len (mk : Nat → α → α) (cnt : α → Nat) (k : Nat) (xs : List α) : (markL mk cnt k xs).length = xs.length := by simp [markL]
theorem markL_at (mk : Nat → α → α) (cnt : α → Nat) (k : Nat) (xs : List α) {i : Nat} (h : i < (markL mk cnt k xs).length) : (markL mk cnt k xs)[i] = mk (k + preS cnt xs i) (xs[i]'(by simpa [markL] using h)) := by simp [markL]
/-- one more element marked -/
theorem take_drop_set {zs xs : List α} (hl : zs.length = xs.length) {j : Nat} (h : j < xs.length) : (zs.take j ++ xs.drop j).set j (zs[j]'(by omega)) = zs.take (j + 1) ++ xs.drop (j + 1) := by
  rw [List.set_append_right _ _ (by rw [List.length_take]; omega), List.length_take, Nat.min_eq_left (by omega), Nat.sub_self, List.drop_eq_getElem_cons h, List.set_cons_zero, List.take_succ_eq_append_getElem (show j < zs.length by omega), List.append_assoc]
  rfl
theorem take_drop_at {zs xs : List α} (hl : zs.length = xs.length) {j : Nat} (h : j < xs.length) (h' : j < (zs.take j ++ xs.drop j).length) : (zs.take j ++ xs.drop j)[j] = xs[j] := by
  rw [List.getElem_append_right (by rw [List.length_take]; omega)]
  simp [List.length_take, Nat.min_eq_left (show j ≤ zs.length by omega)]
theorem take_drop_len {zs xs : List α} (hl : zs.length = xs.length) (j : Nat) : (zs.take j ++ xs.drop j).length = xs.length := by
  rw [List.length_append, List.length_take, List.length_drop]; omega
theorem preS_mark (mk : Nat → α → α) (cnt : α → Nat) (hc : ∀ k x, cnt (mk k x) = cnt x) (k : Nat) (xs : List α) (i : Nat) : preS cnt (markL mk cnt k xs) i = preS cnt xs i := by
  unfold preS
  congr 1
  apply List.ext_getElem (by simp [markL])
  intro j h1 h2
  simp [markL, hc]
theorem markL_idem (mk : Nat → α → α) (cnt : α → Nat) (hc : ∀ k x, cnt (mk k x) = cnt x) (hm : ∀ k k' x, mk k' (mk k x) = mk k' x) (k k' : Nat) (xs : List α) : markL mk cnt k' (markL mk cnt k xs) = markL mk cnt k' xs := by
  apply List.ext_getElem (by simp [markL])
  intro j h1 h2
  rw [markL_at, markL_at, markL_at, preS_mark mk cnt hc, hm]
end
end Go.Proofs.Ytciiejkfppnimaa
