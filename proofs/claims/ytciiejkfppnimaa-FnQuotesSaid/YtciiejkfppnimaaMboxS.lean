/- The specification's MboxSplit. -/
import Derived.Test.YtciiejkfppnimaaPieceS
import Derived.Test.YtciiejkfppnimaaSSpans
namespace Go.Proofs.Ytciiejkfppnimaa
open Go.RowKit Mem
set_option linter.unusedVariables false
theorem MboxL_big {t : Bytes} (h : 40000 < t.length) : MboxL t = (false, []) := if_pos h
theorem MboxL_none {t : Bytes} (h : ¬ 40000 < t.length) (h2 : specG (lines t) [] 0 [] = none) : MboxL t = (false, []) := by
  unfold MboxL; rw [if_neg h, h2]
theorem MboxL_some {t : Bytes} {l : List SpanL} (h : ¬ 40000 < t.length) (h2 : specG (lines t) [] 0 [] = some l) : MboxL t = (true, l) := by
  unfold MboxL; rw [if_neg h, h2]
theorem specG_cut {l : Bytes} {r : List Bytes} {cur : Bytes} {at_ : Nat} {acc : List SpanL} (hm : marks l = 0) (h0 : 0 < at_) : specG (l :: r) cur at_ acc = if entryOk cur then specG r l (at_ + l.length) (acc ++ [spanOf cur at_]) else none := if_pos ⟨hm, h0⟩
theorem specG_on {l : Bytes} {r : List Bytes} {cur : Bytes} {at_ : Nat} {acc : List SpanL} (h : ¬ (marks l = 0 ∧ 0 < at_)) : specG (l :: r) cur at_ acc = specG r (cur ++ l) (at_ + l.length) acc := if_neg h
theorem specG_end {cur : Bytes} {at_ : Nat} {acc : List SpanL} : specG [] cur at_ acc = if 0 < at_ then (if entryOk cur then some (acc ++ [spanOf cur at_]) else none) else some acc := rfl
theorem retBad {w w' : World} {t : Bytes} {l : List SpanL} (h : MboxL t = (false, [])) (hm : New w w') : RetV true dSpans w (MboxL t) (.returned (.agg #[.bool false, .slice none 0 0])) w' := by
  rw [h]; exact ⟨_, rfl, ofSpans (x := (false, [])) (OwI.nil _ _ _ _ _), hm⟩
theorem OwP_rowlt {α : Type} {d : Ty α} {e : TypeId} {w : World} {X : Nat → Prop} {A : Option Addr} {n c : Nat} {xs : List α} (h : OwP d e w X (.slice A n c) xs) : Row d w (· < w.heap.size) A xs.length xs := by
  obtain ⟨F, ho, hF⟩ := h
  exact (ho.row rfl).mod (fun k hk => ho.lt k hk) (fun _ _ => rfl)
/-- the answer out of the local cell -/
theorem retGood {w w' : World} {F : List Nat} {v : Value} {l : List SpanL} {lo : Nat} (h : Own dSpan 32 w' F v l) (hF : ∀ k, k ∈ F → lo ≤ k) (h1 : w.heap.size < lo) (h2 : w.heap.size + 1 < w'.heap.size) (hm : New w w') :
    RetV true dSpans w (true, l) (.returned (.agg #[.bool true, v])) ((w'.setCell ⟨w.heap.size, 0, none⟩ (.bool true)).setCell ⟨w.heap.size, 1, none⟩ v) := by
  have hm2 := (Mod.refl (fun k => k = w.heap.size) w').setCell (p := ⟨w.heap.size, 0, none⟩) (fun _ => rfl) (.bool true) |>.setCell (p := ⟨w.heap.size, 1, none⟩) (fun _ => rfl) v
  refine ⟨_, rfl, ofSpans (x := (true, l)) ⟨F, h.keep hm2 (fun k hk e => by have := hF k hk; omega), fun k hk => ⟨by have := hF k hk; omega, Nat.lt_of_lt_of_le (h.lt k hk) hm2.size⟩⟩, (hm.setCell (fun h => absurd h (by simp)) _).setCell (fun h => absurd h (by simp)) _⟩
end Go.Proofs.Ytciiejkfppnimaa
