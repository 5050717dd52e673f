/- strings.Split and strings.Cut at one byte. -/
import Derived.Test.YtbkccffpipcjeaaDoorStr
import Derived.Test.YtbkccffpipcjeaaDoorPureSplit
import Derived.Test.YtbkccffpipcjeaaDoorShelf
import Derived.Lib.IndexMore
namespace Go.Proofs.YtbkccffpipcjeaaDoor
open Go.RowKit Mem
set_option linter.unusedVariables false
def IntAt (w : World) : Prop := ∃ m, w.cell? ⟨3, 0, none⟩ = some (.int .i64 m)
theorem IntAt.new {w w' : World} (h : IntAt w) (hm : New w w') : IntAt w' := by
  obtain ⟨m, h⟩ := h
  exact ⟨m, hm.cell_of h⟩
set_option maxRecDepth 100000 in
theorem split_calls (ys : Bytes) (hy : ys.length ≤ 16777216) (c : UInt8) {w : World} (hI : IntAt w) : Calls Tryd.prog 33 #[.string ⟨ys.toArray⟩, .string ⟨#[c]⟩] w
    (fun e w' => e = .returned (.slice (some ⟨w.heap.size, 0, none⟩) (splitL c ys).length (splitL c ys).length) ∧ New w w' ∧ w.heap.size < w'.heap.size ∧ Row Ty.string w' (· = w.heap.size) (some ⟨w.heap.size, 0, none⟩) (splitL c ys).length ((splitL c ys).map toS)) := by
  obtain ⟨m, hm⟩ := hI
  have hsz : (⟨ys.toArray⟩ : ByteArray).size = ys.length := by simp [ByteArray.size]
  refine (Tryd.strings_Split ⟨ys.toArray⟩ ⟨#[c]⟩ m w (by omega) hm (by simp [ByteArray.size])).mono ?_
  rintro e w' ⟨rfl, rfl⟩
  have h1 := countB_is c ys
  have h2 := splitB_is c ys
  unfold toSx at h1 h2
  have hl := splitL_len c ys
  refine ⟨by rw [h1], (Mod.refl _ _).alloc _, by simp, ?_⟩
  rw [h2]
  have := row_of_strings w 9 ((splitL c ys).map toS) (by rw [List.length_map]; omega)
  rw [List.length_map] at this
  exact this
theorem cut_is (b : UInt8) (xs : Bytes) : Lib.cut xs [b] = cutL b xs := by
  unfold Lib.cut
  rw [index_cut]
  cases h : (cutL b xs).2.2
  · rw [cutL_no b xs h]; simp
  · have hp := cutL_parts b xs h
    rw [if_pos rfl, if_pos (by omega), Int.toNat_natCast, List.length_singleton, hp.1, hp.2, ← h]
set_option maxRecDepth 100000 in
theorem cut_calls (ys : Bytes) (hy : ys.length ≤ 16777216) (c : UInt8) {w : World} (hI : IntAt w) : Calls Tryd.prog 39 #[.string ⟨ys.toArray⟩, .string ⟨#[c]⟩] w (Ret (.tuple #[.string ⟨(cutL c ys).1.toArray⟩, .string ⟨(cutL c ys).2.1.toArray⟩, .bool (cutL c ys).2.2]) w) := by
  obtain ⟨m, hm⟩ := hI
  have hsz : (⟨ys.toArray⟩ : ByteArray).size = ys.length := by simp [ByteArray.size]
  refine (Tryd.strings_Cut ⟨ys.toArray⟩ ⟨#[c]⟩ m w (by omega) hm).mono ?_
  rintro e w' ⟨rfl, n, rfl⟩
  have h := cut_is c ys
  refine ⟨?_, (Mod.refl _ _).drewN _⟩
  rw [← h]
end Go.Proofs.YtbkccffpipcjeaaDoor
