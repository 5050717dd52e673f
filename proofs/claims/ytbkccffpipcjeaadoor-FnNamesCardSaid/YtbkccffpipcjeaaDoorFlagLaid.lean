/- What the row lists of the table of letters, read off the memory. -/
import Derived.Test.YtbkccffpipcjeaaDoorFlagI
import Derived.Test.YtbkccffpipcjeaaDoorRows
import Derived.LaidLaws
import Derived.ChangeArms
import Derived.ChangeSame
import Derived.OpenShut
namespace Go.Proofs.YtbkccffpipcjeaaDoor
open Go.RowKit Mem Go.ChangeShapes
set_option linter.unusedVariables false

def letter1 {H : Type} (x : Int × Int) : DataW H := .agg [.lit (.int .u8 x.1), .lit (.int .u32 x.2)]
theorem laid_is : (Rows.laid_loop_example_s02349_impl_letters : DataW Unit) = .agg ((tabL.take 5).map letter1) := rfl
theorem letters_wf : ∀ (j : Nat) (x : Int × Int), (tabL.take 5)[j]? = some x → IntKind.u8.wrap x.1 = x.1 ∧ IntKind.u32.wrap x.2 = x.2 := by
  have : ∀ x, x ∈ tabL.take 5 → IntKind.u8.wrap x.1 = x.1 ∧ IntKind.u32.wrap x.2 = x.2 := by decide
  intro j x h
  exact this x (List.mem_of_getElem? h)
theorem lettersAt_of_vars {W : World} {rest : List (String × DataW Unit)} {ps : List MemPlace} (h : DataW.LaidVars Tryd.prog W (("loop.example/s02349/impl.letters", Rows.laid_loop_example_s02349_impl_letters) :: rest) ps) : LettersAt W ∧ 1 < W.heap.size := by
  obtain ⟨g, t, cs, fuel, p, q, hg, ht, hv, hd, _, _⟩ := h
  obtain rfl := Option.some.inj ((show Tryd.prog.globalNamed "loop.example/s02349/impl.letters" = some 1 by kernel_rfl).symm.trans hg)
  obtain rfl := Option.some.inj ((show (Tryd.prog.globals[1]?).map (·.type) = some 89 by kernel_rfl).symm.trans ht)
  rw [laid_is] at hd
  obtain ⟨xs, m, _, ex, _, hl, hel⟩ := DataW.trod_array Tryd.underlying89 hd
  have c2 : Tryd.prog.cellsOf 77 = 2 := by kernel_rfl
  have e3 : xs.map (·.1) = (tabL.take 5).map letter1 := (DataW.agg.inj (Prod.mk.inj ex).1).symm
  have key : ∀ (j : Nat) (x : Int × Int), (tabL.take 5)[j]? = some x → (cs.toList.drop (j * 2)).take 2 = [.int .u8 x.1, .int .u32 x.2] := by
    intro j x hj
    have hj5 : j < 5 := by have := (List.getElem?_eq_some_iff.1 hj).1; rw [List.length_take] at this; omega
    have h1 : (xs.map (·.1))[j]? = some (letter1 x) := by rw [e3, List.getElem?_map, hj]; rfl
    have hE := hel j hj5
    rw [c2] at hE
    rw [List.getElem?_map] at h1
    obtain ⟨y, hy, hy1⟩ := Option.map_eq_some_iff.1 h1
    rw [hy] at hE
    obtain ⟨y0, y1, n, rfl, _, hf0, hf1⟩ := trod_struct2 Tryd.underlying77 hE
    obtain ⟨z0, k0, rfl, _⟩ := DataW.trod_int Tryd.underlying5 hf0
    obtain ⟨z1, k1, rfl, _⟩ := DataW.trod_int Tryd.underlying22 hf1
    have e0 : z0 = x.1 ∧ z1 = x.2 := by simpa [letter1] using hy1
    obtain ⟨rfl, rfl⟩ := e0
    simp only [show Tryd.prog.cellsOf 5 = 1 by kernel_rfl, show Tryd.prog.cellsOf 22 = 1 by kernel_rfl, List.drop_zero] at k0 k1
    have g0 := congrArg (·[0]?) k0
    have g1 := congrArg (·[0]?) k1
    simp only [List.getElem?_take, List.getElem?_drop] at g0 g1
    apply List.ext_getElem?
    intro i
    rcases i with _ | _ | i
    · simpa [List.getElem?_take, List.getElem?_drop] using g0
    · simpa [List.getElem?_take, List.getElem?_drop] using g1
    · simp [List.getElem?_take]; omega
  have hrow : LettersAt W := by
    refine ⟨by decide, by omega, fun _ => ⟨_, rfl, rfl, fun j x hj => ⟨[.int .u8 x.1, .int .u32 x.2], ⟨[_], [_], rfl, ⟨rfl, (letters_wf j x hj).1⟩, ⟨rfl, (letters_wf j x hj).2⟩⟩, fun i u hu => ?_⟩⟩⟩
    rw [show j * dLet.sz + i = j * 2 + i from rfl, add_own, World.var?_cell hg hv (j * 2 + i)]
    have := congrArg (·[i]?) (key j x hj)
    simp only [hu, List.getElem?_take, List.getElem?_drop] at this
    split at this
    · simpa using this
    · cases this
  refine ⟨hrow, ?_⟩
  obtain ⟨ad, c, hlt, hA, _, hK, hc⟩ := hrow.at_ (k := 0) (by omega)
  obtain ⟨c0, c1, rfl, ⟨rfl, _⟩, ⟨rfl, _⟩⟩ := hK
  have := hc 0 _ rfl
  injection hA with hA
  subst hA
  exact World.block_lt_of_cell? W _ this
theorem lettersAt_of_laid {W : World} (h : laidMet Tryd.prog [("loop.example/s02349/impl.letters", Rows.laid_loop_example_s02349_impl_letters)] W) : LettersAt W ∧ 1 < W.heap.size := by
  obtain ⟨ps, h, _⟩ := h
  exact lettersAt_of_vars h
end Go.Proofs.YtbkccffpipcjeaaDoor
