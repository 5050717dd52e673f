/- What the row lists of the flags' names, read off the memory. -/
import Derived.Test.YtbkccffpipcjeaaDoorListI
import Derived.Test.YtbkccffpipcjeaaDoorRows
import Derived.LaidLaws
import Derived.ChangeArms
import Derived.ChangeSame
import Derived.OpenShut
import Derived.ChangeSlices
namespace Go.Proofs.YtbkccffpipcjeaaDoor
open Go.RowKit Mem Go.ChangeShapes
set_option linter.unusedVariables false

def names5 : List Bytes := (List.range 5).map nameL
def lit1 {H : Type} (x : Bytes) : DataW H := .lit (.string x)
theorem names_is : (Rows.laid_loop_example_s02349_impl_flagNames : DataW Unit) = .slice (names5.map lit1) [] := rfl
theorem namesAt_of_vars {W : World} {rest : List (String × DataW Unit)} {ps : List MemPlace} (h : DataW.LaidVars Tryd.prog W (("loop.example/s02349/impl.flagNames", Rows.laid_loop_example_s02349_impl_flagNames) :: rest) ps) : NamesAt W := by
  obtain ⟨g, t, cs, fuel, p, q, hg, ht, hv, hd, _, _⟩ := h
  obtain rfl := Option.some.inj ((show Tryd.prog.globalNamed "loop.example/s02349/impl.flagNames" = some 0 by kernel_rfl).symm.trans hg)
  obtain rfl := Option.some.inj ((show (Tryd.prog.globals[0]?).map (·.type) = some 42 by kernel_rfl).symm.trans ht)
  rw [names_is] at hd
  rcases DataW.trod_slice Tryd.underlying42 hd with ⟨_, hx⟩ | ⟨a, len, cap, elems, sp, n, _, hcs, hx, hb, hlc, hcm, hel, helem, _, _⟩
  · injection hx with hx _; cases hx
  injection hx with hx _
  injection hx with hx _
  have hlen : len = 5 := by
    have := congrArg List.length hx
    simp [names5] at this
    omega
  subst hlen
  have c1 : Tryd.prog.cellsOf 9 = 1 := by kernel_rfl
  have key : ∀ (j : Nat) (x : Bytes), names5[j]? = some x → W.cell? (a.add j) = some (.string (toS x)) := by
    intro j x hj
    have hj5 : j < 5 := by have := (List.getElem?_eq_some_iff.1 hj).1; simp [names5] at this; exact this
    have h1 : (elems.map (·.1))[j]? = some (lit1 x) := by rw [← hx, List.getElem?_map, hj]; rfl
    rw [List.getElem?_map] at h1
    obtain ⟨y, hy, hy1⟩ := Option.map_eq_some_iff.1 h1
    have hE := helem j hj5
    rw [hy, c1, Nat.mul_one] at hE
    obtain ⟨cs1, hcs1, htr⟩ := Option.bind_eq_some_iff.1 hE
    obtain ⟨s, rfl, rfl, _⟩ := DataW.trod_string Tryd.underlying9 htr
    have hs : s.data.toList = x := by simpa [lit1] using hy1
    subst hs
    have hcell := cell_of_cells?_one hcs1
    rw [hcell]
    cases s; simp [toS]
  have hcell : W.cell? ⟨0, 0, none⟩ = some (.slice (some a) 5 cap) := by
    rw [World.var?_cell hg hv 0]
    have := congrArg (·[0]?) hcs
    simpa using this
  have hblk : a.block < W.heap.size := by
    have := key 0 _ rfl
    rw [show a.add 0 = a from by simp [Addr.add]] at this
    exact World.block_lt_of_cell? W _ this
  refine ⟨a, cap, hcell, rfl, by omega, fun _ => ⟨a, rfl, hblk, fun j x hj => ⟨[.string x], rfl, fun i u hu => ?_⟩⟩⟩
  have hi : i = 0 := by have := (List.getElem?_eq_some_iff.1 hu).1; simpa using this
  subst hi
  rw [show j * Ty.string.sz + 0 = j from Nat.mul_one j]
  have hjx : ∃ y, names5[j]? = some y ∧ x = toS y := by
    rw [List.getElem?_map] at hj
    obtain ⟨q, hq, rfl⟩ := Option.map_eq_some_iff.1 hj
    exact ⟨nameL q, by unfold names5; rw [List.getElem?_map, hq]; rfl, rfl⟩
  obtain ⟨y, hy, rfl⟩ := hjx
  rw [key j y hy]
  simpa using hu
theorem namesAt_of_laid {W : World} (h : laidMet Tryd.prog [("loop.example/s02349/impl.flagNames", Rows.laid_loop_example_s02349_impl_flagNames)] W) : NamesAt W := by
  obtain ⟨ps, h, _⟩ := h
  exact namesAt_of_vars h
end Go.Proofs.YtbkccffpipcjeaaDoor
