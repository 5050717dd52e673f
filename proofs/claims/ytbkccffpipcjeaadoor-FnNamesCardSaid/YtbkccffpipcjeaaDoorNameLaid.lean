/- What the rows over names list, read off the memory. -/
import Derived.Test.YtbkccffpipcjeaaDoorName
import Derived.Test.YtbkccffpipcjeaaDoorFlagLaid
import Derived.Lib.LaidTab
namespace Go.Proofs.YtbkccffpipcjeaaDoor
open Go.RowKit Mem Go.ChangeShapes
set_option linter.unusedVariables false
theorem pow10_is : (Rows.laid_internal_strconv_uint64pow10 : DataW Unit) = Lib.tabData .u64 Lib.pow10Tab := rfl
theorem tabAt_of_vars {W : World} {rest : List (String × DataW Unit)} {ps : List MemPlace} (h : DataW.LaidVars Tryd.prog W (("internal/strconv.uint64pow10", Rows.laid_internal_strconv_uint64pow10) :: rest) ps) : TabAt W := by
  obtain ⟨g, t, cs, fuel, p, q, hg, ht, hv, hd, _, _⟩ := h
  obtain rfl := Option.some.inj ((show Tryd.prog.globalNamed "internal/strconv.uint64pow10" = some 2 by kernel_rfl).symm.trans hg)
  obtain rfl := Option.some.inj ((show (Tryd.prog.globals[2]?).map (·.type) = some 109 by kernel_rfl).symm.trans ht)
  rw [pow10_is] at hd
  unfold TabAt Lib.TabIs
  rw [hv, ← Lib.cells_of_tab Tryd.underlying109 Tryd.underlying47 (by kernel_rfl) (by kernel_rfl) hd]
theorem laid_tail {P : Program} {W : World} {x : String × DataW Unit} {rest : List (String × DataW Unit)} {ps : List MemPlace} (h : DataW.LaidVars P W (x :: rest) ps) : ∃ q, DataW.LaidVars P W rest q := by
  obtain ⟨g, t, cs, fuel, p, q, hg, ht, hv, hd, hr, _⟩ := h
  exact ⟨q, hr⟩
theorem nameMem_of_laid {W : World} {x y : String × DataW Unit} {rest : List (String × DataW Unit)} (h : laidMet Tryd.prog (x :: y :: ("internal/strconv.uint64pow10", Rows.laid_internal_strconv_uint64pow10) :: ("loop.example/s02349/impl.letters", Rows.laid_loop_example_s02349_impl_letters) :: rest) W) : NameMem W := by
  obtain ⟨ps, h, _⟩ := h
  obtain ⟨q1, h1⟩ := laid_tail h
  obtain ⟨q2, h2⟩ := laid_tail h1
  obtain ⟨q3, h3⟩ := laid_tail h2
  exact ⟨tabAt_of_vars h2, lettersAt_of_vars h3⟩
end Go.Proofs.YtbkccffpipcjeaaDoor
