/- What the row FnNames lists, read off the memory. -/
import Derived.Test.YtbkccffpipcjeaaDoorFnNamesWalk
import Derived.Test.YtbkccffpipcjeaaDoorMailLaid
import Derived.Test.YtbkccffpipcjeaaDoorListLaid
namespace Go.Proofs.YtbkccffpipcjeaaDoor
open Go.RowKit Mem Go.ChangeShapes
set_option linter.unusedVariables false
theorem namesMem_of_laid {W : World} {x y z : String × DataW Unit} {rest : List (String × DataW Unit)} (h : laidMet Tryd.prog (x :: y :: ("internal/strconv.uint64pow10", Rows.laid_internal_strconv_uint64pow10) :: z :: ("strconv.ErrRange", Rows.laid_strconv_ErrRange) :: ("strconv.ErrSyntax", Rows.laid_strconv_ErrSyntax) :: ("loop.example/s02349/impl.letters", Rows.laid_loop_example_s02349_impl_letters) :: ("loop.example/s02349/impl.flagNames", Rows.laid_loop_example_s02349_impl_flagNames) :: rest) W) (hs : W.ShapedOpen Tryd.prog) : NamesMem W := by
  obtain ⟨ps, h, _⟩ := h
  obtain ⟨q1, h1⟩ := laid_tail h
  obtain ⟨q2, h2⟩ := laid_tail h1
  obtain ⟨q3, h3⟩ := laid_tail h2
  obtain ⟨q4, h4⟩ := laid_tail h3
  obtain ⟨q5, h5⟩ := laid_tail h4
  obtain ⟨q6, h6⟩ := laid_tail h5
  obtain ⟨q7, h7⟩ := laid_tail h6
  exact ⟨⟨⟨tabAt_of_vars h2, lettersAt_of_vars h6⟩, intAt_of_shaped hs, errAt_of_vars (by kernel_rfl) (by kernel_rfl) Tryd.underlying64 h5, errAt_of_vars (by kernel_rfl) (by kernel_rfl) Tryd.underlying64 h4⟩, namesAt_of_vars h7⟩
end Go.Proofs.YtbkccffpipcjeaaDoor
