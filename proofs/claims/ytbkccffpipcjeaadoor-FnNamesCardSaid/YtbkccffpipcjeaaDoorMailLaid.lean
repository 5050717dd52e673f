/- What the rows over mails' names list, read off the memory. -/
import Derived.Test.YtbkccffpipcjeaaDoorMailI
import Derived.Test.YtbkccffpipcjeaaDoorNameLaid
import Derived.Test.YtbkccffpipcjeaaDoorShaped
namespace Go.Proofs.YtbkccffpipcjeaaDoor
open Go.RowKit Mem Go.ChangeShapes
set_option linter.unusedVariables false
theorem mailMem_of_laid {W : World} {x y : String × DataW Unit} {rest : List (String × DataW Unit)} (h : laidMet Tryd.prog (x :: y :: ("internal/strconv.uint64pow10", Rows.laid_internal_strconv_uint64pow10) :: ("strconv.ErrRange", Rows.laid_strconv_ErrRange) :: ("strconv.ErrSyntax", Rows.laid_strconv_ErrSyntax) :: ("loop.example/s02349/impl.letters", Rows.laid_loop_example_s02349_impl_letters) :: rest) W) (hs : W.ShapedOpen Tryd.prog) : MailMem W := by
  obtain ⟨ps, h, _⟩ := h
  obtain ⟨q1, h1⟩ := laid_tail h
  obtain ⟨q2, h2⟩ := laid_tail h1
  obtain ⟨q3, h3⟩ := laid_tail h2
  obtain ⟨q4, h4⟩ := laid_tail h3
  obtain ⟨q5, h5⟩ := laid_tail h4
  exact ⟨⟨tabAt_of_vars h2, lettersAt_of_vars h5⟩, intAt_of_shaped hs, errAt_of_vars (by kernel_rfl) (by kernel_rfl) Tryd.underlying64 h4, errAt_of_vars (by kernel_rfl) (by kernel_rfl) Tryd.underlying64 h3⟩
end Go.Proofs.YtbkccffpipcjeaaDoor
