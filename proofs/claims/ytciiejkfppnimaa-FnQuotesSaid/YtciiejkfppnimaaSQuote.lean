/- Lines, Quote and Unquote of the specification. -/
import Derived.Test.YtciiejkfppnimaaMbox
namespace Go.Proofs.Ytciiejkfppnimaa
open Go.RowKit Mem
set_option linter.unusedVariables false

theorem elt_bytes : Elt Try.prog 22 1 (.slice none 0 0) := Elt.of (b := 24) (by kernel_rfl) rfl (by decide) (by decide)
theorem linesAux_nl (b : UInt8) (bs cur : List UInt8) : linesAux (b :: bs) cur = if b = 10 then (cur ++ [b]) :: linesAux bs [] else linesAux bs (cur ++ [b]) := rfl

end Go.Proofs.Ytciiejkfppnimaa
