/- The law FnExactConstants returns true; it has no conditions. -/
import Derived.Test.YtdalakdhonadbaaPFnExactConstantsx1
namespace Go.Proofs.Ytdalakdhonadbaa.Pure
open Go.RowKit Go.Proofs.Ytdalakdhonadbaa.PFnExactConstants Go.Proofs.YtdalakdhonadbaaW.PrintWords Go.Proofs.YtdalakdhonadbaaW.PrintLast

/-- The law's own answer, computed. -/
theorem FnExactConstants : laws_FnExactConstants.Pure := rfl

end Go.Proofs.Ytdalakdhonadbaa.Pure
