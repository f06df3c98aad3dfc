/- The program's constants are the reference's. No condition. -/
import Derived.Test.YtophpcadfljkgaaPAx0
import Derived.Test.YtophpcadfljkgaaPAx1
namespace Go.Proofs.Ytophpcadfljkgaa.Pure
open Go.RowKit Go.Proofs.Ytophpcadfljkgaa.PA Go.Proofs.YtophpcadfljkgaaW.PrintWords Go.Proofs.YtophpcadfljkgaaW.PrintLast

theorem FnExactConstants : laws_FnExactConstants.Pure := rfl

end Go.Proofs.Ytophpcadfljkgaa.Pure
