/- The program's Wrap returns what the reference's Wrap returns, for every int. No condition. -/
import Derived.Test.YtophpcadfljkgaaPFnExactWrapx1
namespace Go.Proofs.Ytophpcadfljkgaa.Pure
open Go.RowKit Go.Proofs.Ytophpcadfljkgaa.PFnExactWrap Go.Proofs.YtophpcadfljkgaaW.PrintWords Go.Proofs.YtophpcadfljkgaaW.PrintLast

theorem FnExactWrap : laws_FnExactWrap.Pure := by
  intro a _
  simp [laws_FnExactWrap.f, spec_Wrap.f, impl_Wrap.f]

end Go.Proofs.Ytophpcadfljkgaa.Pure
