/- The program's Unfold returns what the reference's Unfold returns, for every int. No condition. -/
import Derived.Test.YtophpcadfljkgaaPFnExactUnfoldx1
namespace Go.Proofs.Ytophpcadfljkgaa.Pure
open Go.RowKit Go.Proofs.Ytophpcadfljkgaa.PFnExactUnfold Go.Proofs.YtophpcadfljkgaaW.PrintWords Go.Proofs.YtophpcadfljkgaaW.PrintLast

theorem FnExactUnfold : laws_FnExactUnfold.Pure := by
  intro a _
  refine ⟨1, ?_⟩
  simp only [laws_FnExactUnfold.f, spec_Unfold.f, spec_Unfold.j0, impl_Unfold.f, impl_within.f]
  by_cases h0 : a < 0
  · have h1 : ¬ a ≥ 0 := by omega
    simp [h0, h1]
  · have h1 : a ≥ 0 := by omega
    by_cases h2 : a > 2147483647
    · have h3 : ¬ a ≤ 2147483647 := by omega
      simp [h0, h1, h2, h3]
    · have h3 : a ≤ 2147483647 := by omega
      by_cases h4 : Int.tmod a 2 = 0
      · simp [h0, h1, h2, h3, h4]
      · simp [h0, h1, h2, h3, h4]

end Go.Proofs.Ytophpcadfljkgaa.Pure
