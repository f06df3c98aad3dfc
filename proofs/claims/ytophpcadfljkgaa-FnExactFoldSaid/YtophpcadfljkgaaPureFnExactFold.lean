/- The program's Fold returns what the reference's Fold returns, for every int. No condition. -/
import Derived.Test.YtophpcadfljkgaaPFnExactFoldx1
namespace Go.Proofs.Ytophpcadfljkgaa.Pure
open Go.RowKit Go.Proofs.Ytophpcadfljkgaa.PFnExactFold Go.Proofs.YtophpcadfljkgaaW.PrintWords Go.Proofs.YtophpcadfljkgaaW.PrintLast

theorem FnExactFold : laws_FnExactFold.Pure := by
  intro a _
  refine ⟨1, ?_⟩
  simp only [laws_FnExactFold.f, spec_Fold.f, spec_Fold.j0, impl_Fold.f, impl_within.f]
  by_cases h0 : a ≥ 0
  · by_cases h1 : a ≤ 1073741823
    · simp [h0, h1]
    · have h2 : ¬ a ≤ -1 := by omega
      have h3 : ¬ a < 0 := by omega
      have h4 : a ≥ -1073741824 := by omega
      simp [h0, h1, h2, h3, h4]
  · have h3 : a < 0 := by omega
    have h5 : a ≤ -1 := by omega
    by_cases h4 : a ≥ -1073741824
    · simp [h0, h3, h4, h5]
    · simp [h0, h3, h4]

end Go.Proofs.Ytophpcadfljkgaa.Pure
