/- Drawn numbers come back from Fold and Unfold. No condition. -/
import Derived.Test.YtophpcadfljkgaaD1
import Derived.Test.YtophpcadfljkgaaE0f
import Derived.Test.YtophpcadfljkgaaPAx0
import Derived.Test.YtophpcadfljkgaaPAx23
namespace Go.Proofs.Ytophpcadfljkgaa.Pure
open Go Go.RowKit Go.Proofs.Ytophpcadfljkgaa.PA Go.Proofs.Ytophpcadfljkgaa.M Go.Proofs.Ytophpcadfljkgaa.E Go.Proofs.YtophpcadfljkgaaW.PrintWords Go.Proofs.YtophpcadfljkgaaW.PrintLast

theorem FnFolds : laws_FnFolds.Pure := by
  intro l _ hlen hb
  obtain ⟨a, ⟨K1, h1⟩, ha⟩ := DrawFold (l := l) (by omega)
  obtain ⟨n, ⟨K2, h2⟩, hn⟩ := DrawUnfold (l := l) (by omega)
  dsimp only at h1 h2
  have hm : foldN (-1) = 1 := by decide
  have h3 : unfoldN 2 = 1 := by decide
  have hj1 : ∀ k, laws_FnFolds.j1 (k + 1) a (foldN a) false = some true := by
    intro k
    rw [laws_FnFolds.j1, if_neg (by decide)]
    have hg := fold_ge a
    by_cases c : a ≥ -1073741824
    · rw [if_pos c]
      have e : (decide (foldN a ≥ 0) == decide (a ≤ 1073741823)) = true := by
        rw [beq_iff_eq, decide_eq_decide]
        constructor
        · intro h; exact (hg.1 h).2
        · intro h; exact hg.2 ⟨c, h⟩
      rw [if_pos e, impl_Fold, Option.bind_some, hm, if_pos rfl, impl_Unfold, Option.bind_some, h3]
      rfl
    · rw [if_neg c]
      have e : (decide (foldN a ≥ 0) == false) = true := by
        rw [beq_iff_eq, decide_eq_false_iff_not]
        intro h
        exact c (hg.1 h).1
      rw [if_pos e, impl_Fold, Option.bind_some, hm, if_pos rfl, impl_Unfold, Option.bind_some, h3]
      rfl
  have hj0 : ∀ k, laws_FnFolds.j0 (k + 1 + 1) a n (foldN a) false = some true := by
    intro k
    rw [laws_FnFolds.j0, if_neg (by decide)]
    by_cases c0 : n ≥ 0
    · rw [if_pos c0]
      by_cases c1 : n ≤ 2147483647
      · rw [if_pos c1, impl_Unfold, Option.bind_some, impl_Fold, Option.bind_some, fold_unfold c0 c1, bne_self_eq_false, hj1]
      · rw [if_neg c1, hj1]
    · rw [if_neg c0, hj1]
  refine ⟨K1 + K2 + 1 + 1, ?_⟩
  rw [laws_FnFolds.f, h1 _ (by omega), Option.bind_some, h2 _ (by omega), Option.bind_some, impl_Fold, Option.bind_some]
  by_cases c : foldN a ≥ 0
  · rw [if_pos c, impl_Unfold, Option.bind_some, unfold_fold c, bne_self_eq_false, hj0]
  · rw [if_neg c, hj0]

end Go.Proofs.Ytophpcadfljkgaa.Pure
