/- What the program's Fold and Unfold come to. -/
import Derived.Test.YtophpcadfljkgaaE0
import Derived.Test.YtophpcadfljkgaaPAx0
import Derived.Test.YtophpcadfljkgaaPAx22
namespace Go.Proofs.Ytophpcadfljkgaa.E
open Go Go.RowKit Go.Proofs.Ytophpcadfljkgaa.PA Go.Proofs.Ytophpcadfljkgaa.M Go.Proofs.YtophpcadfljkgaaW.PrintWords Go.Proofs.YtophpcadfljkgaaW.PrintLast Go.Proofs.YtophpcadfljkgaaW.PrintMore

def foldN (a : Int) : Int := if 0 ≤ a ∧ a ≤ 1073741823 then 2 * a else if -1073741824 ≤ a ∧ a ≤ -1 then -2 * a - 1 else -1
def unfoldN (n : Int) : Int := if 0 ≤ n ∧ n ≤ 2147483647 then (if n % 2 = 0 then n / 2 else -((n + 1) / 2)) else 0

theorem impl_Fold (a : Int) : impl_Fold.f a = some (foldN a) := by
  unfold impl_Fold.f foldN
  by_cases h : 0 ≤ a ∧ a ≤ 1073741823
  · rw [within_in h.1 h.2, Option.bind_some, if_pos rfl, if_pos h, w64 (by omega) (by omega)]
  · rw [within_out h, Option.bind_some, if_neg (by decide), if_neg h]
    by_cases h2 : -1073741824 ≤ a ∧ a ≤ -1
    · rw [within_in h2.1 h2.2, Option.bind_some, if_pos rfl, if_pos h2, w64 (n := -2 * a) (by omega) (by omega), w64 (by omega) (by omega)]
    · rw [within_out h2, Option.bind_some, if_neg (by decide), if_neg h2]

theorem impl_Unfold (n : Int) : impl_Unfold.f n = some (unfoldN n) := by
  unfold impl_Unfold.f unfoldN
  by_cases h : 0 ≤ n ∧ n ≤ 2147483647
  · rw [within_in h.1 h.2, Option.bind_some, if_pos rfl, if_pos h, Int.tmod_eq_emod_of_nonneg h.1]
    by_cases h2 : n % 2 = 0
    · rw [if_pos h2, if_pos h2, Int.tdiv_eq_ediv_of_nonneg h.1, w64 (by omega) (by omega)]
    · rw [if_neg h2, if_neg h2, w64 (n := n + 1) (by omega) (by omega), w64 (n := -(n + 1)) (by omega) (by omega), Int.neg_tdiv, Int.tdiv_eq_ediv_of_nonneg (by omega), w64 (by omega) (by omega)]
  · rw [within_out h, Option.bind_some, if_neg (by decide), if_neg h]

theorem unfold_fold {a : Int} (h : 0 ≤ foldN a) : unfoldN (foldN a) = a := by
  unfold unfoldN foldN at *
  repeat' split
  all_goals (repeat' split at h)
  all_goals omega
theorem fold_unfold {n : Int} (h0 : 0 ≤ n) (h1 : n ≤ 2147483647) : foldN (unfoldN n) = n := by
  have e : unfoldN n = if n % 2 = 0 then n / 2 else -((n + 1) / 2) := by unfold unfoldN; rw [if_pos ⟨h0, h1⟩]
  rw [e]
  unfold foldN
  repeat' split
  all_goals omega
theorem fold_ge (a : Int) : 0 ≤ foldN a ↔ -1073741824 ≤ a ∧ a ≤ 1073741823 := by
  unfold foldN
  repeat' split
  all_goals omega

end Go.Proofs.Ytophpcadfljkgaa.E
