/- What within, Fold, Unfold and Wrap come to. -/
import Derived.Test.YtmbacnnbpnlekaaB
import Derived.Test.YtmbacnnbpnlekaaPDx0
import Derived.Test.YtmbacnnbpnlekaaPDx9
namespace Go.Proofs.Ytmbacnnbpnlekaa.E
open Go Go.RowKit Go.Proofs.Ytmbacnnbpnlekaa.PD Go.Proofs.Ytmbacnnbpnlekaa.M Go.Proofs.YtmbacnnbpnlekaaW.PrintWords Go.Proofs.YtmbacnnbpnlekaaW.PrintLast Go.Proofs.YtmbacnnbpnlekaaW.PrintMore

theorem within (a b c : Int) : impl_within.f a b c = some (decide (b ≤ a ∧ a ≤ c)) := by
  unfold impl_within.f
  by_cases h : a ≥ b
  · rw [if_pos h]
    have : b ≤ a := h
    simp [this]
  · rw [if_neg h]
    have : ¬ b ≤ a := h
    simp [this]
theorem within_in {a b c : Int} (h0 : b ≤ a) (h1 : a ≤ c) : impl_within.f a b c = some true := by rw [within, decide_eq_true ⟨h0, h1⟩]
theorem within_out {a b c : Int} (h : ¬ (b ≤ a ∧ a ≤ c)) : impl_within.f a b c = some false := by rw [within, decide_eq_false h]

end Go.Proofs.Ytmbacnnbpnlekaa.E
