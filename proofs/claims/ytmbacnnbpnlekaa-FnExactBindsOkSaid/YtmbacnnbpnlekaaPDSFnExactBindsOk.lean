-- Printed by a program of this session (wrap.py) out of the translation. Lean checks it.
import Derived.Test.YtmbacnnbpnlekaaPDx18
import Derived.Test.YtmbacnnbpnlekaaPDR
namespace Go.Proofs.Ytmbacnnbpnlekaa.PD
open Go.RowKit Go.Proofs.YtmbacnnbpnlekaaW.PrintWords Go.Proofs.YtmbacnnbpnlekaaW.PrintLast Go.Proofs.YtmbacnnbpnlekaaW.PrintMore
attribute [local go_sem] max2_int min2_int max_two min_two max_three min_three max_four min_four   -- for this text's walks alone
set_option linter.unusedVariables false
set_option linter.unusedSimpArgs false

def laws_FnExactBindsOk.Pure : Prop := ∀ (x0 : List (S114)), (x0.length ≤ maxLen ∧ ∀ a0_ ∈ x0, W114 a0_) → ∃ k, laws_FnExactBindsOk.f k x0 = some true
end Go.Proofs.Ytmbacnnbpnlekaa.PD
