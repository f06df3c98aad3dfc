-- Printed by a program of this session (wrap.py) out of the translation. Lean checks it.
import Derived.Test.YtmbacnnbpnlekaaPAx47
import Derived.Test.YtmbacnnbpnlekaaPAR
namespace Go.Proofs.Ytmbacnnbpnlekaa.PA
open Go.RowKit Go.Proofs.YtmbacnnbpnlekaaW.PrintWords Go.Proofs.YtmbacnnbpnlekaaW.PrintLast Go.Proofs.YtmbacnnbpnlekaaW.PrintMore
attribute [local go_sem] max2_int min2_int max_two min_two max_three min_three max_four min_four   -- for this text's walks alone
set_option linter.unusedVariables false
set_option linter.unusedSimpArgs false

def laws_FnExactWorldOk.Pure : Prop := ∀ (x0 : S35), W35 x0 → ∃ k, laws_FnExactWorldOk.f k x0.f0 x0.f1 x0.f2 x0.f3 = some true
end Go.Proofs.Ytmbacnnbpnlekaa.PA
