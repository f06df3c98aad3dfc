-- Printed by a program of this session (wrap.py) out of the translation. Lean checks it.
import Derived.Test.YtbifoajnmikhiaaPFx40
import Derived.Test.YtbifoajnmikhiaaPFR
namespace Go.Proofs.Ytbifoajnmikhiaa.PF
open Go.RowKit Go.Proofs.YtbifoajnmikhiaaW.PrintWords Go.Proofs.YtbifoajnmikhiaaW.PrintLast Go.Proofs.YtbifoajnmikhiaaW.PrintMore
attribute [local go_sem] max2_int min2_int max_two min_two max_three min_three max_four min_four   -- for this text's walks alone
set_option linter.unusedVariables false
set_option linter.unusedSimpArgs false

def laws_FnExactTyVars.Pure : Prop := ∀ (x0 : S24), W24 x0 → ∃ k, laws_FnExactTyVars.f k x0.f0 x0.f1 x0.f2 = some true
end Go.Proofs.Ytbifoajnmikhiaa.PF
