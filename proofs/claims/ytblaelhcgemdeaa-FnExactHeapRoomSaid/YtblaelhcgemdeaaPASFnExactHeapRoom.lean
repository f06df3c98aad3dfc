-- Printed by a program of this session (wrap.py) out of the translation. Lean checks it.
import Derived.Test.YtblaelhcgemdeaaPAx23
import Derived.Test.YtblaelhcgemdeaaPAR
namespace Go.Proofs.Ytblaelhcgemdeaa.PA
open Go.RowKit Go.Proofs.YtblaelhcgemdeaaW.PrintWords Go.Proofs.YtblaelhcgemdeaaW.PrintLast Go.Proofs.YtblaelhcgemdeaaW.PrintMore
attribute [local go_sem] max2_int min2_int max_two min_two max_three min_three max_four min_four   -- for this text's walks alone
set_option linter.unusedVariables false
set_option linter.unusedSimpArgs false

def laws_FnExactHeapRoom.Pure : Prop := ∀ (x0 : S25), W25 x0 → ∃ k, laws_FnExactHeapRoom.f k x0.f0 x0.f1 x0.f2 x0.f3 x0.f4 = some true
end Go.Proofs.Ytblaelhcgemdeaa.PA
