-- Printed by a program of this session (wrap.py) out of the translation. Lean checks it.
import Derived.Test.YtophpcadfljkgaaProg
import Derived.Below
import Derived.Deep.Draws
import Derived.Deep.AppendLies
import Derived.Maps.AppendAt
import Derived.OwnWalk
import Derived.Laws.BytesArg
import Derived.Laws.MakeOwn
import Derived.Laws.OwnMore
import Derived.Deep.OwnRows
import Derived.Tactics
import Derived.Lib.ConvBytes
import Derived.Laws.Slices
import Derived.WalkKit
import Derived.KernelRfl
import Derived.RowKit3
import Derived.Deep.LoopGhost
import Derived.Deep.QuietTactic
import Derived.BigQuiet
import Derived.WideLaws
import Derived.Deep.DeepCutAuto
import Derived.Deep.CutBlock
import Derived.Deep.RegionHeld3
import Derived.Laws.Rows
import Derived.Lib.AppendStr
import Derived.ArgAppend
import Derived.Laws.IdiomCopy
import Derived.OrdersHeld
import Derived.Laws.BitsLemmas
import Derived.RowKit
import Derived.Lib.SliceRun
import Derived.Test.YtophpcadfljkgaaWWords
import Derived.Test.YtophpcadfljkgaaWLast
import Derived.Test.YtophpcadfljkgaaWTab
import Derived.Test.YtophpcadfljkgaaWFour
import Derived.Test.YtophpcadfljkgaaWQPut
import Derived.Test.YtophpcadfljkgaaWApart
import Derived.Test.YtophpcadfljkgaaWArr
import Derived.Test.YtophpcadfljkgaaWZeros
import Derived.Test.YtophpcadfljkgaaWFoot
import Derived.Test.YtophpcadfljkgaaWKept
import Derived.Test.YtophpcadfljkgaaWShare
import Derived.Test.YtophpcadfljkgaaWN
import Derived.Test.YtophpcadfljkgaaWFootNe
import Derived.Test.YtophpcadfljkgaaWAt
import Derived.Test.YtophpcadfljkgaaWEqStruct
import Derived.Test.YtophpcadfljkgaaWRepsOne
import Derived.Test.YtophpcadfljkgaaWInv
import Derived.Test.YtophpcadfljkgaaWInvWords
import Derived.Test.YtophpcadfljkgaaWGuard
import Derived.Test.YtophpcadfljkgaaWNEv
import Derived.Test.YtophpcadfljkgaaWMore
namespace Go.Proofs.Ytophpcadfljkgaa.PA
open Go.RowKit Go.Proofs.YtophpcadfljkgaaW.PrintWords Go.Proofs.YtophpcadfljkgaaW.PrintLast Go.Proofs.YtophpcadfljkgaaW.PrintMore
attribute [local go_sem] max2_int min2_int max_two min_two max_three min_three max_four min_four   -- for this text's walks alone
set_option linter.unusedVariables false
set_option linter.unusedSimpArgs false



def errW : Option Int → Value
  | none => .nilIface
  | some c => .iface 0 (.int .i64 c)
theorem errW_none : errW none = .nilIface := rfl
theorem errW_some (c : Int) : errW (some c) = .iface 0 (.int .i64 c) := rfl

theorem info3 : (Try.prog.info? 3).map (fun i => (i.zero, i.size, i.bytes)) = some (some (.int .i64 0), 1, 8) := by kernel_rfl
theorem info5 : (Try.prog.info? 5).map (fun i => (i.zero, i.size, i.bytes)) = some (some (.int .u8 0), 1, 1) := by kernel_rfl
-- the values' own types

end Go.Proofs.Ytophpcadfljkgaa.PA
