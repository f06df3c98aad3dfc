/-
  NARROWER THAN 'FOR EVERY INPUT', by the rows' own cells (each row's printed sentence says how): FnExactBindsOk: loops · FnExactLowNodes: loops · FnExactResolve: loops · FnExactUnify: loops.
  DERIVED. THE GIVEN ROWS OF THIS SEAT. 8 by the template 'for every input the law returns true; each argument reads behind the call as it read before'; 0 by the template 'total and deterministic' (their statements: YtmbacnnbpnlekaaTotals.lean).
  GIVEN WITH THE SEED: the statements are not yours to turn. If you find one false, say at which input.
  Laid BY PROGRAM, IN A SANDBOX (cutbox-rows.mjs): the forced cells as the released guide's own fill.sh prints them over the translation 2a8efb7c4c208236… (all of the seat's roots in one cut). By AI agents, Wed Nov 11 2026. No macro, syntax, notation, axiom, sorry.
-/
import Derived.Test.YtmbacnnbpnlekaaChecked
import GoSem.Claim
import GoSem.ClaimJoined
import GoSem.ClaimMapViews
import Derived.JoinedTies
import Derived.KernelRfl
namespace Go.Proofs.Ytmbacnnbpnlekaa
/- THE CELL 'sum', in the pinned program and in every row, IS THE sha256 OF THE DUMP (.gsa) THAT YtmbacnnbpnlekaaProg.lean LOADS. Nothing in Lean hashes anything: it is a label: what it is worth is what the hold of that sum in a sandbox is worth. -/
noncomputable def Try.pinned : Pinned := { name := "ytmbacnnbpnlekaa", sum := "2a8efb7c4c208236346ac9b38ebe41a441396b8e037ad113258f64308dd31f7e", checked := Try.checked }
namespace Rows
def none {H : Type} : Left H := { results := [], args := [] }

/-- 'laws.FnExactInsOk': WHATEVER THE INPUT: true; the input reads as it did. -/
def fnExactInsOkSpec : ChangeSpec := { name := "fnExactInsOk", fn := fun _ => fun
  | [d] => { results := [.lit (.bool true)], args := [d] }
  | _ => none }
def fnExactInsOkRow : OpenClaim := { program := "ytmbacnnbpnlekaa", sum := "2a8efb7c4c208236346ac9b38ebe41a441396b8e037ad113258f64308dd31f7e", func := "loop.example/g00293/laws.FnExactInsOk", spec := "fnExactInsOk", unfollowed := true, recurses := true, apart := false }
def FnExactInsOkSaid : Prop := fnExactInsOkRow.holds Try.pinned (OpenSpec.ofChange fnExactInsOkSpec)

/-- ITS FALSE NEIGHBOUR: 'it returns false'. Refute it at one input. -/
def fnExactInsOkWrong : ChangeSpec := { name := "fnExactInsOk", fn := fun _ => fun
  | [d] => { results := [.lit (.bool false)], args := [d] }
  | _ => none }
def FnExactInsOkWrongFalsely : Prop := fnExactInsOkRow.holds Try.pinned (OpenSpec.ofChange fnExactInsOkWrong)

/-- 'laws.FnExactWorldOk': WHATEVER THE INPUT: true; the input reads as it did. -/
def fnExactWorldOkSpec : ChangeSpec := { name := "fnExactWorldOk", fn := fun _ => fun
  | [d] => { results := [.lit (.bool true)], args := [d] }
  | _ => none }
def fnExactWorldOkRow : OpenClaim := { program := "ytmbacnnbpnlekaa", sum := "2a8efb7c4c208236346ac9b38ebe41a441396b8e037ad113258f64308dd31f7e", func := "loop.example/g00293/laws.FnExactWorldOk", spec := "fnExactWorldOk", unfollowed := true, recurses := true, apart := false }
def FnExactWorldOkSaid : Prop := fnExactWorldOkRow.holds Try.pinned (OpenSpec.ofChange fnExactWorldOkSpec)

/-- ITS FALSE NEIGHBOUR: 'it returns false'. Refute it at one input. -/
def fnExactWorldOkWrong : ChangeSpec := { name := "fnExactWorldOk", fn := fun _ => fun
  | [d] => { results := [.lit (.bool false)], args := [d] }
  | _ => none }
def FnExactWorldOkWrongFalsely : Prop := fnExactWorldOkRow.holds Try.pinned (OpenSpec.ofChange fnExactWorldOkWrong)

/-- 'laws.FnExactBindsOk': WHATEVER THE INPUT: true; the input reads as it did. -/
def fnExactBindsOkSpec : ChangeSpec := { name := "fnExactBindsOk", fn := fun _ => fun
  | [d] => { results := [.lit (.bool true)], args := [d] }
  | _ => none }
def fnExactBindsOkRow : OpenClaim := { program := "ytmbacnnbpnlekaa", sum := "2a8efb7c4c208236346ac9b38ebe41a441396b8e037ad113258f64308dd31f7e", func := "loop.example/g00293/laws.FnExactBindsOk", spec := "fnExactBindsOk", unfollowed := true, recurses := true, loops := true, apart := false }
def FnExactBindsOkSaid : Prop := fnExactBindsOkRow.holds Try.pinned (OpenSpec.ofChange fnExactBindsOkSpec)

/-- ITS FALSE NEIGHBOUR: 'it returns false'. Refute it at one input. -/
def fnExactBindsOkWrong : ChangeSpec := { name := "fnExactBindsOk", fn := fun _ => fun
  | [d] => { results := [.lit (.bool false)], args := [d] }
  | _ => none }
def FnExactBindsOkWrongFalsely : Prop := fnExactBindsOkRow.holds Try.pinned (OpenSpec.ofChange fnExactBindsOkWrong)

/-- 'laws.FnExactLowNodes': WHATEVER THE INPUT: true; the input reads as it did. -/
def fnExactLowNodesSpec : ChangeSpec := { name := "fnExactLowNodes", fn := fun _ => fun
  | [d] => { results := [.lit (.bool true)], args := [d] }
  | _ => none }
def fnExactLowNodesRow : OpenClaim := { program := "ytmbacnnbpnlekaa", sum := "2a8efb7c4c208236346ac9b38ebe41a441396b8e037ad113258f64308dd31f7e", func := "loop.example/g00293/laws.FnExactLowNodes", spec := "fnExactLowNodes", recurses := true, loops := true, apart := false }
def FnExactLowNodesSaid : Prop := fnExactLowNodesRow.holds Try.pinned (OpenSpec.ofChange fnExactLowNodesSpec)

/-- ITS FALSE NEIGHBOUR: 'it returns false'. Refute it at one input. -/
def fnExactLowNodesWrong : ChangeSpec := { name := "fnExactLowNodes", fn := fun _ => fun
  | [d] => { results := [.lit (.bool false)], args := [d] }
  | _ => none }
def FnExactLowNodesWrongFalsely : Prop := fnExactLowNodesRow.holds Try.pinned (OpenSpec.ofChange fnExactLowNodesWrong)

/-- 'laws.FnExactResolve': WHATEVER THE INPUT: true; the input reads as it did. -/
def fnExactResolveSpec : ChangeSpec := { name := "fnExactResolve", fn := fun _ => fun
  | [d1, d2] => { results := [.lit (.bool true)], args := [d1, d2] }
  | _ => none }
def fnExactResolveRow : OpenClaim := { program := "ytmbacnnbpnlekaa", sum := "2a8efb7c4c208236346ac9b38ebe41a441396b8e037ad113258f64308dd31f7e", func := "loop.example/g00293/laws.FnExactResolve", spec := "fnExactResolve", unfollowed := true, recurses := true, loops := true, apart := false }
def FnExactResolveSaid : Prop := fnExactResolveRow.holds Try.pinned (OpenSpec.ofChange fnExactResolveSpec)

/-- ITS FALSE NEIGHBOUR: 'it returns false'. Refute it at one input. -/
def fnExactResolveWrong : ChangeSpec := { name := "fnExactResolve", fn := fun _ => fun
  | [d1, d2] => { results := [.lit (.bool false)], args := [d1, d2] }
  | _ => none }
def FnExactResolveWrongFalsely : Prop := fnExactResolveRow.holds Try.pinned (OpenSpec.ofChange fnExactResolveWrong)

/-- 'laws.FnUnify': WHATEVER THE INPUT: true; the input reads as it did. -/
def fnUnifySpec : ChangeSpec := { name := "fnUnify", fn := fun _ => fun
  | [d] => { results := [.lit (.bool true)], args := [d] }
  | _ => none }
def fnUnifyRow : OpenClaim := { program := "ytmbacnnbpnlekaa", sum := "2a8efb7c4c208236346ac9b38ebe41a441396b8e037ad113258f64308dd31f7e", func := "loop.example/g00293/laws.FnUnify", spec := "fnUnify", unfollowed := true, recurses := true, apart := false }
def FnUnifySaid : Prop := fnUnifyRow.holds Try.pinned (OpenSpec.ofChange fnUnifySpec)

/-- ITS FALSE NEIGHBOUR: 'it returns false'. Refute it at one input. -/
def fnUnifyWrong : ChangeSpec := { name := "fnUnify", fn := fun _ => fun
  | [d] => { results := [.lit (.bool false)], args := [d] }
  | _ => none }
def FnUnifyWrongFalsely : Prop := fnUnifyRow.holds Try.pinned (OpenSpec.ofChange fnUnifyWrong)

/-- 'laws.FnExactUnify': WHATEVER THE INPUT: true; the input reads as it did. -/
def fnExactUnifySpec : ChangeSpec := { name := "fnExactUnify", fn := fun _ => fun
  | [d1, d2, d3] => { results := [.lit (.bool true)], args := [d1, d2, d3] }
  | _ => none }
def fnExactUnifyRow : OpenClaim := { program := "ytmbacnnbpnlekaa", sum := "2a8efb7c4c208236346ac9b38ebe41a441396b8e037ad113258f64308dd31f7e", func := "loop.example/g00293/laws.FnExactUnify", spec := "fnExactUnify", unfollowed := true, recurses := true, loops := true, apart := false }
def FnExactUnifySaid : Prop := fnExactUnifyRow.holds Try.pinned (OpenSpec.ofChange fnExactUnifySpec)

/-- ITS FALSE NEIGHBOUR: 'it returns false'. Refute it at one input. -/
def fnExactUnifyWrong : ChangeSpec := { name := "fnExactUnify", fn := fun _ => fun
  | [d1, d2, d3] => { results := [.lit (.bool false)], args := [d1, d2, d3] }
  | _ => none }
def FnExactUnifyWrongFalsely : Prop := fnExactUnifyRow.holds Try.pinned (OpenSpec.ofChange fnExactUnifyWrong)

/-- 'laws.FnGeneral': WHATEVER THE INPUT: true; the input reads as it did. -/
def fnGeneralSpec : ChangeSpec := { name := "fnGeneral", fn := fun _ => fun
  | [d] => { results := [.lit (.bool true)], args := [d] }
  | _ => none }
def fnGeneralRow : OpenClaim := { program := "ytmbacnnbpnlekaa", sum := "2a8efb7c4c208236346ac9b38ebe41a441396b8e037ad113258f64308dd31f7e", func := "loop.example/g00293/laws.FnGeneral", spec := "fnGeneral", unfollowed := true, recurses := true, apart := false }
def FnGeneralSaid : Prop := fnGeneralRow.holds Try.pinned (OpenSpec.ofChange fnGeneralSpec)

/-- ITS FALSE NEIGHBOUR: 'it returns false'. Refute it at one input. -/
def fnGeneralWrong : ChangeSpec := { name := "fnGeneral", fn := fun _ => fun
  | [d] => { results := [.lit (.bool false)], args := [d] }
  | _ => none }
def FnGeneralWrongFalsely : Prop := fnGeneralRow.holds Try.pinned (OpenSpec.ofChange fnGeneralWrong)

/- THE SECOND FORM. 'bulk': how many values and letters a reading holds, each counted each time it is reached (what is shared counts as often as it is met; a slice's spare places count too). A statement '..UptoSaid' is the law's where the arguments, and the package variables that the reading takes, are together of bulk at most 1048576: NARROWER than '..Said'. Prove '..Said' where nothing that the law and all that it calls make is longer than what came in: it says more and counts as full. Else prove '..UptoSaid'. A law counts once. -/
mutual
def uptoBulk {H : Type} : DataW H → Nat
  | .lit (.string bytes) => bytes.length + 1
  | .lit _ => 1
  | .nil => 1
  | .ptr d => uptoBulk d + 1
  | .slice elems spare => uptoBulkAll elems + uptoBulkAll spare + 1
  | .agg parts => uptoBulkAll parts + 1
  | .iface _ d => uptoBulk d + 1
  | .map entries => uptoBulkEntries entries + 1
  | .held _ => 1
def uptoBulkAll {H : Type} : List (DataW H) → Nat
  | [] => 0
  | d :: r => uptoBulk d + uptoBulkAll r
def uptoBulkEntries {H : Type} : List (Lit × DataW H) → Nat
  | [] => 0
  | x :: r => uptoBulkEntry x + uptoBulkEntries r
def uptoBulkEntry {H : Type} : Lit × DataW H → Nat
  | (.string bytes, d) => bytes.length + uptoBulk d + 1
  | (_, d) => uptoBulk d + 1
 end
def uptoSmall : (H : Type) → List (DataW H) → Bool := fun _ ds => decide (uptoBulkAll ds ≤ 1048576)
def OpenSpec.upto (s : _root_.Go.ChangeSpec) : _root_.Go.OpenSpec := { _root_.Go.OpenSpec.ofChange s with cond := some uptoSmall }

/-- 'laws.FnExactInsOk', WHERE WHAT IT READS IS OF BULK AT MOST 1048576: true; the input reads as it did. -/
def fnExactInsOkUptoRow : OpenClaim := { program := "ytmbacnnbpnlekaa", sum := "2a8efb7c4c208236346ac9b38ebe41a441396b8e037ad113258f64308dd31f7e", func := "loop.example/g00293/laws.FnExactInsOk", spec := "fnExactInsOk", unfollowed := true, recurses := true, apart := false, narrowed := true }
def FnExactInsOkUptoSaid : Prop := fnExactInsOkUptoRow.holds Try.pinned (OpenSpec.upto fnExactInsOkSpec)

/-- 'laws.FnExactWorldOk', WHERE WHAT IT READS IS OF BULK AT MOST 1048576: true; the input reads as it did. -/
def fnExactWorldOkUptoRow : OpenClaim := { program := "ytmbacnnbpnlekaa", sum := "2a8efb7c4c208236346ac9b38ebe41a441396b8e037ad113258f64308dd31f7e", func := "loop.example/g00293/laws.FnExactWorldOk", spec := "fnExactWorldOk", unfollowed := true, recurses := true, apart := false, narrowed := true }
def FnExactWorldOkUptoSaid : Prop := fnExactWorldOkUptoRow.holds Try.pinned (OpenSpec.upto fnExactWorldOkSpec)

/-- 'laws.FnExactBindsOk', WHERE WHAT IT READS IS OF BULK AT MOST 1048576: true; the input reads as it did. -/
def fnExactBindsOkUptoRow : OpenClaim := { program := "ytmbacnnbpnlekaa", sum := "2a8efb7c4c208236346ac9b38ebe41a441396b8e037ad113258f64308dd31f7e", func := "loop.example/g00293/laws.FnExactBindsOk", spec := "fnExactBindsOk", unfollowed := true, recurses := true, loops := true, apart := false, narrowed := true }
def FnExactBindsOkUptoSaid : Prop := fnExactBindsOkUptoRow.holds Try.pinned (OpenSpec.upto fnExactBindsOkSpec)

/-- 'laws.FnExactLowNodes', WHERE WHAT IT READS IS OF BULK AT MOST 1048576: true; the input reads as it did. -/
def fnExactLowNodesUptoRow : OpenClaim := { program := "ytmbacnnbpnlekaa", sum := "2a8efb7c4c208236346ac9b38ebe41a441396b8e037ad113258f64308dd31f7e", func := "loop.example/g00293/laws.FnExactLowNodes", spec := "fnExactLowNodes", recurses := true, loops := true, apart := false, narrowed := true }
def FnExactLowNodesUptoSaid : Prop := fnExactLowNodesUptoRow.holds Try.pinned (OpenSpec.upto fnExactLowNodesSpec)

/-- 'laws.FnExactResolve', WHERE WHAT IT READS IS OF BULK AT MOST 1048576: true; the input reads as it did. -/
def fnExactResolveUptoRow : OpenClaim := { program := "ytmbacnnbpnlekaa", sum := "2a8efb7c4c208236346ac9b38ebe41a441396b8e037ad113258f64308dd31f7e", func := "loop.example/g00293/laws.FnExactResolve", spec := "fnExactResolve", unfollowed := true, recurses := true, loops := true, apart := false, narrowed := true }
def FnExactResolveUptoSaid : Prop := fnExactResolveUptoRow.holds Try.pinned (OpenSpec.upto fnExactResolveSpec)

/-- 'laws.FnUnify', WHERE WHAT IT READS IS OF BULK AT MOST 1048576: true; the input reads as it did. -/
def fnUnifyUptoRow : OpenClaim := { program := "ytmbacnnbpnlekaa", sum := "2a8efb7c4c208236346ac9b38ebe41a441396b8e037ad113258f64308dd31f7e", func := "loop.example/g00293/laws.FnUnify", spec := "fnUnify", unfollowed := true, recurses := true, apart := false, narrowed := true }
def FnUnifyUptoSaid : Prop := fnUnifyUptoRow.holds Try.pinned (OpenSpec.upto fnUnifySpec)

/-- 'laws.FnExactUnify', WHERE WHAT IT READS IS OF BULK AT MOST 1048576: true; the input reads as it did. -/
def fnExactUnifyUptoRow : OpenClaim := { program := "ytmbacnnbpnlekaa", sum := "2a8efb7c4c208236346ac9b38ebe41a441396b8e037ad113258f64308dd31f7e", func := "loop.example/g00293/laws.FnExactUnify", spec := "fnExactUnify", unfollowed := true, recurses := true, loops := true, apart := false, narrowed := true }
def FnExactUnifyUptoSaid : Prop := fnExactUnifyUptoRow.holds Try.pinned (OpenSpec.upto fnExactUnifySpec)

/-- 'laws.FnGeneral', WHERE WHAT IT READS IS OF BULK AT MOST 1048576: true; the input reads as it did. -/
def fnGeneralUptoRow : OpenClaim := { program := "ytmbacnnbpnlekaa", sum := "2a8efb7c4c208236346ac9b38ebe41a441396b8e037ad113258f64308dd31f7e", func := "loop.example/g00293/laws.FnGeneral", spec := "fnGeneral", unfollowed := true, recurses := true, apart := false, narrowed := true }
def FnGeneralUptoSaid : Prop := fnGeneralUptoRow.holds Try.pinned (OpenSpec.upto fnGeneralSpec)

end Rows
end Go.Proofs.Ytmbacnnbpnlekaa
