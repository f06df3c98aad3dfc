/-
  NARROWER THAN 'FOR EVERY INPUT', by the rows' own cells (each row's printed sentence says how): FnExactTySubst: loops · FnExactResolve: loops · FnExactUnify: loops · FnExactFreeOf: loops.
  DERIVED. THE GIVEN ROWS OF THIS SEAT. 7 by the template 'for every input the law returns true; each argument reads behind the call as it read before'; 0 by the template 'total and deterministic' (their statements: YtkgabahlbmonfaaTotals.lean).
  GIVEN WITH THE SEED: the statements are not yours to turn. If you find one false, say at which input.
  Laid BY PROGRAM, IN A SANDBOX (cutbox-rows.mjs): the forced cells as the released guide's own fill.sh prints them over the translation 0b7b59b6f282c374… (all of the seat's roots in one cut). By AI agents, Wed Nov 11 2026. No macro, syntax, notation, axiom, sorry.
-/
import Derived.Test.YtkgabahlbmonfaaChecked
import GoSem.Claim
import GoSem.ClaimJoined
import GoSem.ClaimMapViews
import Derived.JoinedTies
import Derived.KernelRfl
namespace Go.Proofs.Ytkgabahlbmonfaa
/- THE CELL 'sum', in the pinned program and in every row, IS THE sha256 OF THE DUMP (.gsa) THAT YtkgabahlbmonfaaProg.lean LOADS. Nothing in Lean hashes anything: it is a label: what it is worth is what the hold of that sum in a sandbox is worth. -/
noncomputable def Try.pinned : Pinned := { name := "ytkgabahlbmonfaa", sum := "0b7b59b6f282c3749a1264774a7b7e8d9e988829d5fc73139999891502bc988a", checked := Try.checked }
namespace Rows
def none {H : Type} : Left H := { results := [], args := [] }

/-- 'laws.FnExactTySubst': WHATEVER THE INPUT: true; the input reads as it did. -/
def fnExactTySubstSpec : ChangeSpec := { name := "fnExactTySubst", fn := fun _ => fun
  | [d1, d2] => { results := [.lit (.bool true)], args := [d1, d2] }
  | _ => none }
def fnExactTySubstRow : OpenClaim := { program := "ytkgabahlbmonfaa", sum := "0b7b59b6f282c3749a1264774a7b7e8d9e988829d5fc73139999891502bc988a", func := "loop.example/g00293/laws.FnExactTySubst", spec := "fnExactTySubst", unfollowed := true, recurses := true, loops := true, apart := false }
def FnExactTySubstSaid : Prop := fnExactTySubstRow.holds Try.pinned (OpenSpec.ofChange fnExactTySubstSpec)

/-- ITS FALSE NEIGHBOUR: 'it returns false'. Refute it at one input. -/
def fnExactTySubstWrong : ChangeSpec := { name := "fnExactTySubst", fn := fun _ => fun
  | [d1, d2] => { results := [.lit (.bool false)], args := [d1, d2] }
  | _ => none }
def FnExactTySubstWrongFalsely : Prop := fnExactTySubstRow.holds Try.pinned (OpenSpec.ofChange fnExactTySubstWrong)

/-- 'laws.FnExactResolve': WHATEVER THE INPUT: true; the input reads as it did. -/
def fnExactResolveSpec : ChangeSpec := { name := "fnExactResolve", fn := fun _ => fun
  | [d1, d2] => { results := [.lit (.bool true)], args := [d1, d2] }
  | _ => none }
def fnExactResolveRow : OpenClaim := { program := "ytkgabahlbmonfaa", sum := "0b7b59b6f282c3749a1264774a7b7e8d9e988829d5fc73139999891502bc988a", func := "loop.example/g00293/laws.FnExactResolve", spec := "fnExactResolve", unfollowed := true, recurses := true, loops := true, apart := false }
def FnExactResolveSaid : Prop := fnExactResolveRow.holds Try.pinned (OpenSpec.ofChange fnExactResolveSpec)

/-- ITS FALSE NEIGHBOUR: 'it returns false'. Refute it at one input. -/
def fnExactResolveWrong : ChangeSpec := { name := "fnExactResolve", fn := fun _ => fun
  | [d1, d2] => { results := [.lit (.bool false)], args := [d1, d2] }
  | _ => none }
def FnExactResolveWrongFalsely : Prop := fnExactResolveRow.holds Try.pinned (OpenSpec.ofChange fnExactResolveWrong)

/-- 'laws.FnExactUnify': WHATEVER THE INPUT: true; the input reads as it did. -/
def fnExactUnifySpec : ChangeSpec := { name := "fnExactUnify", fn := fun _ => fun
  | [d1, d2, d3] => { results := [.lit (.bool true)], args := [d1, d2, d3] }
  | _ => none }
def fnExactUnifyRow : OpenClaim := { program := "ytkgabahlbmonfaa", sum := "0b7b59b6f282c3749a1264774a7b7e8d9e988829d5fc73139999891502bc988a", func := "loop.example/g00293/laws.FnExactUnify", spec := "fnExactUnify", unfollowed := true, recurses := true, loops := true, apart := false }
def FnExactUnifySaid : Prop := fnExactUnifyRow.holds Try.pinned (OpenSpec.ofChange fnExactUnifySpec)

/-- ITS FALSE NEIGHBOUR: 'it returns false'. Refute it at one input. -/
def fnExactUnifyWrong : ChangeSpec := { name := "fnExactUnify", fn := fun _ => fun
  | [d1, d2, d3] => { results := [.lit (.bool false)], args := [d1, d2, d3] }
  | _ => none }
def FnExactUnifyWrongFalsely : Prop := fnExactUnifyRow.holds Try.pinned (OpenSpec.ofChange fnExactUnifyWrong)

/-- 'laws.FnSubsts': WHATEVER THE INPUT: true; the input reads as it did. -/
def fnSubstsSpec : ChangeSpec := { name := "fnSubsts", fn := fun _ => fun
  | [d] => { results := [.lit (.bool true)], args := [d] }
  | _ => none }
def fnSubstsRow : OpenClaim := { program := "ytkgabahlbmonfaa", sum := "0b7b59b6f282c3749a1264774a7b7e8d9e988829d5fc73139999891502bc988a", func := "loop.example/g00293/laws.FnSubsts", spec := "fnSubsts", unfollowed := true, recurses := true, apart := false }
def FnSubstsSaid : Prop := fnSubstsRow.holds Try.pinned (OpenSpec.ofChange fnSubstsSpec)

/-- ITS FALSE NEIGHBOUR: 'it returns false'. Refute it at one input. -/
def fnSubstsWrong : ChangeSpec := { name := "fnSubsts", fn := fun _ => fun
  | [d] => { results := [.lit (.bool false)], args := [d] }
  | _ => none }
def FnSubstsWrongFalsely : Prop := fnSubstsRow.holds Try.pinned (OpenSpec.ofChange fnSubstsWrong)

/-- 'laws.FnUnify': WHATEVER THE INPUT: true; the input reads as it did. -/
def fnUnifySpec : ChangeSpec := { name := "fnUnify", fn := fun _ => fun
  | [d] => { results := [.lit (.bool true)], args := [d] }
  | _ => none }
def fnUnifyRow : OpenClaim := { program := "ytkgabahlbmonfaa", sum := "0b7b59b6f282c3749a1264774a7b7e8d9e988829d5fc73139999891502bc988a", func := "loop.example/g00293/laws.FnUnify", spec := "fnUnify", unfollowed := true, recurses := true, apart := false }
def FnUnifySaid : Prop := fnUnifyRow.holds Try.pinned (OpenSpec.ofChange fnUnifySpec)

/-- ITS FALSE NEIGHBOUR: 'it returns false'. Refute it at one input. -/
def fnUnifyWrong : ChangeSpec := { name := "fnUnify", fn := fun _ => fun
  | [d] => { results := [.lit (.bool false)], args := [d] }
  | _ => none }
def FnUnifyWrongFalsely : Prop := fnUnifyRow.holds Try.pinned (OpenSpec.ofChange fnUnifyWrong)

/-- 'laws.FnGeneral': WHATEVER THE INPUT: true; the input reads as it did. -/
def fnGeneralSpec : ChangeSpec := { name := "fnGeneral", fn := fun _ => fun
  | [d] => { results := [.lit (.bool true)], args := [d] }
  | _ => none }
def fnGeneralRow : OpenClaim := { program := "ytkgabahlbmonfaa", sum := "0b7b59b6f282c3749a1264774a7b7e8d9e988829d5fc73139999891502bc988a", func := "loop.example/g00293/laws.FnGeneral", spec := "fnGeneral", unfollowed := true, recurses := true, apart := false }
def FnGeneralSaid : Prop := fnGeneralRow.holds Try.pinned (OpenSpec.ofChange fnGeneralSpec)

/-- ITS FALSE NEIGHBOUR: 'it returns false'. Refute it at one input. -/
def fnGeneralWrong : ChangeSpec := { name := "fnGeneral", fn := fun _ => fun
  | [d] => { results := [.lit (.bool false)], args := [d] }
  | _ => none }
def FnGeneralWrongFalsely : Prop := fnGeneralRow.holds Try.pinned (OpenSpec.ofChange fnGeneralWrong)

/-- 'laws.FnExactFreeOf': WHATEVER THE INPUT: true; the input reads as it did. -/
def fnExactFreeOfSpec : ChangeSpec := { name := "fnExactFreeOf", fn := fun _ => fun
  | [d] => { results := [.lit (.bool true)], args := [d] }
  | _ => none }
def fnExactFreeOfRow : OpenClaim := { program := "ytkgabahlbmonfaa", sum := "0b7b59b6f282c3749a1264774a7b7e8d9e988829d5fc73139999891502bc988a", func := "loop.example/g00293/laws.FnExactFreeOf", spec := "fnExactFreeOf", unfollowed := true, recurses := true, loops := true, apart := false }
def FnExactFreeOfSaid : Prop := fnExactFreeOfRow.holds Try.pinned (OpenSpec.ofChange fnExactFreeOfSpec)

/-- ITS FALSE NEIGHBOUR: 'it returns false'. Refute it at one input. -/
def fnExactFreeOfWrong : ChangeSpec := { name := "fnExactFreeOf", fn := fun _ => fun
  | [d] => { results := [.lit (.bool false)], args := [d] }
  | _ => none }
def FnExactFreeOfWrongFalsely : Prop := fnExactFreeOfRow.holds Try.pinned (OpenSpec.ofChange fnExactFreeOfWrong)

/- THE SECOND FORM. 'bulk': how many values and letters a reading holds, each counted each time it is reached (what is shared counts as often as it is met; a slice's spare places count too). A statement '..UptoSaid' is the law's where the arguments, and the package variables that the reading takes, are together of bulk at most 1048576: NARROWER than '..Said'. Prove '..Said' where nothing that the law and all that it calls make is longer than what came in: it says more and counts as full. Else prove '..UptoSaid'. A law counts once. -/
mutual
def uptoBulk {H : Type} : DataW H → Nat
  | .lit (.string bytes) => bytes.length + 1
  | .lit _ => 1
  | .nil => 1
  | .ptr d => uptoBulk d + 1
  | .slice elems spare => uptoBulkAll elems + uptoBulkAll spare + 1
  | .agg parts => uptoBulkAll parts + 1
  | .iface _ d => uptoBulk d + 1
  | .map entries => uptoBulkEntries entries + 1
  | .held _ => 1
def uptoBulkAll {H : Type} : List (DataW H) → Nat
  | [] => 0
  | d :: r => uptoBulk d + uptoBulkAll r
def uptoBulkEntries {H : Type} : List (Lit × DataW H) → Nat
  | [] => 0
  | x :: r => uptoBulkEntry x + uptoBulkEntries r
def uptoBulkEntry {H : Type} : Lit × DataW H → Nat
  | (.string bytes, d) => bytes.length + uptoBulk d + 1
  | (_, d) => uptoBulk d + 1
 end
def uptoSmall : (H : Type) → List (DataW H) → Bool := fun _ ds => decide (uptoBulkAll ds ≤ 1048576)
def OpenSpec.upto (s : _root_.Go.ChangeSpec) : _root_.Go.OpenSpec := { _root_.Go.OpenSpec.ofChange s with cond := some uptoSmall }

/-- 'laws.FnExactTySubst', WHERE WHAT IT READS IS OF BULK AT MOST 1048576: true; the input reads as it did. -/
def fnExactTySubstUptoRow : OpenClaim := { program := "ytkgabahlbmonfaa", sum := "0b7b59b6f282c3749a1264774a7b7e8d9e988829d5fc73139999891502bc988a", func := "loop.example/g00293/laws.FnExactTySubst", spec := "fnExactTySubst", unfollowed := true, recurses := true, loops := true, apart := false, narrowed := true }
def FnExactTySubstUptoSaid : Prop := fnExactTySubstUptoRow.holds Try.pinned (OpenSpec.upto fnExactTySubstSpec)

/-- 'laws.FnExactResolve', WHERE WHAT IT READS IS OF BULK AT MOST 1048576: true; the input reads as it did. -/
def fnExactResolveUptoRow : OpenClaim := { program := "ytkgabahlbmonfaa", sum := "0b7b59b6f282c3749a1264774a7b7e8d9e988829d5fc73139999891502bc988a", func := "loop.example/g00293/laws.FnExactResolve", spec := "fnExactResolve", unfollowed := true, recurses := true, loops := true, apart := false, narrowed := true }
def FnExactResolveUptoSaid : Prop := fnExactResolveUptoRow.holds Try.pinned (OpenSpec.upto fnExactResolveSpec)

/-- 'laws.FnExactUnify', WHERE WHAT IT READS IS OF BULK AT MOST 1048576: true; the input reads as it did. -/
def fnExactUnifyUptoRow : OpenClaim := { program := "ytkgabahlbmonfaa", sum := "0b7b59b6f282c3749a1264774a7b7e8d9e988829d5fc73139999891502bc988a", func := "loop.example/g00293/laws.FnExactUnify", spec := "fnExactUnify", unfollowed := true, recurses := true, loops := true, apart := false, narrowed := true }
def FnExactUnifyUptoSaid : Prop := fnExactUnifyUptoRow.holds Try.pinned (OpenSpec.upto fnExactUnifySpec)

/-- 'laws.FnSubsts', WHERE WHAT IT READS IS OF BULK AT MOST 1048576: true; the input reads as it did. -/
def fnSubstsUptoRow : OpenClaim := { program := "ytkgabahlbmonfaa", sum := "0b7b59b6f282c3749a1264774a7b7e8d9e988829d5fc73139999891502bc988a", func := "loop.example/g00293/laws.FnSubsts", spec := "fnSubsts", unfollowed := true, recurses := true, apart := false, narrowed := true }
def FnSubstsUptoSaid : Prop := fnSubstsUptoRow.holds Try.pinned (OpenSpec.upto fnSubstsSpec)

/-- 'laws.FnUnify', WHERE WHAT IT READS IS OF BULK AT MOST 1048576: true; the input reads as it did. -/
def fnUnifyUptoRow : OpenClaim := { program := "ytkgabahlbmonfaa", sum := "0b7b59b6f282c3749a1264774a7b7e8d9e988829d5fc73139999891502bc988a", func := "loop.example/g00293/laws.FnUnify", spec := "fnUnify", unfollowed := true, recurses := true, apart := false, narrowed := true }
def FnUnifyUptoSaid : Prop := fnUnifyUptoRow.holds Try.pinned (OpenSpec.upto fnUnifySpec)

/-- 'laws.FnGeneral', WHERE WHAT IT READS IS OF BULK AT MOST 1048576: true; the input reads as it did. -/
def fnGeneralUptoRow : OpenClaim := { program := "ytkgabahlbmonfaa", sum := "0b7b59b6f282c3749a1264774a7b7e8d9e988829d5fc73139999891502bc988a", func := "loop.example/g00293/laws.FnGeneral", spec := "fnGeneral", unfollowed := true, recurses := true, apart := false, narrowed := true }
def FnGeneralUptoSaid : Prop := fnGeneralUptoRow.holds Try.pinned (OpenSpec.upto fnGeneralSpec)

/-- 'laws.FnExactFreeOf', WHERE WHAT IT READS IS OF BULK AT MOST 1048576: true; the input reads as it did. -/
def fnExactFreeOfUptoRow : OpenClaim := { program := "ytkgabahlbmonfaa", sum := "0b7b59b6f282c3749a1264774a7b7e8d9e988829d5fc73139999891502bc988a", func := "loop.example/g00293/laws.FnExactFreeOf", spec := "fnExactFreeOf", unfollowed := true, recurses := true, loops := true, apart := false, narrowed := true }
def FnExactFreeOfUptoSaid : Prop := fnExactFreeOfUptoRow.holds Try.pinned (OpenSpec.upto fnExactFreeOfSpec)

end Rows
end Go.Proofs.Ytkgabahlbmonfaa
