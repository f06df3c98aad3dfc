/-
  No cell of these rows narrows 'for every input' (looked for: loops, veiled, ifaces, maps, wideKeys, modest, calm, conditions, laid).
  DERIVED. THE GIVEN ROWS OF THIS SEAT. 12 by the template 'for every input the law returns true; each argument reads behind the call as it read before'; 0 by the template 'total and deterministic' (their statements: YtophpcadfljkgaaTotals.lean).
  GIVEN WITH THE SEED: the statements are not yours to turn. If you find one false, say at which input.
  Laid BY PROGRAM, IN A SANDBOX (cutbox-rows.mjs): the forced cells as the released guide's own fill.sh prints them over the translation b47559e4f8fb3443… (all of the seat's roots in one cut). By AI agents, Wed Nov 11 2026. No macro, syntax, notation, axiom, sorry.
-/
import Derived.Test.YtophpcadfljkgaaChecked
import GoSem.Claim
import GoSem.ClaimJoined
import GoSem.ClaimMapViews
import Derived.JoinedTies
import Derived.KernelRfl
namespace Go.Proofs.Ytophpcadfljkgaa
/- THE CELL 'sum', in the pinned program and in every row, IS THE sha256 OF THE DUMP (.gsa) THAT YtophpcadfljkgaaProg.lean LOADS. Nothing in Lean hashes anything: it is a label: what it is worth is what the hold of that sum in a sandbox is worth. -/
noncomputable def Try.pinned : Pinned := { name := "ytophpcadfljkgaa", sum := "b47559e4f8fb3443b84bf9ab29be82227188d80766af8314c5dc719e1fcca5cd", checked := Try.checked }
namespace Rows
def none {H : Type} : Left H := { results := [], args := [] }

/-- 'laws.FnExactConstants': WHATEVER THE INPUT: true; the input reads as it did. -/
def fnExactConstantsSpec : ChangeSpec := { name := "fnExactConstants", fn := fun _ => fun
  | [] => { results := [.lit (.bool true)], args := [] }
  | _ => none }
def fnExactConstantsRow : OpenClaim := { program := "ytophpcadfljkgaa", sum := "b47559e4f8fb3443b84bf9ab29be82227188d80766af8314c5dc719e1fcca5cd", func := "loop.example/g00293/laws.FnExactConstants", spec := "fnExactConstants", apart := false }
def FnExactConstantsSaid : Prop := fnExactConstantsRow.holds Try.pinned (OpenSpec.ofChange fnExactConstantsSpec)

/-- ITS FALSE NEIGHBOUR: 'it returns false'. Refute it at one input. -/
def fnExactConstantsWrong : ChangeSpec := { name := "fnExactConstants", fn := fun _ => fun
  | [] => { results := [.lit (.bool false)], args := [] }
  | _ => none }
def FnExactConstantsWrongFalsely : Prop := fnExactConstantsRow.holds Try.pinned (OpenSpec.ofChange fnExactConstantsWrong)

/-- 'laws.FnExactWrap': WHATEVER THE INPUT: true; the input reads as it did. -/
def fnExactWrapSpec : ChangeSpec := { name := "fnExactWrap", fn := fun _ => fun
  | [d] => { results := [.lit (.bool true)], args := [d] }
  | _ => none }
def fnExactWrapRow : OpenClaim := { program := "ytophpcadfljkgaa", sum := "b47559e4f8fb3443b84bf9ab29be82227188d80766af8314c5dc719e1fcca5cd", func := "loop.example/g00293/laws.FnExactWrap", spec := "fnExactWrap", apart := false }
def FnExactWrapSaid : Prop := fnExactWrapRow.holds Try.pinned (OpenSpec.ofChange fnExactWrapSpec)

/-- ITS FALSE NEIGHBOUR: 'it returns false'. Refute it at one input. -/
def fnExactWrapWrong : ChangeSpec := { name := "fnExactWrap", fn := fun _ => fun
  | [d] => { results := [.lit (.bool false)], args := [d] }
  | _ => none }
def FnExactWrapWrongFalsely : Prop := fnExactWrapRow.holds Try.pinned (OpenSpec.ofChange fnExactWrapWrong)

/-- 'laws.FnExactFold': WHATEVER THE INPUT: true; the input reads as it did. -/
def fnExactFoldSpec : ChangeSpec := { name := "fnExactFold", fn := fun _ => fun
  | [d] => { results := [.lit (.bool true)], args := [d] }
  | _ => none }
def fnExactFoldRow : OpenClaim := { program := "ytophpcadfljkgaa", sum := "b47559e4f8fb3443b84bf9ab29be82227188d80766af8314c5dc719e1fcca5cd", func := "loop.example/g00293/laws.FnExactFold", spec := "fnExactFold", apart := false }
def FnExactFoldSaid : Prop := fnExactFoldRow.holds Try.pinned (OpenSpec.ofChange fnExactFoldSpec)

/-- ITS FALSE NEIGHBOUR: 'it returns false'. Refute it at one input. -/
def fnExactFoldWrong : ChangeSpec := { name := "fnExactFold", fn := fun _ => fun
  | [d] => { results := [.lit (.bool false)], args := [d] }
  | _ => none }
def FnExactFoldWrongFalsely : Prop := fnExactFoldRow.holds Try.pinned (OpenSpec.ofChange fnExactFoldWrong)

/-- 'laws.FnExactUnfold': WHATEVER THE INPUT: true; the input reads as it did. -/
def fnExactUnfoldSpec : ChangeSpec := { name := "fnExactUnfold", fn := fun _ => fun
  | [d] => { results := [.lit (.bool true)], args := [d] }
  | _ => none }
def fnExactUnfoldRow : OpenClaim := { program := "ytophpcadfljkgaa", sum := "b47559e4f8fb3443b84bf9ab29be82227188d80766af8314c5dc719e1fcca5cd", func := "loop.example/g00293/laws.FnExactUnfold", spec := "fnExactUnfold", apart := false }
def FnExactUnfoldSaid : Prop := fnExactUnfoldRow.holds Try.pinned (OpenSpec.ofChange fnExactUnfoldSpec)

/-- ITS FALSE NEIGHBOUR: 'it returns false'. Refute it at one input. -/
def fnExactUnfoldWrong : ChangeSpec := { name := "fnExactUnfold", fn := fun _ => fun
  | [d] => { results := [.lit (.bool false)], args := [d] }
  | _ => none }
def FnExactUnfoldWrongFalsely : Prop := fnExactUnfoldRow.holds Try.pinned (OpenSpec.ofChange fnExactUnfoldWrong)

/-- 'laws.FnExactGetNum': WHATEVER THE INPUT: true; the input reads as it did. -/
def fnExactGetNumSpec : ChangeSpec := { name := "fnExactGetNum", fn := fun _ => fun
  | [d1, d2] => { results := [.lit (.bool true)], args := [d1, d2] }
  | _ => none }
def fnExactGetNumRow : OpenClaim := { program := "ytophpcadfljkgaa", sum := "b47559e4f8fb3443b84bf9ab29be82227188d80766af8314c5dc719e1fcca5cd", func := "loop.example/g00293/laws.FnExactGetNum", spec := "fnExactGetNum", apart := false }
def FnExactGetNumSaid : Prop := fnExactGetNumRow.holds Try.pinned (OpenSpec.ofChange fnExactGetNumSpec)

/-- ITS FALSE NEIGHBOUR: 'it returns false'. Refute it at one input. -/
def fnExactGetNumWrong : ChangeSpec := { name := "fnExactGetNum", fn := fun _ => fun
  | [d1, d2] => { results := [.lit (.bool false)], args := [d1, d2] }
  | _ => none }
def FnExactGetNumWrongFalsely : Prop := fnExactGetNumRow.holds Try.pinned (OpenSpec.ofChange fnExactGetNumWrong)

/-- 'laws.FnWraps': WHATEVER THE INPUT: true; the input reads as it did. -/
def fnWrapsSpec : ChangeSpec := { name := "fnWraps", fn := fun _ => fun
  | [d] => { results := [.lit (.bool true)], args := [d] }
  | _ => none }
def fnWrapsRow : OpenClaim := { program := "ytophpcadfljkgaa", sum := "b47559e4f8fb3443b84bf9ab29be82227188d80766af8314c5dc719e1fcca5cd", func := "loop.example/g00293/laws.FnWraps", spec := "fnWraps", apart := false }
def FnWrapsSaid : Prop := fnWrapsRow.holds Try.pinned (OpenSpec.ofChange fnWrapsSpec)

/-- ITS FALSE NEIGHBOUR: 'it returns false'. Refute it at one input. -/
def fnWrapsWrong : ChangeSpec := { name := "fnWraps", fn := fun _ => fun
  | [d] => { results := [.lit (.bool false)], args := [d] }
  | _ => none }
def FnWrapsWrongFalsely : Prop := fnWrapsRow.holds Try.pinned (OpenSpec.ofChange fnWrapsWrong)

/-- 'laws.FnExactPutNum': WHATEVER THE INPUT: true; the input reads as it did. -/
def fnExactPutNumSpec : ChangeSpec := { name := "fnExactPutNum", fn := fun _ => fun
  | [d1, d2] => { results := [.lit (.bool true)], args := [d1, d2] }
  | _ => none }
def fnExactPutNumRow : OpenClaim := { program := "ytophpcadfljkgaa", sum := "b47559e4f8fb3443b84bf9ab29be82227188d80766af8314c5dc719e1fcca5cd", func := "loop.example/g00293/laws.FnExactPutNum", spec := "fnExactPutNum", apart := false }
def FnExactPutNumSaid : Prop := fnExactPutNumRow.holds Try.pinned (OpenSpec.ofChange fnExactPutNumSpec)

/-- ITS FALSE NEIGHBOUR: 'it returns false'. Refute it at one input. -/
def fnExactPutNumWrong : ChangeSpec := { name := "fnExactPutNum", fn := fun _ => fun
  | [d1, d2] => { results := [.lit (.bool false)], args := [d1, d2] }
  | _ => none }
def FnExactPutNumWrongFalsely : Prop := fnExactPutNumRow.holds Try.pinned (OpenSpec.ofChange fnExactPutNumWrong)

/-- 'laws.FnFolds': WHATEVER THE INPUT: true; the input reads as it did. -/
def fnFoldsSpec : ChangeSpec := { name := "fnFolds", fn := fun _ => fun
  | [d] => { results := [.lit (.bool true)], args := [d] }
  | _ => none }
def fnFoldsRow : OpenClaim := { program := "ytophpcadfljkgaa", sum := "b47559e4f8fb3443b84bf9ab29be82227188d80766af8314c5dc719e1fcca5cd", func := "loop.example/g00293/laws.FnFolds", spec := "fnFolds", apart := false }
def FnFoldsSaid : Prop := fnFoldsRow.holds Try.pinned (OpenSpec.ofChange fnFoldsSpec)

/-- ITS FALSE NEIGHBOUR: 'it returns false'. Refute it at one input. -/
def fnFoldsWrong : ChangeSpec := { name := "fnFolds", fn := fun _ => fun
  | [d] => { results := [.lit (.bool false)], args := [d] }
  | _ => none }
def FnFoldsWrongFalsely : Prop := fnFoldsRow.holds Try.pinned (OpenSpec.ofChange fnFoldsWrong)

/-- 'laws.FnExactPutText': WHATEVER THE INPUT: true; the input reads as it did. -/
def fnExactPutTextSpec : ChangeSpec := { name := "fnExactPutText", fn := fun _ => fun
  | [d1, d2] => { results := [.lit (.bool true)], args := [d1, d2] }
  | _ => none }
def fnExactPutTextRow : OpenClaim := { program := "ytophpcadfljkgaa", sum := "b47559e4f8fb3443b84bf9ab29be82227188d80766af8314c5dc719e1fcca5cd", func := "loop.example/g00293/laws.FnExactPutText", spec := "fnExactPutText", apart := false }
def FnExactPutTextSaid : Prop := fnExactPutTextRow.holds Try.pinned (OpenSpec.ofChange fnExactPutTextSpec)

/-- ITS FALSE NEIGHBOUR: 'it returns false'. Refute it at one input. -/
def fnExactPutTextWrong : ChangeSpec := { name := "fnExactPutText", fn := fun _ => fun
  | [d1, d2] => { results := [.lit (.bool false)], args := [d1, d2] }
  | _ => none }
def FnExactPutTextWrongFalsely : Prop := fnExactPutTextRow.holds Try.pinned (OpenSpec.ofChange fnExactPutTextWrong)

/-- 'laws.FnExactGetText': WHATEVER THE INPUT: true; the input reads as it did. -/
def fnExactGetTextSpec : ChangeSpec := { name := "fnExactGetText", fn := fun _ => fun
  | [d1, d2] => { results := [.lit (.bool true)], args := [d1, d2] }
  | _ => none }
def fnExactGetTextRow : OpenClaim := { program := "ytophpcadfljkgaa", sum := "b47559e4f8fb3443b84bf9ab29be82227188d80766af8314c5dc719e1fcca5cd", func := "loop.example/g00293/laws.FnExactGetText", spec := "fnExactGetText", apart := false }
def FnExactGetTextSaid : Prop := fnExactGetTextRow.holds Try.pinned (OpenSpec.ofChange fnExactGetTextSpec)

/-- ITS FALSE NEIGHBOUR: 'it returns false'. Refute it at one input. -/
def fnExactGetTextWrong : ChangeSpec := { name := "fnExactGetText", fn := fun _ => fun
  | [d1, d2] => { results := [.lit (.bool false)], args := [d1, d2] }
  | _ => none }
def FnExactGetTextWrongFalsely : Prop := fnExactGetTextRow.holds Try.pinned (OpenSpec.ofChange fnExactGetTextWrong)

/-- 'laws.FnNumbers': WHATEVER THE INPUT: true; the input reads as it did. -/
def fnNumbersSpec : ChangeSpec := { name := "fnNumbers", fn := fun _ => fun
  | [d] => { results := [.lit (.bool true)], args := [d] }
  | _ => none }
def fnNumbersRow : OpenClaim := { program := "ytophpcadfljkgaa", sum := "b47559e4f8fb3443b84bf9ab29be82227188d80766af8314c5dc719e1fcca5cd", func := "loop.example/g00293/laws.FnNumbers", spec := "fnNumbers", apart := false }
def FnNumbersSaid : Prop := fnNumbersRow.holds Try.pinned (OpenSpec.ofChange fnNumbersSpec)

/-- ITS FALSE NEIGHBOUR: 'it returns false'. Refute it at one input. -/
def fnNumbersWrong : ChangeSpec := { name := "fnNumbers", fn := fun _ => fun
  | [d] => { results := [.lit (.bool false)], args := [d] }
  | _ => none }
def FnNumbersWrongFalsely : Prop := fnNumbersRow.holds Try.pinned (OpenSpec.ofChange fnNumbersWrong)

/-- 'laws.FnTexts': WHATEVER THE INPUT: true; the input reads as it did. -/
def fnTextsSpec : ChangeSpec := { name := "fnTexts", fn := fun _ => fun
  | [d] => { results := [.lit (.bool true)], args := [d] }
  | _ => none }
def fnTextsRow : OpenClaim := { program := "ytophpcadfljkgaa", sum := "b47559e4f8fb3443b84bf9ab29be82227188d80766af8314c5dc719e1fcca5cd", func := "loop.example/g00293/laws.FnTexts", spec := "fnTexts", apart := false }
def FnTextsSaid : Prop := fnTextsRow.holds Try.pinned (OpenSpec.ofChange fnTextsSpec)

/-- ITS FALSE NEIGHBOUR: 'it returns false'. Refute it at one input. -/
def fnTextsWrong : ChangeSpec := { name := "fnTexts", fn := fun _ => fun
  | [d] => { results := [.lit (.bool false)], args := [d] }
  | _ => none }
def FnTextsWrongFalsely : Prop := fnTextsRow.holds Try.pinned (OpenSpec.ofChange fnTextsWrong)

/- THE SECOND FORM. 'bulk': how many values and letters a reading holds, each counted each time it is reached (what is shared counts as often as it is met; a slice's spare places count too). A statement '..UptoSaid' is the law's where the arguments, and the package variables that the reading takes, are together of bulk at most 1048576: NARROWER than '..Said'. Prove '..Said' where nothing that the law and all that it calls make is longer than what came in: it says more and counts as full. Else prove '..UptoSaid'. A law counts once. -/
mutual
def uptoBulk {H : Type} : DataW H → Nat
  | .lit (.string bytes) => bytes.length + 1
  | .lit _ => 1
  | .nil => 1
  | .ptr d => uptoBulk d + 1
  | .slice elems spare => uptoBulkAll elems + uptoBulkAll spare + 1
  | .agg parts => uptoBulkAll parts + 1
  | .iface _ d => uptoBulk d + 1
  | .map entries => uptoBulkEntries entries + 1
  | .held _ => 1
def uptoBulkAll {H : Type} : List (DataW H) → Nat
  | [] => 0
  | d :: r => uptoBulk d + uptoBulkAll r
def uptoBulkEntries {H : Type} : List (Lit × DataW H) → Nat
  | [] => 0
  | x :: r => uptoBulkEntry x + uptoBulkEntries r
def uptoBulkEntry {H : Type} : Lit × DataW H → Nat
  | (.string bytes, d) => bytes.length + uptoBulk d + 1
  | (_, d) => uptoBulk d + 1
 end
def uptoSmall : (H : Type) → List (DataW H) → Bool := fun _ ds => decide (uptoBulkAll ds ≤ 1048576)
def OpenSpec.upto (s : _root_.Go.ChangeSpec) : _root_.Go.OpenSpec := { _root_.Go.OpenSpec.ofChange s with cond := some uptoSmall }

/-- 'laws.FnExactConstants', WHERE WHAT IT READS IS OF BULK AT MOST 1048576: true; the input reads as it did. -/
def fnExactConstantsUptoRow : OpenClaim := { program := "ytophpcadfljkgaa", sum := "b47559e4f8fb3443b84bf9ab29be82227188d80766af8314c5dc719e1fcca5cd", func := "loop.example/g00293/laws.FnExactConstants", spec := "fnExactConstants", apart := false, narrowed := true }
def FnExactConstantsUptoSaid : Prop := fnExactConstantsUptoRow.holds Try.pinned (OpenSpec.upto fnExactConstantsSpec)

/-- 'laws.FnExactWrap', WHERE WHAT IT READS IS OF BULK AT MOST 1048576: true; the input reads as it did. -/
def fnExactWrapUptoRow : OpenClaim := { program := "ytophpcadfljkgaa", sum := "b47559e4f8fb3443b84bf9ab29be82227188d80766af8314c5dc719e1fcca5cd", func := "loop.example/g00293/laws.FnExactWrap", spec := "fnExactWrap", apart := false, narrowed := true }
def FnExactWrapUptoSaid : Prop := fnExactWrapUptoRow.holds Try.pinned (OpenSpec.upto fnExactWrapSpec)

/-- 'laws.FnExactFold', WHERE WHAT IT READS IS OF BULK AT MOST 1048576: true; the input reads as it did. -/
def fnExactFoldUptoRow : OpenClaim := { program := "ytophpcadfljkgaa", sum := "b47559e4f8fb3443b84bf9ab29be82227188d80766af8314c5dc719e1fcca5cd", func := "loop.example/g00293/laws.FnExactFold", spec := "fnExactFold", apart := false, narrowed := true }
def FnExactFoldUptoSaid : Prop := fnExactFoldUptoRow.holds Try.pinned (OpenSpec.upto fnExactFoldSpec)

/-- 'laws.FnExactUnfold', WHERE WHAT IT READS IS OF BULK AT MOST 1048576: true; the input reads as it did. -/
def fnExactUnfoldUptoRow : OpenClaim := { program := "ytophpcadfljkgaa", sum := "b47559e4f8fb3443b84bf9ab29be82227188d80766af8314c5dc719e1fcca5cd", func := "loop.example/g00293/laws.FnExactUnfold", spec := "fnExactUnfold", apart := false, narrowed := true }
def FnExactUnfoldUptoSaid : Prop := fnExactUnfoldUptoRow.holds Try.pinned (OpenSpec.upto fnExactUnfoldSpec)

/-- 'laws.FnExactGetNum', WHERE WHAT IT READS IS OF BULK AT MOST 1048576: true; the input reads as it did. -/
def fnExactGetNumUptoRow : OpenClaim := { program := "ytophpcadfljkgaa", sum := "b47559e4f8fb3443b84bf9ab29be82227188d80766af8314c5dc719e1fcca5cd", func := "loop.example/g00293/laws.FnExactGetNum", spec := "fnExactGetNum", apart := false, narrowed := true }
def FnExactGetNumUptoSaid : Prop := fnExactGetNumUptoRow.holds Try.pinned (OpenSpec.upto fnExactGetNumSpec)

/-- 'laws.FnWraps', WHERE WHAT IT READS IS OF BULK AT MOST 1048576: true; the input reads as it did. -/
def fnWrapsUptoRow : OpenClaim := { program := "ytophpcadfljkgaa", sum := "b47559e4f8fb3443b84bf9ab29be82227188d80766af8314c5dc719e1fcca5cd", func := "loop.example/g00293/laws.FnWraps", spec := "fnWraps", apart := false, narrowed := true }
def FnWrapsUptoSaid : Prop := fnWrapsUptoRow.holds Try.pinned (OpenSpec.upto fnWrapsSpec)

/-- 'laws.FnExactPutNum', WHERE WHAT IT READS IS OF BULK AT MOST 1048576: true; the input reads as it did. -/
def fnExactPutNumUptoRow : OpenClaim := { program := "ytophpcadfljkgaa", sum := "b47559e4f8fb3443b84bf9ab29be82227188d80766af8314c5dc719e1fcca5cd", func := "loop.example/g00293/laws.FnExactPutNum", spec := "fnExactPutNum", apart := false, narrowed := true }
def FnExactPutNumUptoSaid : Prop := fnExactPutNumUptoRow.holds Try.pinned (OpenSpec.upto fnExactPutNumSpec)

/-- 'laws.FnFolds', WHERE WHAT IT READS IS OF BULK AT MOST 1048576: true; the input reads as it did. -/
def fnFoldsUptoRow : OpenClaim := { program := "ytophpcadfljkgaa", sum := "b47559e4f8fb3443b84bf9ab29be82227188d80766af8314c5dc719e1fcca5cd", func := "loop.example/g00293/laws.FnFolds", spec := "fnFolds", apart := false, narrowed := true }
def FnFoldsUptoSaid : Prop := fnFoldsUptoRow.holds Try.pinned (OpenSpec.upto fnFoldsSpec)

/-- 'laws.FnExactPutText', WHERE WHAT IT READS IS OF BULK AT MOST 1048576: true; the input reads as it did. -/
def fnExactPutTextUptoRow : OpenClaim := { program := "ytophpcadfljkgaa", sum := "b47559e4f8fb3443b84bf9ab29be82227188d80766af8314c5dc719e1fcca5cd", func := "loop.example/g00293/laws.FnExactPutText", spec := "fnExactPutText", apart := false, narrowed := true }
def FnExactPutTextUptoSaid : Prop := fnExactPutTextUptoRow.holds Try.pinned (OpenSpec.upto fnExactPutTextSpec)

/-- 'laws.FnExactGetText', WHERE WHAT IT READS IS OF BULK AT MOST 1048576: true; the input reads as it did. -/
def fnExactGetTextUptoRow : OpenClaim := { program := "ytophpcadfljkgaa", sum := "b47559e4f8fb3443b84bf9ab29be82227188d80766af8314c5dc719e1fcca5cd", func := "loop.example/g00293/laws.FnExactGetText", spec := "fnExactGetText", apart := false, narrowed := true }
def FnExactGetTextUptoSaid : Prop := fnExactGetTextUptoRow.holds Try.pinned (OpenSpec.upto fnExactGetTextSpec)

/-- 'laws.FnNumbers', WHERE WHAT IT READS IS OF BULK AT MOST 1048576: true; the input reads as it did. -/
def fnNumbersUptoRow : OpenClaim := { program := "ytophpcadfljkgaa", sum := "b47559e4f8fb3443b84bf9ab29be82227188d80766af8314c5dc719e1fcca5cd", func := "loop.example/g00293/laws.FnNumbers", spec := "fnNumbers", apart := false, narrowed := true }
def FnNumbersUptoSaid : Prop := fnNumbersUptoRow.holds Try.pinned (OpenSpec.upto fnNumbersSpec)

/-- 'laws.FnTexts', WHERE WHAT IT READS IS OF BULK AT MOST 1048576: true; the input reads as it did. -/
def fnTextsUptoRow : OpenClaim := { program := "ytophpcadfljkgaa", sum := "b47559e4f8fb3443b84bf9ab29be82227188d80766af8314c5dc719e1fcca5cd", func := "loop.example/g00293/laws.FnTexts", spec := "fnTexts", apart := false, narrowed := true }
def FnTextsUptoSaid : Prop := fnTextsUptoRow.holds Try.pinned (OpenSpec.upto fnTextsSpec)

end Rows
end Go.Proofs.Ytophpcadfljkgaa
