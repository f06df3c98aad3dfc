/-
  NARROWER THAN 'FOR EVERY INPUT', by the rows' own cells (each row's printed sentence says how): FnExactTyOk: loops · FnExactTyBoxed: loops · FnExactTySize: loops · FnExactTyEq: loops · FnExactTyBytes: loops · FnExactTySubst: loops · FnExactTyVars: loops.
  DERIVED. THE GIVEN ROWS OF THIS SEAT. 9 by the template 'for every input the law returns true; each argument reads behind the call as it read before'; 0 by the template 'total and deterministic' (their statements: YtbifoajnmikhiaaTotals.lean).
  GIVEN WITH THE SEED: the statements are not yours to turn. If you find one false, say at which input.
  Laid BY PROGRAM, IN A SANDBOX (cutbox-rows.mjs): the forced cells as the released guide's own fill.sh prints them over the translation c1d039c580af02bc… (all of the seat's roots in one cut). By AI agents, Wed Nov 11 2026. No macro, syntax, notation, axiom, sorry.
-/
import Derived.Test.YtbifoajnmikhiaaChecked
import GoSem.Claim
import GoSem.ClaimJoined
import GoSem.ClaimMapViews
import Derived.JoinedTies
import Derived.KernelRfl
namespace Go.Proofs.Ytbifoajnmikhiaa
/- THE CELL 'sum', in the pinned program and in every row, IS THE sha256 OF THE DUMP (.gsa) THAT YtbifoajnmikhiaaProg.lean LOADS. Nothing in Lean hashes anything: it is a label: what it is worth is what the hold of that sum in a sandbox is worth. -/
noncomputable def Try.pinned : Pinned := { name := "ytbifoajnmikhiaa", sum := "c1d039c580af02bc2fbca48cae1665ca1522588269a0801dc98b3b53548ce2d1", checked := Try.checked }
namespace Rows
def none {H : Type} : Left H := { results := [], args := [] }

/-- 'laws.FnExactTyOk': WHATEVER THE INPUT: true; the input reads as it did. -/
def fnExactTyOkSpec : ChangeSpec := { name := "fnExactTyOk", fn := fun _ => fun
  | [d] => { results := [.lit (.bool true)], args := [d] }
  | _ => none }
def fnExactTyOkRow : OpenClaim := { program := "ytbifoajnmikhiaa", sum := "c1d039c580af02bc2fbca48cae1665ca1522588269a0801dc98b3b53548ce2d1", func := "loop.example/g00293/laws.FnExactTyOk", spec := "fnExactTyOk", recurses := true, loops := true, apart := false }
def FnExactTyOkSaid : Prop := fnExactTyOkRow.holds Try.pinned (OpenSpec.ofChange fnExactTyOkSpec)

/-- ITS FALSE NEIGHBOUR: 'it returns false'. Refute it at one input. -/
def fnExactTyOkWrong : ChangeSpec := { name := "fnExactTyOk", fn := fun _ => fun
  | [d] => { results := [.lit (.bool false)], args := [d] }
  | _ => none }
def FnExactTyOkWrongFalsely : Prop := fnExactTyOkRow.holds Try.pinned (OpenSpec.ofChange fnExactTyOkWrong)

/-- 'laws.FnExactTyBoxed': WHATEVER THE INPUT: true; the input reads as it did. -/
def fnExactTyBoxedSpec : ChangeSpec := { name := "fnExactTyBoxed", fn := fun _ => fun
  | [d] => { results := [.lit (.bool true)], args := [d] }
  | _ => none }
def fnExactTyBoxedRow : OpenClaim := { program := "ytbifoajnmikhiaa", sum := "c1d039c580af02bc2fbca48cae1665ca1522588269a0801dc98b3b53548ce2d1", func := "loop.example/g00293/laws.FnExactTyBoxed", spec := "fnExactTyBoxed", recurses := true, loops := true, apart := false }
def FnExactTyBoxedSaid : Prop := fnExactTyBoxedRow.holds Try.pinned (OpenSpec.ofChange fnExactTyBoxedSpec)

/-- ITS FALSE NEIGHBOUR: 'it returns false'. Refute it at one input. -/
def fnExactTyBoxedWrong : ChangeSpec := { name := "fnExactTyBoxed", fn := fun _ => fun
  | [d] => { results := [.lit (.bool false)], args := [d] }
  | _ => none }
def FnExactTyBoxedWrongFalsely : Prop := fnExactTyBoxedRow.holds Try.pinned (OpenSpec.ofChange fnExactTyBoxedWrong)

/-- 'laws.FnExactTySize': WHATEVER THE INPUT: true; the input reads as it did. -/
def fnExactTySizeSpec : ChangeSpec := { name := "fnExactTySize", fn := fun _ => fun
  | [d] => { results := [.lit (.bool true)], args := [d] }
  | _ => none }
def fnExactTySizeRow : OpenClaim := { program := "ytbifoajnmikhiaa", sum := "c1d039c580af02bc2fbca48cae1665ca1522588269a0801dc98b3b53548ce2d1", func := "loop.example/g00293/laws.FnExactTySize", spec := "fnExactTySize", recurses := true, loops := true, apart := false }
def FnExactTySizeSaid : Prop := fnExactTySizeRow.holds Try.pinned (OpenSpec.ofChange fnExactTySizeSpec)

/-- ITS FALSE NEIGHBOUR: 'it returns false'. Refute it at one input. -/
def fnExactTySizeWrong : ChangeSpec := { name := "fnExactTySize", fn := fun _ => fun
  | [d] => { results := [.lit (.bool false)], args := [d] }
  | _ => none }
def FnExactTySizeWrongFalsely : Prop := fnExactTySizeRow.holds Try.pinned (OpenSpec.ofChange fnExactTySizeWrong)

/-- 'laws.FnExactTyEq': WHATEVER THE INPUT: true; the input reads as it did. -/
def fnExactTyEqSpec : ChangeSpec := { name := "fnExactTyEq", fn := fun _ => fun
  | [d1, d2] => { results := [.lit (.bool true)], args := [d1, d2] }
  | _ => none }
def fnExactTyEqRow : OpenClaim := { program := "ytbifoajnmikhiaa", sum := "c1d039c580af02bc2fbca48cae1665ca1522588269a0801dc98b3b53548ce2d1", func := "loop.example/g00293/laws.FnExactTyEq", spec := "fnExactTyEq", unfollowed := true, recurses := true, loops := true, apart := false }
def FnExactTyEqSaid : Prop := fnExactTyEqRow.holds Try.pinned (OpenSpec.ofChange fnExactTyEqSpec)

/-- ITS FALSE NEIGHBOUR: 'it returns false'. Refute it at one input. -/
def fnExactTyEqWrong : ChangeSpec := { name := "fnExactTyEq", fn := fun _ => fun
  | [d1, d2] => { results := [.lit (.bool false)], args := [d1, d2] }
  | _ => none }
def FnExactTyEqWrongFalsely : Prop := fnExactTyEqRow.holds Try.pinned (OpenSpec.ofChange fnExactTyEqWrong)

/-- 'laws.FnExactTyBytes': WHATEVER THE INPUT: true; the input reads as it did. -/
def fnExactTyBytesSpec : ChangeSpec := { name := "fnExactTyBytes", fn := fun _ => fun
  | [d] => { results := [.lit (.bool true)], args := [d] }
  | _ => none }
def fnExactTyBytesRow : OpenClaim := { program := "ytbifoajnmikhiaa", sum := "c1d039c580af02bc2fbca48cae1665ca1522588269a0801dc98b3b53548ce2d1", func := "loop.example/g00293/laws.FnExactTyBytes", spec := "fnExactTyBytes", recurses := true, loops := true, apart := false }
def FnExactTyBytesSaid : Prop := fnExactTyBytesRow.holds Try.pinned (OpenSpec.ofChange fnExactTyBytesSpec)

/-- ITS FALSE NEIGHBOUR: 'it returns false'. Refute it at one input. -/
def fnExactTyBytesWrong : ChangeSpec := { name := "fnExactTyBytes", fn := fun _ => fun
  | [d] => { results := [.lit (.bool false)], args := [d] }
  | _ => none }
def FnExactTyBytesWrongFalsely : Prop := fnExactTyBytesRow.holds Try.pinned (OpenSpec.ofChange fnExactTyBytesWrong)

/-- 'laws.FnExactTySubst': WHATEVER THE INPUT: true; the input reads as it did. -/
def fnExactTySubstSpec : ChangeSpec := { name := "fnExactTySubst", fn := fun _ => fun
  | [d1, d2] => { results := [.lit (.bool true)], args := [d1, d2] }
  | _ => none }
def fnExactTySubstRow : OpenClaim := { program := "ytbifoajnmikhiaa", sum := "c1d039c580af02bc2fbca48cae1665ca1522588269a0801dc98b3b53548ce2d1", func := "loop.example/g00293/laws.FnExactTySubst", spec := "fnExactTySubst", unfollowed := true, recurses := true, loops := true, apart := false }
def FnExactTySubstSaid : Prop := fnExactTySubstRow.holds Try.pinned (OpenSpec.ofChange fnExactTySubstSpec)

/-- ITS FALSE NEIGHBOUR: 'it returns false'. Refute it at one input. -/
def fnExactTySubstWrong : ChangeSpec := { name := "fnExactTySubst", fn := fun _ => fun
  | [d1, d2] => { results := [.lit (.bool false)], args := [d1, d2] }
  | _ => none }
def FnExactTySubstWrongFalsely : Prop := fnExactTySubstRow.holds Try.pinned (OpenSpec.ofChange fnExactTySubstWrong)

/-- 'laws.FnExactTyRead': WHATEVER THE INPUT: true; the input reads as it did. -/
def fnExactTyReadSpec : ChangeSpec := { name := "fnExactTyRead", fn := fun _ => fun
  | [d1, d2] => { results := [.lit (.bool true)], args := [d1, d2] }
  | _ => none }
def fnExactTyReadRow : OpenClaim := { program := "ytbifoajnmikhiaa", sum := "c1d039c580af02bc2fbca48cae1665ca1522588269a0801dc98b3b53548ce2d1", func := "loop.example/g00293/laws.FnExactTyRead", spec := "fnExactTyRead", recurses := true, apart := false }
def FnExactTyReadSaid : Prop := fnExactTyReadRow.holds Try.pinned (OpenSpec.ofChange fnExactTyReadSpec)

/-- ITS FALSE NEIGHBOUR: 'it returns false'. Refute it at one input. -/
def fnExactTyReadWrong : ChangeSpec := { name := "fnExactTyRead", fn := fun _ => fun
  | [d1, d2] => { results := [.lit (.bool false)], args := [d1, d2] }
  | _ => none }
def FnExactTyReadWrongFalsely : Prop := fnExactTyReadRow.holds Try.pinned (OpenSpec.ofChange fnExactTyReadWrong)

/-- 'laws.FnExactTyVars': WHATEVER THE INPUT: true; the input reads as it did. -/
def fnExactTyVarsSpec : ChangeSpec := { name := "fnExactTyVars", fn := fun _ => fun
  | [d] => { results := [.lit (.bool true)], args := [d] }
  | _ => none }
def fnExactTyVarsRow : OpenClaim := { program := "ytbifoajnmikhiaa", sum := "c1d039c580af02bc2fbca48cae1665ca1522588269a0801dc98b3b53548ce2d1", func := "loop.example/g00293/laws.FnExactTyVars", spec := "fnExactTyVars", unfollowed := true, recurses := true, loops := true, apart := false }
def FnExactTyVarsSaid : Prop := fnExactTyVarsRow.holds Try.pinned (OpenSpec.ofChange fnExactTyVarsSpec)

/-- ITS FALSE NEIGHBOUR: 'it returns false'. Refute it at one input. -/
def fnExactTyVarsWrong : ChangeSpec := { name := "fnExactTyVars", fn := fun _ => fun
  | [d] => { results := [.lit (.bool false)], args := [d] }
  | _ => none }
def FnExactTyVarsWrongFalsely : Prop := fnExactTyVarsRow.holds Try.pinned (OpenSpec.ofChange fnExactTyVarsWrong)

/-- 'laws.FnSubsts': WHATEVER THE INPUT: true; the input reads as it did. -/
def fnSubstsSpec : ChangeSpec := { name := "fnSubsts", fn := fun _ => fun
  | [d] => { results := [.lit (.bool true)], args := [d] }
  | _ => none }
def fnSubstsRow : OpenClaim := { program := "ytbifoajnmikhiaa", sum := "c1d039c580af02bc2fbca48cae1665ca1522588269a0801dc98b3b53548ce2d1", func := "loop.example/g00293/laws.FnSubsts", spec := "fnSubsts", unfollowed := true, recurses := true, apart := false }
def FnSubstsSaid : Prop := fnSubstsRow.holds Try.pinned (OpenSpec.ofChange fnSubstsSpec)

/-- ITS FALSE NEIGHBOUR: 'it returns false'. Refute it at one input. -/
def fnSubstsWrong : ChangeSpec := { name := "fnSubsts", fn := fun _ => fun
  | [d] => { results := [.lit (.bool false)], args := [d] }
  | _ => none }
def FnSubstsWrongFalsely : Prop := fnSubstsRow.holds Try.pinned (OpenSpec.ofChange fnSubstsWrong)

/- THE SECOND FORM. 'bulk': how many values and letters a reading holds, each counted each time it is reached (what is shared counts as often as it is met; a slice's spare places count too). A statement '..UptoSaid' is the law's where the arguments, and the package variables that the reading takes, are together of bulk at most 1048576: NARROWER than '..Said'. Prove '..Said' where nothing that the law and all that it calls make is longer than what came in: it says more and counts as full. Else prove '..UptoSaid'. A law counts once. -/
mutual
def uptoBulk {H : Type} : DataW H → Nat
  | .lit (.string bytes) => bytes.length + 1
  | .lit _ => 1
  | .nil => 1
  | .ptr d => uptoBulk d + 1
  | .slice elems spare => uptoBulkAll elems + uptoBulkAll spare + 1
  | .agg parts => uptoBulkAll parts + 1
  | .iface _ d => uptoBulk d + 1
  | .map entries => uptoBulkEntries entries + 1
  | .held _ => 1
def uptoBulkAll {H : Type} : List (DataW H) → Nat
  | [] => 0
  | d :: r => uptoBulk d + uptoBulkAll r
def uptoBulkEntries {H : Type} : List (Lit × DataW H) → Nat
  | [] => 0
  | x :: r => uptoBulkEntry x + uptoBulkEntries r
def uptoBulkEntry {H : Type} : Lit × DataW H → Nat
  | (.string bytes, d) => bytes.length + uptoBulk d + 1
  | (_, d) => uptoBulk d + 1
 end
def uptoSmall : (H : Type) → List (DataW H) → Bool := fun _ ds => decide (uptoBulkAll ds ≤ 1048576)
def OpenSpec.upto (s : _root_.Go.ChangeSpec) : _root_.Go.OpenSpec := { _root_.Go.OpenSpec.ofChange s with cond := some uptoSmall }

/-- 'laws.FnExactTyOk', WHERE WHAT IT READS IS OF BULK AT MOST 1048576: true; the input reads as it did. -/
def fnExactTyOkUptoRow : OpenClaim := { program := "ytbifoajnmikhiaa", sum := "c1d039c580af02bc2fbca48cae1665ca1522588269a0801dc98b3b53548ce2d1", func := "loop.example/g00293/laws.FnExactTyOk", spec := "fnExactTyOk", recurses := true, loops := true, apart := false, narrowed := true }
def FnExactTyOkUptoSaid : Prop := fnExactTyOkUptoRow.holds Try.pinned (OpenSpec.upto fnExactTyOkSpec)

/-- 'laws.FnExactTyBoxed', WHERE WHAT IT READS IS OF BULK AT MOST 1048576: true; the input reads as it did. -/
def fnExactTyBoxedUptoRow : OpenClaim := { program := "ytbifoajnmikhiaa", sum := "c1d039c580af02bc2fbca48cae1665ca1522588269a0801dc98b3b53548ce2d1", func := "loop.example/g00293/laws.FnExactTyBoxed", spec := "fnExactTyBoxed", recurses := true, loops := true, apart := false, narrowed := true }
def FnExactTyBoxedUptoSaid : Prop := fnExactTyBoxedUptoRow.holds Try.pinned (OpenSpec.upto fnExactTyBoxedSpec)

/-- 'laws.FnExactTySize', WHERE WHAT IT READS IS OF BULK AT MOST 1048576: true; the input reads as it did. -/
def fnExactTySizeUptoRow : OpenClaim := { program := "ytbifoajnmikhiaa", sum := "c1d039c580af02bc2fbca48cae1665ca1522588269a0801dc98b3b53548ce2d1", func := "loop.example/g00293/laws.FnExactTySize", spec := "fnExactTySize", recurses := true, loops := true, apart := false, narrowed := true }
def FnExactTySizeUptoSaid : Prop := fnExactTySizeUptoRow.holds Try.pinned (OpenSpec.upto fnExactTySizeSpec)

/-- 'laws.FnExactTyEq', WHERE WHAT IT READS IS OF BULK AT MOST 1048576: true; the input reads as it did. -/
def fnExactTyEqUptoRow : OpenClaim := { program := "ytbifoajnmikhiaa", sum := "c1d039c580af02bc2fbca48cae1665ca1522588269a0801dc98b3b53548ce2d1", func := "loop.example/g00293/laws.FnExactTyEq", spec := "fnExactTyEq", unfollowed := true, recurses := true, loops := true, apart := false, narrowed := true }
def FnExactTyEqUptoSaid : Prop := fnExactTyEqUptoRow.holds Try.pinned (OpenSpec.upto fnExactTyEqSpec)

/-- 'laws.FnExactTyBytes', WHERE WHAT IT READS IS OF BULK AT MOST 1048576: true; the input reads as it did. -/
def fnExactTyBytesUptoRow : OpenClaim := { program := "ytbifoajnmikhiaa", sum := "c1d039c580af02bc2fbca48cae1665ca1522588269a0801dc98b3b53548ce2d1", func := "loop.example/g00293/laws.FnExactTyBytes", spec := "fnExactTyBytes", recurses := true, loops := true, apart := false, narrowed := true }
def FnExactTyBytesUptoSaid : Prop := fnExactTyBytesUptoRow.holds Try.pinned (OpenSpec.upto fnExactTyBytesSpec)

/-- 'laws.FnExactTySubst', WHERE WHAT IT READS IS OF BULK AT MOST 1048576: true; the input reads as it did. -/
def fnExactTySubstUptoRow : OpenClaim := { program := "ytbifoajnmikhiaa", sum := "c1d039c580af02bc2fbca48cae1665ca1522588269a0801dc98b3b53548ce2d1", func := "loop.example/g00293/laws.FnExactTySubst", spec := "fnExactTySubst", unfollowed := true, recurses := true, loops := true, apart := false, narrowed := true }
def FnExactTySubstUptoSaid : Prop := fnExactTySubstUptoRow.holds Try.pinned (OpenSpec.upto fnExactTySubstSpec)

/-- 'laws.FnExactTyRead', WHERE WHAT IT READS IS OF BULK AT MOST 1048576: true; the input reads as it did. -/
def fnExactTyReadUptoRow : OpenClaim := { program := "ytbifoajnmikhiaa", sum := "c1d039c580af02bc2fbca48cae1665ca1522588269a0801dc98b3b53548ce2d1", func := "loop.example/g00293/laws.FnExactTyRead", spec := "fnExactTyRead", recurses := true, apart := false, narrowed := true }
def FnExactTyReadUptoSaid : Prop := fnExactTyReadUptoRow.holds Try.pinned (OpenSpec.upto fnExactTyReadSpec)

/-- 'laws.FnExactTyVars', WHERE WHAT IT READS IS OF BULK AT MOST 1048576: true; the input reads as it did. -/
def fnExactTyVarsUptoRow : OpenClaim := { program := "ytbifoajnmikhiaa", sum := "c1d039c580af02bc2fbca48cae1665ca1522588269a0801dc98b3b53548ce2d1", func := "loop.example/g00293/laws.FnExactTyVars", spec := "fnExactTyVars", unfollowed := true, recurses := true, loops := true, apart := false, narrowed := true }
def FnExactTyVarsUptoSaid : Prop := fnExactTyVarsUptoRow.holds Try.pinned (OpenSpec.upto fnExactTyVarsSpec)

/-- 'laws.FnSubsts', WHERE WHAT IT READS IS OF BULK AT MOST 1048576: true; the input reads as it did. -/
def fnSubstsUptoRow : OpenClaim := { program := "ytbifoajnmikhiaa", sum := "c1d039c580af02bc2fbca48cae1665ca1522588269a0801dc98b3b53548ce2d1", func := "loop.example/g00293/laws.FnSubsts", spec := "fnSubsts", unfollowed := true, recurses := true, apart := false, narrowed := true }
def FnSubstsUptoSaid : Prop := fnSubstsUptoRow.holds Try.pinned (OpenSpec.upto fnSubstsSpec)

end Rows
end Go.Proofs.Ytbifoajnmikhiaa
