/-
  NARROWER THAN 'FOR EVERY INPUT', by the rows' own cells (each row's printed sentence says how): FnExactCodeBytes: loops · FnExactCapsOf: loops.
  DERIVED. THE GIVEN ROWS OF THIS SEAT. 3 by the template 'for every input the law returns true; each argument reads behind the call as it read before'; 0 by the template 'total and deterministic' (their statements: YtkaolpcfpnckcaaGreatTotals.lean).
  GIVEN WITH THE SEED: the statements are not yours to turn. If you find one false, say at which input.
  Laid BY PROGRAM, IN A SANDBOX (cutbox-rows.mjs): the forced cells as the released guide's own fill.sh prints them over the translation 891135f2d482f4ab… (all of the seat's roots in one cut). By AI agents, Wed Nov 11 2026. No macro, syntax, notation, axiom, sorry.
-/
import Derived.Test.YtkaolpcfpnckcaaGreatChecked
import GoSem.Claim
import GoSem.ClaimJoined
import GoSem.ClaimMapViews
import Derived.JoinedTies
import Derived.KernelRfl
namespace Go.Proofs.YtkaolpcfpnckcaaGreat
/- THE CELL 'sum', in the pinned program and in every row, IS THE sha256 OF THE DUMP (.gsa) THAT YtkaolpcfpnckcaaGreatProg.lean LOADS. Nothing in Lean hashes anything: it is a label: what it is worth is what the hold of that sum in a sandbox is worth. -/
noncomputable def Tryz.pinned : Pinned := { name := "ytkaolpcfpnckcaagreat", sum := "891135f2d482f4ab738ed8c80d4e6d4c60cc0d7e6caf14e79f3c94997aa18893", checked := Tryz.checked }
namespace Rows
def none {H : Type} : Left H := { results := [], args := [] }

/-- 'laws.FnExactCodeBytes': WHATEVER THE INPUT: true; the input reads as it did. -/
def fnExactCodeBytesSpec : ChangeSpec := { name := "fnExactCodeBytes", fn := fun _ => fun
  | [d] => { results := [.lit (.bool true)], args := [d] }
  | _ => none }
def fnExactCodeBytesRow : OpenClaim := { program := "ytkaolpcfpnckcaagreat", sum := "891135f2d482f4ab738ed8c80d4e6d4c60cc0d7e6caf14e79f3c94997aa18893", func := "loop.example/g00293/laws.FnExactCodeBytes", spec := "fnExactCodeBytes", unfollowed := true, recurses := true, loops := true, apart := false }
def FnExactCodeBytesSaid : Prop := fnExactCodeBytesRow.holds Tryz.pinned (OpenSpec.ofChange fnExactCodeBytesSpec)

/-- ITS FALSE NEIGHBOUR: 'it returns false'. Refute it at one input. -/
def fnExactCodeBytesWrong : ChangeSpec := { name := "fnExactCodeBytes", fn := fun _ => fun
  | [d] => { results := [.lit (.bool false)], args := [d] }
  | _ => none }
def FnExactCodeBytesWrongFalsely : Prop := fnExactCodeBytesRow.holds Tryz.pinned (OpenSpec.ofChange fnExactCodeBytesWrong)

/-- 'laws.FnExactCodeRead': WHATEVER THE INPUT: true; the input reads as it did. -/
def fnExactCodeReadSpec : ChangeSpec := { name := "fnExactCodeRead", fn := fun _ => fun
  | [d] => { results := [.lit (.bool true)], args := [d] }
  | _ => none }
def fnExactCodeReadRow : OpenClaim := { program := "ytkaolpcfpnckcaagreat", sum := "891135f2d482f4ab738ed8c80d4e6d4c60cc0d7e6caf14e79f3c94997aa18893", func := "loop.example/g00293/laws.FnExactCodeRead", spec := "fnExactCodeRead", unfollowed := true, recurses := true, apart := false }
def FnExactCodeReadSaid : Prop := fnExactCodeReadRow.holds Tryz.pinned (OpenSpec.ofChange fnExactCodeReadSpec)

/-- ITS FALSE NEIGHBOUR: 'it returns false'. Refute it at one input. -/
def fnExactCodeReadWrong : ChangeSpec := { name := "fnExactCodeRead", fn := fun _ => fun
  | [d] => { results := [.lit (.bool false)], args := [d] }
  | _ => none }
def FnExactCodeReadWrongFalsely : Prop := fnExactCodeReadRow.holds Tryz.pinned (OpenSpec.ofChange fnExactCodeReadWrong)

/-- 'laws.FnExactCapsOf': WHATEVER THE INPUT: true; the input reads as it did. -/
def fnExactCapsOfSpec : ChangeSpec := { name := "fnExactCapsOf", fn := fun _ => fun
  | [d] => { results := [.lit (.bool true)], args := [d] }
  | _ => none }
def fnExactCapsOfRow : OpenClaim := { program := "ytkaolpcfpnckcaagreat", sum := "891135f2d482f4ab738ed8c80d4e6d4c60cc0d7e6caf14e79f3c94997aa18893", func := "loop.example/g00293/laws.FnExactCapsOf", spec := "fnExactCapsOf", unfollowed := true, recurses := true, loops := true, apart := false }
def FnExactCapsOfSaid : Prop := fnExactCapsOfRow.holds Tryz.pinned (OpenSpec.ofChange fnExactCapsOfSpec)

/-- ITS FALSE NEIGHBOUR: 'it returns false'. Refute it at one input. -/
def fnExactCapsOfWrong : ChangeSpec := { name := "fnExactCapsOf", fn := fun _ => fun
  | [d] => { results := [.lit (.bool false)], args := [d] }
  | _ => none }
def FnExactCapsOfWrongFalsely : Prop := fnExactCapsOfRow.holds Tryz.pinned (OpenSpec.ofChange fnExactCapsOfWrong)

/- THE SECOND FORM. 'bulk': how many values and letters a reading holds, each counted each time it is reached (what is shared counts as often as it is met; a slice's spare places count too). A statement '..UptoSaid' is the law's where the arguments, and the package variables that the reading takes, are together of bulk at most 1048576: NARROWER than '..Said'. Prove '..Said' where nothing that the law and all that it calls make is longer than what came in: it says more and counts as full. Else prove '..UptoSaid'. A law counts once. -/
mutual
def uptoBulk {H : Type} : DataW H → Nat
  | .lit (.string bytes) => bytes.length + 1
  | .lit _ => 1
  | .nil => 1
  | .ptr d => uptoBulk d + 1
  | .slice elems spare => uptoBulkAll elems + uptoBulkAll spare + 1
  | .agg parts => uptoBulkAll parts + 1
  | .iface _ d => uptoBulk d + 1
  | .map entries => uptoBulkEntries entries + 1
  | .held _ => 1
def uptoBulkAll {H : Type} : List (DataW H) → Nat
  | [] => 0
  | d :: r => uptoBulk d + uptoBulkAll r
def uptoBulkEntries {H : Type} : List (Lit × DataW H) → Nat
  | [] => 0
  | x :: r => uptoBulkEntry x + uptoBulkEntries r
def uptoBulkEntry {H : Type} : Lit × DataW H → Nat
  | (.string bytes, d) => bytes.length + uptoBulk d + 1
  | (_, d) => uptoBulk d + 1
 end
def uptoSmall : (H : Type) → List (DataW H) → Bool := fun _ ds => decide (uptoBulkAll ds ≤ 1048576)
def OpenSpec.upto (s : _root_.Go.ChangeSpec) : _root_.Go.OpenSpec := { _root_.Go.OpenSpec.ofChange s with cond := some uptoSmall }

/-- 'laws.FnExactCodeBytes', WHERE WHAT IT READS IS OF BULK AT MOST 1048576: true; the input reads as it did. -/
def fnExactCodeBytesUptoRow : OpenClaim := { program := "ytkaolpcfpnckcaagreat", sum := "891135f2d482f4ab738ed8c80d4e6d4c60cc0d7e6caf14e79f3c94997aa18893", func := "loop.example/g00293/laws.FnExactCodeBytes", spec := "fnExactCodeBytes", unfollowed := true, recurses := true, loops := true, apart := false, narrowed := true }
def FnExactCodeBytesUptoSaid : Prop := fnExactCodeBytesUptoRow.holds Tryz.pinned (OpenSpec.upto fnExactCodeBytesSpec)

/-- 'laws.FnExactCodeRead', WHERE WHAT IT READS IS OF BULK AT MOST 1048576: true; the input reads as it did. -/
def fnExactCodeReadUptoRow : OpenClaim := { program := "ytkaolpcfpnckcaagreat", sum := "891135f2d482f4ab738ed8c80d4e6d4c60cc0d7e6caf14e79f3c94997aa18893", func := "loop.example/g00293/laws.FnExactCodeRead", spec := "fnExactCodeRead", unfollowed := true, recurses := true, apart := false, narrowed := true }
def FnExactCodeReadUptoSaid : Prop := fnExactCodeReadUptoRow.holds Tryz.pinned (OpenSpec.upto fnExactCodeReadSpec)

/-- 'laws.FnExactCapsOf', WHERE WHAT IT READS IS OF BULK AT MOST 1048576: true; the input reads as it did. -/
def fnExactCapsOfUptoRow : OpenClaim := { program := "ytkaolpcfpnckcaagreat", sum := "891135f2d482f4ab738ed8c80d4e6d4c60cc0d7e6caf14e79f3c94997aa18893", func := "loop.example/g00293/laws.FnExactCapsOf", spec := "fnExactCapsOf", unfollowed := true, recurses := true, loops := true, apart := false, narrowed := true }
def FnExactCapsOfUptoSaid : Prop := fnExactCapsOfUptoRow.holds Tryz.pinned (OpenSpec.upto fnExactCapsOfSpec)

end Rows
end Go.Proofs.YtkaolpcfpnckcaaGreat
