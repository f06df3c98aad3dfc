/-
  No cell of these rows narrows 'for every input' (looked for: loops, veiled, ifaces, maps, wideKeys, modest, calm, conditions, laid).
  DERIVED. THE GIVEN ROWS OF THIS SEAT. 8 by the template 'for every input the law returns true; each argument reads behind the call as it read before'; 0 by the template 'total and deterministic' (their statements: YtblaelhcgemdeaaTotals.lean).
  GIVEN WITH THE SEED: the statements are not yours to turn. If you find one false, say at which input.
  Laid BY PROGRAM, IN A SANDBOX (cutbox-rows.mjs): the forced cells as the released guide's own fill.sh prints them over the translation 70ac5ff99fa621d5… (all of the seat's roots in one cut). By AI agents, Wed Nov 11 2026. No macro, syntax, notation, axiom, sorry.
-/
import Derived.Test.YtblaelhcgemdeaaChecked
import GoSem.Claim
import GoSem.ClaimJoined
import GoSem.ClaimMapViews
import Derived.JoinedTies
import Derived.KernelRfl
namespace Go.Proofs.Ytblaelhcgemdeaa
/- THE CELL 'sum', in the pinned program and in every row, IS THE sha256 OF THE DUMP (.gsa) THAT YtblaelhcgemdeaaProg.lean LOADS. Nothing in Lean hashes anything: it is a label: what it is worth is what the hold of that sum in a sandbox is worth. -/
noncomputable def Try.pinned : Pinned := { name := "ytblaelhcgemdeaa", sum := "70ac5ff99fa621d529b4e701e5877d62fd7f733a5d11a63adb46939daad2b4c6", checked := Try.checked }
namespace Rows
def none {H : Type} : Left H := { results := [], args := [] }

/-- 'laws.FnExactHeapOk': WHATEVER THE INPUT: true; the input reads as it did. -/
def fnExactHeapOkSpec : ChangeSpec := { name := "fnExactHeapOk", fn := fun _ => fun
  | [d] => { results := [.lit (.bool true)], args := [d] }
  | _ => none }
def fnExactHeapOkRow : OpenClaim := { program := "ytblaelhcgemdeaa", sum := "70ac5ff99fa621d529b4e701e5877d62fd7f733a5d11a63adb46939daad2b4c6", func := "loop.example/g00293/laws.FnExactHeapOk", spec := "fnExactHeapOk", apart := false }
def FnExactHeapOkSaid : Prop := fnExactHeapOkRow.holds Try.pinned (OpenSpec.ofChange fnExactHeapOkSpec)

/-- ITS FALSE NEIGHBOUR: 'it returns false'. Refute it at one input. -/
def fnExactHeapOkWrong : ChangeSpec := { name := "fnExactHeapOk", fn := fun _ => fun
  | [d] => { results := [.lit (.bool false)], args := [d] }
  | _ => none }
def FnExactHeapOkWrongFalsely : Prop := fnExactHeapOkRow.holds Try.pinned (OpenSpec.ofChange fnExactHeapOkWrong)

/-- 'laws.FnExactHeapNew': WHATEVER THE INPUT: true; the input reads as it did. -/
def fnExactHeapNewSpec : ChangeSpec := { name := "fnExactHeapNew", fn := fun _ => fun
  | [d] => { results := [.lit (.bool true)], args := [d] }
  | _ => none }
def fnExactHeapNewRow : OpenClaim := { program := "ytblaelhcgemdeaa", sum := "70ac5ff99fa621d529b4e701e5877d62fd7f733a5d11a63adb46939daad2b4c6", func := "loop.example/g00293/laws.FnExactHeapNew", spec := "fnExactHeapNew", apart := false }
def FnExactHeapNewSaid : Prop := fnExactHeapNewRow.holds Try.pinned (OpenSpec.ofChange fnExactHeapNewSpec)

/-- ITS FALSE NEIGHBOUR: 'it returns false'. Refute it at one input. -/
def fnExactHeapNewWrong : ChangeSpec := { name := "fnExactHeapNew", fn := fun _ => fun
  | [d] => { results := [.lit (.bool false)], args := [d] }
  | _ => none }
def FnExactHeapNewWrongFalsely : Prop := fnExactHeapNewRow.holds Try.pinned (OpenSpec.ofChange fnExactHeapNewWrong)

/-- 'laws.FnExactHeapRoom': WHATEVER THE INPUT: true; the input reads as it did. -/
def fnExactHeapRoomSpec : ChangeSpec := { name := "fnExactHeapRoom", fn := fun _ => fun
  | [d] => { results := [.lit (.bool true)], args := [d] }
  | _ => none }
def fnExactHeapRoomRow : OpenClaim := { program := "ytblaelhcgemdeaa", sum := "70ac5ff99fa621d529b4e701e5877d62fd7f733a5d11a63adb46939daad2b4c6", func := "loop.example/g00293/laws.FnExactHeapRoom", spec := "fnExactHeapRoom", apart := false }
def FnExactHeapRoomSaid : Prop := fnExactHeapRoomRow.holds Try.pinned (OpenSpec.ofChange fnExactHeapRoomSpec)

/-- ITS FALSE NEIGHBOUR: 'it returns false'. Refute it at one input. -/
def fnExactHeapRoomWrong : ChangeSpec := { name := "fnExactHeapRoom", fn := fun _ => fun
  | [d] => { results := [.lit (.bool false)], args := [d] }
  | _ => none }
def FnExactHeapRoomWrongFalsely : Prop := fnExactHeapRoomRow.holds Try.pinned (OpenSpec.ofChange fnExactHeapRoomWrong)

/-- 'laws.FnExactLogInside': WHATEVER THE INPUT: true; the input reads as it did. -/
def fnExactLogInsideSpec : ChangeSpec := { name := "fnExactLogInside", fn := fun _ => fun
  | [d] => { results := [.lit (.bool true)], args := [d] }
  | _ => none }
def fnExactLogInsideRow : OpenClaim := { program := "ytblaelhcgemdeaa", sum := "70ac5ff99fa621d529b4e701e5877d62fd7f733a5d11a63adb46939daad2b4c6", func := "loop.example/g00293/laws.FnExactLogInside", spec := "fnExactLogInside", unfollowed := true, recurses := true, apart := false }
def FnExactLogInsideSaid : Prop := fnExactLogInsideRow.holds Try.pinned (OpenSpec.ofChange fnExactLogInsideSpec)

/-- ITS FALSE NEIGHBOUR: 'it returns false'. Refute it at one input. -/
def fnExactLogInsideWrong : ChangeSpec := { name := "fnExactLogInside", fn := fun _ => fun
  | [d] => { results := [.lit (.bool false)], args := [d] }
  | _ => none }
def FnExactLogInsideWrongFalsely : Prop := fnExactLogInsideRow.holds Try.pinned (OpenSpec.ofChange fnExactLogInsideWrong)

/-- 'laws.FnPlaces': WHATEVER THE INPUT: true; the input reads as it did. -/
def fnPlacesSpec : ChangeSpec := { name := "fnPlaces", fn := fun _ => fun
  | [d] => { results := [.lit (.bool true)], args := [d] }
  | _ => none }
def fnPlacesRow : OpenClaim := { program := "ytblaelhcgemdeaa", sum := "70ac5ff99fa621d529b4e701e5877d62fd7f733a5d11a63adb46939daad2b4c6", func := "loop.example/g00293/laws.FnPlaces", spec := "fnPlaces", apart := false }
def FnPlacesSaid : Prop := fnPlacesRow.holds Try.pinned (OpenSpec.ofChange fnPlacesSpec)

/-- ITS FALSE NEIGHBOUR: 'it returns false'. Refute it at one input. -/
def fnPlacesWrong : ChangeSpec := { name := "fnPlaces", fn := fun _ => fun
  | [d] => { results := [.lit (.bool false)], args := [d] }
  | _ => none }
def FnPlacesWrongFalsely : Prop := fnPlacesRow.holds Try.pinned (OpenSpec.ofChange fnPlacesWrong)

/-- 'laws.FnExactAlloc': WHATEVER THE INPUT: true; the input reads as it did. -/
def fnExactAllocSpec : ChangeSpec := { name := "fnExactAlloc", fn := fun _ => fun
  | [d1, d2] => { results := [.lit (.bool true)], args := [d1, d2] }
  | _ => none }
def fnExactAllocRow : OpenClaim := { program := "ytblaelhcgemdeaa", sum := "70ac5ff99fa621d529b4e701e5877d62fd7f733a5d11a63adb46939daad2b4c6", func := "loop.example/g00293/laws.FnExactAlloc", spec := "fnExactAlloc", apart := false }
def FnExactAllocSaid : Prop := fnExactAllocRow.holds Try.pinned (OpenSpec.ofChange fnExactAllocSpec)

/-- ITS FALSE NEIGHBOUR: 'it returns false'. Refute it at one input. -/
def fnExactAllocWrong : ChangeSpec := { name := "fnExactAlloc", fn := fun _ => fun
  | [d1, d2] => { results := [.lit (.bool false)], args := [d1, d2] }
  | _ => none }
def FnExactAllocWrongFalsely : Prop := fnExactAllocRow.holds Try.pinned (OpenSpec.ofChange fnExactAllocWrong)

/-- 'laws.FnExactLoad': WHATEVER THE INPUT: true; the input reads as it did. -/
def fnExactLoadSpec : ChangeSpec := { name := "fnExactLoad", fn := fun _ => fun
  | [d1, d2, d3] => { results := [.lit (.bool true)], args := [d1, d2, d3] }
  | _ => none }
def fnExactLoadRow : OpenClaim := { program := "ytblaelhcgemdeaa", sum := "70ac5ff99fa621d529b4e701e5877d62fd7f733a5d11a63adb46939daad2b4c6", func := "loop.example/g00293/laws.FnExactLoad", spec := "fnExactLoad", apart := false }
def FnExactLoadSaid : Prop := fnExactLoadRow.holds Try.pinned (OpenSpec.ofChange fnExactLoadSpec)

/-- ITS FALSE NEIGHBOUR: 'it returns false'. Refute it at one input. -/
def fnExactLoadWrong : ChangeSpec := { name := "fnExactLoad", fn := fun _ => fun
  | [d1, d2, d3] => { results := [.lit (.bool false)], args := [d1, d2, d3] }
  | _ => none }
def FnExactLoadWrongFalsely : Prop := fnExactLoadRow.holds Try.pinned (OpenSpec.ofChange fnExactLoadWrong)

/-- 'laws.FnExactStore': WHATEVER THE INPUT: true; the input reads as it did. -/
def fnExactStoreSpec : ChangeSpec := { name := "fnExactStore", fn := fun _ => fun
  | [d1, d2, d3, d4] => { results := [.lit (.bool true)], args := [d1, d2, d3, d4] }
  | _ => none }
def fnExactStoreRow : OpenClaim := { program := "ytblaelhcgemdeaa", sum := "70ac5ff99fa621d529b4e701e5877d62fd7f733a5d11a63adb46939daad2b4c6", func := "loop.example/g00293/laws.FnExactStore", spec := "fnExactStore", apart := false }
def FnExactStoreSaid : Prop := fnExactStoreRow.holds Try.pinned (OpenSpec.ofChange fnExactStoreSpec)

/-- ITS FALSE NEIGHBOUR: 'it returns false'. Refute it at one input. -/
def fnExactStoreWrong : ChangeSpec := { name := "fnExactStore", fn := fun _ => fun
  | [d1, d2, d3, d4] => { results := [.lit (.bool false)], args := [d1, d2, d3, d4] }
  | _ => none }
def FnExactStoreWrongFalsely : Prop := fnExactStoreRow.holds Try.pinned (OpenSpec.ofChange fnExactStoreWrong)

/- THE SECOND FORM. 'bulk': how many values and letters a reading holds, each counted each time it is reached (what is shared counts as often as it is met; a slice's spare places count too). A statement '..UptoSaid' is the law's where the arguments, and the package variables that the reading takes, are together of bulk at most 1048576: NARROWER than '..Said'. Prove '..Said' where nothing that the law and all that it calls make is longer than what came in: it says more and counts as full. Else prove '..UptoSaid'. A law counts once. -/
mutual
def uptoBulk {H : Type} : DataW H → Nat
  | .lit (.string bytes) => bytes.length + 1
  | .lit _ => 1
  | .nil => 1
  | .ptr d => uptoBulk d + 1
  | .slice elems spare => uptoBulkAll elems + uptoBulkAll spare + 1
  | .agg parts => uptoBulkAll parts + 1
  | .iface _ d => uptoBulk d + 1
  | .map entries => uptoBulkEntries entries + 1
  | .held _ => 1
def uptoBulkAll {H : Type} : List (DataW H) → Nat
  | [] => 0
  | d :: r => uptoBulk d + uptoBulkAll r
def uptoBulkEntries {H : Type} : List (Lit × DataW H) → Nat
  | [] => 0
  | x :: r => uptoBulkEntry x + uptoBulkEntries r
def uptoBulkEntry {H : Type} : Lit × DataW H → Nat
  | (.string bytes, d) => bytes.length + uptoBulk d + 1
  | (_, d) => uptoBulk d + 1
 end
def uptoSmall : (H : Type) → List (DataW H) → Bool := fun _ ds => decide (uptoBulkAll ds ≤ 1048576)
def OpenSpec.upto (s : _root_.Go.ChangeSpec) : _root_.Go.OpenSpec := { _root_.Go.OpenSpec.ofChange s with cond := some uptoSmall }

/-- 'laws.FnExactHeapOk', WHERE WHAT IT READS IS OF BULK AT MOST 1048576: true; the input reads as it did. -/
def fnExactHeapOkUptoRow : OpenClaim := { program := "ytblaelhcgemdeaa", sum := "70ac5ff99fa621d529b4e701e5877d62fd7f733a5d11a63adb46939daad2b4c6", func := "loop.example/g00293/laws.FnExactHeapOk", spec := "fnExactHeapOk", apart := false, narrowed := true }
def FnExactHeapOkUptoSaid : Prop := fnExactHeapOkUptoRow.holds Try.pinned (OpenSpec.upto fnExactHeapOkSpec)

/-- 'laws.FnExactHeapNew', WHERE WHAT IT READS IS OF BULK AT MOST 1048576: true; the input reads as it did. -/
def fnExactHeapNewUptoRow : OpenClaim := { program := "ytblaelhcgemdeaa", sum := "70ac5ff99fa621d529b4e701e5877d62fd7f733a5d11a63adb46939daad2b4c6", func := "loop.example/g00293/laws.FnExactHeapNew", spec := "fnExactHeapNew", apart := false, narrowed := true }
def FnExactHeapNewUptoSaid : Prop := fnExactHeapNewUptoRow.holds Try.pinned (OpenSpec.upto fnExactHeapNewSpec)

/-- 'laws.FnExactHeapRoom', WHERE WHAT IT READS IS OF BULK AT MOST 1048576: true; the input reads as it did. -/
def fnExactHeapRoomUptoRow : OpenClaim := { program := "ytblaelhcgemdeaa", sum := "70ac5ff99fa621d529b4e701e5877d62fd7f733a5d11a63adb46939daad2b4c6", func := "loop.example/g00293/laws.FnExactHeapRoom", spec := "fnExactHeapRoom", apart := false, narrowed := true }
def FnExactHeapRoomUptoSaid : Prop := fnExactHeapRoomUptoRow.holds Try.pinned (OpenSpec.upto fnExactHeapRoomSpec)

/-- 'laws.FnExactLogInside', WHERE WHAT IT READS IS OF BULK AT MOST 1048576: true; the input reads as it did. -/
def fnExactLogInsideUptoRow : OpenClaim := { program := "ytblaelhcgemdeaa", sum := "70ac5ff99fa621d529b4e701e5877d62fd7f733a5d11a63adb46939daad2b4c6", func := "loop.example/g00293/laws.FnExactLogInside", spec := "fnExactLogInside", unfollowed := true, recurses := true, apart := false, narrowed := true }
def FnExactLogInsideUptoSaid : Prop := fnExactLogInsideUptoRow.holds Try.pinned (OpenSpec.upto fnExactLogInsideSpec)

/-- 'laws.FnPlaces', WHERE WHAT IT READS IS OF BULK AT MOST 1048576: true; the input reads as it did. -/
def fnPlacesUptoRow : OpenClaim := { program := "ytblaelhcgemdeaa", sum := "70ac5ff99fa621d529b4e701e5877d62fd7f733a5d11a63adb46939daad2b4c6", func := "loop.example/g00293/laws.FnPlaces", spec := "fnPlaces", apart := false, narrowed := true }
def FnPlacesUptoSaid : Prop := fnPlacesUptoRow.holds Try.pinned (OpenSpec.upto fnPlacesSpec)

/-- 'laws.FnExactAlloc', WHERE WHAT IT READS IS OF BULK AT MOST 1048576: true; the input reads as it did. -/
def fnExactAllocUptoRow : OpenClaim := { program := "ytblaelhcgemdeaa", sum := "70ac5ff99fa621d529b4e701e5877d62fd7f733a5d11a63adb46939daad2b4c6", func := "loop.example/g00293/laws.FnExactAlloc", spec := "fnExactAlloc", apart := false, narrowed := true }
def FnExactAllocUptoSaid : Prop := fnExactAllocUptoRow.holds Try.pinned (OpenSpec.upto fnExactAllocSpec)

/-- 'laws.FnExactLoad', WHERE WHAT IT READS IS OF BULK AT MOST 1048576: true; the input reads as it did. -/
def fnExactLoadUptoRow : OpenClaim := { program := "ytblaelhcgemdeaa", sum := "70ac5ff99fa621d529b4e701e5877d62fd7f733a5d11a63adb46939daad2b4c6", func := "loop.example/g00293/laws.FnExactLoad", spec := "fnExactLoad", apart := false, narrowed := true }
def FnExactLoadUptoSaid : Prop := fnExactLoadUptoRow.holds Try.pinned (OpenSpec.upto fnExactLoadSpec)

/-- 'laws.FnExactStore', WHERE WHAT IT READS IS OF BULK AT MOST 1048576: true; the input reads as it did. -/
def fnExactStoreUptoRow : OpenClaim := { program := "ytblaelhcgemdeaa", sum := "70ac5ff99fa621d529b4e701e5877d62fd7f733a5d11a63adb46939daad2b4c6", func := "loop.example/g00293/laws.FnExactStore", spec := "fnExactStore", apart := false, narrowed := true }
def FnExactStoreUptoSaid : Prop := fnExactStoreUptoRow.holds Try.pinned (OpenSpec.upto fnExactStoreSpec)

end Rows
end Go.Proofs.Ytblaelhcgemdeaa
