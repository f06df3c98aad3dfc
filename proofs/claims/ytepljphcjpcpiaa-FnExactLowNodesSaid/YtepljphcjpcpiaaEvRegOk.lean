/-
  The check of a region that draws its order.
-/
import Derived.Test.YtepljphcjpcpiaaEvDef
import Derived.Orders
set_option linter.unusedVariables false
set_option linter.unusedSimpArgs false
namespace Go.Ev
open Go

/-! Which operations surely come ahead of which -/
def maskOf (acc : List Nat) (es : List Edge) : Nat → Nat := es.foldl (fun f e => fun s => f (bif Region.binds .any e then (s ||| 2 ^ e.on) ||| acc.getD e.on 0 else s)) id

def fold1 (acc : List Nat) : List Edge → Nat → Nat
  | [], s => s
  | e :: es, s => fold1 acc es (bif Region.binds .any e then (s ||| 2 ^ e.on) ||| acc.getD e.on 0 else s)

def clos : List Oper → List Nat → List Nat
  | [], acc => acc
  | o :: r, acc => clos r (acc ++ [fold1 acc o.after.toList 0])

/-- The check of a region that draws its order, of which the first c operations write nothing. -/
def regOk (ops : Array Oper) (c : Nat) : Bool :=
  let l := ops.toList
  let b := clos l []
  Nat.ble c ops.size &&
  ((List.range ops.size).all fun i => match l[i]? with
    | none => true
    | some o => (o.after.toList.all fun e => !Region.binds .any e || Nat.blt e.on i) &&
      (bif Nat.ble c i then (List.range i).all fun j => (b.getD i 0).testBit j
       else (List.range c).all fun j => Nat.beq i j || match l[j]? with
        | none => true
        | some p => match p.dst with
          | none => true
          | some d => !(o.dst == some d) && (!(o.looksAt ops).contains d || (Nat.blt j i && (b.getD i 0).testBit j))))
end Go.Ev
