import Derived.Test.YtkgabahlbmonfaaDoorEvDef
import Derived.Orders
set_option linter.unusedVariables false
set_option linter.unusedSimpArgs false
/-
  The check of a region that draws its order.
-/
namespace Go.Ev
open Go

/-! Which operations surely come ahead of which -/
def maskOf (acc : List Nat) (es : List Edge) : Nat → Nat := es.foldl (fun f e => fun s => f (bif Region.binds .any e then (s ||| 2 ^ e.on) ||| acc.getD e.on 0 else s)) id

def fold1 (acc : List Nat) : List Edge → Nat → Nat
  | [], s => s
  | e :: es, s => fold1 acc es (bif Region.binds .any e then (s ||| 2 ^ e.on) ||| acc.getD e.on 0 else s)

def clos : List Oper → List Nat → List Nat
  | [], acc => acc
  | o :: r, acc => clos r (acc ++ [fold1 acc o.after.toList 0])

/-- Copies and places of fields: they may be taken first. -/
def rKind : Op → Bool
  | .move _ => true
  | .fieldAddr _ _ _ => true
  | .nilCheck _ => true
  | _ => false

/-- Taken one by one, each may be taken first. -/
def rOk (ops : Array Oper) : Array Bool → List Nat → Bool
  | _, [] => true
  | listed, i :: r => (match ops[i]? with
      | some o => rKind o.op && (o.guard.isNone && (o.dst.isSome && ((Region.ready .any ops listed).contains i && Region.free .any ops listed i)))
      | none => false) && rOk ops (listed.setIfInBounds i true) r

/-- Those listed behind some operations. -/
def lsts (n : Nat) (l : List Nat) : Array Bool := l.foldl (fun a i => a.setIfInBounds i true) (Array.replicate n false)

/-- A copy or place that may be taken first of all that is left. -/
def fOk (ops : Array Oper) (p : List Nat) (x : Nat) : Bool := rOk ops (lsts ops.size (p.take x)) [p.getD x 0]

/-- The check of a region that draws its order: p is an order of all operations; the first nr are copies and places, the next nm write over nothing; gs: which of these add entries. -/
def regOk (ops : Array Oper) (p : List Nat) (nr nm : Nat) (gs : List Nat) : Bool :=
  let l := ops.toList
  let b := clos l []
  let c := nr + nm
  Nat.beq p.length ops.size && (((List.range ops.size).all fun i => (idx p i).isSome) && (nodupB p && ((p.all fun i => Nat.blt i ops.size) && (Nat.ble c p.length && (Region.noSelect ops &&
  (rOk ops (Array.replicate ops.size false) (p.take nr) &&
  (((List.range ops.size).all fun i => match l[i]? with
    | none => true
    | some o => o.after.toList.all fun e => !Region.binds .any e || Nat.blt e.on i) &&
  ((List.range p.length).all fun x => match p[x]? with
    | none => true
    | some i => match l[i]? with
      | none => true
      | some o => bif Nat.ble c x then ((List.range x).all fun y => Nat.blt y nr || match p[y]? with | some j => (b.getD i 0).testBit j || (Nat.ble c y && fOk ops p y) | none => true)
        else (List.range c).all fun y => Nat.beq x y || match p[y]? with
          | none => true
          | some j => match l[j]? with
            | none => true
            | some q => (match q.dst with
              | none => true
              | some d => !(o.dst == some d) && (!(o.looksAt ops).contains d || (Nat.blt y x && (Nat.blt y nr || (b.getD i 0).testBit j)))) &&
              (!(Nat.blt y x && (Nat.ble nr x && (match idx gs j with | some _ => true | none => false))) || (b.getD i 0).testBit j)))))))))

/-- The check of a region that draws its order, with operations that only read told at one place (fl) and checked at others (ck). -/
def regOkF (ops : Array Oper) (p : List Nat) (nr : Nat) (fl : List Nat) (ck : List (Nat × List Nat)) : Bool :=
  let l := ops.toList
  let b := clos l []
  Nat.beq p.length ops.size && (((List.range ops.size).all fun i => (idx p i).isSome) && (nodupB p && ((p.all fun i => Nat.blt i ops.size) && (Nat.ble (nr + 0) p.length && (Region.noSelect ops &&
  (rOk ops (Array.replicate ops.size false) (p.take nr) &&
  (((List.range ops.size).all fun i => match l[i]? with
    | none => true
    | some o => o.after.toList.all fun e => !Region.binds .any e || Nat.blt e.on i) &&
  ((List.range p.length).all fun x => match p[x]? with
    | none => true
    | some i => match l[i]? with
      | none => true
      | some o => ((isFl fl i || Nat.blt x nr || !nilOp o.op) && (!isFl fl i || (Nat.ble nr x && (o.guard.isNone && match o.dst with | some d => !(o.looksAt ops).contains d | none => false)))) &&
        ((List.range p.length).all fun y => Nat.beq x y || match p[y]? with
          | none => true
          | some j => match l[j]? with
            | none => true
            | some q =>
              (!(Nat.blt x nr && Nat.blt y nr) || (match q.dst with
                | none => true
                | some d => !(o.dst == some d) && (!(o.looksAt ops).contains d || Nat.blt y x))) &&
              ((!isFl fl j || (match q.dst with
                | none => false
                | some d => !(o.dst == some d) && (!(o.looksAt ops).contains d || ((b.getD i 0).testBit j && Nat.blt y x)))) &&
              ((!(Nat.ble nr y && Nat.blt y x) || (bif isFl fl i then isFl fl j || ((b.getD i 0).testBit j || (idx (ckAt ck j) i).isSome) else (b.getD i 0).testBit j)) &&
              (!(Nat.blt y x && (idx (ckAt ck j) i).isSome) || isFl fl i))))))))))))
end Go.Ev
