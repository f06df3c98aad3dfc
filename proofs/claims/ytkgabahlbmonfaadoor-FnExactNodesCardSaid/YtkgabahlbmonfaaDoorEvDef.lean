import Derived.Calls
import Derived.Below
import Derived.Lib.SlicesCompact
import Derived.Lib.Fields
import Derived.Lib.ItoaNum
set_option linter.unusedVariables false
set_option linter.unusedSimpArgs false
/-
  What functions of the program compute, told by an evaluator without a heap: data by value, variables and rows of one's own in a small store.
-/
namespace Go.Ev
open Go

/-- Data that nobody writes any more. A slice: is its room just its length; an element's cells; how many elements; the elements' cells. -/
inductive D where
  | int (k : IntKind) (n : Int)
  | bool (b : Bool)
  | str (s : ByteArray)
  | sl (full : Bool) (sz n : Nat) (es : List (List D))

/-- What a slot holds. own: a row of one's own, whole; ref: a part of one; ptr: a cell of a variable; ep: a cell of an element of a row; rp: a cell of an element of what nobody writes; kb: a bool that is known on this way. -/
inductive V where
  | undef
  | d (x : D)
  | kb (b : Bool)
  | agg (vs : List V)
  | tup (vs : List V)
  | own (id : Nat)
  | ref (id off n : Nat)
  | ptr (id off : Nat)
  | ep (id i j : Nat)
  | rp (c : List D) (j : Nat)
  | fn (f : FuncId) (caps : List V)

/-- What the store holds: a variable's cells; a row: an element's size, how many elements, is it also data, was it laid anew, the elements' cells; lrow: a row that all its trees belong to, which no data is; hole: such a row of which one cell holds v (what es tells there counts for nothing). -/
inductive Ent where
  | box (cs : List V)
  | row (sz n : Nat) (fz mv : Bool) (es : List (List D))
  | lrow (sz n : Nat) (mv : Bool) (es : List (List D))
  | hole (sz n : Nat) (mv : Bool) (es : List (List D)) (i j : Nat) (v : V)

inductive Ex where
  | norm
  | ex (id : Nat)
  | ret

abbrev Mem := List Ent
abbrev Env := List (Nat × V)

/-- The form of one cell: its part that varies is told by its own type. -/
inductive LS where
  | int (k : IntKind) | bool | str
  | sl (sz : Nat)
  | own (i : Nat)
  | ptr (i o : Nat)
  | undef

inductive MS where
  | one (s : LS)
  | agg (l : List LS)
  | fn (f : FuncId) (l : List LS)

/-- The form of what a function returns. -/
inductive Sh where
  | m (s : MS)
  | tup (l : List MS)

/-- The form of an entry. -/
inductive ES where
  | box (l : List LS)
  | row (sz : Nat) (fz mv : Bool)
  | lrow (sz : Nat) (mv : Bool)

inductive TK where
  | int (k : IntKind) | bool | str
  | sl (el : TypeId)
  | st (fs : List (Nat × TypeId))
  | other

def TK.isSl : TK → Bool
  | .sl _ => true
  | _ => false

/-- What is asked of a type. -/
structure TI where
  size : Nat
  bytes : Nat
  agg : Bool
  kind : TK
  zero : List V
  sh : List LS

/-- What is done where ways meet and at a loop's head: slots that become rows (with their elements' size), cells of variables that become rows; which slots live on; which rows are told as data, as laid anew; which slots' rows stand for rows that were handed over. -/
structure Norm where
  id : Nat
  own : List (Nat × Nat)
  ownc : List (Nat × Nat × Nat)
  live : List Nat
  weak : List (Nat × Bool × Bool)
  back : List (Nat × Nat)

inductive Ann where
  | o
  | s (a b : Ann)
  | j (N : Norm) (a b : Ann)
  | l (N : Norm) (a : Ann)
  | b (a : Ann)
  | r (p : List Nat) (nr nm : Nat) (gs : List Nat)
  | f (p : List Nat) (nr : Nat) (fl : List Nat) (ck : List (Nat × List Nat))

/-- A function of the library that is known by what it does: it sorts a row of numbers; it leaves one of each run of equal numbers. -/
inductive Con where
  | sortI
  | compactI
  | fieldsC
  | itoaC

/-- raw: which arguments stay as they are; aown: which nil cells of arguments become rows (argument, cell, elements' size); rawr, rown: the same of results; rs: the results' form; back: results (and their cells) whose rows stand for rows that were handed over; lin: the rows with trees that it makes belong to nobody else; lend: rows with their trees are lent to it; ms: the rows' forms behind the call; fs: the forms of new entries. -/
structure FnI where
  fn : Func
  body : Code
  raw : List Bool
  aown : List (Nat × Nat × Nat)
  rawr : Bool
  rown : List (Nat × Nat × Nat)
  rs : Sh
  ms : List ES
  fs : List ES
  back : List (Nat × Nat × Nat)
  lin : Bool
  lend : Bool
  con : Option Con
  ann : Ann

structure Cx where
  ty : List (Nat × TI)
  fns : List (Nat × FnI)
  lin : Bool := false

/-- The table as a function's own text sees it. -/
def Cx.at (cx : Cx) (F : FnI) : Cx := ⟨cx.ty, cx.fns, F.lin⟩

def LS.T : LS → Type
  | .int _ => Int
  | .bool => Bool
  | .str => ByteArray
  | .sl _ => Nat × List (List D)
  | _ => Unit
def LS.enc : (s : LS) → s.T → V
  | .int k, n => .d (.int k n)
  | .bool, b => .d (.bool b)
  | .str, b => .d (.str b)
  | .sl sz, t => .d (.sl false sz t.1 t.2)
  | .own i, _ => .own i
  | .ptr i o, _ => .ptr i o
  | .undef, _ => .undef
def LS.dec : (s : LS) → V → Option s.T
  | .int k, v => match v with
    | .d (.int k' n) => if k' = k then some n else none
    | _ => none
  | .bool, v => match v with
    | .d (.bool b) => some b
    | .kb b => some b
    | _ => none
  | .str, v => match v with
    | .d (.str b) => some b
    | _ => none
  | .sl sz, v => match v with
    | .d (.sl _ sz' n es) => bif Nat.beq sz' sz then some (n, es) else none
    | _ => none
  | .own i, v => match v with
    | .own i' => bif Nat.beq i' i then some () else none
    | _ => none
  | .ptr i o, v => match v with
    | .ptr i' o' => bif Nat.beq i' i && Nat.beq o' o then some () else none
    | _ => none
  | .undef, _ => some ()

def LS.Ts : List LS → Type
  | [] => Unit
  | s :: l => s.T × Ts l
def LS.encs : (l : List LS) → LS.Ts l → List V
  | [], _ => []
  | s :: l, t => s.enc t.1 :: encs l t.2
def LS.decs : (l : List LS) → List V → Option (LS.Ts l)
  | [], vs => match vs with
    | [] => some ()
    | _ => none
  | s :: l, vs => match vs with
    | v :: vs => match s.dec v, decs l vs with
      | some t, some ts => some (t, ts)
      | _, _ => none
    | _ => none

def MS.T : MS → Type
  | .one s => s.T
  | .agg l => LS.Ts l
  | .fn _ l => LS.Ts l
def MS.enc : (s : MS) → s.T → V
  | .one s, t => s.enc t
  | .agg l, t => .agg (LS.encs l t)
  | .fn f l, t => .fn f (LS.encs l t)
def MS.dec : (s : MS) → V → Option s.T
  | .one s, v => s.dec v
  | .agg l, v => match v with
    | .agg vs => LS.decs l vs
    | _ => none
  | .fn f l, v => match v with
    | .fn f' vs => bif Nat.beq f' f then LS.decs l vs else none
    | _ => none
def MS.Ts : List MS → Type
  | [] => Unit
  | s :: l => s.T × Ts l
def MS.encs : (l : List MS) → MS.Ts l → List V
  | [], _ => []
  | s :: l, t => s.enc t.1 :: encs l t.2
def MS.decs : (l : List MS) → List V → Option (MS.Ts l)
  | [], vs => match vs with
    | [] => some ()
    | _ => none
  | s :: l, vs => match vs with
    | v :: vs => match s.dec v, decs l vs with
      | some t, some ts => some (t, ts)
      | _, _ => none
    | _ => none

def Sh.T : Sh → Type
  | .m s => s.T
  | .tup l => MS.Ts l
def Sh.enc : (s : Sh) → s.T → V
  | .m s, t => s.enc t
  | .tup l, t => .tup (MS.encs l t)
def Sh.dec : (s : Sh) → V → Option s.T
  | .m s, v => s.dec v
  | .tup l, v => match v with
    | .tup vs => MS.decs l vs
    | _ => none

def ES.T : ES → Type
  | .box l => LS.Ts l
  | .row _ _ _ => Nat × List (List D)
  | .lrow _ _ => Nat × List (List D)
def ES.Ts : List ES → Type
  | [] => Unit
  | s :: l => s.T × Ts l
def ES.enc : (s : ES) → s.T → Ent
  | .box l, t => .box (LS.encs l t)
  | .row sz fz mv, t => .row sz t.1 fz mv t.2
  | .lrow sz mv, t => .lrow sz t.1 mv t.2
def ES.encs : (l : List ES) → ES.Ts l → Mem
  | [], _ => []
  | s :: l, t => s.enc t.1 :: encs l t.2
/-- A row may be told as more data, as laid anew, than it was. -/
def ES.dec : (s : ES) → Ent → Option s.T
  | .box l, e => match e with
    | .box vs => LS.decs l vs
    | _ => none
  | .row sz fz mv, e => match e with
    | .row sz' n fz' mv' es => bif Nat.beq sz' sz && ((fz || !fz') && (mv || !mv')) then some (n, es) else none
    | _ => none
  | .lrow sz mv, e => match e with
    | .lrow sz' n mv' es => bif Nat.beq sz' sz && (mv || !mv') then some (n, es) else none
    | _ => none
def ES.decs : (l : List ES) → Mem → Option (ES.Ts l)
  | [], M => match M with
    | [] => some ()
    | _ => none
  | s :: l, M => match M with
    | e :: M => match s.dec e, decs l M with
      | some t, some ts => some (t, ts)
      | _, _ => none
    | _ => none

/-- Numbers of new entries: from 1000 on they are counted from n. -/
def shN (n i : Nat) : Nat := bif Nat.ble 1000 i then i - 1000 + n else i
def LS.sh (n : Nat) : LS → LS
  | .own i => .own (shN n i)
  | .ptr i o => .ptr (shN n i) o
  | s => s
def MS.sh (n : Nat) : MS → MS
  | .one s => .one (s.sh n)
  | .agg l => .agg (l.map (LS.sh n))
  | .fn f l => .fn f (l.map (LS.sh n))
def Sh.sh (n : Nat) : Sh → Sh
  | .m s => .m (s.sh n)
  | .tup l => .tup (l.map (MS.sh n))
def ES.sh (n : Nat) : ES → ES
  | .box l => .box (l.map (LS.sh n))
  | s => s

def LS.isD : LS → Bool
  | .own _ => false
  | .ptr _ _ => false
  | .undef => false
  | _ => true
def LS.alld : List LS → Bool
  | [] => true
  | s :: l => s.isD && alld l

/-- Cells in which no list stands. -/
def LS.isF : LS → Bool
  | .int _ => true
  | .bool => true
  | .str => true
  | _ => false
def LS.allf : List LS → Bool
  | [] => true
  | s :: l => s.isF && allf l
/-- Data in which no list stands. -/
def D.flat : D → Bool
  | .sl _ _ _ _ => false
  | _ => true
def flatL : List D → Bool
  | [] => true
  | x :: xs => x.flat && flatL xs
def flatEs : List (List D) → Bool
  | [] => true
  | c :: es => flatL c && flatEs es

/-- Rows in which no list stands. -/
def flatR (es : List (List D)) : Bool := flatEs es

/-- Cells that are data. -/
def LS.decD : (l : List LS) → List D → Option (LS.Ts l)
  | [], xs => match xs with
    | [] => some ()
    | _ => none
  | s :: l, xs => match xs with
    | x :: xs => match s.dec (.d x), decD l xs with
      | some t, some ts => some (t, ts)
      | _, _ => none
    | _ => none
def vD : V → D
  | .d x => x
  | _ => .bool false
def vDs : List V → List D
  | [] => []
  | v :: vs => vD v :: vDs vs

def find {α : Type} : List (Nat × α) → Nat → Option α
  | [], _ => none
  | (m, a) :: r, n => bif Nat.beq m n then some a else find r n

def getE (e : Env) (t : Nat) : V := match find e t with | some v => v | none => .undef

/-! What is told at once, so that it is not told again and again -/
def fNat {α : Type} (n : Nat) (f : Nat → α) : α := match n with
  | 0 => f 0 | 1 => f 1 | 2 => f 2 | 3 => f 3 | 4 => f 4 | 5 => f 5 | 6 => f 6 | 7 => f 7 | 8 => f 8 | 9 => f 9 | 10 => f 10 | 11 => f 11 | 12 => f 12 | 13 => f 13 | 14 => f 14 | 15 => f 15
  | n => f n
def fBool {α : Type} (b : Bool) (f : Bool → α) : α := match b with
  | true => f true
  | false => f false
def fD {α : Type} (x : D) (f : D → α) : α := match x with
  | .int k n => f (.int k n)
  | .bool b => f (.bool b)
  | .str s => f (.str s)
  | .sl b sz n es => f (.sl b sz n es)
def fV {α : Type} (v : V) (f : V → α) : α := match v with
  | .undef => f .undef
  | .d x => fD x fun x => f (.d x)
  | .kb b => fBool b fun b => f (.kb b)
  | .agg vs => go vs fun vs => f (.agg vs)
  | .tup vs => go vs fun vs => f (.tup vs)
  | .own i => fNat i fun i => f (.own i)
  | .ref i o n => fNat i fun i => f (.ref i o n)
  | .ptr i o => fNat i fun i => fNat o fun o => f (.ptr i o)
  | .ep i a b => fNat i fun i => fNat b fun b => f (.ep i a b)
  | .rp c j => fNat j fun j => f (.rp c j)
  | .fn g vs => go vs fun vs => f (.fn g vs)
where go (vs : List V) (f : List V → α) : α := match vs with
  | [] => f []
  | v :: vs => fV v fun v => go vs fun vs => f (v :: vs)
def fM {α : Type} (M : Mem) (f : Mem → α) : α := match M with
  | [] => f []
  | .box cs :: M => fV.go cs fun cs => fM M fun M => f (.box cs :: M)
  | .row sz n fz mv es :: M => fBool fz fun fz => fBool mv fun mv => fM M fun M => f (.row sz n fz mv es :: M)
  | .lrow sz n mv es :: M => fBool mv fun mv => fM M fun M => f (.lrow sz n mv es :: M)
  | .hole sz n mv es i j v :: M => fBool mv fun mv => fV v fun v => fM M fun M => f (.hole sz n mv es i j v :: M)

def fE {α : Type} (e : Env) (f : Env → α) : α := match e with
  | [] => f []
  | (t, v) :: e => fV v fun v => fE e fun e => f ((t, v) :: e)

theorem fNat_eq {α : Type} (n : Nat) (f : Nat → α) : fNat n f = f n := by
  unfold fNat; split <;> rfl
theorem fBool_eq {α : Type} (b : Bool) (f : Bool → α) : fBool b f = f b := by cases b <;> rfl
theorem fD_eq {α : Type} (x : D) (f : D → α) : fD x f = f x := by cases x <;> rfl
mutual
theorem fV_eq {α : Type} (v : V) (f : V → α) : fV v f = f v := by
  cases v with
  | undef => rfl
  | d x => simp only [fV, fD_eq]
  | kb b => simp only [fV, fBool_eq]
  | agg vs => simp only [fV]; rw [fVs_eq vs]
  | tup vs => simp only [fV]; rw [fVs_eq vs]
  | own i => simp only [fV, fNat_eq]
  | ref i o n => simp only [fV, fNat_eq]
  | ptr i o => simp only [fV, fNat_eq]
  | ep i a b => simp only [fV, fNat_eq]
  | rp c j => simp only [fV, fNat_eq]
  | fn g vs => simp only [fV]; rw [fVs_eq vs]
theorem fVs_eq {α : Type} (vs : List V) (f : List V → α) : fV.go vs f = f vs := by
  cases vs with
  | nil => rfl
  | cons v vs => simp only [fV.go]; rw [fV_eq v, fVs_eq vs]
end
theorem fM_eq {α : Type} : ∀ (M : Mem) (f : Mem → α), fM M f = f M
  | [], _ => rfl
  | .box cs :: M, f => by simp only [fM, fVs_eq]; rw [fM_eq M]
  | .row sz n fz mv es :: M, f => by simp only [fM, fBool_eq]; rw [fM_eq M]
  | .lrow sz n mv es :: M, f => by simp only [fM, fBool_eq]; rw [fM_eq M]
  | .hole sz n mv es i j v :: M, f => by simp only [fM, fBool_eq, fV_eq]; rw [fM_eq M]
theorem fE_eq {α : Type} : ∀ (e : Env) (f : Env → α), fE e f = f e
  | [], _ => rfl
  | (t, v) :: e, f => by simp only [fE, fV_eq]; rw [fE_eq e]

section
variable {R : Type}
def oguard (c : Bool) (x : Option R) : Option R := bif c then x else none
def oite (b : Bool) (x y : Option R) : Option R := bif b then x else y
def obind {α : Type} (x : Option α) (f : α → Option R) : Option R := x.bind f
def olet {α : Type} (x : α) (f : α → Option R) : Option R := f x
/-- What a callee returned, in its form. -/
def ocall (s : Sh) (m : List ES) (x : Option (V × Mem)) (f : s.T → ES.Ts m → Option R) : Option R :=
  match x with
  | some (v, M) => match s.dec v, ES.decs m M with
    | some t, some u => f t u
    | _, _ => none
  | none => none
/-- Bytes, one a cell. -/
def bytesD : List (List D) → Option (List UInt8)
  | [] => some []
  | c :: r => match c with
    | [x] => match x with
      | .int .u8 n => match bytesD r with
        | some l => some (UInt8.ofNat n.toNat :: l)
        | none => none
      | _ => none
    | _ => none
/-- A text out of bytes. -/
def ostr (es : List (List D)) (f : ByteArray → Option R) : Option R := match bytesD es with
  | some l => f ⟨l.toArray⟩
  | none => none
/-- What goes on behind a test whether a list is nil: of an empty one nobody knows. -/
noncomputable def onil (n : Nat) (x y : Option R) : Option R := open Classical in if n = 0 then (if x = y then x else none) else y
/-- Cells of an element, in their form. -/
def ocells (l : List LS) (c : List D) (f : LS.Ts l → Option R) : Option R :=
  match LS.decD l c with
  | some t => f t
  | none => none
/-- An element. -/
def oat (l : List LS) (n : Nat) (es : List (List D)) (i : Int) (f : LS.Ts l → Option R) : Option R :=
  bif decide (0 ≤ i ∧ i < n) then (match LS.decD l (es.getD i.toNat []) with
    | some t => f t
    | none => none) else none
end

/-! Lists of values -/
def V.cells : V → List V
  | .agg vs => vs
  | v => [v]

def V.leaf : V → Bool
  | .undef => false
  | .agg _ => false
  | .tup _ => false
  | _ => true

def V.sized : V → Bool
  | .agg _ => true
  | v => v.leaf

def leafs : List V → Bool
  | [] => true
  | v :: vs => v.leaf && leafs vs

/-- The numbers of entries turned; those that have no new one are lost. -/
def V.ren (g : Nat → Option Nat) : V → V
  | .agg vs => .agg (go vs)
  | .tup vs => .tup (go vs)
  | .fn f vs => .fn f (go vs)
  | .own i => match g i with | some j => .own j | none => .undef
  | .ref i o n => match g i with | some j => .ref j o n | none => .undef
  | .ptr i o => match g i with | some j => .ptr j o | none => .undef
  | .ep i a b => match g i with | some j => .ep j a b | none => .undef
  | v => v
where go : List V → List V
  | [] => []
  | v :: vs => v.ren g :: go vs

def Ent.ren (g : Nat → Option Nat) : Ent → Ent
  | .box cs => .box (V.ren.go g cs)
  | .hole sz n mv es i j v => .hole sz n mv es i j (v.ren g)
  | e => e

def idx : List Nat → Nat → Option Nat
  | [], _ => none
  | m :: r, n => bif Nat.beq m n then some 0 else match idx r n with | some j => some (j + 1) | none => none

def notIn (ks : List Nat) (i : Nat) : Option Nat := match idx ks i with | some _ => none | none => some i

def killE (ks : List Nat) (e : Env) : Env := match ks with | [] => e | _ => e.map fun p => (p.1, p.2.ren (notIn ks))
def killM (ks : List Nat) (M : Mem) : Mem := match ks with | [] => M | _ => M.map (Ent.ren (notIn ks))

def ids : V → List Nat
  | .agg vs => go vs
  | .tup vs => go vs
  | .fn _ vs => go vs
  | .own i => [i]
  | .ref i _ _ => [i]
  | .ptr i _ => [i]
  | .ep i _ _ => [i]
  | _ => []
where go : List V → List Nat
  | [] => []
  | v :: vs => ids v ++ go vs

def dedup : List Nat → List Nat → List Nat
  | acc, [] => acc
  | acc, i :: r => match idx acc i with | some _ => dedup acc r | none => dedup (acc ++ [i]) r

def Ent.ids : Ent → List Nat
  | .box cs => ids.go cs
  | .hole _ _ _ _ _ _ v => Go.Ev.ids v
  | _ => []
/-- Was it laid anew? -/
def Ent.mvd : Ent → Bool
  | .box _ => false
  | .row _ _ _ mv _ => mv
  | .lrow _ _ mv _ => mv
  | .hole _ _ mv _ _ _ _ => mv

def getM (M : Mem) (i : Nat) : Option Ent := M[i]?

def reach (M : Mem) : Nat → List Nat → List Nat
  | 0, l => l
  | n + 1, l => reach M n (dedup [] (l ++ l.flatMap fun i => match getM M i with | some e => e.ids | none => []))

/-! Data out of values: a row that is told as data is written no more. -/
def D.wk : D → D
  | .sl _ sz n es => .sl false sz n es
  | x => x

def freeze1 (M : Mem) : V → Option (D × Mem)
  | .d x => some (x.wk, M)
  | .kb b => some (.bool b, M)
  | .own id => match getM M id with
    | some (.row sz n fz mv es) => some (.sl false sz n es, bif fz then M else M.set id (.row sz n true mv es))
    | some (.lrow sz n mv es) => some (.sl false sz n es, M.set id (.row sz n true mv es))
    | _ => none
  | .ref id off n => match getM M id with
    | some (.row sz m fz mv es) => some (.sl false sz n ((es.drop off).take n), bif fz then M else M.set id (.row sz m true mv es))
    | _ => none
  | _ => none

def freezeL (M : Mem) : List V → Option (List D × Mem)
  | [] => some ([], M)
  | v :: vs => match freeze1 M v with
    | some (x, M) => match freezeL M vs with
      | some (xs, M) => some (x :: xs, M)
      | none => none
    | none => none

def toVs : List D → List V
  | [] => []
  | x :: xs => .d x :: toVs xs

/-- A value as data, cell by cell; functions that are handed over stay. -/
def freezeV (M : Mem) : V → Option (V × Mem)
  | .agg vs => match freezeL M vs with | some (xs, M) => some (.agg (toVs xs), M) | none => none
  | .fn f cs => some (.fn f cs, M)
  | v => match freeze1 M v with | some (x, M) => some (.d x, M) | none => none

def freezeVs (M : Mem) : List V → Option (List V × Mem)
  | [] => some ([], M)
  | v :: vs => match freezeV M v with
    | some (x, M) => match freezeVs M vs with
      | some (xs, M) => some (x :: xs, M)
      | none => none
    | none => none

/-- Data out of a value, where nothing is to be frozen for it. -/
def freezeQ1 (M : Mem) : V → Option D
  | .d x => some x.wk
  | .kb b => some (.bool b)
  | .own id => match getM M id with
    | some (.row sz n true _ es) => some (.sl false sz n es)
    | _ => none
  | .ref id off n => match getM M id with
    | some (.row sz _ true _ es) => some (.sl false sz n ((es.drop off).take n))
    | _ => none
  | _ => none
def freezeQL (M : Mem) : List V → Option (List D)
  | [] => some []
  | v :: vs => match freezeQ1 M v, freezeQL M vs with
    | some x, some xs => some (x :: xs)
    | _, _ => none
def freezeQ (M : Mem) : V → Option V
  | .agg vs => match freezeQL M vs with | some xs => some (.agg (toVs xs)) | none => none
  | .fn f [] => some (.fn f [])
  | .rp c j => some (.rp c j)
  | v => match freezeQ1 M v with | some x => some (.d x) | none => none

/-! Operations -/
def putAt (cs : List V) (off : Nat) : List V → List V
  | [] => cs
  | v :: vs => putAt (cs.set off v) (off + 1) vs
def putD (cs : List D) (off : Nat) : List D → List D
  | [] => cs
  | v :: vs => putD (cs.set off v) (off + 1) vs

def byteEs (s : ByteArray) : List (List D) := s.data.toList.map fun b => [.int .u8 b.toNat]

def asD : V → Option D
  | .d x => some x
  | .kb b => some (.bool b)
  | _ => none

def intCmp (op : BinOp) (a b : Int) : Option Bool :=
  match op with
  | .eql => some (a == b)
  | .neq => some (a != b)
  | .lss => some (decide (a < b))
  | .leq => some (decide (a ≤ b))
  | .gtr => some (decide (a > b))
  | .geq => some (decide (a ≥ b))
  | _ => none

def maxBytes : Nat := 140737488351232

section
variable {R : Type}

def evBin (bt : Bool) (op : BinOp) (x y : D) (k : D → Option R) : Option R :=
  match x, y with
  | .int ka a, .int kb b =>
    match op with
    | .shl => oguard (decide (0 ≤ b)) (k (.int ka (ka.wrap (a * 2 ^ min b.toNat ka.bits))))
    | .shr => oguard (decide (0 ≤ b)) (k (.int ka (a.fdiv (2 ^ min b.toNat ka.bits))))
    | _ => if ka = kb then match op with
        | .add => k (.int ka (ka.wrap (a + b)))
        | .sub => k (.int ka (ka.wrap (a - b)))
        | .mul => k (.int ka (ka.wrap (a * b)))
        | .quo => oguard (decide (b ≠ 0)) (k (.int ka (ka.wrap (a.tdiv b))))
        | .rem => oguard (decide (b ≠ 0)) (k (.int ka (a.tmod b)))
        | .and => k (.int ka (ka.wrap (BitVec.ofInt ka.bits a &&& BitVec.ofInt ka.bits b).toNat))
        | .or => k (.int ka (ka.wrap (BitVec.ofInt ka.bits a ||| BitVec.ofInt ka.bits b).toNat))
        | .xor => k (.int ka (ka.wrap (BitVec.ofInt ka.bits a ^^^ BitVec.ofInt ka.bits b).toNat))
        | _ => match intCmp op a b with | some t => k (.bool t) | none => none
      else none
  | .bool a, .bool b => bif bt then match op with
    | .eql => k (.bool (a == b))
    | .neq => k (.bool (!(a == b)))
    | _ => none
    else none
  | .str a, .str b => match op with
    | .eql => k (.bool (a.toList == b.toList))
    | .neq => k (.bool (!(a.toList == b.toList)))
    | .add => oguard (decide (a.size + b.size ≤ maxBytes)) (k (.str (a ++ b)))
    | _ => none
  | _, _ => none

/-- What an operation does: its value, the store behind it, the rows laid anew. -/
def evLoad (T : TI) (M : Mem) (a : V) (k : V → Option R) : Option R :=
  match a with
  | .ptr id off => match getM M id with
    | some (.box cs) => bif Nat.ble (off + T.size) cs.length then (bif T.agg then k (.agg ((cs.drop off).take T.size)) else match cs.drop off with | v :: _ => k v | [] => none) else none
    | _ => none
  | .ep id i j => match getM M id with
    | some (.row sz _ _ _ es) => bif Nat.ble (j + T.size) sz then ocells T.sh (((es.getD i []).drop j).take T.size) fun t => (bif T.agg then k (.agg (LS.encs T.sh t)) else match LS.encs T.sh t with | v :: _ => k v | [] => none) else none
    | some (.lrow sz _ _ es) => bif Nat.ble (j + T.size) sz && LS.allf T.sh then ocells T.sh (((es.getD i []).drop j).take T.size) fun t => (bif T.agg then k (.agg (LS.encs T.sh t)) else match LS.encs T.sh t with | v :: _ => k v | [] => none) else none
    | _ => none
  | .rp c j => bif Nat.ble (j + T.size) c.length then (bif T.agg then k (.agg (toVs ((c.drop j).take T.size))) else match c.drop j with | v :: _ => k (.d v) | [] => none) else none
  | _ => none

def evStore (T : TI) (M : Mem) (a x : V) (k : Mem → Option R) : Option R :=
  bif Nat.beq x.cells.length T.size && (x.sized && leafs x.cells) then match a with
  | .ptr id off => match getM M id with
    | some (.box cs) => bif Nat.ble (off + T.size) cs.length then k (M.set id (.box (putAt cs off x.cells))) else none
    | _ => none
  | .ep id i j => match freezeL M x.cells with
    | some (ds, M) => match getM M id with
      | some (.row sz n false mv es) => bif Nat.ble (j + T.size) sz then olet (es.set i (putD (es.getD i []) j ds)) fun es => k (M.set id (.row sz n false mv es)) else none
      | _ => none
    | none => none
  | _ => none
  else none

/-- A part of a row is all of zeros. -/
def evClear (z : List D) (M : Mem) (x : V) (k : Mem → Option R) : Option R :=
  match x with
  | .own id => match getM M id with
    | some (.row sz n false mv _) => bif Nat.beq sz z.length then k (M.set id (.row sz n false mv (List.replicate n z))) else none
    | _ => none
  | .ref id off n => match getM M id with
    | some (.row sz m false mv es) => bif Nat.beq sz z.length then olet (es.take off ++ (List.replicate n z ++ es.drop (off + n))) fun es => k (M.set id (.row sz m false mv es)) else none
    | _ => none
  | _ => none

def evLen (T : TI) (M : Mem) (v : V) (k : Int → Option R) : Option R :=
  match T.kind, v with
  | .sl _, .d (.sl _ _ n _) => k n
  | .str, .d (.str s) => k s.size
  | .sl _, .own id => match getM M id with | some (.row _ n _ _ _) => k n | some (.lrow _ n _ _) => k n | _ => none
  | .sl _, .ref _ _ n => k n
  | _, _ => none

/-- What stands behind an append: how many, which. -/
def evSrc (M : Mem) : V → Option (Nat × Nat × List (List D))
  | .d (.sl _ sz n es) => some (sz, n, es)
  | .d (.str s) => some (1, s.size, byteEs s)
  | .own id => match getM M id with | some (.row sz n _ _ es) => some (sz, n, es) | _ => none
  | .ref id off n => match getM M id with | some (.row sz _ _ _ es) => some (sz, n, (es.drop off).take n) | _ => none
  | _ => none

def evAppend (E : TI) (M : Mem) (s x : V) (k : V → Mem → List Nat → Option R) : Option R :=
  match evSrc M x with
  | none => none
  | some (sx, m, xs) =>
    bif Nat.beq sx E.size then match s with
    | .own id => match getM M id with
      | some (.row sz n fz _ es) => bif Nat.beq sz E.size then oguard (decide ((n + m) * E.bytes ≤ maxBytes)) (olet (es ++ xs) fun es => k (.own id) (killM [id] (M.set id (.row sz (n + m) fz true es))) [id]) else none
      | _ => none
    | .ref id off n => match getM M id with
      | some (.row sz n0 fz _ es) => bif Nat.beq sz E.size then oguard (decide ((n + m) * E.bytes ≤ maxBytes) && (!fz || decide (off + n = n0))) (olet ((es.drop off).take n ++ xs) fun es => k (.own id) (killM [id] (M.set id (.row sz (n + m) fz true es))) [id]) else none
      | _ => none
    | .d (.sl true _ 0 _) => oguard (decide (m * E.bytes ≤ maxBytes)) (k (.own M.length) (M ++ [.row E.size m false false xs]) [])
    | .d (.sl true sz (n + 1) es) => match m with
      | 0 => none
      | m + 1 => bif Nat.beq sz E.size then oguard (decide ((n + 1 + (m + 1)) * E.bytes ≤ maxBytes)) (olet (es ++ xs) fun es => k (.own M.length) (M ++ [.row E.size (n + 1 + (m + 1)) false false es]) []) else none
    | _ => none
    else none

/-- So many zeros are put behind nothing. -/
def evZeros (E : TI) (M : Mem) (s x : V) (k : V → Mem → List Nat → Option R) : Option R :=
  match s, x with
  | .d (.sl true _ 0 _), .d (.int .i64 n) => oguard (decide (0 ≤ n ∧ n * E.bytes ≤ maxBytes)) (match freezeL [] E.zero with
    | some (z, _) => olet (List.replicate n.toNat z) fun es => k (.own M.length) (M ++ [.row E.size n.toNat false false es]) []
    | none => none)
  | _, _ => none

/-- The text of a list of bytes. -/
def evBytes (M : Mem) (x : V) (k : V → Option R) : Option R :=
  match x with
  | .d (.str _) => none
  | x => match evSrc M x with
    | some (1, _, es) => ostr es fun s => k (.d (.str s))
    | _ => none

/-! Rows that all their trees belong to -/
/-- A cell's value goes into the row id: what is put there belongs to it from now on. -/
def absorb1 (M : Mem) (id : Nat) : V → Option (D × Mem × List Nat)
  | .d (.sl true sz 0 _) => some (.sl false sz 0 [], M, [])
  | .d (.int k n) => some (.int k n, M, [])
  | .d (.bool b) => some (.bool b, M, [])
  | .d (.str s) => some (.str s, M, [])
  | .kb b => some (.bool b, M, [])
  | .own i => bif Nat.beq i id then none else match getM M i with
    | some (.lrow sz n _ es) => some (.sl false sz n es, killM [i] (M.set i (.lrow sz 0 true [])), [i])
    | _ => none
  | _ => none
def killV (ks : List Nat) (v : V) : V := match ks with | [] => v | _ => v.ren (notIn ks)
def absorbL (M : Mem) (id : Nat) (ks : List Nat) : List V → Option (List D × Mem × List Nat)
  | [] => some ([], M, ks)
  | v :: vs => match absorb1 M id (killV ks v) with
    | some (x, M, ks1) => match absorbL M id (ks ++ ks1) vs with
      | some (xs, M, ks) => some (x :: xs, M, ks)
      | none => none
    | none => none
def isLrow (M : Mem) (i : Nat) : Bool := match getM M i with
  | some (.lrow _ _ _ _) => true
  | _ => false
def isLep (M : Mem) : V → Bool
  | .ep id _ _ => isLrow M id
  | _ => false
def evStoreL (T : TI) (M : Mem) (a x : V) (k : Mem → List Nat → Option R) : Option R :=
  bif Nat.beq x.cells.length T.size && (x.sized && leafs x.cells) then match a with
  | .ep id i j => match absorbL M id [] x.cells with
    | some (ds, M, ks) => match getM M id with
      | some (.lrow sz n mv es) => bif Nat.ble (j + T.size) sz then olet (es.set i (putD (es.getD i []) j ds)) fun es => k (M.set id (.lrow sz n mv es)) ks else none
      | _ => none
    | none => none
  | _ => none
  else none
/-- A literal's elements: each one given, in order; they belong to the row that is made. -/
def litEsL (sz : Nat) (M : Mem) (id : Nat) : Nat → List Nat → List (Nat × V) → Option (List (List D) × Mem × List Nat)
  | _, ks, [] => some ([], M, ks)
  | i, ks, (j, v) :: r => bif Nat.beq i j && (v.sized && (Nat.beq v.cells.length sz && leafs v.cells)) then match absorbL M id ks v.cells with
      | some (c, M, ks) => match litEsL sz M id (i + 1) ks r with
        | some (es, M, ks) => some (c :: es, M, ks)
        | none => none
      | none => none
    else none
/-- What is put behind a row: another row, or data in which no list stands. -/
def evAppendL (E : TI) (M : Mem) (s x : V) (k : V → Mem → List Nat → Option R) : Option R :=
  match x with
  | .own j => match getM M j with
    | some (.lrow sz m _ xs) => bif Nat.beq sz E.size then match s with
      | .own id => bif Nat.beq id j then none else match getM M id with
        | some (.lrow sz n _ es) => bif Nat.beq sz E.size then oguard (decide ((n + m) * E.bytes ≤ maxBytes)) (olet (es ++ xs) fun es => k (.own id) (killM [id] ((killM [j] (M.set j (.lrow sz 0 true []))).set id (.lrow sz (n + m) true es))) [j, id]) else none
        | _ => none
      | .d (.sl true _ 0 _) => oguard (decide (m * E.bytes ≤ maxBytes)) (k (.own M.length) (killM [j] (M.set j (.lrow sz 0 true [])) ++ [.lrow sz m false xs]) [j])
      | _ => none
      else none
    | some (.box cs) => bif Nat.beq cs.length E.size && leafs cs then match s with
      | .own id => bif Nat.beq id j then none else match absorbL M id [] cs with
        | some (c, M1, ks) => match getM M1 id with
          | some (.lrow sz n _ es) => bif Nat.beq sz E.size then oguard (decide ((n + 1) * E.bytes ≤ maxBytes)) (olet (es ++ [c]) fun es => k (.own id) (killM [id] (M1.set id (.lrow sz (n + 1) true es))) (ks ++ [id])) else none
          | _ => none
        | none => none
      | .d (.sl true _ 0 _) => match absorbL M M.length [] cs with
        | some (c, M1, ks) => oguard (decide (1 * E.bytes ≤ maxBytes)) (k (.own M1.length) (M1 ++ [.lrow E.size 1 false [c]]) ks)
        | none => none
      | _ => none
      else none
    | _ => none
  | x => match evSrc M x with
    | none => none
    | some (sx, m, xs) => bif Nat.beq sx E.size then match s with
      | .own id => match getM M id with
        | some (.lrow sz n _ es) => bif Nat.beq sz E.size then oguard (flatR xs) (oguard (decide ((n + m) * E.bytes ≤ maxBytes)) (olet (es ++ xs) fun es => k (.own id) (killM [id] (M.set id (.lrow sz (n + m) true es))) [id])) else none
        | _ => none
      | .d (.sl true _ 0 _) => oguard (flatR xs) (oguard (decide (m * E.bytes ≤ maxBytes)) (k (.own M.length) (M ++ [.lrow E.size m false xs]) []))
      | _ => none
      else none
/-- A list in a cell of such a row is looked at: it becomes a row till the call is over. -/
def evOpen (T : TI) (M : Mem) (a : V) (k : V → Mem → Option R) : Option R :=
  match a with
  | .ep id i j => match getM M id with
    | some (.lrow sz n mv es) => bif Nat.ble (j + 1) sz && (Nat.beq T.size 1 && !T.agg) then ocells T.sh (((es.getD i []).drop j).take T.size) fun t => match LS.encs T.sh t with
      | [.d (.sl _ sz' n' es')] => k (.own M.length) (M.set id (.hole sz n mv es i j (.own M.length)) ++ [.lrow sz' n' false es'])
      | _ => none
      else none
    | _ => none
  | _ => none
def close1 (M : Mem) (i : Nat) : Option (Mem × Nat) := match getM M i with
  | some (.hole sz n mv es a b (.own j)) => bif Nat.beq i j then none else match getM M j with
    | some (.lrow sz' n' _ es') => some (killM [j] ((M.set i (.lrow sz n mv (es.set a (putD (es.getD a []) b [.sl false sz' n' es'])))).set j (.lrow sz' 0 true [])), j)
    | _ => none
  | _ => none
def closeAll : List Nat → Mem → Mem × List Nat
  | [], M => (M, [])
  | i :: r, M => match close1 M i with
    | some (M', j) => ((closeAll r M').1, j :: (closeAll r M').2)
    | none => closeAll r M

/-- A text's byte. -/
def byteAt (s : ByteArray) (i : Nat) : Int := ((s.data.toList.getD i 0).toNat : Nat)
def szIs (E : Option TI) (sz : Nat) : Bool := match E with | some E => Nat.beq E.size sz | none => false

/-- The cells from index i to index j of a slice. -/
def evSlice (E : Option TI) (M : Mem) (x : V) (lo hi : Option Int) (k : V → Option R) : Option R :=
  match x with
  | .d (.sl full sz n es) => bif szIs E sz then match lo, hi with
    | none, none => k x
    | some a, none => oguard (decide (0 ≤ a ∧ a ≤ n)) (olet (es.drop a.toNat) fun es => k (.d (.sl full sz (n - a.toNat) es)))
    | none, some b => oguard (decide (0 ≤ b ∧ b ≤ n)) (olet (es.take b.toNat) fun es => k (.d (.sl (full && Nat.beq n 0) sz b.toNat es)))
    | some a, some b => oguard (decide (0 ≤ a ∧ a ≤ b ∧ b ≤ n)) (olet ((es.take b.toNat).drop a.toNat) fun es => k (.d (.sl false sz (b.toNat - a.toNat) es)))
    else none
  | .own id => match getM M id with
    | some (.row sz n _ _ _) => bif szIs E sz then match lo, hi with
      | none, none => k x
      | some a, none => oguard (decide (0 ≤ a ∧ a ≤ n)) (k (.ref id a.toNat (n - a.toNat)))
      | none, some b => oguard (decide (0 ≤ b ∧ b ≤ n)) (k (.ref id 0 b.toNat))
      | some a, some b => oguard (decide (0 ≤ a ∧ a ≤ b ∧ b ≤ n)) (k (.ref id a.toNat (b.toNat - a.toNat)))
      else none
    | _ => none
  | .ref id off n => match getM M id with
    | some (.row sz _ _ _ _) => bif szIs E sz then match lo, hi with
    | none, none => k x
    | some a, none => oguard (decide (0 ≤ a ∧ a ≤ n)) (k (.ref id (off + a.toNat) (n - a.toNat)))
    | none, some b => oguard (decide (0 ≤ b ∧ b ≤ n)) (k (.ref id off b.toNat))
    | some a, some b => oguard (decide (0 ≤ a ∧ a ≤ b ∧ b ≤ n)) (k (.ref id (off + a.toNat) (b.toNat - a.toNat)))
      else none
    | _ => none
  | _ => none

def evIndexAddr (E : TI) (M : Mem) (x : V) (i : Int) (k : V → Option R) : Option R :=
  match x with
  | .d (.sl _ sz n es) => bif Nat.beq E.size sz && (Nat.beq E.sh.length sz && LS.alld E.sh) then oat E.sh n es i fun t => k (.rp (vDs (LS.encs E.sh t)) 0) else none
  | .own id => match getM M id with
    | some (.row sz n _ _ _) => bif Nat.beq E.size sz then oguard (decide (0 ≤ i ∧ i < n)) (k (.ep id i.toNat 0)) else none
    | some (.lrow sz n _ _) => bif Nat.beq E.size sz then oguard (decide (0 ≤ i ∧ i < n)) (k (.ep id i.toNat 0)) else none
    | _ => none
  | .ref id off n => match getM M id with
    | some (.row sz _ _ _ _) => bif Nat.beq E.size sz then oguard (decide (0 ≤ i ∧ i < n)) (k (.ep id (off + i.toNat) 0)) else none
    | _ => none
  | _ => none

def elemTI (cx : Cx) (t : TypeId) : Option TI := match find cx.ty t with
  | some T => match T.kind with
    | .sl e => find cx.ty e
    | _ => none
  | none => none

/-- A nil slice: of the element's size that its type asks. -/
def fixNil (cx : Cx) (t : TypeId) (v : V) : V := match v with
  | .d (.sl true 0 0 []) => match elemTI cx t with
    | some E => .d (.sl true E.size 0 [])
    | none => v
  | v => v

def fixNils (cx : Cx) : List TypeId → List V → List V
  | t :: ts, v :: vs => fixNil cx t v :: fixNils cx ts vs
  | _, vs => vs

def fixParts (cx : Cx) (fs : List (Nat × TypeId)) : List (Nat × V) → List (Nat × V)
  | [] => []
  | (i, v) :: r => (match fs[i]? with | some (_, t) => (i, fixNil cx t v) | none => (i, v)) :: fixParts cx fs r

def isBool (cx : Cx) (t : TypeId) : Bool := match find cx.ty t with
  | some T => match T.kind with | .bool => true | _ => false
  | none => false

def asI : V → Option Int
  | .d (.int _ n) => some n
  | _ => none

def partsOf (cx : Cx) (fs : List (Nat × TypeId)) : List V → List (Nat × V) → Option (List V)
  | cs, [] => some cs
  | cs, (i, v) :: r => match fs[i]? with
    | some (off, t) => match find cx.ty t with
      | some T => bif Nat.beq v.cells.length T.size && (v.sized && Nat.ble (off + v.cells.length) cs.length) then partsOf cx fs (putAt cs off v.cells) r else none
      | none => none
    | none => none

/-- A literal's elements: each one given, in order. -/
def litEs (sz : Nat) : Nat → Mem → List (Nat × V) → Option (List (List D) × Mem)
  | _, M, [] => some ([], M)
  | i, M, (j, v) :: r => bif Nat.beq i j && (v.sized && Nat.beq v.cells.length sz) then match freezeL M v.cells with
      | some (c, M) => match litEs sz (i + 1) M r with
        | some (es, M) => some (c :: es, M)
        | none => none
      | none => none
    else none

/-- A nil list as a row: sizes from 1000 on tell of a row that all its trees belong to. -/
def nilEnt (sz : Nat) : Ent := bif Nat.ble 1000 sz then .lrow (sz - 1000) 0 false [] else .row sz 0 false false []

def ownCells : List (Nat × Nat × Nat) → Mem → Mem
  | [], M => M
  | (i, c, sz) :: r, M => match getM M i with
    | some (.box cs) => match cs[c]? with
      | some (.d (.sl true _ 0 _)) => ownCells r (M.set i (.box (cs.set c (.own M.length))) ++ [nilEnt sz])
      | _ => ownCells r M
    | _ => ownCells r M

def nilCells (i : Nat) : Nat → List V → List (Nat × Nat × Nat)
  | _, [] => []
  | c, .d (.sl true sz 0 _) :: vs => (i, c, sz) :: nilCells i (c + 1) vs
  | c, _ :: vs => nilCells i (c + 1) vs

def nilBoxes (M : Mem) : List Nat → List (Nat × Nat × Nat)
  | [] => []
  | i :: r => (match getM M i with | some (.box cs) => nilCells i 0 cs | _ => []) ++ nilBoxes M r

/-- Arguments: raw ones as they are, all others as data. -/
def modeArgs (M : Mem) : List Bool → List V → Option (List V × Mem)
  | _, [] => some ([], M)
  | true :: ms, v :: vs => match modeArgs M ms vs with | some (xs, M) => some (v :: xs, M) | none => none
  | ms, v :: vs => match freezeV M v with
    | some (x, M) => match modeArgs M ms.tail vs with | some (xs, M) => some (x :: xs, M) | none => none
    | none => none

def nodupB : List Nat → Bool
  | [] => true
  | i :: r => (match idx r i with | some _ => false | none => true) && nodupB r

def subM (M : Mem) (keep : List Nat) : List Nat → Option Mem
  | [] => some []
  | i :: r => match getM M i with
    | some e => match subM M keep r with
      | some es => some ((match e with | .box cs => .box (V.ren.go (idx keep) cs) | .row sz n fz _ es => .row sz n fz false es | .lrow sz n _ es => .lrow sz n false es | .hole sz n _ es i j v => .hole sz n false es i j (v.ren (idx keep))) :: es)
      | none => none
    | none => none

/-- The number that an entry of the callee's store has here. -/
def backN (keep : List Nat) (n j : Nat) : Option Nat := match keep[j]? with | some i => some i | none => some (n + (j - keep.length))

def movedOf : List Nat → Mem → List Nat
  | i :: r, e :: es => bif e.mvd then i :: movedOf r es else movedOf r es
  | _, _ => []

def mergeE (g : Nat → Option Nat) : Ent → Ent → Ent
  | .row sz n fz mv es, e0 => .row sz n fz (mv || e0.mvd) es
  | .lrow sz n mv es, e0 => .lrow sz n (mv || e0.mvd) es
  | .hole sz n mv es i j v, e0 => .hole sz n (mv || e0.mvd) es i j (v.ren g)
  | e, _ => e.ren g

/-- The entries that came back, written where they belong. -/
def writeBack (g : Nat → Option Nat) (keep : List Nat) (Mc : Mem) : Nat → Mem → Mem
  | _, [] => []
  | i, e :: es => (match idx keep i with
      | some j => match getM Mc j with
        | some e' => mergeE g e' e
        | none => e
      | none => e) :: writeBack g keep Mc (i + 1) es

/-- The form of a cell as it stands. -/
def shV : V → LS
  | .d (.int k _) => .int k
  | .d (.bool _) => .bool
  | .d (.str _) => .str
  | .d (.sl _ sz _ _) => .sl sz
  | .kb _ => .bool
  | .own i => .own i
  | .ptr i o => .ptr i o
  | _ => .undef
/-- The forms of the entries behind a call. -/
def msOf (ms : List ES) : Nat → Mem → List ES
  | _, [] => []
  | i, e :: S => (match e with
    | .box cs => .box (cs.map shV)
    | .row sz _ fz _ _ => match ms[i]? with
      | some (.row _ fz' mv') => .row sz fz' mv'
      | _ => .row sz fz false
    | .lrow sz _ _ _ => match ms[i]? with
      | some (.lrow _ mv') => .lrow sz mv'
      | some (.row _ fz' mv') => .row sz fz' mv'
      | _ => .lrow sz false
    | .hole sz _ _ _ _ _ _ => .lrow sz false) :: msOf ms (i + 1) S
def effMs (F : FnI) (S : Mem) : List ES := msOf F.ms 0 S ++ F.fs.map (ES.sh S.length)

/-- Nil cells of values become rows. -/
def ownVals : List (Nat × Nat × Nat) → List V → Mem → List V × Mem
  | [], vs, M => (vs, M)
  | (i, c, sz) :: r, vs, M => match vs[i]? with
    | some (.d (.sl true _ 0 _)) => ownVals r (vs.set i (.own M.length)) (M ++ [nilEnt sz])
    | some (.agg cs) => match cs[c]? with
      | some (.d (.sl true _ 0 _)) => ownVals r (vs.set i (.agg (cs.set c (.own M.length)))) (M ++ [nilEnt sz])
      | _ => ownVals r vs M
    | _ => ownVals r vs M

abbrev CallF := FuncId → List V → Mem → Option (V × Mem)

def evCall (cx : Cx) (call : CallF) (f : FuncId) (args : List V) (M : Mem) (k : V → Mem → List Nat → Option R) : Option R :=
  match find cx.fns f with
  | none => none
  | some F => match modeArgs (ownVals F.aown args M).2 F.raw (ownVals F.aown args M).1 with
    | none => none
    | some (args, M) =>
      let M := ownCells (nilBoxes M (reach M 3 (dedup [] (ids.go args)))) M
      let keep := reach M 3 (dedup [] (ids.go args))
      bif nodupB keep then match subM M keep keep with
      | none => none
      | some S => fV.go (V.ren.go (idx keep) args) fun as => fM S fun S => ocall (F.rs.sh S.length) (effMs F S) (call f as S) fun t u =>
        let g := backN keep M.length
        let Mc := ES.encs (effMs F S) u
        let ks := movedOf keep Mc
        k (((F.rs.sh S.length).enc t).ren g) (writeBack g keep Mc 0 (killM ks M) ++ (Mc.drop keep.length).map (Ent.ren g)) ks
      else none

/-! What is lent: it is data till the call is over -/
def lend1 (M : Mem) : V → Option D
  | .d x => some x.wk
  | .kb b => some (.bool b)
  | .own id => match getM M id with
    | some (.row sz n _ _ es) => some (.sl false sz n es)
    | some (.lrow sz n _ es) => some (.sl false sz n es)
    | _ => none
  | _ => none
def lendL (M : Mem) : List V → Option (List D)
  | [] => some []
  | v :: vs => match lend1 M v, lendL M vs with
    | some x, some xs => some (x :: xs)
    | _, _ => none
def lendV (M : Mem) : V → Option V
  | .agg vs => match lendL M vs with | some xs => some (.agg (toVs xs)) | none => none
  | .fn f [] => some (.fn f [])
  | v => match lend1 M v with | some x => some (.d x) | none => none
def lendVs (M : Mem) : List V → Option (List V)
  | [] => some []
  | v :: vs => match lendV M v, lendVs M vs with
    | some x, some xs => some (x :: xs)
    | _, _ => none
/-- A value in which no data with lists stands. -/
def V.clean : V → Bool
  | .d x => x.flat
  | .kb _ => true
  | .own _ => true
  | .undef => true
  | .agg vs => go vs
  | .tup vs => go vs
  | _ => false
where go : List V → Bool
  | [] => true
  | v :: vs => v.clean && go vs
/-- Entries in which no data with lists stands. -/
def cleanM (M : Mem) (x : Option R) : Option R := match M with
  | [] => x
  | .row _ _ _ _ es :: M => oguard (flatR es) (cleanM M x)
  | .lrow _ _ _ _ :: M => cleanM M x
  | _ => none
def lendF (cx : Cx) (f : FuncId) : Bool := match find cx.fns f with
  | some F => F.lend
  | none => false
def evCallL (cx : Cx) (call : CallF) (f : FuncId) (args : List V) (M : Mem) (k : V → Mem → Option R) : Option R :=
  match find cx.fns f with
  | none => none
  | some F => match lendVs M args with
    | none => none
    | some args => fV.go args fun args => ocall (F.rs.sh 0) (effMs F []) (call f args []) fun t u =>
        let g := backN [] M.length
        bif ((F.rs.sh 0).enc t).clean then cleanM (ES.encs (effMs F []) u) (k (((F.rs.sh 0).enc t).ren g) (M ++ (ES.encs (effMs F []) u).map (Ent.ren g))) else none

def isNilC : Operand → Bool
  | .const (.slice none 0 0) => true
  | _ => false
/-- How many elements a list has. -/
def lenV (M : Mem) : V → Option Nat
  | .d (.sl _ _ n _) => some n
  | .own id => match getM M id with | some (.row _ n _ _ _) => some n | some (.lrow _ n _ _) => some n | _ => none
  | .ref _ _ n => some n
  | _ => none
def isSl (cx : Cx) (t : TypeId) : Bool := match find cx.ty t with
  | some T => match T.kind with | .sl _ => true | _ => false
  | none => false
/-- A test whether a list is nil. -/
noncomputable def evNil (cx : Cx) (op : BinOp) (t : TypeId) (M : Mem) (x : V) (k : V → Option R) : Option R :=
  bif isSl cx t then match lenV M x with
    | some n => match op with
      | .eql => onil n (k (.kb true)) (k (.kb false))
      | .neq => onil n (k (.kb false)) (k (.kb true))
      | _ => none
    | none => none
  else none

/-- What an operation that writes nothing comes to. -/
noncomputable def evOpR (cx : Cx) (ty : TypeId) (o : Op) (rd : Operand → V) (M : Mem) (k : V → Option R) : Option R :=
  match o with
  | .move x => k (fixNil cx ty (rd x))
  | .assign x => k (fixNil cx ty (rd x))
  | .pick c a b => match rd c with
    | .kb t => k (bif t then rd a else rd b)
    | .d (.bool t) => oite t (k (rd a)) (k (rd b))
    | _ => none
  | .build t parts => match find cx.ty t with
    | some T => match T.kind with
      | .st fs => match partsOf cx fs T.zero (fixParts cx fs (parts.toList.map fun p => (p.1, rd p.2))) with
        | some cs => k (.agg cs)
        | none => none
      | _ => none
    | none => none
  | .load t a => match find cx.ty t with
    | some T => evLoad T M (rd a) k
    | none => none
  | .nilCheck x => match rd x with
    | .ptr i o => k (.ptr i o)
    | .ep i a b => k (.ep i a b)
    | .rp c j => k (.rp c j)
    | .fn f cs => k (.fn f cs)
    | _ => none
  | .binOp op t x y _ => match isNilC y with
    | true => evNil cx op t M (rd x) k
    | false => match asD (rd x), asD (rd y) with
      | some a, some b => evBin (isBool cx t) op a b fun d => k (.d d)
      | _, _ => none
  | .unOp op _ x => match op, rd x with
    | .not, .kb b => k (.kb (!b))
    | .not, .d (.bool b) => k (.d (.bool (!b)))
    | .neg, .d (.int ik n) => k (.d (.int ik (ik.wrap (0 - n))))
    | _, _ => none
  | .makeFunc (.func f) first caps => match first.toList with
    | [] => k (.fn f (caps.toList.map rd))
    | _ => none
  | .slice t x lo hi none => match lo, hi with
    | none, none => evSlice (elemTI cx t) M (rd x) none none k
    | some a, none => match asI (rd a) with | some a => evSlice (elemTI cx t) M (rd x) (some a) none k | none => none
    | none, some b => match asI (rd b) with | some b => evSlice (elemTI cx t) M (rd x) none (some b) k | none => none
    | some a, some b => match asI (rd a), asI (rd b) with | some a, some b => evSlice (elemTI cx t) M (rd x) (some a) (some b) k | _, _ => none
  | .fieldAddr t x f => match find cx.ty t with
    | some T => match T.kind with
      | .st fs => match fs[f]? with
        | some (off, u) => match find cx.ty u with
          | some U => bif Nat.ble 1 U.size then match rd x with
              | .ptr i o => k (.ptr i (o + off))
              | .ep i a b => k (.ep i a (b + off))
              | .rp c j => bif Nat.ble (j + off + U.size) c.length then k (.rp ((c.drop (j + off)).take U.size) 0) else none
              | _ => none
            else none
          | none => none
        | none => none
      | _ => none
    | none => none
  | .field t x f => match find cx.ty t with
    | some T => match T.kind with
      | .st fs => match fs[f]? with
        | some (off, u) => match find cx.ty u with
          | some U => match rd x with
            | .agg vs => bif Nat.ble (off + U.size) vs.length then (bif U.agg then k (.agg ((vs.drop off).take U.size)) else match vs.drop off with | v :: _ => k v | [] => none) else none
            | _ => none
          | none => none
        | none => none
      | _ => none
    | none => none
  | .indexAddr t x i => match asI (rd i), elemTI cx t with
    | some n, some E => evIndexAddr E M (rd x) n k
    | _, _ => none
  | .index t x i => match find cx.ty t with
    | some T => match T.kind, rd x, asI (rd i) with
      | .str, .d (.str s), some n => oguard (decide (0 ≤ n ∧ n < s.size)) (k (.d (.int .u8 (byteAt s n.toNat))))
      | _, _, _ => none
    | none => none
  | .extract x i => match rd x with
    | .tup vs => match vs[i]? with | some v => k v | none => none
    | _ => none
  | .convert s t x => match find cx.ty s, find cx.ty t with
    | some S, some T => match S.kind, T.kind, rd x with
      | .int _, .int ik, .d (.int _ n) => k (.d (.int ik (ik.wrap n)))
      | .str, .str, .d (.str b) => k (.d (.str b))
      | .sl e, .str, x => match find cx.ty e with
        | some E => match E.kind with
          | .int .u8 => evBytes M x k
          | _ => none
        | none => none
      | _, _, _ => none
    | _, _ => none
  | .call c => match c.callee with
    | .builtin b => match b, c.args.toList with
      | .len, [x] => match c.argTypes[0]? with
        | some t => match find cx.ty t with
          | some T => evLen T M (rd x) fun n => k (.d (.int .i64 n))
          | none => none
        | none => none
      | .cap, [x] => match c.argTypes[0]? with
        | some t => match find cx.ty t with
          | some T => match T.kind, rd x with
            | .sl _, .d (.sl true _ n _) => k (.d (.int .i64 n))
            | _, _ => none
          | none => none
        | none => none
      | .min, [x, y] => match rd x, rd y with
        | .d (.int kx a), .d (.int _ b) => k (.d (.int kx (min a b)))
        | _, _ => none
      | .max, [x, y] => match rd x, rd y with
        | .d (.int kx a), .d (.int _ b) => k (.d (.int kx (max a b)))
        | _, _ => none
      | _, _ => none
    | _ => none
  | _ => none

/-- Cells that nothing hangs on. -/
def zeroL : List V → Bool
  | [] => true
  | .d (.sl true _ 0 []) :: vs => zeroL vs
  | .d (.int _ _) :: vs => zeroL vs
  | .d (.bool _) :: vs => zeroL vs
  | .d (.str _) :: vs => zeroL vs
  | _ => false
/-- What goes on behind a call: the lists that were looked at go back to where they stand. -/
def closeK (M : Mem) (v : V) (ks : List Nat) (k : V → Mem → List Nat → Option R) : Option R := match closeAll (List.range M.length) M with
  | (_, []) => k v M ks
  | (M', ks') => k (v.ren (notIn ks')) M' (ks ++ ks')
/-- A literal of bytes is a row of its own. -/
def ownLit (E : TI) (len : Nat) : Bool := match E.kind with
  | .int .u8 => Nat.ble 1 len
  | .str => Nat.ble 1 len
  | _ => false
/-- Bytes that are turned into bytes stay what they are. -/
def evSame (cx : Cx) (s t e : TypeId) (M : Mem) (x : V) (k : V → Option R) : Option R := bif Nat.beq s t then match find cx.ty e, x with
    | some E, .own id => match E.kind, getM M id with
      | .int .u8, some (.row _ (_ + 1) _ _ _) => k (.own id)
      | _, _ => none
    | _, _ => none
  else none
noncomputable def evOp (cx : Cx) (call : CallF) (ty : TypeId) (o : Op) (rd : Operand → V) (M : Mem) (k : V → Mem → List Nat → Option R) : Option R :=
  match o with
  | .alloc t => match find cx.ty t with
    | some T => k (.ptr M.length 0) (M ++ [.box T.zero]) []
    | none => none
  | .box t x => bif (fixNil cx t (rd x)).sized then k (.ptr M.length 0) (M ++ [.box (fixNil cx t (rd x)).cells]) [] else none
  | .buildSlice t len parts => match find cx.ty t with
    | some T => match T.kind with
      | .sl e => match find cx.ty e with
        | some E => bif Nat.beq parts.size len && Nat.ble (len * E.size) 10000 then (bif cx.lin then match litEsL E.size M M.length 0 [] (parts.toList.map fun p => (p.1, fixNil cx e (rd p.2))) with
            | some (es, M, ks) => k (.own M.length) (M ++ [.lrow E.size len false es]) ks
            | none => none
          else match litEs E.size 0 M (parts.toList.map fun p => (p.1, fixNil cx e (rd p.2))) with
            | some (es, M) => bif ownLit E len then k (.own M.length) (M ++ [.row E.size len false false es]) [] else k (.d (.sl true E.size len es)) M []
            | none => none)
          else none
        | none => none
      | _ => none
    | none => none
  | .store t a x => match find cx.ty t with
    | some T => bif isLep M (rd a) then evStoreL T M (rd a) (fixNil cx t (rd x)) fun M ks => k .undef M ks else evStore T M (rd a) (fixNil cx t (rd x)) fun M => k .undef M []
    | none => none
  | .load t a => match find cx.ty t with
    | some T => bif cx.lin && (isLep M (rd a) && T.kind.isSl) then evOpen T M (rd a) fun v M => k v M [] else evOpR cx ty o rd M fun v => k v M []
    | none => none
  | .makeSlice t l c => match find cx.ty t with
    | some T => match T.kind with
      | .sl e => match find cx.ty e, rd l, rd c with
        | some E, .d (.int .i64 n), .d (.int .i64 m) => oguard (decide (0 ≤ n ∧ n = m ∧ n * E.bytes ≤ maxBytes)) (match freezeL [] E.zero with
            | some (z, _) => olet (List.replicate n.toNat z) fun es => bif cx.lin then (bif zeroL E.zero then k (.own M.length) (M ++ [.lrow E.size n.toNat false es]) [] else none) else k (.own M.length) (M ++ [.row E.size n.toNat false false es]) []
            | none => none)
        | _, _, _ => none
      | _ => none
    | none => none
  | .convert s t x => match find cx.ty s, find cx.ty t with
    | some S, some T => match S.kind, T.kind with
      | .str, .sl e => match rd x, find cx.ty e with
        | .d (.str b), some E => match E.kind with
          | .int .u8 => k (.own M.length) (M ++ [.row 1 b.size false false (byteEs b)]) []
          | _ => none
        | _, _ => none
      | .sl _, .sl e => evSame cx s t e M (rd x) fun v => k v M []
      | _, _ => evOpR cx ty o rd M fun v => k v M []
    | _, _ => none
  | .call c => match c.callee with
    | .value x => match rd x with
      | .fn f caps => bif lendF cx f then evCallL cx call f (fixNils cx c.argTypes.toList (c.args.toList.map rd) ++ caps) M fun v M => k v M []
        else bif cx.lin then evCall cx call f (fixNils cx c.argTypes.toList (c.args.toList.map rd) ++ caps) M fun v M ks => closeK M v ks k
        else evCall cx call f (fixNils cx c.argTypes.toList (c.args.toList.map rd) ++ caps) M k
      | _ => none
    | .builtin b => match b, c.args.toList with
      | .append, [s, x] => match c.argTypes[0]?, c.argTypes[1]? with
        | some t, some u => match elemTI cx t, find cx.ty u with
          | some E, some U => match U.kind with
            | .sl _ => bif cx.lin then evAppendL E M (fixNil cx t (rd s)) (fixNil cx t (rd x)) k else evAppend E M (fixNil cx t (rd s)) (fixNil cx t (rd x)) k
            | .str => bif cx.lin then evAppendL E M (fixNil cx t (rd s)) (fixNil cx t (rd x)) k else evAppend E M (fixNil cx t (rd s)) (fixNil cx t (rd x)) k
            | .int _ => evZeros E M (fixNil cx t (rd s)) (rd x) k
            | _ => none
          | _, _ => none
        | _, _ => none
      | .clear, [x] => match c.argTypes[0]? with
        | some t => match elemTI cx t with
          | some E => match freezeL [] E.zero with
            | some (z, _) => evClear z M (rd x) fun M => k (.tup []) M []
            | none => none
          | none => none
        | none => none
      | _, _ => evOpR cx ty o rd M fun v => k v M []
    | _ => none
  | _ => evOpR cx ty o rd M fun v => k v M []

/-- Arguments of which none is a row that could still be written. -/
def quietArgs (M : Mem) : List V → Option (List V)
  | [] => some []
  | v :: vs => match freezeQ M v, quietArgs M vs with
    | some x, some xs => some (x :: xs)
    | _, _ => none

/-- A call that leaves all entries as they are. -/
def evCallQ (cx : Cx) (call : CallF) (f : FuncId) (args : List V) (M : Mem) (k : V → Option R) : Option R :=
  match find cx.fns f with
  | none => none
  | some F => match quietArgs M args with
    | none => none
    | some args => fV.go args fun args => ocall (F.rs.sh 0) (effMs F []) (call f args []) fun t _ => k (((F.rs.sh 0).enc t).ren fun _ => none)

/-- A call that leaves all entries as they are, to which rows are lent. -/
def evCallQL (cx : Cx) (call : CallF) (f : FuncId) (args : List V) (M : Mem) (k : V → Option R) : Option R :=
  match find cx.fns f with
  | none => none
  | some F => match F.fs, lendVs M args with
    | [], some args => fV.go args fun args => ocall (F.rs.sh 0) [] (call f args []) fun t _ => bif ((F.rs.sh 0).enc t).clean then k (((F.rs.sh 0).enc t).ren fun _ => none) else none
    | _, _ => none

open Classical in
/-- Where two things are the same. -/
noncomputable def osame {α : Type} (a b : α) (x : Option R) : Option R := if a = b then x else none
/-- The entries are what they were; what is behind them is new. -/
noncomputable def osames : Mem → Mem → (Mem → Option R) → Option R
  | [], X, k => k X
  | .box a :: M, .box b :: M', k => osame a b (osames M M' k)
  | .row sz n fr al es :: M, .row sz' n' fr' al' es' :: M', k => bif Nat.beq sz sz' && (fr == fr' && al == al') then osame (n, es) (n', es') (osames M M' k) else none
  | .lrow sz n mv es :: M, .lrow sz' n' mv' es' :: M', k => osame (Ent.lrow sz n mv es) (Ent.lrow sz' n' mv' es') (osames M M' k)
  | .hole sz n mv es i j v :: M, .hole sz' n' mv' es' i' j' v' :: M', k => osame (Ent.hole sz n mv es i j v) (Ent.hole sz' n' mv' es' i' j' v') (osames M M' k)
  | _, _, _ => none

/-- A call that leaves all entries as they are, and may add some. -/
noncomputable def evCallG (cx : Cx) (call : CallF) (f : FuncId) (args : List V) (M : Mem) (k : V → Mem → Option R) : Option R :=
  match find cx.fns f with
  | none => none
  | some F => match quietArgs M args with
    | none => bif lendF cx f || cx.lin then none else evCall cx call f args M fun v M' ks => bif ks.isEmpty then osames M M' fun X => k v X else none
    | some args => fV.go args fun args => ocall (F.rs.sh 0) (effMs F []) (call f args []) fun t u =>
        let g := backN [] M.length
        k (((F.rs.sh 0).enc t).ren g) ((ES.encs (effMs F []) u).map (Ent.ren g))

/-- Something is put behind nothing, or behind a list whose room is just its length. -/
def evAppendG (E : TI) (M : Mem) (s x : V) (k : V → Mem → Option R) : Option R :=
  match evSrc M x with
  | none => none
  | some (sx, m, xs) =>
    bif Nat.beq sx E.size then match s with
    | .d (.sl true _ 0 _) => oguard (decide (m * E.bytes ≤ maxBytes)) (k (.own M.length) [.row E.size m false false xs])
    | .d (.sl true sz (n + 1) es) => match m with
      | 0 => none
      | m + 1 => bif Nat.beq sz E.size then oguard (decide ((n + 1 + (m + 1)) * E.bytes ≤ maxBytes)) (olet (es ++ xs) fun es => k (.own M.length) [.row E.size (n + 1 + (m + 1)) false false es]) else none
    | _ => none
    else none

/-- An operation that adds entries. -/
noncomputable def evOpG (cx : Cx) (call : CallF) (o : Op) (rd : Operand → V) (M : Mem) (k : V → Mem → Option R) : Option R :=
  match o with
  | .alloc t => match find cx.ty t with
    | some T => k (.ptr M.length 0) [.box T.zero]
    | none => none
  | .box t x => bif (fixNil cx t (rd x)).sized then k (.ptr M.length 0) [.box (fixNil cx t (rd x)).cells] else none
  | .buildSlice t len parts => bif cx.lin && Nat.beq len 1 then match find cx.ty t with
    | some T => match T.kind with
      | .sl e => match find cx.ty e, parts.toList with
        | some E, [p] => bif (Nat.beq p.1 0 && (Nat.blt 0 E.size && Nat.ble E.size 10000)) && ((fixNil cx e (rd p.2)).sized && Nat.beq (fixNil cx e (rd p.2)).cells.length E.size) then k (.own M.length) [.box (fixNil cx e (rd p.2)).cells] else none
        | _, _ => none
      | _ => none
    | none => none
    else none
  | .makeSlice t l c => bif cx.lin then none else match find cx.ty t with
    | some T => match T.kind with
      | .sl e => match find cx.ty e, rd l, rd c with
        | some E, .d (.int .i64 n), .d (.int .i64 m) => oguard (decide (0 ≤ n ∧ n = m ∧ n * E.bytes ≤ maxBytes)) (match freezeL [] E.zero with
            | some (z, _) => olet (List.replicate n.toNat z) fun es => k (.own M.length) [.row E.size n.toNat false false es]
            | none => none)
        | _, _, _ => none
      | _ => none
    | none => none
  | .call c => match c.callee with
    | .value x => match rd x with
      | .fn f caps => evCallG cx call f (fixNils cx c.argTypes.toList (c.args.toList.map rd) ++ caps) M k
      | _ => none
    | .builtin b => match b, c.args.toList with
      | .append, [s, x] => bif cx.lin then none else match c.argTypes[0]?, c.argTypes[1]? with
        | some t, some u => match elemTI cx t, find cx.ty u with
          | some E, some U => match U.kind with
            | .sl _ => evAppendG E M (fixNil cx t (rd s)) (fixNil cx t (rd x)) k
            | .str => evAppendG E M (fixNil cx t (rd s)) (fixNil cx t (rd x)) k
            | _ => none
          | _, _ => none
        | _, _ => none
      | _, _ => none
    | _ => none
  | _ => none

/-- A literal's elements, where nothing is to be frozen for them. -/
def litQ (sz : Nat) (M : Mem) : Nat → List (Nat × V) → Option (List (List D))
  | _, [] => some []
  | i, (j, v) :: r => bif Nat.beq i j && (v.sized && Nat.beq v.cells.length sz) then match freezeQL M v.cells, litQ sz M (i + 1) r with
      | some c, some es => some (c :: es)
      | _, _ => none
    else none

/-- A test whether a list is nil. -/
def nilOp : Op → Bool
  | .binOp _ _ _ y _ => isNilC y
  | _ => false
/-- An operation in a region that draws its order. -/
noncomputable def evOpQ (cx : Cx) (call : CallF) (ty : TypeId) (o : Op) (rd : Operand → V) (M : Mem) (k : V → Option R) : Option R :=
  match o with
  | .call c => match c.callee with
    | .value x => match rd x with
      | .fn f caps => bif lendF cx f then evCallQL cx call f (fixNils cx c.argTypes.toList (c.args.toList.map rd) ++ caps) M k
        else evCallQ cx call f (fixNils cx c.argTypes.toList (c.args.toList.map rd) ++ caps) M k
      | _ => none
    | _ => evOpR cx ty o rd M k
  | .buildSlice t len parts => match find cx.ty t with
    | some T => match T.kind with
      | .sl e => match find cx.ty e with
        | some E => bif Nat.beq parts.size len && Nat.ble (len * E.size) 10000 then match litQ E.size M 0 (parts.toList.map fun p => (p.1, fixNil cx e (rd p.2))) with
            | some es => k (.d (.sl true E.size len es))
            | none => none
          else none
        | none => none
      | _ => none
    | none => none
  | _ => bif nilOp o then none else evOpR cx ty o rd M k

/-- An operation in a region that draws its order: one that adds entries, or one that leaves all as they are. -/
noncomputable def evOpM (cx : Cx) (call : CallF) (ty : TypeId) (gr : Bool) (o : Op) (rd : Operand → V) (M : Mem) (k : V → Mem → Option R) : Option R :=
  bif gr then evOpG cx call o rd M k else evOpQ cx call ty o rd M fun v => k v []

def putE (d : Option Nat) (v : V) (e : Env) : Env := match d with | some t => (t, v) :: e | none => e
def dstOk (nt : Nat) (d : Option Nat) : Bool := match d with | some t => Nat.blt t nt | none => true

def rdE (e : Env) : Operand → V
  | .tmp t => getE e t
  | .const (.int k n) => .d (.int k n)
  | .const (.bool b) => .kb b
  | .const (.string s) => .d (.str s)
  | .const (.slice none 0 0) => .d (.sl true 0 0 [])
  | .func f => .fn f []
  | _ => .undef

/-- The operations of a region, in the text's order. all: all of them (a guard names one by its place). -/
noncomputable def evOps (cx : Cx) (call : CallF) (nt : Nat) (all : List Oper) : List Oper → Env → Mem → (Env → Mem → Option R) → Option R
  | [], e, M, k => k e M
  | o :: r, e, M, k => bif dstOk nt o.dst then
      match o.guard with
      | none => evOp cx call o.type o.op (rdE e) M fun v M ks => fV v fun v => fM M fun M => evOps cx call nt all r (putE o.dst v (killE ks e)) M k
      | some (j, want) => match all[j]? with
        | none => none
        | some g => match g.dst with
          | none => none
          | some t => match getE e t with
            | .kb b => bif b == want then evOp cx call o.type o.op (rdE e) M fun v M ks => fV v fun v => fM M fun M => evOps cx call nt all r (putE o.dst v (killE ks e)) M k
                else evOps cx call nt all r (putE o.dst (.tup []) e) M k
            | .d (.bool b) => oite b
                (bif want then evOp cx call o.type o.op (rdE ((t, .kb true) :: e)) M fun v M ks => fV v fun v => fM M fun M => evOps cx call nt all r (putE o.dst v (killE ks ((t, .kb true) :: e))) M k
                  else evOps cx call nt all r (putE o.dst (.tup []) ((t, .kb true) :: e)) M k)
                (bif want then evOps cx call nt all r (putE o.dst (.tup []) ((t, .kb false) :: e)) M k
                  else evOp cx call o.type o.op (rdE ((t, .kb false) :: e)) M fun v M ks => fV v fun v => fM M fun M => evOps cx call nt all r (putE o.dst v (killE ks ((t, .kb false) :: e))) M k)
            | .tup _ => evOps cx call nt all r (putE o.dst (.tup []) e) M k
            | _ => none
    else none

/-- The operations at some places. -/
def pickO (l : List Oper) (gs : List Nat) : List Nat → List (Bool × Oper)
  | [] => []
  | i :: r => match l[i]? with
    | some o => ((match idx gs i with | some _ => true | none => false), o) :: pickO l gs r
    | none => pickO l gs r

/-- The first operations of a region that draws its order: none of them writes over anything. -/
noncomputable def evM (cx : Cx) (call : CallF) (nt : Nat) (all : List Oper) : List (Bool × Oper) → Env → Mem → (Env → Mem → Option R) → Option R
  | [], e, M, k => k e M
  | (gr, o) :: r, e, M, k => bif dstOk nt o.dst then
      match o.guard with
      | none => evOpM cx call o.type gr o.op (rdE e) M fun v X => fV v fun v => fM (M ++ X) fun M => evM cx call nt all r (putE o.dst v e) M k
      | some (j, want) => match all[j]? with
        | none => none
        | some g => match g.dst with
          | none => none
          | some t => match getE e t with
            | .kb b => bif b == want then evOpM cx call o.type gr o.op (rdE e) M fun v X => fV v fun v => fM (M ++ X) fun M => evM cx call nt all r (putE o.dst v e) M k
                else evM cx call nt all r (putE o.dst (.tup []) e) M k
            | .d (.bool b) => oite b
                (bif want then evOpM cx call o.type gr o.op (rdE ((t, .d (.bool true)) :: e)) M fun v X => fV v fun v => fM (M ++ X) fun M => evM cx call nt all r (putE o.dst v ((t, .d (.bool true)) :: e)) M k
                  else evM cx call nt all r (putE o.dst (.tup []) ((t, .d (.bool true)) :: e)) M k)
                (bif want then evM cx call nt all r (putE o.dst (.tup []) ((t, .d (.bool false)) :: e)) M k
                  else evOpM cx call o.type gr o.op (rdE ((t, .d (.bool false)) :: e)) M fun v X => fV v fun v => fM (M ++ X) fun M => evM cx call nt all r (putE o.dst v ((t, .d (.bool false)) :: e)) M k)
            | .tup _ => evM cx call nt all r (putE o.dst (.tup []) e) M k
            | _ => none
    else none

/-! A region that draws its order: some operations only read, and may be taken at other times than in the order that is told; at each operation that writes, those that may be taken ahead of it and behind it come to the same. -/
def noIds (v : V) : Bool := match ids v with
  | [] => true
  | _ => false
/-- An operation behind which no row is lost. -/
def noKill (cx : Cx) (M : Mem) (rd : Operand → V) (o : Op) : Bool := match o with
  | .load _ _ => true
  | .store _ a _ => !isLep M (rd a)
  | .call c => match c.callee with
    | .value x => match rd x with
      | .fn f _ => lendF cx f
      | _ => true
    | _ => false
  | _ => false
def noIdsL : List V → Bool
  | [] => true
  | v :: vs => noIds v && noIdsL vs
noncomputable def evPre (cx : Cx) (call : CallF) : List Oper → Env → Mem → (List V → Option R) → Option R
  | [], _, _, k => k []
  | o :: r, e, M, k => match o.dst with
    | some d => evOpQ cx call o.type o.op (rdE e) M fun v => fV v fun v => evPre cx call r ((d, v) :: e) M fun vs => k (v :: vs)
    | none => none
noncomputable def evPost (cx : Cx) (call : CallF) : List Oper → List V → Env → Mem → Option R → Option R
  | [], _, _, _, x => x
  | o :: r, v :: vs, e, M, x => match o.dst with
    | some d => evOpQ cx call o.type o.op (rdE e) M fun v' => osame [v] [v'] (evPost cx call r vs ((d, v) :: e) M x)
    | none => none
  | _ :: _, [], _, _, _ => none
noncomputable def evFl (cx : Cx) (call : CallF) (nt : Nat) (all : List Oper) : List (Bool × List Oper × Oper) → Env → Mem → (Env → Mem → Option R) → Option R
  | [], e, M, k => k e M
  | (f, ck, o) :: r, e, M, k => bif f then (match o.guard, o.dst with
      | none, some d => bif Nat.blt d nt then evOpQ cx call o.type o.op (rdE e) M fun v => fV v fun v => evFl cx call nt all r ((d, v) :: e) M k else none
      | _, _ => none)
    else evPre cx call ck e M fun vs => bif noIdsL vs || noKill cx M (rdE e) o.op then evOps cx call nt all [o] e M fun e' M' => evPost cx call ck vs e' M' (evFl cx call nt all r e' M' k) else none
/-- The operations at some places of a list, of those that are named. -/
def ckOps (l : List Oper) (c : List Nat) : List Nat → List Oper
  | [] => []
  | j :: r => match idx c j, l[j]? with
    | some _, some o => o :: ckOps l c r
    | _, _ => ckOps l c r
def ckAt (ck : List (Nat × List Nat)) (i : Nat) : List Nat := match find ck i with
  | some c => c
  | none => []
/-- Is an operation one that only reads? -/
def isFl (fl : List Nat) (i : Nat) : Bool := match idx fl i with | some _ => true | none => false
def pickF (l : List Oper) (fl : List Nat) (ck : List (Nat × List Nat)) : List Nat → List (Bool × List Oper × Oper)
  | [] => []
  | i :: r => match l[i]? with
    | some o => (isFl fl i, ckOps l (ckAt ck i) r, o) :: pickF l fl ck r
    | none => pickF l fl ck r
def flIn (l : List Oper) (nt : Nat) (fl : List Nat) : Bool := fl.all fun j => match l[j]? with
  | some o => dstOk nt o.dst
  | none => true
def notDst (l : List Oper) (fl : List Nat) (t : Nat) : Bool := fl.all fun j => match l[j]? with
  | some o => !(o.dst == some t)
  | none => true

end

def V.plain : V → V
  | .kb b => .d (.bool b)
  | .d x => .d x.wk
  | v => v

def plainL : List V → List V
  | [] => []
  | v :: vs => v.plain :: plainL vs

def Ent.plain : Ent → Ent
  | .box cs => .box (plainL cs)
  | e => e

def ownSlots : List (Nat × Nat) → Env → Mem → Env × Mem
  | [], e, M => (e, M)
  | (t, sz) :: r, e, M => match getE e t with
    | .d (.sl true _ 0 _) => ownSlots r ((t, .own M.length) :: e) (M ++ [nilEnt sz])
    | _ => ownSlots r e M

def weaken : List (Nat × Bool × Bool) → Mem → Mem
  | [], M => M
  | (i, f, m) :: r, M => match getM M i with
    | some (.row sz n fz mv es) => weaken r (M.set i (.row sz n (f || fz) (m || mv) es))
    | some (.lrow sz n mv es) => weaken r (M.set i (.lrow sz n (m || mv) es))
    | _ => weaken r M


def isPre : Nat → Nat → List Nat → Bool
  | _, 0, _ => true
  | i, n + 1, j :: r => Nat.beq i j && isPre (i + 1) n r
  | _, _ + 1, [] => false

def pickM (M : Mem) (keep : List Nat) : List Nat → Option Mem
  | [] => some []
  | i :: r => match getM M i with
    | some e => match pickM M keep r with
      | some es => some (e.plain.ren (idx keep) :: es)
      | none => none
    | none => none

/-! A part of a row, from its first element on, becomes a row again -/
def cut1 (i k sz : Nat) (M : Mem) : Option Mem := match getM M i with
  | some (.row sz' n false _ es) => bif Nat.beq sz' sz && Nat.ble k n then some (killM [i] (M.set i (.row sz' k false true (es.take k)))) else none
  | _ => none
def cutOf : V → Option (Nat × Nat)
  | .ref i 0 k => some (i, k)
  | _ => none
def cutSlots : List (Nat × Nat) → Env → Mem → Env × Mem
  | [], e, M => (e, M)
  | (t, sz) :: r, e, M => match cutOf (getE e t) with
    | some (i, k) => match cut1 i k sz M with
      | some M' => cutSlots r ((t, .own i) :: killE [i] e) M'
      | none => cutSlots r e M
    | none => cutSlots r e M

/-! A row that stands for one that was handed over -/
def backG (i j a : Nat) : Option Nat := bif Nat.beq a i then none else bif Nat.beq a j then some i else some a
def back1 (m0 i j : Nat) (M : Mem) : Option Mem := match getM M i, getM M j with
  | some (.row sz _ _ _ _), some (.row sz' n fz _ es) => bif (Nat.blt i m0 && Nat.ble m0 j) && Nat.beq sz sz' then some (((M.map (Ent.ren (backG i j))).set i (.row sz' n fz true es)).set j (.row sz' 0 false false [])) else none
  | some (.lrow sz _ _ _), some (.lrow sz' n _ es) => bif (Nat.blt i m0 && Nat.ble m0 j) && Nat.beq sz sz' then some (((M.map (Ent.ren (backG i j))).set i (.lrow sz' n true es)).set j (.row sz' 0 false false [])) else none
  | _, _ => none
def ownOf : V → Option Nat
  | .own j => some j
  | _ => none
def backSlots (m0 : Nat) : List (Nat × Nat) → Env → Mem → Env × Mem
  | [], e, M => (e, M)
  | (t, i) :: r, e, M => match ownOf (getE e t) with
    | some j => match back1 m0 i j M with
      | some M' => backSlots m0 r (e.map fun p => (p.1, p.2.ren (backG i j))) M'
      | none => backSlots m0 r e M
    | none => backSlots m0 r e M
def cellOf (vs : List V) (r c : Nat) : V := match vs[r]? with
  | some (.agg cs) => cs.getD c .undef
  | some v => v
  | none => .undef
def backVals (m0 : Nat) : List (Nat × Nat × Nat) → List V → Mem → List V × Mem
  | [], vs, M => (vs, M)
  | (a, c, i) :: r, vs, M => match ownOf (cellOf vs a c) with
    | some j => match back1 m0 i j M with
      | some M' => backVals m0 r (V.ren.go (backG i j) vs) M'
      | none => backVals m0 r vs M
    | none => backVals m0 r vs M

/-- The entries that live on. -/
def keepOf (live : List Nat) (m0 : Nat) (e : Env) (M : Mem) : List Nat :=
  reach M 4 (dedup (List.range m0) (ids.go (live.map fun t => getE e t)))
def applyNorm (N : Norm) (m0 : Nat) (e : Env) (M : Mem) : Option (Env × Mem) :=
  let (e, M) := ownSlots N.own e M
  let (e, M) := cutSlots N.own e (weaken N.weak (ownCells N.ownc M))
  let (e, M) := backSlots m0 N.back e M
  let keep := keepOf N.live m0 e M
  bif isPre 0 m0 keep && nodupB keep then
    match pickM M keep keep with
    | some M => some (N.live.map fun t => (t, ((getE e t).plain).ren (idx keep)), M)
    | none => none
  else none

section
variable {R : Type}

/-- Goes on at a place that more than one way leads to. -/
def enter (N : Norm) (m0 : Nat) (J : Nat → Env → Mem → Option R) (e : Env) (M : Mem) : Option R :=
  match applyNorm N m0 e M with
  | some (e, M) => fE e fun e => fM M fun M => J N.id e M
  | none => none
/-- What goes on behind a round. -/
def kloop (N : Norm) (m0 : Nat) (J : Nat → Env → Mem → Option R) (K : Ex → Env → Mem → Option R) : Ex → Env → Mem → Option R := fun x e M =>
  match x with
  | .norm => enter N m0 J e M
  | x => K x e M

def Ann.l1 : Ann → Ann
  | .s a _ => a
  | .j _ a _ => a
  | .l _ a => a
  | .b a => a
  | _ => .o
def Ann.l2 : Ann → Ann
  | .s _ y => y
  | .j _ _ y => y
  | _ => .o

def Ann.n : Ann → Norm
  | .j N _ _ => N
  | .l N _ => N
  | _ => ⟨0, [], [], [], [], []⟩

/-- What goes on behind the first of two. -/
def kseq (ann : Ann) (m0 : Nat) (J : Nat → Env → Mem → Option R) (next : Env → Mem → Option R) (K : Ex → Env → Mem → Option R) : Ex → Env → Mem → Option R := fun x e M =>
  match x with
  | .norm => match ann with
    | .j N _ _ => enter N m0 J e M
    | _ => next e M
  | x => K x e M
def kblock (id : Nat) (K : Ex → Env → Mem → Option R) : Ex → Env → Mem → Option R := fun x e M =>
  match x with
  | .ex i => bif Nat.beq i id then K .norm e M else K (.ex i) e M
  | x => K x e M

/-- J: what goes on at a place that more than one way leads to. -/
noncomputable def evC (cx : Cx) (call : CallF) (J : Nat → Env → Mem → Option R) (nt m0 : Nat) : Code → Ann → (Ex → Env → Mem → Option R) → Env → Mem → Option R
  | .skip, _, K, e, M => K .norm e M
  | .region _ ops draw, ann, K, e, M => bif draw then (match ann with
      | .r p nr nm gs => evM cx call nt ops.toList (pickO ops.toList gs (p.take (nr + nm))) e M fun e M => evOps cx call nt ops.toList ((pickO ops.toList gs (p.drop (nr + nm))).map (·.2)) e M (K .norm)
      | .f p nr fl ck => evM cx call nt ops.toList (pickO ops.toList [] (p.take nr)) e M fun e M => bif flIn ops.toList nt fl then fE (e.filter fun q => notDst ops.toList fl q.1) fun e => evFl cx call nt ops.toList (pickF ops.toList fl ck (p.drop nr)) e M (K .norm) else none
      | _ => none) else evOps cx call nt ops.toList ops.toList e M (K .norm)
  | .seq a b, ann, K, e, M => evC cx call J nt m0 a ann.l1 (kseq ann m0 J (evC cx call J nt m0 b ann.l2 K) K) e M
  | .cond c x y, ann, K, e, M => match rdE e c with
    | .kb t => bif t then evC cx call J nt m0 x ann.l1 K e M else evC cx call J nt m0 y ann.l2 K e M
    | .d (.bool t) => oite t (evC cx call J nt m0 x ann.l1 K e M) (evC cx call J nt m0 y ann.l2 K e M)
    | _ => none
  | .block id b, ann, K, e, M => evC cx call J nt m0 b ann.l1 (kblock id K) e M
  | .loop _, ann, _, e, M => match ann with
    | .l N _ => enter N m0 J e M
    | _ => none
  | .exit id, _, K, e, M => K (.ex id) e M
  | .ret, _, K, e, M => K .ret e M
  | _, _, _, _, _ => none

def orE (x y : Option (Env → Mem → Option R)) : Option (Env → Mem → Option R) := match x with
  | some r => some r
  | none => y

/-- What stands at a place. -/
noncomputable def evL (cx : Cx) (call : CallF) (J : Nat → Env → Mem → Option R) (nt m0 l : Nat) : Code → Ann → (Ex → Env → Mem → Option R) → Option (Env → Mem → Option R)
  | .seq a b, ann, K => orE (match ann with
      | .j N _ y => bif Nat.beq N.id l then some (evC cx call J nt m0 b y K) else none
      | _ => none) (orE (evL cx call J nt m0 l a ann.l1 (kseq ann m0 J (evC cx call J nt m0 b ann.l2 K) K)) (evL cx call J nt m0 l b ann.l2 K))
  | .cond _ x y, ann, K => orE (evL cx call J nt m0 l x ann.l1 K) (evL cx call J nt m0 l y ann.l2 K)
  | .block id b, ann, K => evL cx call J nt m0 l b ann.l1 (kblock id K)
  | .loop b, ann, K => match ann with
    | .l N a => orE (bif Nat.beq N.id l then some (evC cx call J nt m0 b a (kloop N m0 J K)) else none) (evL cx call J nt m0 l b a (kloop N m0 J K))
    | _ => none
  | _, _, _ => none
/-- The places of a piece of code. -/
def labs : Code → Ann → List Nat
  | .seq a b, ann => (match ann with | .j N _ _ => [N.id] | _ => []) ++ (labs a ann.l1 ++ labs b ann.l2)
  | .cond _ x y, ann => labs x ann.l1 ++ labs y ann.l2
  | .block _ b, ann => labs b ann.l1
  | .loop b, ann => match ann with
    | .l N a => N.id :: labs b a
    | _ => []
  | _, _ => []

end

def resVs (cx : Cx) (e : Env) (M : Mem) : List ResultVar → Option (List V)
  | [] => some []
  | .tmp t :: r => match resVs cx e M r with | some vs => some (getE e t :: vs) | none => none
  | .cell a t :: r => match find cx.ty t with
    | some T => match evLoad T M (getE e a) some with
      | some v => match resVs cx e M r with | some vs => some (v :: vs) | none => none
      | none => none
    | none => none

def one : List V → V
  | [v] => v
  | vs => .tup vs

/-- The entries that are left behind a call. -/
def finKeep (m0 : Nat) (vs : List V) (M : Mem) : List Nat := reach M 4 (dedup (List.range m0) (ids.go vs))
def fin (cx : Cx) (F : FnI) (m0 : Nat) (e : Env) (M : Mem) : Option (V × Mem) :=
  match resVs cx e M F.fn.results.toList with
  | none => none
  | some vs => match (bif F.rawr then some (ownVals F.rown vs M) else freezeVs M vs) with
    | none => none
    | some (vs, M) =>
      let (vs, M) := backVals m0 F.back vs M
      bif isPre 0 m0 (finKeep m0 vs M) && nodupB (finKeep m0 vs M) then match pickM M (finKeep m0 vs M) (finKeep m0 vs M) with
        | some M1 => some ((one vs).ren (idx (finKeep m0 vs M)), M1)
        | none => none
      else none

def finish (cx : Cx) (F : FnI) (m0 : Nat) : Ex → Env → Mem → Option (V × Mem) := fun x e M =>
  match x with
  | .ex _ => none
  | _ => fin cx F m0 e M

def argE : Nat → List V → Env
  | _, [] => []
  | i, v :: vs => (i, v) :: argE (i + 1) vs

/-- Cells that hold one number each. -/
def intsD : List (List D) → Option (List Int)
  | [] => some []
  | c :: r => match c with
    | [x] => match x with
      | .int .i64 n => match intsD r with
        | some l => some (n :: l)
        | none => none
      | _ => none
    | _ => none
def intsB (es : List (List D)) : Bool := (intsD es).isSome
def sortEs (es : List (List D)) : List (List D) := (((intsD es).getD []).mergeSort fun x y => decide (x ≤ y)).map fun n => [.int .i64 n]
def compEs (es : List (List D)) : List (List D) := (Lib.compact ((intsD es).getD [])).map fun n => [.int .i64 n]
def compN (es : List (List D)) : Nat := (Lib.compact ((intsD es).getD [])).length
/-- Bytes below 128. -/
def asciiB (s : ByteArray) : Bool := s.data.toList.all fun b => decide (b.toNat < 128)
/-- The words of a text, one a cell. -/
def fieldEs (s : ByteArray) : List (List D) := (Lib.fields s.data.toList).map fun l => [.str ⟨l.toArray⟩]
def fieldN (s : ByteArray) : Nat := (Lib.fields s.data.toList).length
/-- A number's digits. -/
def itoaB (n : Int) : ByteArray := ⟨(Lib.itoa n).toArray⟩
/-- What such a function does. -/
def conF : Con → List V → Mem → Option (V × Mem)
  | .sortI, args, M => match args with
    | [x] => match x with
      | .own 0 => match M with
        | [e] => match e with
          | .row 1 n false false es => oguard (intsB es && decide (n ≤ 140737488351232)) (some (.tup [], [.row 1 n false false (sortEs es)]))
          | _ => none
        | _ => none
      | _ => none
    | _ => none
  | .fieldsC, args, M => match args with
    | [x] => match x with
      | .d x => match x with
        | .str s => match M with
          | [] => oguard (asciiB s && decide (s.size < 4294967281)) (some (.d (.sl false 1 (fieldN s) (fieldEs s)), []))
          | _ => none
        | _ => none
      | _ => none
    | _ => none
  | .itoaC, args, M => match args with
    | [x] => match x with
      | .d x => match x with
        | .int k n => match k with
          | .i64 => match M with
            | [] => oguard (decide (-9223372036854775808 ≤ n ∧ n ≤ 9223372036854775807)) (some (.d (.str (itoaB n)), []))
            | _ => none
          | _ => none
        | _ => none
      | _ => none
    | _ => none
  | .compactI, args, M => match args with
    | [x] => match x with
      | .own 0 => match M with
        | [e] => match e with
          | .row 1 n false false es => oguard (intsB es && decide (n ≤ 140737488351232)) (some (.own 0, [.row 1 (compN es) false true (compEs es)]))
          | _ => none
        | _ => none
      | _ => none
    | _ => none

def callOf (cx : Cx) (G : FuncId → Nat → Nat → Env → Mem → Option (V × Mem)) : CallF := fun f args M => match find cx.fns f with
  | none => none
  | some F => match F.con with
    | some c => conF c args M
    | none => bif Nat.ble args.length F.fn.ntmps then G f M.length 0 (argE 0 args) M else none

/-- A function, from a place on (0: its first), with at most so many calls in each other and goings on at places. -/
noncomputable def evG (cx : Cx) : Nat → FuncId → Nat → Nat → Env → Mem → Option (V × Mem)
  | 0 => fun _ _ _ _ _ => none
  | k + 1 => fun f m0 l e M => match find cx.fns f with
    | none => none
    | some F => match l with
      | 0 => evC (cx.at F) (callOf cx (evG cx k)) (evG cx k f m0) F.fn.ntmps m0 F.body F.ann (finish cx F m0) e M
      | _ + 1 => match evL (cx.at F) (callOf cx (evG cx k)) (evG cx k f m0) F.fn.ntmps m0 l F.body F.ann (finish cx F m0) with
        | some r => r e M
        | none => none

/-- What a function does from a place on, when it does G behind each call and each going on. -/
noncomputable def evS (cx : Cx) (G : FuncId → Nat → Nat → Env → Mem → Option (V × Mem)) (f : FuncId) (m0 l : Nat) (e : Env) (M : Mem) : Option (V × Mem) :=
  match find cx.fns f with
  | none => none
  | some F => match l with
    | 0 => evC (cx.at F) (callOf cx G) (G f m0) F.fn.ntmps m0 F.body F.ann (finish cx F m0) e M
    | _ + 1 => match evL (cx.at F) (callOf cx G) (G f m0) F.fn.ntmps m0 l F.body F.ann (finish cx F m0) with
      | some r => r e M
      | none => none

noncomputable def evFn (cx : Cx) (k : Nat) : CallF := callOf cx (evG cx k)

attribute [reducible] LS.T LS.Ts MS.T MS.Ts Sh.T ES.T ES.Ts
attribute [irreducible] oguard oite obind olet ocall ocells oat onil ostr
end Go.Ev
