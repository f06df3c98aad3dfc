import Derived.Test.YtkgabahlbmonfaaDoorEvFam
set_option linter.unusedVariables false
set_option linter.unusedSimpArgs false
/-
  The program's data, as trees.
-/
namespace Go.Ev
open Go

abbrev sh_Ty : List LS := [.int .i64, .int .i64, .sl 3]
abbrev T_Ty := Int × Int × Sl × Unit
abbrev sh_Bind : List LS := [.int .i64, .int .i64, .int .i64, .sl 3]
abbrev T_Bind := Int × Int × Int × Sl × Unit
abbrev sh_Access : List LS := [.int .i64, .int .i64, .int .i64]
abbrev T_Access := Int × Int × Int × Unit
abbrev sh_Heap : List LS := [.sl 1, .int .i64, .int .i64, .int .i64, .sl 3]
abbrev T_Heap := Sl × Int × Int × Int × Sl × Unit
abbrev sh_LowAlt : List LS := [.int .i64, .sl 1, .int .i64, .int .i64, .int .i64, .int .i64, .sl 1, .int .i64, .int .i64, .sl 3, .int .i64, .int .i64, .sl 3, .sl 13, .sl 15]
abbrev T_LowAlt := Int × Sl × Int × Int × Int × Int × Sl × Int × Int × Sl × Int × Int × Sl × Sl × Sl × Unit
abbrev sh_Low : List LS := [.int .i64, .int .i64, .int .i64, .int .i64, .sl 1, .int .i64, .int .i64, .sl 3, .int .i64, .int .i64, .sl 3, .sl 13, .sl 15]
abbrev T_Low := Int × Int × Int × Int × Sl × Int × Int × Sl × Int × Int × Sl × Sl × Sl × Unit
abbrev sh_l1Cur : List LS := [.sl 1, .int .i64, .int .i64]
abbrev T_l1Cur := Sl × Int × Int × Unit

def ints (l : List Int) : Sl := sl (sh := [.int .i64]) (fun n => (n, ())) l
def bytes (l : List Int) : Sl := sl (sh := [.int .u8]) (fun n => (n, ())) l
theorem ints_n {l : List Int} : (ints l).1 = l.length := rfl
theorem bytes_n {l : List Int} : (bytes l).1 = l.length := rfl

/-! Types -/
inductive Ty where
  | mk (kind n : Int) (args : List Ty)

mutual
def Ty.ts : Ty → T_Ty
  | .mk k n l => (k, n, (l.length, Ty.dss l), ())
def Ty.dss : List Ty → List (List D)
  | [] => []
  | a :: l => vDs (LS.encs sh_Ty (Ty.ts a)) :: Ty.dss l
end
theorem Ty.dss_eq : ∀ l : List Ty, Ty.dss l = l.map fun a => vDs (LS.encs sh_Ty (Ty.ts a))
  | [] => by simp only [Ty.dss, List.map_nil]
  | a :: l => by simp only [Ty.dss, List.map_cons, Ty.dss_eq l]
def tys (l : List Ty) : Sl := sl (sh := sh_Ty) Ty.ts l
theorem Ty.ts_mk {k n : Int} {l : List Ty} : Ty.ts (.mk k n l) = (k, n, tys l, ()) := by
  simp only [Ty.ts, Ty.dss_eq]; rfl
theorem Ty.ind {P : Ty → Prop} (h : ∀ k n l, (∀ a ∈ l, P a) → P (.mk k n l)) (t : Ty) : P t :=
  Ty.rec (motive_1 := P) (motive_2 := fun l => ∀ a ∈ l, P a) h (fun a h => by simp at h) (fun a l h1 h2 b hb => by
    rcases List.mem_cons.1 hb with rfl | hb
    · exact h1
    · exact h2 b hb) t

/-- The bulk of a type. -/
noncomputable def Ty.size (t : Ty) : Nat := Ty.rec (motive_1 := fun _ => Nat) (motive_2 := fun _ => Nat) (fun _ _ l s => l.length + s) 0 (fun _ _ a b => a + b) t
theorem Ty.size_mk {k n : Int} {l : List Ty} : Ty.size (.mk k n l) = l.length + (l.map Ty.size).sum := by
  show l.length + _ = l.length + _
  congr 1
  induction l with
  | nil => rfl
  | cons a l ih => simp only [List.map_cons, List.sum_cons]; rw [← ih]; rfl

def inI (x : Int) : Prop := -9223372036854775808 ≤ x ∧ x < 9223372036854775808
def lenOk {α : Type} (l : List α) : Prop := (l.length : Int) ≤ 9223372036854775807

inductive Ty.ok : Ty → Prop where
  | mk {k n : Int} {l : List Ty} (hk : inI k) (hn : inI n) (hl : lenOk l) (ha : ∀ a ∈ l, a.ok) : Ty.ok (.mk k n l)

/-! Heaps -/
inductive Access where
  | mk (pos low high : Int)
def Access.ts : Access → T_Access
  | .mk a l h => (a, l, h, ())
theorem Access.ts_mk {a l h : Int} : Access.ts (.mk a l h) = (a, l, h, ()) := rfl
def accs (l : List Access) : Sl := sl (sh := sh_Access) Access.ts l
inductive Access.ok : Access → Prop where
  | mk {a l h : Int} (ha : inI a) (hl : inI l) (hh : inI h) : Access.ok (.mk a l h)
inductive Heap where
  | mk (words : List Int) (half low next : Int) (log : List Access)
def Heap.ts : Heap → T_Heap
  | .mk w h l n g => (ints w, h, l, n, accs g, ())
theorem Heap.ts_mk {w : List Int} {h l n : Int} {g : List Access} : Heap.ts (.mk w h l n g) = (ints w, h, l, n, accs g, ()) := rfl
inductive Heap.ok : Heap → Prop where
  | mk {w : List Int} {h l n : Int} {g : List Access} (hw : lenOk w) (hh : inI h) (hl : inI l) (hn : inI n) (hg : lenOk g) (ha : ∀ a ∈ g, a.ok) : Heap.ok (.mk w h l n g)

/-! Low expressions -/
mutual
inductive Low where
  | mk (kind n m con : Int) (lit : List Int) (ty fn : Ty) (kids : List Low) (alts : List LowAlt)
inductive LowAlt where
  | mk (con : Int) (vars : List Int) (body : Low)
end
mutual
def Low.ts : Low → T_Low
  | .mk k n m c lit ty fn kids alts => (k, n, m, c, bytes lit, ty.ts.1, ty.ts.2.1, ty.ts.2.2.1, fn.ts.1, fn.ts.2.1, fn.ts.2.2.1, (kids.length, Low.dss kids), (alts.length, LowAlt.dss alts), ())
def Low.dss : List Low → List (List D)
  | [] => []
  | a :: l => vDs (LS.encs sh_Low (Low.ts a)) :: Low.dss l
def LowAlt.ts : LowAlt → T_LowAlt
  | .mk c vars b => (c, ints vars, b.ts)
def LowAlt.dss : List LowAlt → List (List D)
  | [] => []
  | a :: l => vDs (LS.encs sh_LowAlt (LowAlt.ts a)) :: LowAlt.dss l
end
theorem Low.dss_eq : ∀ l : List Low, Low.dss l = l.map fun a => vDs (LS.encs sh_Low (Low.ts a))
  | [] => by simp only [Low.dss, List.map_nil]
  | a :: l => by simp only [Low.dss, List.map_cons, Low.dss_eq l]
theorem LowAlt.dss_eq : ∀ l : List LowAlt, LowAlt.dss l = l.map fun a => vDs (LS.encs sh_LowAlt (LowAlt.ts a))
  | [] => by simp only [LowAlt.dss, List.map_nil]
  | a :: l => by simp only [LowAlt.dss, List.map_cons, LowAlt.dss_eq l]
def lows (l : List Low) : Sl := sl (sh := sh_Low) Low.ts l
def lowAlts (l : List LowAlt) : Sl := sl (sh := sh_LowAlt) LowAlt.ts l
theorem Low.ts_mk {k n m c : Int} {lit : List Int} {ty fn : Ty} {kids : List Low} {alts : List LowAlt} : Low.ts (.mk k n m c lit ty fn kids alts) = (k, n, m, c, bytes lit, ty.ts.1, ty.ts.2.1, ty.ts.2.2.1, fn.ts.1, fn.ts.2.1, fn.ts.2.2.1, lows kids, lowAlts alts, ()) := by
  simp only [Low.ts, Low.dss_eq, LowAlt.dss_eq]; rfl
theorem LowAlt.ts_mk {c : Int} {vars : List Int} {b : Low} : LowAlt.ts (.mk c vars b) = (c, ints vars, b.ts) := by
  simp only [LowAlt.ts]
theorem Low.ind {P : Low → Prop} {Q : LowAlt → Prop} (h1 : ∀ k n m c lit ty fn kids alts, (∀ a ∈ kids, P a) → (∀ a ∈ alts, Q a) → P (.mk k n m c lit ty fn kids alts)) (h2 : ∀ c vars b, P b → Q (.mk c vars b)) (t : Low) : P t :=
  Low.rec (motive_1 := P) (motive_2 := Q) (motive_3 := fun l => ∀ a ∈ l, P a) (motive_4 := fun l => ∀ a ∈ l, Q a) h1 h2 (fun a h => by simp at h) (fun a l h1 h2 b hb => by
    rcases List.mem_cons.1 hb with rfl | hb
    · exact h1
    · exact h2 b hb) (fun a h => by simp at h) (fun a l h1 h2 b hb => by
    rcases List.mem_cons.1 hb with rfl | hb
    · exact h1
    · exact h2 b hb) t
def LowAlt.body : LowAlt → Low
  | .mk _ _ b => b
mutual
noncomputable def Low.size : Low → Nat
  | .mk _ _ _ _ lit ty fn kids alts => lit.length + ty.size + fn.size + (kids.length + Low.sizes kids) + (alts.length + LowAlt.sizes alts)
noncomputable def Low.sizes : List Low → Nat
  | [] => 0
  | a :: l => a.size + Low.sizes l
noncomputable def LowAlt.size : LowAlt → Nat
  | .mk _ vars b => vars.length + b.size
noncomputable def LowAlt.sizes : List LowAlt → Nat
  | [] => 0
  | a :: l => a.size + LowAlt.sizes l
end
theorem Low.sizes_eq : ∀ l : List Low, Low.sizes l = (l.map Low.size).sum
  | [] => by simp only [Low.sizes, List.map_nil, List.sum_nil]
  | a :: l => by simp only [Low.sizes, List.map_cons, List.sum_cons, Low.sizes_eq l]
theorem LowAlt.sizes_eq : ∀ l : List LowAlt, LowAlt.sizes l = (l.map LowAlt.size).sum
  | [] => by simp only [LowAlt.sizes, List.map_nil, List.sum_nil]
  | a :: l => by simp only [LowAlt.sizes, List.map_cons, List.sum_cons, LowAlt.sizes_eq l]
theorem Low.size_mk {k n m c : Int} {lit : List Int} {ty fn : Ty} {kids : List Low} {alts : List LowAlt} : Low.size (.mk k n m c lit ty fn kids alts) = lit.length + ty.size + fn.size + (kids.length + (kids.map Low.size).sum) + (alts.length + (alts.map LowAlt.size).sum) := by
  simp only [Low.size, Low.sizes_eq, LowAlt.sizes_eq]
theorem LowAlt.size_mk {c : Int} {vars : List Int} {b : Low} : LowAlt.size (.mk c vars b) = vars.length + b.size := by
  simp only [LowAlt.size]
mutual
inductive Low.ok : Low → Prop where
  | mk {k n m c : Int} {lit : List Int} {ty fn : Ty} {kids : List Low} {alts : List LowAlt} (hk : inI k) (hn : inI n) (hm : inI m) (hc : inI c) (hlit : lenOk lit) (hty : ty.ok) (hfn : fn.ok) (hkids : lenOk kids) (hkid : ∀ a ∈ kids, Low.ok a) (halts : lenOk alts) (halt : ∀ a ∈ alts, LowAlt.ok a) : Low.ok (.mk k n m c lit ty fn kids alts)
inductive LowAlt.ok : LowAlt → Prop where
  | mk {c : Int} {vars : List Int} {b : Low} (hc : inI c) (hvars : lenOk vars) (hb : Low.ok b) : LowAlt.ok (.mk c vars b)
end

/-! Programs -/
abbrev sh_Ins : List LS := [.int .i64, .int .i64, .int .i64, .sl 1, .sl 1]
abbrev T_Ins := Int × Int × Int × Sl × Sl × Unit
abbrev sh_Block : List LS := [.sl 3, .int .i64, .int .i64, .sl 3, .int .i64, .int .i64, .sl 3, .sl 3, .sl 5]
abbrev T_Block := Sl × Int × Int × Sl × Int × Int × Sl × Sl × Sl × Unit
abbrev sh_Program : List LS := [.sl 1, .sl 9, .sl 1]
abbrev T_Program := Sl × Sl × Sl × Unit
noncomputable def tysSize (l : List Ty) : Nat := l.length + (l.map Ty.size).sum
structure Ins where
  mk ::
  op : Int
  a : Int
  b : Int
  lit : List Int
  to : List Int
def Ins.ts (x : Ins) : T_Ins := (x.op, x.a, x.b, bytes x.lit, ints x.to, ())
theorem Ins.ts_mk {op a b : Int} {lit to : List Int} : Ins.ts (.mk op a b lit to) = (op, a, b, bytes lit, ints to, ()) := rfl
def inss (l : List Ins) : Sl := sl (sh := sh_Ins) Ins.ts l
def Ins.size (x : Ins) : Nat := x.lit.length + x.to.length
inductive Ins.ok : Ins → Prop where
  | mk {op a b : Int} {lit to : List Int} (ho : inI op) (ha : inI a) (hb : inI b) (hl : lenOk lit) (ht : lenOk to) : Ins.ok (.mk op a b lit to)
structure Blk where
  mk ::
  env : List Ty
  arg : Ty
  res : Ty
  locals : List Ty
  code : List Ins
def Blk.ts (x : Blk) : T_Block := (tys x.env, x.arg.ts.1, x.arg.ts.2.1, x.arg.ts.2.2.1, x.res.ts.1, x.res.ts.2.1, x.res.ts.2.2.1, tys x.locals, inss x.code, ())
theorem Blk.ts_mk {env : List Ty} {arg res : Ty} {locals : List Ty} {code : List Ins} : Blk.ts (.mk env arg res locals code) = (tys env, arg.ts.1, arg.ts.2.1, arg.ts.2.2.1, res.ts.1, res.ts.2.1, res.ts.2.2.1, tys locals, inss code, ()) := rfl
def blocks (l : List Blk) : Sl := sl (sh := sh_Block) Blk.ts l
noncomputable def Blk.size (x : Blk) : Nat := tysSize x.env + x.arg.size + x.res.size + tysSize x.locals + (x.code.length + (x.code.map Ins.size).sum)
inductive Blk.ok : Blk → Prop where
  | mk {env : List Ty} {arg res : Ty} {locals : List Ty} {code : List Ins} (he : lenOk env) (hes : ∀ x ∈ env, x.ok) (ha : arg.ok) (hr : res.ok) (hl : lenOk locals) (hls : ∀ x ∈ locals, x.ok) (hc : lenOk code) (hcs : ∀ x ∈ code, x.ok) : Blk.ok (.mk env arg res locals code)
structure Layout where
  mk ::
  cons : List (List Ty)
def tyss (l : List (List Ty)) : Sl := sl (sh := [.sl 3]) (fun l => (tys l, ())) l
def Layout.ts (x : Layout) : LS.Ts [.sl 1] := (tyss x.cons, ())
theorem Layout.ts_mk {cons : List (List Ty)} : Layout.ts (.mk cons) = (tyss cons, ()) := rfl
def layouts (l : List Layout) : Sl := sl (sh := [.sl 1]) Layout.ts l
noncomputable def Layout.size (x : Layout) : Nat := x.cons.length + (x.cons.map tysSize).sum
inductive Layout.ok : Layout → Prop where
  | mk {cons : List (List Ty)} (hc : lenOk cons) (hcs : ∀ l ∈ cons, lenOk l ∧ ∀ x ∈ l, x.ok) : Layout.ok (.mk cons)
structure Prog where
  mk ::
  layouts : List Layout
  blocks : List Blk
  caps : List Int
def Prog.ts (x : Prog) : T_Program := (Ev.layouts x.layouts, Ev.blocks x.blocks, ints x.caps, ())
theorem Prog.ts_mk {l : List Layout} {b : List Blk} {c : List Int} : Prog.ts (.mk l b c) = (Ev.layouts l, Ev.blocks b, ints c, ()) := rfl
noncomputable def Prog.size (x : Prog) : Nat := (x.layouts.length + (x.layouts.map Layout.size).sum) + (x.blocks.length + (x.blocks.map Blk.size).sum) + x.caps.length
inductive Prog.ok : Prog → Prop where
  | mk {l : List Layout} {b : List Blk} {c : List Int} (hl : lenOk l) (hls : ∀ x ∈ l, x.ok) (hb : lenOk b) (hbs : ∀ x ∈ b, x.ok) (hc : lenOk c) : Prog.ok (.mk l b c)

/-! Sources -/
abbrev sh_Con : List LS := [.sl 1, .sl 3]
abbrev T_Con := Sl × Sl × Unit
abbrev sh_Data : List LS := [.sl 1, .int .i64, .sl 2]
abbrev T_Data := Sl × Int × Sl × Unit
abbrev sh_Arm : List LS := [.sl 1, .sl 1, .int .i64, .int .i64, .sl 1, .sl 1, .sl 1, .sl 7, .sl 9]
abbrev T_Arm := Sl × Sl × Int × Int × Sl × Sl × Sl × Sl × Sl × Unit
abbrev sh_Expr : List LS := [.int .i64, .int .i64, .sl 1, .sl 1, .sl 1, .sl 7, .sl 9]
abbrev T_Expr := Int × Int × Sl × Sl × Sl × Sl × Sl × Unit
/-- Bytes of a text. -/
def byteL (l : List Int) : Prop := ∀ x ∈ l, 0 ≤ x ∧ x < 256
def textOk (l : List Int) : Prop := lenOk l ∧ byteL l
def bytess (l : List (List Int)) : Sl := sl (sh := [.sl 1]) (fun b => (bytes b, ())) l
structure Con1 where
  mk ::
  name : List Int
  fields : List Ty
def Con1.ts (x : Con1) : T_Con := (bytes x.name, tys x.fields, ())
def cons (l : List Con1) : Sl := sl (sh := sh_Con) Con1.ts l
noncomputable def Con1.size (x : Con1) : Nat := x.name.length + tysSize x.fields
inductive Con1.ok : Con1 → Prop where
  | mk {name : List Int} {fields : List Ty} (hn : textOk name) (hf : lenOk fields) (hfs : ∀ x ∈ fields, x.ok) : Con1.ok (.mk name fields)
theorem Con1.ts_mk {n : List Int} {f : List Ty} : Con1.ts (.mk n f) = (bytes n, tys f, ()) := rfl
structure Data where
  mk ::
  name : List Int
  vars : Int
  cons : List Con1
def Data.ts (x : Data) : T_Data := (bytes x.name, x.vars, Ev.cons x.cons, ())
def datas (l : List Data) : Sl := sl (sh := sh_Data) Data.ts l
noncomputable def Data.size (x : Data) : Nat := x.name.length + (x.cons.length + (x.cons.map Con1.size).sum)
inductive Data.ok : Data → Prop where
  | mk {name : List Int} {vars : Int} {c : List Con1} (hn : textOk name) (hv : inI vars) (hc : lenOk c) (hcs : ∀ x ∈ c, x.ok) : Data.ok (.mk name vars c)
theorem Data.ts_mk {n : List Int} {v : Int} {c : List Con1} : Data.ts (.mk n v c) = (bytes n, v, Ev.cons c, ()) := rfl
mutual
inductive Expr where
  | mk (kind n : Int) (name arg lit : List Int) (kids : List Expr) (arms : List Arm)
inductive Arm where
  | mk (con : List Int) (vars : List (List Int)) (body : Expr)
end
mutual
def Expr.ts : Expr → T_Expr
  | .mk k n name arg lit kids arms => (k, n, bytes name, bytes arg, bytes lit, (kids.length, Expr.dss kids), (arms.length, Arm.dss arms), ())
def Expr.dss : List Expr → List (List D)
  | [] => []
  | a :: l => vDs (LS.encs sh_Expr (Expr.ts a)) :: Expr.dss l
def Arm.ts : Arm → T_Arm
  | .mk c vars b => (bytes c, bytess vars, b.ts)
def Arm.dss : List Arm → List (List D)
  | [] => []
  | a :: l => vDs (LS.encs sh_Arm (Arm.ts a)) :: Arm.dss l
end
theorem Expr.dss_eq : ∀ l : List Expr, Expr.dss l = l.map fun a => vDs (LS.encs sh_Expr (Expr.ts a))
  | [] => by simp only [Expr.dss, List.map_nil]
  | a :: l => by simp only [Expr.dss, List.map_cons, Expr.dss_eq l]
theorem Arm.dss_eq : ∀ l : List Arm, Arm.dss l = l.map fun a => vDs (LS.encs sh_Arm (Arm.ts a))
  | [] => by simp only [Arm.dss, List.map_nil]
  | a :: l => by simp only [Arm.dss, List.map_cons, Arm.dss_eq l]
def exprs (l : List Expr) : Sl := sl (sh := sh_Expr) Expr.ts l
def arms (l : List Arm) : Sl := sl (sh := sh_Arm) Arm.ts l
theorem Expr.ts_mk {k n : Int} {name arg lit : List Int} {kids : List Expr} {as : List Arm} : Expr.ts (.mk k n name arg lit kids as) = (k, n, bytes name, bytes arg, bytes lit, exprs kids, arms as, ()) := by
  simp only [Expr.ts, Expr.dss_eq, Arm.dss_eq]; rfl
theorem Arm.ts_mk {c : List Int} {vars : List (List Int)} {b : Expr} : Arm.ts (.mk c vars b) = (bytes c, bytess vars, b.ts) := by
  simp only [Arm.ts]
theorem Expr.ind {P : Expr → Prop} {Q : Arm → Prop} (h1 : ∀ k n name arg lit kids arms, (∀ a ∈ kids, P a) → (∀ a ∈ arms, Q a) → P (.mk k n name arg lit kids arms)) (h2 : ∀ c vars b, P b → Q (.mk c vars b)) (t : Expr) : P t :=
  Expr.rec (motive_1 := P) (motive_2 := Q) (motive_3 := fun l => ∀ a ∈ l, P a) (motive_4 := fun l => ∀ a ∈ l, Q a) h1 h2 (fun a h => by simp at h) (fun a l h1 h2 b hb => by
    rcases List.mem_cons.1 hb with rfl | hb
    · exact h1
    · exact h2 b hb) (fun a h => by simp at h) (fun a l h1 h2 b hb => by
    rcases List.mem_cons.1 hb with rfl | hb
    · exact h1
    · exact h2 b hb) t
def Arm.body : Arm → Expr
  | .mk _ _ b => b
mutual
noncomputable def Expr.size : Expr → Nat
  | .mk _ _ name arg lit kids arms => name.length + arg.length + lit.length + (kids.length + Expr.sizes kids) + (arms.length + Arm.sizes arms)
noncomputable def Expr.sizes : List Expr → Nat
  | [] => 0
  | a :: l => a.size + Expr.sizes l
noncomputable def Arm.size : Arm → Nat
  | .mk c vars b => c.length + (vars.length + (vars.map List.length).sum) + b.size
noncomputable def Arm.sizes : List Arm → Nat
  | [] => 0
  | a :: l => a.size + Arm.sizes l
end
theorem Expr.sizes_eq : ∀ l : List Expr, Expr.sizes l = (l.map Expr.size).sum
  | [] => by simp only [Expr.sizes, List.map_nil, List.sum_nil]
  | a :: l => by simp only [Expr.sizes, List.map_cons, List.sum_cons, Expr.sizes_eq l]
theorem Arm.sizes_eq : ∀ l : List Arm, Arm.sizes l = (l.map Arm.size).sum
  | [] => by simp only [Arm.sizes, List.map_nil, List.sum_nil]
  | a :: l => by simp only [Arm.sizes, List.map_cons, List.sum_cons, Arm.sizes_eq l]
theorem Expr.size_mk {k n : Int} {name arg lit : List Int} {kids : List Expr} {arms : List Arm} : Expr.size (.mk k n name arg lit kids arms) = name.length + arg.length + lit.length + (kids.length + (kids.map Expr.size).sum) + (arms.length + (arms.map Arm.size).sum) := by
  simp only [Expr.size, Expr.sizes_eq, Arm.sizes_eq]
theorem Arm.size_mk {c : List Int} {vars : List (List Int)} {b : Expr} : Arm.size (.mk c vars b) = c.length + (vars.length + (vars.map List.length).sum) + b.size := by
  simp only [Arm.size]
mutual
inductive Expr.ok : Expr → Prop where
  | mk {k n : Int} {name arg lit : List Int} {kids : List Expr} {arms : List Arm} (hk : inI k) (hn : inI n) (hname : textOk name) (harg : textOk arg) (hlit : textOk lit) (hkids : lenOk kids) (hkid : ∀ a ∈ kids, Expr.ok a) (harms : lenOk arms) (harm : ∀ a ∈ arms, Arm.ok a) : Expr.ok (.mk k n name arg lit kids arms)
inductive Arm.ok : Arm → Prop where
  | mk {c : List Int} {vars : List (List Int)} {b : Expr} (hc : textOk c) (hvars : lenOk vars) (hvs : ∀ v ∈ vars, textOk v) (hb : Expr.ok b) : Arm.ok (.mk c vars b)
end
end Go.Ev
