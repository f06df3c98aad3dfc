/-
  The program's data, as trees.
-/
import Derived.Test.YtepljphcjpcpiaaEvFam
set_option linter.unusedVariables false
set_option linter.unusedSimpArgs false
namespace Go.Ev
open Go

abbrev sh_Ty : List LS := [.int .i64, .int .i64, .sl 3]
abbrev T_Ty := Int × Int × Sl × Unit
abbrev sh_Bind : List LS := [.int .i64, .int .i64, .int .i64, .sl 3]
abbrev T_Bind := Int × Int × Int × Sl × Unit
abbrev sh_Access : List LS := [.int .i64, .int .i64, .int .i64]
abbrev T_Access := Int × Int × Int × Unit
abbrev sh_Heap : List LS := [.sl 1, .int .i64, .int .i64, .int .i64, .sl 3]
abbrev T_Heap := Sl × Int × Int × Int × Sl × Unit
abbrev sh_LowAlt : List LS := [.int .i64, .sl 1, .int .i64, .int .i64, .int .i64, .int .i64, .sl 1, .int .i64, .int .i64, .sl 3, .int .i64, .int .i64, .sl 3, .sl 13, .sl 15]
abbrev T_LowAlt := Int × Sl × Int × Int × Int × Int × Sl × Int × Int × Sl × Int × Int × Sl × Sl × Sl × Unit
abbrev sh_Low : List LS := [.int .i64, .int .i64, .int .i64, .int .i64, .sl 1, .int .i64, .int .i64, .sl 3, .int .i64, .int .i64, .sl 3, .sl 13, .sl 15]
abbrev T_Low := Int × Int × Int × Int × Sl × Int × Int × Sl × Int × Int × Sl × Sl × Sl × Unit
abbrev sh_l1Cur : List LS := [.sl 1, .int .i64, .int .i64]
abbrev T_l1Cur := Sl × Int × Int × Unit

def ints (l : List Int) : Sl := sl (sh := [.int .i64]) (fun n => (n, ())) l
def bytes (l : List Int) : Sl := sl (sh := [.int .u8]) (fun n => (n, ())) l
theorem ints_n {l : List Int} : (ints l).1 = l.length := rfl
theorem bytes_n {l : List Int} : (bytes l).1 = l.length := rfl

/-! Types -/
inductive Ty where
  | mk (kind n : Int) (args : List Ty)

mutual
def Ty.ts : Ty → T_Ty
  | .mk k n l => (k, n, (l.length, Ty.dss l), ())
def Ty.dss : List Ty → List (List D)
  | [] => []
  | a :: l => vDs (LS.encs sh_Ty (Ty.ts a)) :: Ty.dss l
end
theorem Ty.dss_eq : ∀ l : List Ty, Ty.dss l = l.map fun a => vDs (LS.encs sh_Ty (Ty.ts a))
  | [] => by simp only [Ty.dss, List.map_nil]
  | a :: l => by simp only [Ty.dss, List.map_cons, Ty.dss_eq l]
def tys (l : List Ty) : Sl := sl (sh := sh_Ty) Ty.ts l
theorem Ty.ts_mk {k n : Int} {l : List Ty} : Ty.ts (.mk k n l) = (k, n, tys l, ()) := by
  simp only [Ty.ts, Ty.dss_eq]; rfl
theorem Ty.ind {P : Ty → Prop} (h : ∀ k n l, (∀ a ∈ l, P a) → P (.mk k n l)) (t : Ty) : P t :=
  Ty.rec (motive_1 := P) (motive_2 := fun l => ∀ a ∈ l, P a) h (fun a h => by simp at h) (fun a l h1 h2 b hb => by
    rcases List.mem_cons.1 hb with rfl | hb
    · exact h1
    · exact h2 b hb) t

/-- The bulk of a type. -/
noncomputable def Ty.size (t : Ty) : Nat := Ty.rec (motive_1 := fun _ => Nat) (motive_2 := fun _ => Nat) (fun _ _ l s => l.length + s) 0 (fun _ _ a b => a + b) t
theorem Ty.size_mk {k n : Int} {l : List Ty} : Ty.size (.mk k n l) = l.length + (l.map Ty.size).sum := by
  show l.length + _ = l.length + _
  congr 1
  induction l with
  | nil => rfl
  | cons a l ih => simp only [List.map_cons, List.sum_cons]; rw [← ih]; rfl

def inI (x : Int) : Prop := -9223372036854775808 ≤ x ∧ x < 9223372036854775808
def lenOk {α : Type} (l : List α) : Prop := (l.length : Int) ≤ 9223372036854775807

inductive Ty.ok : Ty → Prop where
  | mk {k n : Int} {l : List Ty} (hk : inI k) (hn : inI n) (hl : lenOk l) (ha : ∀ a ∈ l, a.ok) : Ty.ok (.mk k n l)

/-! Heaps -/
inductive Access where
  | mk (pos low high : Int)
def Access.ts : Access → T_Access
  | .mk a l h => (a, l, h, ())
theorem Access.ts_mk {a l h : Int} : Access.ts (.mk a l h) = (a, l, h, ()) := rfl
def accs (l : List Access) : Sl := sl (sh := sh_Access) Access.ts l
inductive Access.ok : Access → Prop where
  | mk {a l h : Int} (ha : inI a) (hl : inI l) (hh : inI h) : Access.ok (.mk a l h)
inductive Heap where
  | mk (words : List Int) (half low next : Int) (log : List Access)
def Heap.ts : Heap → T_Heap
  | .mk w h l n g => (ints w, h, l, n, accs g, ())
theorem Heap.ts_mk {w : List Int} {h l n : Int} {g : List Access} : Heap.ts (.mk w h l n g) = (ints w, h, l, n, accs g, ()) := rfl
inductive Heap.ok : Heap → Prop where
  | mk {w : List Int} {h l n : Int} {g : List Access} (hw : lenOk w) (hh : inI h) (hl : inI l) (hn : inI n) (hg : lenOk g) (ha : ∀ a ∈ g, a.ok) : Heap.ok (.mk w h l n g)

/-! Low expressions -/
mutual
inductive Low where
  | mk (kind n m con : Int) (lit : List Int) (ty fn : Ty) (kids : List Low) (alts : List LowAlt)
inductive LowAlt where
  | mk (con : Int) (vars : List Int) (body : Low)
end
mutual
def Low.ts : Low → T_Low
  | .mk k n m c lit ty fn kids alts => (k, n, m, c, bytes lit, ty.ts.1, ty.ts.2.1, ty.ts.2.2.1, fn.ts.1, fn.ts.2.1, fn.ts.2.2.1, (kids.length, Low.dss kids), (alts.length, LowAlt.dss alts), ())
def Low.dss : List Low → List (List D)
  | [] => []
  | a :: l => vDs (LS.encs sh_Low (Low.ts a)) :: Low.dss l
def LowAlt.ts : LowAlt → T_LowAlt
  | .mk c vars b => (c, ints vars, b.ts)
def LowAlt.dss : List LowAlt → List (List D)
  | [] => []
  | a :: l => vDs (LS.encs sh_LowAlt (LowAlt.ts a)) :: LowAlt.dss l
end
theorem Low.dss_eq : ∀ l : List Low, Low.dss l = l.map fun a => vDs (LS.encs sh_Low (Low.ts a))
  | [] => by simp only [Low.dss, List.map_nil]
  | a :: l => by simp only [Low.dss, List.map_cons, Low.dss_eq l]
theorem LowAlt.dss_eq : ∀ l : List LowAlt, LowAlt.dss l = l.map fun a => vDs (LS.encs sh_LowAlt (LowAlt.ts a))
  | [] => by simp only [LowAlt.dss, List.map_nil]
  | a :: l => by simp only [LowAlt.dss, List.map_cons, LowAlt.dss_eq l]
def lows (l : List Low) : Sl := sl (sh := sh_Low) Low.ts l
def lowAlts (l : List LowAlt) : Sl := sl (sh := sh_LowAlt) LowAlt.ts l
theorem Low.ts_mk {k n m c : Int} {lit : List Int} {ty fn : Ty} {kids : List Low} {alts : List LowAlt} : Low.ts (.mk k n m c lit ty fn kids alts) = (k, n, m, c, bytes lit, ty.ts.1, ty.ts.2.1, ty.ts.2.2.1, fn.ts.1, fn.ts.2.1, fn.ts.2.2.1, lows kids, lowAlts alts, ()) := by
  simp only [Low.ts, Low.dss_eq, LowAlt.dss_eq]; rfl
theorem LowAlt.ts_mk {c : Int} {vars : List Int} {b : Low} : LowAlt.ts (.mk c vars b) = (c, ints vars, b.ts) := by
  simp only [LowAlt.ts]
theorem Low.ind {P : Low → Prop} {Q : LowAlt → Prop} (h1 : ∀ k n m c lit ty fn kids alts, (∀ a ∈ kids, P a) → (∀ a ∈ alts, Q a) → P (.mk k n m c lit ty fn kids alts)) (h2 : ∀ c vars b, P b → Q (.mk c vars b)) (t : Low) : P t :=
  Low.rec (motive_1 := P) (motive_2 := Q) (motive_3 := fun l => ∀ a ∈ l, P a) (motive_4 := fun l => ∀ a ∈ l, Q a) h1 h2 (fun a h => by simp at h) (fun a l h1 h2 b hb => by
    rcases List.mem_cons.1 hb with rfl | hb
    · exact h1
    · exact h2 b hb) (fun a h => by simp at h) (fun a l h1 h2 b hb => by
    rcases List.mem_cons.1 hb with rfl | hb
    · exact h1
    · exact h2 b hb) t
def LowAlt.body : LowAlt → Low
  | .mk _ _ b => b
mutual
noncomputable def Low.size : Low → Nat
  | .mk _ _ _ _ lit ty fn kids alts => lit.length + ty.size + fn.size + (kids.length + Low.sizes kids) + (alts.length + LowAlt.sizes alts)
noncomputable def Low.sizes : List Low → Nat
  | [] => 0
  | a :: l => a.size + Low.sizes l
noncomputable def LowAlt.size : LowAlt → Nat
  | .mk _ vars b => vars.length + b.size
noncomputable def LowAlt.sizes : List LowAlt → Nat
  | [] => 0
  | a :: l => a.size + LowAlt.sizes l
end
theorem Low.sizes_eq : ∀ l : List Low, Low.sizes l = (l.map Low.size).sum
  | [] => by simp only [Low.sizes, List.map_nil, List.sum_nil]
  | a :: l => by simp only [Low.sizes, List.map_cons, List.sum_cons, Low.sizes_eq l]
theorem LowAlt.sizes_eq : ∀ l : List LowAlt, LowAlt.sizes l = (l.map LowAlt.size).sum
  | [] => by simp only [LowAlt.sizes, List.map_nil, List.sum_nil]
  | a :: l => by simp only [LowAlt.sizes, List.map_cons, List.sum_cons, LowAlt.sizes_eq l]
theorem Low.size_mk {k n m c : Int} {lit : List Int} {ty fn : Ty} {kids : List Low} {alts : List LowAlt} : Low.size (.mk k n m c lit ty fn kids alts) = lit.length + ty.size + fn.size + (kids.length + (kids.map Low.size).sum) + (alts.length + (alts.map LowAlt.size).sum) := by
  simp only [Low.size, Low.sizes_eq, LowAlt.sizes_eq]
theorem LowAlt.size_mk {c : Int} {vars : List Int} {b : Low} : LowAlt.size (.mk c vars b) = vars.length + b.size := by
  simp only [LowAlt.size]
mutual
inductive Low.ok : Low → Prop where
  | mk {k n m c : Int} {lit : List Int} {ty fn : Ty} {kids : List Low} {alts : List LowAlt} (hk : inI k) (hn : inI n) (hm : inI m) (hc : inI c) (hlit : lenOk lit) (hty : ty.ok) (hfn : fn.ok) (hkids : lenOk kids) (hkid : ∀ a ∈ kids, Low.ok a) (halts : lenOk alts) (halt : ∀ a ∈ alts, LowAlt.ok a) : Low.ok (.mk k n m c lit ty fn kids alts)
inductive LowAlt.ok : LowAlt → Prop where
  | mk {c : Int} {vars : List Int} {b : Low} (hc : inI c) (hvars : lenOk vars) (hb : Low.ok b) : LowAlt.ok (.mk c vars b)
end
end Go.Ev
