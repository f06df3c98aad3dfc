import Derived.Test.YtkgabahlbmonfaaDoorPVb
set_option linter.unusedVariables false
set_option linter.unusedSimpArgs false
/-
  Fields of constructors: both sides come to the same.
-/
namespace Go.Ev
open Go Go.Ev.Q
/-- Types whose heads are right, all of them. -/
inductive Ty.fine : Ty → Prop where
  | mk {k n : Int} {l : List Ty} (h : headOk k n l.length) (ha : ∀ a ∈ l, a.fine) : Ty.fine (.mk k n l)
theorem meass_mem : ∀ {l : List Ty} {d acc : Nat}, Ty.meass l d acc ≤ 60 → ∀ a ∈ l, Ty.meas a d ≤ 60
  | b :: l, d, acc, h, a, ha => by
    rw [Ty.meass] at h
    split at h
    · omega
    · rename_i h1
      rcases List.mem_cons.1 ha with rfl | ha
      · omega
      · exact meass_mem h a ha
theorem Ty.meas_fine (t : Ty) : ∀ d : Nat, Ty.meas t d ≤ 60 → t.fine := by
  induction t using Ty.ind with
  | h k n l ih =>
    intro d h
    rw [Ty.meas] at h
    split at h
    · omega
    · rename_i h1
      exact .mk (Classical.byContradiction fun hc => h1 (.inr hc)) (fun a ha => ih a ha (d + 1) (meass_mem h a ha))
theorem Ty.okB_fine {t : Ty} (h : t.okB = true) : t.fine := by
  unfold Ty.okB at h
  exact Ty.meas_fine t 1 (of_decide_eq_true h)
/-- Does a type's head name only what is there? -/
def fldH (vs : List Int) (v k n : Int) (len : Nat) : Bool := !(decide (k = 7) && decide (v ≤ n)) && !(decide (k = 6) && (decide ((vs.length : Int) ≤ n) || !decide ((len : Int) = vs.getD n.toNat 0)))
mutual
def Ty.fld (vs : List Int) (v : Int) : Ty → Bool
  | .mk k n l => fldH vs v k n l.length && Ty.flds vs v l
def Ty.flds (vs : List Int) (v : Int) : List Ty → Bool
  | [] => true
  | a :: l => Ty.fld vs v a && Ty.flds vs v l
end
theorem Ty.flds_all (vs : List Int) (v : Int) : ∀ l : List Ty, Ty.flds vs v l = l.all fun a => Ty.fld vs v a
  | [] => by rw [Ty.flds]; rfl
  | a :: l => by rw [Ty.flds, Ty.flds_all vs v l]; rfl
theorem Ty.fld_mk {vs : List Int} {v k n : Int} {l : List Ty} : Ty.fld vs v (.mk k n l) = (fldH vs v k n l.length && l.all fun a => Ty.fld vs v a) := by rw [Ty.fld, Ty.flds_all]
abbrev vsOf (l : List Data) : List Int := l.map Data.vars
theorem split_at {α : Type} {l : List α} {n : Int} (h0 : 0 ≤ n) (h : n < (l.length : Int)) : ∃ pre a q, pre ++ a :: q = l ∧ (pre.length : Int) = n := by
  have hm : n.toNat < l.length := by omega
  exact ⟨l.take n.toNat, l[n.toNat], l.drop (n.toNat + 1), by simp, by simp; omega⟩
namespace Q
open Go Go.Ev

theorem ocall_b3 {R : Type} {b : Bool} {x : Sl} {f : Bool → (Sl × Unit) × Unit → Option R} : ocall (.m (.one .bool)) [.box [.sl 3]] (some (.d (.bool b), [.box [.d (.sl false 3 x.1 x.2)]])) f = f b ((x, ()), ()) := ocall_bool_box (l := [.sl 3]) rfl (t := (x, ()))
theorem ocall_i3 {R : Type} {n : Int} {x : Sl} {f : Int → (Sl × Unit) × Unit → Option R} : ocall (.m (.one (.int .i64))) [.box [.sl 3]] (some (.d (.int .i64 n), [.box [.d (.sl false 3 x.1 x.2)]])) f = f n ((x, ()), ()) := ocall_int_box (l := [.sl 3]) rfl (t := (x, ()))
theorem oat_data {R : Type} {pre q l : List Data} {a : Data} (h : pre ++ a :: q = l) {f : T_Data → Option R} : oat sh_Data (datas l).1 (datas l).2 (pre.length : Int) f = f a.ts := oat_mid (sh := sh_Data) (g := Data.ts) h rfl
theorem oat_con {R : Type} {pre q l : List Con1} {a : Con1} (h : pre ++ a :: q = l) {f : T_Con → Option R} : oat sh_Con (Ev.cons l).1 (Ev.cons l).2 (pre.length : Int) f = f a.ts := oat_mid (sh := sh_Con) (g := Con1.ts) h rfl
theorem oat_ty {R : Type} {pre q l : List Ty} {a : Ty} (h : pre ++ a :: q = l) {f : T_Ty → Option R} : oat sh_Ty (tys l).1 (tys l).2 (pre.length : Int) f = f a.ts := oat_mid (sh := sh_Ty) (g := Ty.ts) h rfl
theorem vs_mid {pre q l : List Data} {a : Data} (h : pre ++ a :: q = l) {n : Int} (hn : (pre.length : Int) = n) : (vsOf l).getD n.toNat 0 = a.vars := by
  rw [← hn, ← h]
  simp [vsOf]

/-- The reference's. -/
theorem l5ty_ok (D : List Data) (v : Int) (t : Ty) : t.fine → t.size ≤ 2000000 → spec_l5ty t.ts v (datas D) = rB (t.fld (vsOf D) v) := by
  induction t using Ty.ind with
  | h k n l ih =>
    intro hf hs
    rw [Ty.size_mk] at hs
    cases hf with
    | mk h ha =>
    have j5 : spec_l5ty_j5 0 (datas D) v (k, n, tys l, ()) = rB (l.all fun a => a.fld (vsOf D) v) := by
      have := loopB (l := l) (p := fun a => a.fld (vsOf D) v) (J := fun i => spec_l5ty_j5 i (datas D) v (k, n, tys l, ())) (c := true) (fun pre a q h => by
        have hm := mem_mid h
        have hlt := len_mid h
        have := sizes_mem (f := Ty.size) hm
        rw [spec_l5ty_j5_eq, oite_dec, if_pos (show (pre.length : Int) < ((tys l).1 : Nat) by show (pre.length : Int) < (l.length : Nat); omega)]
        simp only [oat_ty h]
        rw [ih a hm (ha a hm) (by omega), ocall_bool, oite_nbool, w64_succ (by omega)]) (by
        rw [spec_l5ty_j5_eq, oite_dec, if_neg (show ¬ (l.length : Int) < ((tys l).1 : Nat) by show ¬ (l.length : Int) < (l.length : Nat); omega)])
      rw [this, Bool.and_true]
    have j4 : ∀ b : Bool, spec_l5ty_j4 (datas D) v b (k, n, tys l, ()) = rB (!b && l.all fun a => a.fld (vsOf D) v) := by
      intro b
      rw [spec_l5ty_j4_eq, oite_bool, spec_l5ty_j3_eq, j5]
      cases b <;> simp
    have j2 : ∀ b : Bool, spec_l5ty_j2 (datas D) v b (k, n, tys l, ()) = rB (!b && (!(decide (k = 6) && (decide (((vsOf D).length : Int) ≤ n) || !decide ((l.length : Int) = (vsOf D).getD n.toNat 0))) && l.all fun a => a.fld (vsOf D) v)) := by
      intro b
      rw [spec_l5ty_j2_eq, oite_bool, spec_l5ty_j1_eq, oite_if]
      simp only [j4]
      by_cases hb : b = true
      · rw [if_pos hb]; simp [hb]
      · have hb : b = false := by simpa using hb
        subst hb
        rw [if_neg (by simp)]
        by_cases h6 : k = 6
        · rw [if_pos (by simp [h6]), oite_dec]
          have hl : (vsOf D).length = D.length := by simp [vsOf]
          by_cases hn : n ≥ (((datas D).1 : Nat) : Int)
          · rw [if_pos hn]
            have hn' : (((vsOf D).length : Nat) : Int) ≤ n := by rw [hl]; exact hn
            simp only [h6, hn', decide_true, Bool.true_and, Bool.true_or, Bool.not_true, Bool.false_and, Bool.not_false]
          · rw [if_neg hn]
            have h0 : 0 ≤ n := by unfold headOk at h; omega
            obtain ⟨pre, a, q, hq, hpn⟩ := split_at (l := D) h0 (by have : (datas D).1 = D.length := rfl; omega)
            have hn' : ¬ (((vsOf D).length : Nat) : Int) ≤ n := by rw [hl]; exact hn
            have hat : ∀ {R : Type} {f : T_Data → Option R}, oat sh_Data (datas D).1 (datas D).2 n f = f a.ts := fun {R f} => by rw [← hpn]; exact oat_data hq
            rw [hat, vs_mid hq hpn]
            simp only [h6, hn', decide_true, decide_false, Bool.true_and, Bool.false_or, Bool.not_false, Bool.not_not]
            refine resB ?_
            congr 1
        · rw [if_neg (by simp [h6])]; simp [h6]
    rw [spec_l5ty_eq, Ty.ts_mk, oite_if, Ty.fld_mk, j2, j2]
    unfold fldH
    by_cases h7 : k = 7
    · rw [if_pos (by simp [h7])]
      refine resB ?_
      simp [h7, Bool.and_assoc]
    · rw [if_neg (by simp [h7])]
      refine resB ?_
      simp [h7]

/-- The program's. -/
theorem fieldOk_ok (p : List Data) (d : Data) (hD : p.length ≤ 1000000) (t : Ty) : t.fine → t.size ≤ 2000000 → impl_fieldOk t.ts (datas (p ++ [d])) = rB (t.fld (vsOf (p ++ [d])) d.vars) := by
  induction t using Ty.ind with
  | h k n l ih =>
    intro hf hs
    rw [Ty.size_mk] at hs
    cases hf with
    | mk h ha =>
    have hlen : (datas (p ++ [d])).1 = p.length + 1 := by show (p ++ [d]).length = _; simp
    have j1 : impl_fieldOk_j1 (datas (p ++ [d])) (k, n, tys l, ()) = rB (l.all fun a => a.fld (vsOf (p ++ [d])) d.vars) := by
      obtain ⟨r, h1, h2⟩ := index_all (l := l) (p := fun a => a.fld (vsOf (p ++ [d])) d.vars) (J := fun i => slices_IndexFunc_impl_Ty_impl_Ty_Fimpl_fieldOk_1c_j1 i (tys l) (l.length : Int) (datas (p ++ [d]))) (Mm := [.box [.d (.sl false 3 (datas (p ++ [d])).1 (datas (p ++ [d])).2)]]) (fun pre a q h => by
        have hm := mem_mid h
        have hlt := len_mid h
        have := sizes_mem (f := Ty.size) hm
        rw [slices_IndexFunc_impl_Ty_impl_Ty_Fimpl_fieldOk_1c_j1_eq, oite_dec, if_pos (by omega), oat_ty h, impl_fieldOk_1_eq, ih a hm (ha a hm) (by omega), ocall_bool, ocall_b3, w64_succ (by omega), oite_nbool]) (by
        rw [slices_IndexFunc_impl_Ty_impl_Ty_Fimpl_fieldOk_1c_j1_eq, oite_dec, if_neg (by omega)])
      rw [impl_fieldOk_j1_eq, slices_ContainsFunc_impl_Ty_impl_Ty_Fimpl_fieldOk_1c_eq, slices_IndexFunc_impl_Ty_impl_Ty_Fimpl_fieldOk_1c_eq]
      have h1' : slices_IndexFunc_impl_Ty_impl_Ty_Fimpl_fieldOk_1c_j1 0 (tys l) (((tys l).1 : Nat) : Int) (datas (p ++ [d])) = _ := h1
      simp only
      rw [h1', ocall_i3, ocall_b3, h2, Bool.not_not]
    have j2 : ∀ b : Bool, impl_fieldOk_j2 b (datas (p ++ [d])) (k, n, tys l, ()) = rB (!b && l.all fun a => a.fld (vsOf (p ++ [d])) d.vars) := by
      intro b
      rw [impl_fieldOk_j2_eq, oite_bool, j1]
      cases b <;> simp
    rw [impl_fieldOk_eq, Ty.ts_mk, oite_if, Ty.fld_mk]
    unfold fldH
    by_cases h7 : k = 7
    · rw [if_pos (by simp [h7])]
      have hw : w64 ((((datas (p ++ [d])).1 : Nat) : Int) - 1) = (p.length : Int) := by rw [hlen, w64_id (by omega) (by omega)]; omega
      rw [hw, oat_data (a := d) (q := []) rfl]
      have hl0 : l = [] := List.length_eq_zero_iff.1 (by unfold headOk at h; omega)
      subst hl0
      refine resB ?_
      show decide (n < d.vars) = _
      simp only [h7, decide_true, Bool.true_and, List.all_nil, Bool.and_true]
      have : ¬ ((7 : Int) = 6) := by decide
      simp only [this, decide_false, Bool.false_and, Bool.not_false, Bool.and_true]
      by_cases hn : n < d.vars
      · have : ¬ d.vars ≤ n := by omega
        simp [hn, this]
      · have : d.vars ≤ n := by omega
        simp [hn, this]
    · rw [if_neg (by simp [h7]), oite_if]
      by_cases h6 : k = 6
      · rw [if_pos (by simp [h6]), oite_dec]
        have hl : (vsOf (p ++ [d])).length = p.length + 1 := by simp [vsOf]
        by_cases hn : n ≥ (((datas (p ++ [d])).1 : Nat) : Int)
        · rw [if_pos hn, j2]
          have hn' : (((vsOf (p ++ [d])).length : Nat) : Int) ≤ n := by rw [hl, ← hlen]; exact hn
          have : ¬ ((6 : Int) = 7) := by decide
          simp only [h6, hn', this, decide_true, decide_false, Bool.true_and, Bool.true_or, Bool.not_true, Bool.false_and, Bool.not_false]
        · rw [if_neg hn]
          have h0 : 0 ≤ n := by unfold headOk at h; omega
          obtain ⟨pre, a, q, hq, hpn⟩ := split_at (l := p ++ [d]) h0 (by have : (datas (p ++ [d])).1 = (p ++ [d]).length := rfl; omega)
          have hn' : ¬ (((vsOf (p ++ [d])).length : Nat) : Int) ≤ n := by rw [hl, ← hlen]; exact hn
          have hat : ∀ {R : Type} {f : T_Data → Option R}, oat sh_Data (datas (p ++ [d])).1 (datas (p ++ [d])).2 n f = f a.ts := fun {R f} => by rw [← hpn]; exact oat_data hq
          rw [hat, j2, vs_mid hq hpn]
          simp only [h6, h7, hn', decide_true, decide_false, Bool.true_and, Bool.false_and, Bool.false_or, Bool.not_false, Bool.not_not]
          refine resB ?_
          have : ¬ ((6 : Int) = 7) := by decide
          simp only [this, decide_false, Bool.false_and, Bool.not_false, Bool.true_and]
          congr 1
      · rw [if_neg (by simp [h6]), j1]; simp [h6, h7]
end Q
end Go.Ev

/-
  Names among datas and constructors: both sides come to the same.
-/
namespace Go.Ev
open Go Go.Ev.Q
/-- A text's bytes. -/
def nm (l : List Int) : List UInt8 := l.map fun x => UInt8.ofNat x.toNat
theorem bnm {l : List Int} (h : byteL l) : bytes l = ub (nm l) := byteL_ub h
theorem nm_len (l : List Int) : (nm l).length = l.length := by simp [nm]
/-- Names are texts, constructors are not too many. -/
def bokD (D : List Data) : Prop := ∀ d ∈ D, byteL d.name ∧ d.cons.length ≤ 1048576 ∧ ∀ c ∈ d.cons, byteL c.name
def findU (u : List UInt8) : List Con1 → Nat → Option Nat
  | [], _ => none
  | c :: r, b => if nm c.name = u then some b else findU u r (b + 1)
def findD (u : List UInt8) : List Data → Nat → Option (Nat × Nat)
  | [], _ => none
  | d :: r, a => match findU u d.cons 0 with
    | some b => some (a, b)
    | none => findD u r (a + 1)
theorem findU_c (u : List UInt8) (c : Con1) (r : List Con1) (b : Nat) : findU u (c :: r) b = if nm c.name = u then some b else findU u r (b + 1) := rfl
theorem findD_c (u : List UInt8) (d : Data) (r : List Data) (a : Nat) : findD u (d :: r) a = match findU u d.cons 0 with
    | some b => some (a, b)
    | none => findD u r (a + 1) := rfl
theorem findU_app (u : List UInt8) : ∀ (p q : List Con1) (b : Nat), findU u (p ++ q) b = match findU u p b with | some x => some x | none => findU u q (b + p.length)
  | [], q, b => by simp [findU]
  | c :: p, q, b => by
    simp only [List.cons_append, findU]
    split
    · rfl
    · rw [findU_app u p q (b + 1)]
      simp only [List.length_cons]
      rw [show b + 1 + p.length = b + (p.length + 1) by omega]
theorem findU_lt (u : List UInt8) : ∀ (p : List Con1) (b x : Nat), findU u p b = some x → x < b + p.length
  | [], b, x, h => by cases h
  | c :: p, b, x, h => by
    simp only [findU] at h
    split at h
    · cases h; simp
    · have := findU_lt u p (b + 1) x h
      simp only [List.length_cons]; omega
theorem findD_app (u : List UInt8) : ∀ (p q : List Data) (a : Nat), findD u (p ++ q) a = match findD u p a with | some x => some x | none => findD u q (a + p.length)
  | [], q, a => by simp [findD]
  | d :: p, q, a => by
    simp only [List.cons_append, findD]
    cases findU u d.cons 0 with
    | some b => rfl
    | none =>
      simp only
      rw [findD_app u p q (a + 1)]
      simp only [List.length_cons]
      rw [show a + 1 + p.length = a + (p.length + 1) by omega]
theorem findD_lt (u : List UInt8) : ∀ (p : List Data) (a : Nat) (x : Nat × Nat), findD u p a = some x → x.1 < a + p.length
  | [], a, x, h => by cases h
  | d :: p, a, x, h => by
    simp only [findD] at h
    split at h
    · cases h; simp
    · have := findD_lt u p (a + 1) x h
      simp only [List.length_cons]; omega
/-- A constructor is the first of its name where none of its name stands ahead of it. -/
theorem first_con {pre post D : List Data} {d : Data} {cpre cpost : List Con1} {c : Con1} (h : pre ++ d :: post = D) (hc : cpre ++ c :: cpost = d.cons) (e : Data) (he : e.cons = cpre) :
    ∃ x, findD (nm c.name) D 0 = some x ∧ (x = (pre.length, cpre.length) ↔ (findD (nm c.name) (pre ++ [e]) 0).isNone = true) := by
  rw [← h, findD_app, findD_app]
  cases hp : findD (nm c.name) pre 0 with
  | some x =>
    refine ⟨x, rfl, ?_⟩
    have := findD_lt _ _ _ _ hp
    constructor
    · intro hx; rw [hx] at this; simp at this
    · intro hx; simp at hx
  | none =>
    simp only [findD, Nat.zero_add, he, ← hc, findU_app]
    cases hq : findU (nm c.name) cpre 0 with
    | some y =>
      refine ⟨(pre.length, y), rfl, ?_⟩
      have := findU_lt _ _ _ _ hq
      constructor
      · intro hx; simp only [Prod.mk.injEq] at hx; omega
      · intro hx; simp at hx
    | none =>
      refine ⟨(pre.length, cpre.length), ?_, ?_⟩
      · simp only [findU, if_true, Nat.zero_add]
      · simp
namespace Q
open Go Go.Ev

theorem ocall_is {R : Type} {n : Int} {x : ByteArray} {f : Int → (ByteArray × Unit) × Unit → Option R} : ocall (.m (.one (.int .i64))) [.box [.str]] (some (.d (.int .i64 n), [.box [.d (.str x)]])) f = f n ((x, ()), ()) := ocall_int_box (l := [.str]) rfl (t := (x, ()))
theorem ocall_bs {R : Type} {b : Bool} {x : ByteArray} {f : Bool → (ByteArray × Unit) × Unit → Option R} : ocall (.m (.one .bool)) [.box [.str]] (some (.d (.bool b), [.box [.d (.str x)]])) f = f b ((x, ()), ()) := ocall_bool_box (l := [.str]) rfl (t := (x, ()))
theorem any_not {α : Type} {l : List α} {p : α → Bool} : (!(l.all fun a => !p a)) = l.any p := by
  induction l with
  | nil => rfl
  | cons a l ih => simp only [List.all_cons, List.any_cons, ← ih, Bool.not_and, Bool.not_not]
theorem l5data_ok (D : List Data) (hD : D.length ≤ 1000000) (hb : bokD D) (u : List UInt8) : ∃ r : Int, spec_l5data (datas D) (ub u) = rI r ∧ decide (r ≥ 0) = D.any fun e => decide (nm e.name = u) := by
  obtain ⟨r, h1, h2⟩ := index_all (l := D) (p := fun e => !decide (nm e.name = u)) (J := fun i => spec_l5data_j1 i (ub u) (datas D)) (Mm := []) (fun pre a q h => by
    have hm := mem_mid h
    have hlt := len_mid h
    rw [spec_l5data_j1_eq, oite_dec, if_pos (show (pre.length : Int) < ((datas D).1 : Nat) by show (pre.length : Int) < (D.length : Nat); omega), oat_data h, Data.ts]
    simp only
    rw [bnm (hb a hm).1, ostr_ub, ostr_ub, tx_inj, oite_bool, w64_succ (by omega)]
    by_cases e : nm a.name = u <;> simp [e]) (by
    rw [spec_l5data_j1_eq, oite_dec, if_neg (show ¬ (D.length : Int) < ((datas D).1 : Nat) by show ¬ (D.length : Int) < (D.length : Nat); omega)])
  exact ⟨r, by rw [spec_l5data_eq]; exact h1, by rw [h2, any_not]⟩
theorem hasData_ok (D : List Data) (hD : D.length ≤ 1000000) (hb : bokD D) (u : List UInt8) : impl_hasData (datas D) (tx u) = rB (D.any fun e => decide (nm e.name = u)) := by
  obtain ⟨r, h1, h2⟩ := index_all (l := D) (p := fun e => !decide (nm e.name = u)) (J := fun i => slices_IndexFunc_impl_Data_impl_Data_Fimpl_dataAt_1c_j1 i (datas D) (D.length : Int) (tx u)) (Mm := [.box [.d (.str (tx u))]]) (fun pre a q h => by
    have hm := mem_mid h
    have hlt := len_mid h
    rw [slices_IndexFunc_impl_Data_impl_Data_Fimpl_dataAt_1c_j1_eq, oite_dec, if_pos (by omega), oat_data h, impl_dataAt_1_eq, Data.ts]
    simp only
    rw [bnm (hb a hm).1, ostr_ub, ocall_bs, tx_inj, oite_bool, w64_succ (by omega)]
    by_cases e : nm a.name = u <;> simp [e]) (by
    rw [slices_IndexFunc_impl_Data_impl_Data_Fimpl_dataAt_1c_j1_eq, oite_dec, if_neg (by omega)])
  have h1' : slices_IndexFunc_impl_Data_impl_Data_Fimpl_dataAt_1c_j1 0 (datas D) (((datas D).1 : Nat) : Int) (tx u) = _ := h1
  rw [impl_hasData_eq, impl_dataAt_eq, slices_IndexFunc_impl_Data_impl_Data_Fimpl_dataAt_1c_eq, h1', ocall_is, ocall_int]
  exact resB (by rw [h2, any_not])

abbrev rP (a b : Int) : Res := some (.tup [.d (.int .i64 a), .d (.int .i64 b)], [])
abbrev rT (a b : Int) (c : Bool) : Res := some (.tup [.d (.int .i64 a), .d (.int .i64 b), .d (.bool c)], [])
theorem ocall_rP {R : Type} {a b : Int} {f : Int × Int × Unit → Unit → Option R} : ocall (.tup [.one (.int .i64), .one (.int .i64)]) [] (rP a b) f = f (a, b, ()) () :=
  ocall_t (s := .tup [.one (.int .i64), .one (.int .i64)]) (m := []) (t := (a, b, ())) (u := ()) rfl rfl rfl
theorem ocall_rT {R : Type} {a b : Int} {c : Bool} {f : Int × Int × Bool × Unit → Unit → Option R} : ocall (.tup [.one (.int .i64), .one (.int .i64), .one .bool]) [] (rT a b c) f = f (a, b, c, ()) () :=
  ocall_t (s := .tup [.one (.int .i64), .one (.int .i64), .one .bool]) (m := []) (t := (a, b, c, ())) (u := ()) rfl rfl rfl
theorem l5con_ok (D : List Data) (hD : D.length ≤ 1000000) (hb : bokD D) (u : List UInt8) : spec_l5con (datas D) (ub u) = match findD u D 0 with | some x => rP (x.1 : Int) (x.2 : Int) | none => rP (-1) (-1) := by
  have j2 : ∀ (pre post : List Data) (d : Data), pre ++ d :: post = D → ∀ (q p : List Con1), p ++ q = d.cons → spec_l5con_j2 (p.length : Int) (pre.length : Int) (ub u) (datas D) = match findU u q p.length with | some b => rP (pre.length : Int) (b : Int) | none => spec_l5con_j1 ((pre.length + 1 : Nat) : Int) (ub u) (datas D) := by
    intro pre post d h q
    have hm := mem_mid h
    have hlt := len_mid h
    have hcl := (hb d hm).2.1
    induction q with
    | nil =>
      intro p hp
      rw [List.append_nil] at hp
      rw [spec_l5con_j2_eq, oat_data h, Data.ts]
      simp only
      rw [oite_dec, if_neg (show ¬ (p.length : Int) < (((Ev.cons d.cons).1 : Nat) : Int) by rw [← hp]; show ¬ (p.length : Int) < (p.length : Nat); omega), w64_succ (by omega)]
      rfl
    | cons c q ih =>
      intro p hp
      have hcm := mem_mid hp
      have hplt := len_mid hp
      have hn := ih (p ++ [c]) (by simpa using hp)
      rw [List.length_append, List.length_singleton] at hn
      rw [spec_l5con_j2_eq, oat_data h, Data.ts]
      simp only
      rw [oite_dec, if_pos (show (p.length : Int) < (((Ev.cons d.cons).1 : Nat) : Int) by show (p.length : Int) < (d.cons.length : Nat); omega), oat_data h, Data.ts]
      simp only
      rw [oat_con hp, Con1.ts]
      simp only
      rw [bnm ((hb d hm).2.2 c hcm), ostr_ub, ostr_ub, tx_inj, oite_bool, w64_succ (by omega), hn]
      rw [findU_c]
      by_cases e : nm c.name = u
      · rw [if_pos (by simp [e]), if_pos e]
      · rw [if_neg (by simp [e]), if_neg e]
  have j1 : ∀ (q pre : List Data), pre ++ q = D → spec_l5con_j1 (pre.length : Int) (ub u) (datas D) = match findD u q pre.length with | some x => rP (x.1 : Int) (x.2 : Int) | none => rP (-1) (-1) := by
    intro q
    induction q with
    | nil =>
      intro pre h
      rw [List.append_nil] at h
      rw [spec_l5con_j1_eq, oite_dec, if_neg (show ¬ (pre.length : Int) < (((datas D).1 : Nat) : Int) by rw [← h]; show ¬ (pre.length : Int) < (pre.length : Nat); omega)]
      rfl
    | cons d q ih =>
      intro pre h
      have hlt := len_mid h
      have hn := ih (pre ++ [d]) (by simpa using h)
      rw [List.length_append, List.length_singleton] at hn
      rw [spec_l5con_j1_eq, oite_dec, if_pos (show (pre.length : Int) < (((datas D).1 : Nat) : Int) by show (pre.length : Int) < (D.length : Nat); omega)]
      refine (j2 pre q d h d.cons [] rfl).trans ?_
      rw [hn]
      rw [findD_c]
      simp only [List.length_nil]
      cases findU u d.cons 0 <;> rfl
  rw [spec_l5con_eq]
  exact j1 D [] rfl
theorem hasCon_ok (D : List Data) (hD : D.length ≤ 1000000) (hb : bokD D) (u : List UInt8) : impl_hasCon (datas D) (tx u) = rB (findD u D 0).isSome := by
  have j2 : ∀ (pre post : List Data) (d : Data), pre ++ d :: post = D → ∀ (q p : List Con1), p ++ q = d.cons → impl_findCon_j2 (pre.length : Int) (p.length : Int) (tx u) (Ev.cons d.cons) (datas D) (D.length : Int) (pre.length : Int) (d.cons.length : Int) = match findU u q p.length with | some b => rT (pre.length : Int) (b : Int) true | none => impl_findCon_j1 (tx u) ((pre.length + 1 : Nat) : Int) (datas D) (D.length : Int) := by
    intro pre post d h q
    have hm := mem_mid h
    have hlt := len_mid h
    have hcl := (hb d hm).2.1
    induction q with
    | nil =>
      intro p hp
      rw [List.append_nil] at hp
      rw [impl_findCon_j2_eq, oite_dec, if_neg (by rw [← hp]; omega), w64_succ (by omega)]
      rfl
    | cons c q ih =>
      intro p hp
      have hcm := mem_mid hp
      have hplt := len_mid hp
      have hn := ih (p ++ [c]) (by simpa using hp)
      rw [List.length_append, List.length_singleton] at hn
      rw [impl_findCon_j2_eq, oite_dec, if_pos (by omega), oat_con hp, Con1.ts]
      simp only
      rw [bnm ((hb d hm).2.2 c hcm), ostr_ub, tx_inj, oite_bool, w64_succ (by omega), hn]
      rw [findU_c]
      by_cases e : nm c.name = u
      · rw [if_pos (by simp [e]), if_pos e]
      · rw [if_neg (by simp [e]), if_neg e]
  have j1 : ∀ (q pre : List Data), pre ++ q = D → impl_findCon_j1 (tx u) (pre.length : Int) (datas D) (D.length : Int) = match findD u q pre.length with | some x => rT (x.1 : Int) (x.2 : Int) true | none => rT 0 0 false := by
    intro q
    induction q with
    | nil =>
      intro pre h
      rw [List.append_nil] at h
      rw [impl_findCon_j1_eq, oite_dec, if_neg (by rw [← h]; omega)]
      rfl
    | cons d q ih =>
      intro pre h
      have hlt := len_mid h
      have hn := ih (pre ++ [d]) (by simpa using h)
      rw [List.length_append, List.length_singleton] at hn
      rw [impl_findCon_j1_eq, oite_dec, if_pos (by omega), oat_data h, Data.ts]
      refine (j2 pre q d h d.cons [] rfl).trans ?_
      rw [hn]
      rw [findD_c]
      simp only [List.length_nil]
      cases findU u d.cons 0 <;> rfl
  have h0 : impl_findCon_j1 (tx u) 0 (datas D) (((datas D).1 : Nat) : Int) = _ := j1 D [] rfl
  rw [impl_hasCon_eq, impl_findCon_eq, h0]
  simp only [List.length_nil]
  cases findD u D 0 with
  | none => simp only; rw [ocall_rT]; rfl
  | some x => simp only; rw [ocall_rT]; rfl
end Q
end Go.Ev

/-
  Constructors: both sides come to the same.
-/
namespace Go.Ev
open Go Go.Ev.Q
/-- Does something hold of each element, what stands ahead of it and behind it? -/
def allX {α : Type} (b : List α → α → List α → Bool) : List α → List α → Bool
  | _, [] => true
  | pre, a :: q => b pre a q && allX b (pre ++ [a]) q
theorem loopX {α R : Type} {J : Int → R} {l : List α} {b : List α → α → List α → Bool} {bad K : R} (hs : ∀ pre a q, pre ++ a :: q = l → J (pre.length : Int) = if b pre a q = true then J ((pre.length + 1 : Nat) : Int) else bad) (he : J (l.length : Int) = K) :
    J 0 = if allX b [] l = true then K else bad := by
  have key : ∀ (q pre : List α), pre ++ q = l → J (pre.length : Int) = if allX b pre q = true then K else bad := by
    intro q
    induction q with
    | nil => intro pre h; simp at h; subst h; simpa [allX] using he
    | cons a q ih =>
      intro pre h
      rw [hs pre a q h]
      have := ih (pre ++ [a]) (by simpa using h)
      rw [List.length_append, List.length_singleton] at this
      rw [this]
      unfold allX
      by_cases hp : b pre a q = true
      · rw [if_pos hp]
        simp only [hp, Bool.true_and]
        cases q <;> rfl
      · have hp' : b pre a q = false := by simpa using hp
        simp [hp']
  exact key l [] rfl
/-- A constructor is right. -/
def conB (pre : List Data) (v : Int) (cpre : List Con1) (c : Con1) : Bool :=
  wordB true (nm c.name) && (decide (c.fields.length ≤ 3) && ((findD (nm c.name) (pre ++ [Data.mk [] 0 cpre]) 0).isNone && c.fields.all fun t => t.okB && t.fld (vsOf pre ++ [v]) v))
/-- Types of constructors are not too great. -/
def szD (D : List Data) : Prop := ∀ d ∈ D, ∀ c ∈ d.cons, c.name.length ≤ 1048576 ∧ c.fields.length ≤ 1048576 ∧ ∀ t ∈ c.fields, t.size ≤ 1048576
theorem datas_take {pre D : List Data} (q : List Data) (h : pre ++ q = D) : ((Int.toNat (pre.length : Int)), List.take (Int.toNat (pre.length : Int)) (datas D).2) = datas pre := by
  rw [← h]
  simp [datas, sl]
theorem cons_take {pre D : List Con1} (q : List Con1) (h : pre ++ q = D) : ((Int.toNat (pre.length : Int)), List.take (Int.toNat (pre.length : Int)) (Ev.cons D).2) = Ev.cons pre := by
  rw [← h]
  simp [Ev.cons, sl]
theorem datas_snoc (pre : List Data) (d : Data) : (pre.length + 1, (datas pre).2 ++ ((vDs (LS.encs sh_Data d.ts)) :: [])) = datas (pre ++ [d]) := by
  simp [datas, sl]
namespace Q
open Go Go.Ev

theorem l5con_step (D : List Data) (hD : D.length ≤ 1000000) (hb : bokD D) (hz : szD D) {pre post : List Data} {d : Data} (h : pre ++ d :: post = D) {cpre cpost : List Con1} {c : Con1} (hc : cpre ++ c :: cpost = d.cons) :
    spec_DatasOk_j4 (pre.length : Int) (datas D) (cpre.length : Int) d.ts = if conB pre d.vars cpre c = true then spec_DatasOk_j4 (pre.length : Int) (datas D) ((cpre.length + 1 : Nat) : Int) d.ts else rB false := by
  have hm := mem_mid h
  have hlt := len_mid h
  have hcm := mem_mid hc
  have hclt := len_mid hc
  have hcl := (hb d hm).2.1
  obtain ⟨z1, z2, z3⟩ := hz d hm c hcm
  have oc : ∀ {R : Type} {f : T_Con → Option R}, oat sh_Con d.ts.2.2.1.1 d.ts.2.2.1.2 (cpre.length : Int) f = f c.ts := fun {R f} => oat_con hc
  have hcn : c.ts.1 = ub (nm c.name) := bnm ((hb d hm).2.2 c hcm)
  have h9 : spec_DatasOk_j9 0 (pre.length : Int) (datas D) (cpre.length : Int) d.ts c.ts = if (c.fields.all fun t => t.okB && t.fld (vsOf pre ++ [d.vars]) d.vars) = true then spec_DatasOk_j4 (pre.length : Int) (datas D) ((cpre.length + 1 : Nat) : Int) d.ts else rB false := by
    refine loop_all (l := c.fields) (p := fun t => t.okB && t.fld (vsOf pre ++ [d.vars]) d.vars) (J := fun i => spec_DatasOk_j9 i (pre.length : Int) (datas D) (cpre.length : Int) d.ts c.ts) (fun fp t fq hf => ?_) ?_
    · have hfm := mem_mid hf
      have hflt := len_mid hf
      have hts := z3 t hfm
      have ot : ∀ {R : Type} {f : T_Ty → Option R}, oat sh_Ty c.ts.2.1.1 c.ts.2.1.2 (fp.length : Int) f = f t.ts := fun {R f} => oat_ty hf
      have j10 : ∀ b : Bool, spec_DatasOk_j10 (pre.length : Int) (datas D) (cpre.length : Int) (fp.length : Int) b d.ts c.ts = if b = true then rB false else spec_DatasOk_j9 ((fp.length + 1 : Nat) : Int) (pre.length : Int) (datas D) (cpre.length : Int) d.ts c.ts := by
        intro b
        rw [spec_DatasOk_j10_eq, oite_bool, w64_succ (by omega)]
      rw [spec_DatasOk_j9_eq, oite_dec, if_pos (show (fp.length : Int) < ((c.ts.2.1.1 : Nat) : Int) by show (fp.length : Int) < (c.fields.length : Nat); omega), ot, spec_TyOk_ok t (by omega), ocall_bool, oite_nbool]
      by_cases ht : t.okB = true
      · rw [if_pos ht, ot, w64_succ (by omega), oguard_dec ⟨by omega, show ((pre.length + 1 : Nat) : Int) ≤ (D.length : Nat) by omega⟩, olet_eq]
        have e := datas_take (pre := pre ++ [d]) (D := D) post (by simpa using h)
        rw [List.length_append, List.length_singleton] at e
        rw [e, show d.ts.2.1 = d.vars from rfl, l5ty_ok (pre ++ [d]) d.vars t (Ty.okB_fine ht) (by omega), ocall_bool, j10]
        have ev : vsOf (pre ++ [d]) = vsOf pre ++ [d.vars] := by simp [vsOf]
        rw [ev]
        simp only [ht, Bool.true_and]
        cases (Ty.fld (vsOf pre ++ [d.vars]) d.vars t) <;> rfl
      · rw [if_neg ht, j10]
        have ht' : t.okB = false := by simpa using ht
        simp [ht']
    · show spec_DatasOk_j9 (c.fields.length : Int) _ _ _ _ _ = _
      rw [spec_DatasOk_j9_eq, oite_dec, if_neg (show ¬ (c.fields.length : Int) < ((c.ts.2.1.1 : Nat) : Int) by show ¬ (c.fields.length : Int) < (c.fields.length : Nat); omega), w64_succ (by omega)]
  have j8 : ∀ b : Bool, spec_DatasOk_j8 (pre.length : Int) (datas D) (cpre.length : Int) b d.ts c.ts = if b = true then rB false else spec_DatasOk_j9 0 (pre.length : Int) (datas D) (cpre.length : Int) d.ts c.ts := by
    intro b
    rw [spec_DatasOk_j8_eq, oite_bool, spec_DatasOk_j7_eq]
  obtain ⟨x, hx1, hx2⟩ := first_con h hc (Data.mk [] 0 cpre) rfl
  have h5 : spec_DatasOk_j5 (pre.length : Int) (datas D) (cpre.length : Int) d.ts c.ts = if ((findD (nm c.name) (pre ++ [Data.mk [] 0 cpre]) 0).isNone && c.fields.all fun t => t.okB && t.fld (vsOf pre ++ [d.vars]) d.vars) = true then spec_DatasOk_j4 (pre.length : Int) (datas D) ((cpre.length + 1 : Nat) : Int) d.ts else rB false := by
    rw [spec_DatasOk_j5_eq, hcn, l5con_ok D hD hb, hx1]
    simp only
    rw [ocall_rP, j8, j8, oite_nbool]
    simp only
    by_cases e : x = (pre.length, cpre.length)
    · have hn := hx2.1 e
      subst e
      rw [if_pos (by simp), if_neg (by simp), h9]
      simp only [hn, Bool.true_and]
    · have hn : (findD (nm c.name) (pre ++ [Data.mk [] 0 cpre]) 0).isNone = false := by
        rw [Bool.eq_false_iff]; exact fun hh => e (hx2.2 hh)
      rw [hn]
      simp only [Bool.false_and]
      obtain ⟨x1, x2⟩ := x
      simp only [Prod.mk.injEq] at e
      by_cases e1 : x1 = pre.length
      · have e2 : x2 ≠ cpre.length := fun h2 => e ⟨e1, h2⟩
        rw [if_pos (by simp [e1]), if_pos (by simp; omega)]
        rfl
      · rw [if_neg (by simp; omega), if_pos trivial]
        rfl
  have j6 : ∀ b : Bool, spec_DatasOk_j6 (pre.length : Int) (datas D) (cpre.length : Int) b d.ts c.ts = if b = true then rB false else spec_DatasOk_j5 (pre.length : Int) (datas D) (cpre.length : Int) d.ts c.ts := by
    intro b
    rw [spec_DatasOk_j6_eq, oite_bool]
  rw [spec_DatasOk_j4_eq, oite_dec, if_pos (show (cpre.length : Int) < ((d.ts.2.2.1.1 : Nat) : Int) by show (cpre.length : Int) < (d.cons.length : Nat); omega), oc, hcn, l5word_ok, ocall_bool, oite_nbool, j6, j6, h5]
  unfold conB
  by_cases hw : wordB true (nm c.name) = true
  · rw [if_pos hw]
    simp only [hw, Bool.true_and]
    have hfl : c.ts.2.1.1 = c.fields.length := rfl
    rw [hfl]
    by_cases h3 : c.fields.length ≤ 3
    · rw [if_neg (by simp; omega)]
      simp only [h3, decide_true, Bool.true_and]
    · rw [if_pos (by simp; omega)]
      simp only [h3, decide_false, Bool.false_and]
      rfl
  · rw [if_neg hw, if_pos rfl]
    have hw' : wordB true (nm c.name) = false := by simpa using hw
    simp only [hw', Bool.false_and]
    rfl

theorem Clone_ok (l : List Data) (hl : l.length ≤ 1000000) : slices_Clone_impl_Data_impl_Data (datas l) = some (.own 0, [.row 3 l.length false false (datas l).2]) := by
  rw [slices_Clone_impl_Data_impl_Data_eq]
  have hn : (datas l).1 = l.length := rfl
  rw [hn, oguard_dec (by omega)]
  cases l with
  | nil => exact onil_same
  | cons a l => exact onil_pos (by simp)
theorem ocall_own3 {R : Type} {n : Nat} {es : List (List D)} {f : Unit → Sl × Unit → Option R} : ocall (.m (.one (.own 0))) [(.row 3 false true)] (some (.own 0, [.row 3 n false false es])) f = f () ((n, es), ()) :=
  ocall_t (s := .m (.one (.own 0))) (m := [(.row 3 false true)]) (t := ()) (u := ((n, es), ())) rfl rfl rfl
theorem conOk_ok (pre : List Data) (hp : pre.length ≤ 100000) (hb : bokD pre) (name : List Int) (v : Int) (cpre : List Con1) (c : Con1) (hcb : ∀ x ∈ cpre ++ [c], byteL x.name) (hcl : cpre.length ≤ 1048576) (z1 : c.name.length ≤ 1048576) (z2 : c.fields.length ≤ 1048576) (z3 : ∀ t ∈ c.fields, t.size ≤ 1048576) :
    impl_conOk (datas (pre ++ [Data.mk name v (cpre ++ [c])])) = rB (conB pre v cpre c) := by
  have hlen : (datas (pre ++ [Data.mk name v (cpre ++ [c])])).1 = pre.length + 1 := by show (pre ++ [Data.mk name v (cpre ++ [c])]).length = _; simp
  have hw : w64 ((((datas (pre ++ [Data.mk name v (cpre ++ [c])])).1 : Nat) : Int) - 1) = (pre.length : Int) := by rw [hlen, w64_id (by omega) (by omega)]; omega
  have hclen : (Ev.cons (cpre ++ [c])).1 = cpre.length + 1 := by show (cpre ++ [c]).length = _; simp
  have hcw : w64 ((((Ev.cons (cpre ++ [c])).1 : Nat) : Int) - 1) = (cpre.length : Int) := by rw [hclen, w64_id (by omega) (by omega)]; omega
  have hcn : c.ts.1 = ub (nm c.name) := bnm (hcb c (by simp))
  have hg1 : (0 : Int) ≤ (pre.length : Int) ∧ (pre.length : Int) ≤ (((datas (pre ++ [Data.mk name v (cpre ++ [c])])).1 : Nat) : Int) := by rw [hlen]; omega
  have hg2 : (0 : Int) ≤ (cpre.length : Int) ∧ (cpre.length : Int) ≤ (((Ev.cons (cpre ++ [c])).1 : Nat) : Int) := by rw [hclen]; omega
  have oc : ∀ {R : Type} {f : T_Con → Option R}, oat sh_Con (Ev.cons (cpre ++ [c])).1 (Ev.cons (cpre ++ [c])).2 (cpre.length : Int) f = f c.ts := fun {R f} => oat_con (a := c) (q := []) rfl
  have hbf : bokD (pre ++ [Data.mk [] 0 cpre]) := by
    intro d hd
    rcases List.mem_append.1 hd with hd | hd
    · exact hb d hd
    · rw [List.mem_singleton] at hd
      subst hd
      exact ⟨fun x hx => by simp at hx, hcl, fun x hx => hcb x (by simp [hx])⟩
  have j1 : impl_conOk_j1 (datas (pre ++ [Data.mk name v (cpre ++ [c])])) c.ts = rB (c.fields.all fun t => t.okB && t.fld (vsOf pre ++ [v]) v) := by
    obtain ⟨r, h1, h2⟩ := index_all (l := c.fields) (p := fun t => t.okB && t.fld (vsOf pre ++ [v]) v) (J := fun i => slices_IndexFunc_impl_Ty_impl_Ty_Fimpl_conOk_1c_j1 i (tys c.fields) (c.fields.length : Int) (datas (pre ++ [Data.mk name v (cpre ++ [c])]))) (Mm := [.box [.d (.sl false 3 (datas (pre ++ [Data.mk name v (cpre ++ [c])])).1 (datas (pre ++ [Data.mk name v (cpre ++ [c])])).2)]]) (fun fp t fq h => by
      have hm := mem_mid h
      have hlt := len_mid h
      have hts := z3 t hm
      rw [slices_IndexFunc_impl_Ty_impl_Ty_Fimpl_conOk_1c_j1_eq, oite_dec, if_pos (by omega), oat_ty h, impl_conOk_1_eq, TyOk_ok t (by omega), ocall_bool, oite_nbool]
      by_cases ht : t.okB = true
      · rw [if_pos ht, fieldOk_ok pre _ (by omega) t (Ty.okB_fine ht) (by omega), ocall_bool, ocall_b3, w64_succ (by omega), oite_nbool]
        have ev : vsOf (pre ++ [Data.mk name v (cpre ++ [c])]) = vsOf pre ++ [v] := by simp [vsOf]
        rw [ev]
        simp only [ht, Bool.true_and]
      · rw [if_neg ht, ocall_b3]
        have ht' : t.okB = false := by simpa using ht
        rw [oite_t]
        simp [ht']) (by
      rw [slices_IndexFunc_impl_Ty_impl_Ty_Fimpl_conOk_1c_j1_eq, oite_dec, if_neg (by omega)])
    rw [impl_conOk_j1_eq, slices_ContainsFunc_impl_Ty_impl_Ty_Fimpl_conOk_1c_eq, slices_IndexFunc_impl_Ty_impl_Ty_Fimpl_conOk_1c_eq]
    have h1' : slices_IndexFunc_impl_Ty_impl_Ty_Fimpl_conOk_1c_j1 0 c.ts.2.1 ((c.ts.2.1.1 : Nat) : Int) (datas (pre ++ [Data.mk name v (cpre ++ [c])])) = _ := h1
    rw [h1', ocall_i3, ocall_b3, h2, Bool.not_not]
  have j2 : ∀ b : Bool, impl_conOk_j2 b (datas (pre ++ [Data.mk name v (cpre ++ [c])])) c.ts = rB (!b && c.fields.all fun t => t.okB && t.fld (vsOf pre ++ [v]) v) := by
    intro b
    rw [impl_conOk_j2_eq, oite_bool, j1]
    cases b <;> simp
  rw [impl_conOk_eq, hw, oat_data (a := Data.mk name v (cpre ++ [c])) (q := []) rfl, Data.ts]
  simp only
  rw [hcw, oc]
  simp only [oguard_dec hg1, oguard_dec hg2, olet_eq, osame_t]
  rw [datas_take [Data.mk name v (cpre ++ [c])] rfl, Clone_ok pre (by omega), ocall_own3]
  simp only
  rw [oguard_dec (by omega), cons_take [c] rfl]
  have e8 := datas_snoc pre (Data.mk [] 0 cpre)
  have e8' : (pre.length + 1, (datas pre).2 ++ ((vDs (LS.encs sh_Data ((0, []), (0 : Int), Ev.cons cpre, ()))) :: [])) = datas (pre ++ [Data.mk [] 0 cpre]) := e8
  rw [e8', hcn, ostr_ub, isCon_ok _ (by rw [nm_len]; omega), ocall_bool, oite_nbool, j2, ostr_ub, hasCon_ok _ (by simp; omega) hbf, ocall_bool, oite_bool, j2]
  unfold conB
  have hfl : c.ts.2.1.1 = c.fields.length := rfl
  rw [hfl]
  by_cases hw : wordB true (nm c.name) = true
  · rw [if_pos hw]
    simp only [hw, Bool.true_and]
    cases hf : findD (nm c.name) (pre ++ [Data.mk [] 0 cpre]) 0 with
    | none =>
      simp only [Option.isSome_none, Option.isNone_none, Bool.true_and]
      rw [if_neg (by simp)]
      refine resB ?_
      have : (!decide ((c.fields.length : Int) > 3)) = decide (c.fields.length ≤ 3) := by
        by_cases h3 : c.fields.length ≤ 3
        · have : ¬ (c.fields.length : Int) > 3 := by omega
          simp [h3, this]
        · have : (c.fields.length : Int) > 3 := by omega
          simp [h3, this]
      rw [this]
    | some x =>
      simp only [Option.isSome_some, Option.isNone_some, Bool.false_and, Bool.and_false]
      rw [if_pos trivial]
      simp
  · rw [if_neg hw]
    have hw' : wordB true (nm c.name) = false := by simpa using hw
    simp [hw']
end Q
end Go.Ev

/-
  Datas: the law.
-/
namespace Go.Ev
open Go Go.Ev.Q
/-- A data's head is right. -/
def datB (pre : List Data) (d : Data) : Bool :=
  nameB (nm d.name) && (!(pre.any fun e => decide (nm e.name = nm d.name)) && (decide (0 ≤ d.vars ∧ d.vars ≤ 2) && decide (1 ≤ d.cons.length ∧ d.cons.length ≤ 5)))
def dataB (pre : List Data) (d : Data) (_ : List Data) : Bool := datB pre d && allX (fun cpre c _ => conB pre d.vars cpre c) [] d.cons
namespace Q
open Go Go.Ev

theorem data_step (D : List Data) (hD : D.length ≤ 1000) (hb : bokD D) (hz : szD D) (pre : List Data) (d : Data) (post : List Data) (h : pre ++ d :: post = D) :
    spec_DatasOk_j1 (pre.length : Int) (datas D) = if dataB pre d post = true then spec_DatasOk_j1 ((pre.length + 1 : Nat) : Int) (datas D) else rB false := by
  have hm := mem_mid h
  have hlt := len_mid h
  have hcl := (hb d hm).2.1
  have hbp : bokD pre := fun e he => hb e (by rw [← h]; simp [he])
  have h4 : spec_DatasOk_j4 (pre.length : Int) (datas D) 0 d.ts = if allX (fun cpre c _ => conB pre d.vars cpre c) [] d.cons = true then spec_DatasOk_j1 ((pre.length + 1 : Nat) : Int) (datas D) else rB false := by
    refine loopX (l := d.cons) (J := fun i => spec_DatasOk_j4 (pre.length : Int) (datas D) i d.ts) (fun cpre c cpost hc => l5con_step D (by omega) hb hz h hc) ?_
    show spec_DatasOk_j4 _ _ (d.cons.length : Int) _ = _
    rw [spec_DatasOk_j4_eq, oite_dec, if_neg (show ¬ (d.cons.length : Int) < ((d.ts.2.2.1.1 : Nat) : Int) by show ¬ (d.cons.length : Int) < (d.cons.length : Nat); omega), w64_succ (by omega)]
  have j3 : ∀ b : Bool, spec_DatasOk_j3 (pre.length : Int) (datas D) b d.ts = if b = true then rB false else spec_DatasOk_j4 (pre.length : Int) (datas D) 0 d.ts := by
    intro b
    rw [spec_DatasOk_j3_eq, oite_bool, spec_DatasOk_j2_eq]
  have hdn : d.ts.1 = ub (nm d.name) := bnm (hb d hm).1
  obtain ⟨r, h1, h2⟩ := l5data_ok pre (by omega) hbp (nm d.name)
  rw [spec_DatasOk_j1_eq, oite_dec, if_pos (show (pre.length : Int) < (((datas D).1 : Nat) : Int) by show (pre.length : Int) < (D.length : Nat); omega), oat_data h, hdn, l5name_ok, ocall_bool, oite_nbool]
  have fin : ∀ b c : Bool, (b = true ↔ datB pre d = true) → c = !b → spec_DatasOk_j3 (pre.length : Int) (datas D) c d.ts = if dataB pre d post = true then spec_DatasOk_j1 ((pre.length + 1 : Nat) : Int) (datas D) else rB false := by
    intro b c hbb hc
    subst hc
    rw [j3, h4]
    unfold dataB
    by_cases hd : datB pre d = true
    · have := hbb.2 hd
      simp only [this, hd, Bool.not_true, Bool.true_and]
      rfl
    · have hd' : datB pre d = false := by simpa using hd
      have hb' : b = false := by rw [Bool.eq_false_iff]; exact fun hh => hd (hbb.1 hh)
      simp only [hb', hd', Bool.not_false, Bool.false_and]
      rfl
  by_cases hn : nameB (nm d.name) = true
  · rw [if_pos hn, oguard_dec ⟨by omega, show (pre.length : Int) ≤ (D.length : Nat) by omega⟩, olet_eq, datas_take (d :: post) h, h1, ocall_int, oite_if, h2]
    by_cases ha : (pre.any fun e => decide (nm e.name = nm d.name)) = true
    · rw [if_pos ha]
      exact fin false true (by unfold datB; simp only [ha]; simp) rfl
    · have ha' : (pre.any fun e => decide (nm e.name = nm d.name)) = false := by simpa using ha
      rw [if_neg ha, oite_dec, oite_dec, oite_dec, show d.ts.2.1 = d.vars from rfl, show d.ts.2.2.1.1 = d.cons.length from rfl]
      by_cases h0 : d.vars < 0
      · rw [if_pos h0]
        exact fin false true (by unfold datB; simp only [ha', hn, Bool.and_eq_true, decide_eq_true_eq]; simp; omega) rfl
      · rw [if_neg h0]
        by_cases h2' : d.vars > 2
        · rw [if_pos h2']
          exact fin false true (by unfold datB; simp only [ha', hn, Bool.and_eq_true, decide_eq_true_eq]; simp; omega) rfl
        · rw [if_neg h2']
          by_cases h1' : (d.cons.length : Int) < 1
          · rw [if_pos h1']
            exact fin false true (by unfold datB; simp only [ha', hn, Bool.and_eq_true, decide_eq_true_eq]; simp; omega) rfl
          · rw [if_neg h1']
            refine fin (decide (d.cons.length ≤ 5)) _ ?_ ?_
            · unfold datB; simp only [ha', hn, Bool.and_eq_true, decide_eq_true_eq]; simp; omega
            · by_cases h5 : d.cons.length ≤ 5
              · have : ¬ ((d.cons.length : Int) > 5) := by omega
                simp [h5, this]
              · have : (d.cons.length : Int) > 5 := by omega
                simp [h5, this]
  · rw [if_neg hn]
    exact fin false true (by unfold datB; simp only [Bool.not_eq_true] at hn; simp only [hn]; simp) rfl

theorem implData_step (D : List Data) (hD : D.length ≤ 1000) (hb : bokD D) (hz : szD D) (hn9 : ∀ d ∈ D, d.name.length ≤ 1048576) (pre : List Data) (d : Data) (post : List Data) (h : pre ++ d :: post = D) :
    impl_DatasOk_j1 (datas D) (pre.length : Int) (datas D) (D.length : Int) = if dataB pre d post = true then impl_DatasOk_j1 (datas D) ((pre.length + 1 : Nat) : Int) (datas D) (D.length : Int) else rB false := by
  have hm := mem_mid h
  have hlt := len_mid h
  have hcl := (hb d hm).2.1
  have hbp : bokD pre := fun e he => hb e (by rw [← h]; simp [he])
  have h4 : impl_DatasOk_j4 0 (pre.length : Int) (datas D) (datas D) (D.length : Int) (pre.length : Int) ((d.ts.2.2.1.1 : Nat) : Int) d.ts = if allX (fun cpre c _ => conB pre d.vars cpre c) [] d.cons = true then impl_DatasOk_j1 (datas D) ((pre.length + 1 : Nat) : Int) (datas D) (D.length : Int) else rB false := by
    refine loopX (l := d.cons) (J := fun i => impl_DatasOk_j4 i (pre.length : Int) (datas D) (datas D) (D.length : Int) (pre.length : Int) ((d.ts.2.2.1.1 : Nat) : Int) d.ts) (fun cpre c cpost hc => ?_) ?_
    · have hcm := mem_mid hc
      have hclt := len_mid hc
      obtain ⟨z1, z2, z3⟩ := hz d hm c hcm
      have hg1 : (0 : Int) ≤ (pre.length : Int) ∧ (pre.length : Int) ≤ (((datas D).1 : Nat) : Int) := ⟨by omega, show (pre.length : Int) ≤ (D.length : Nat) by omega⟩
      have hg2 : (0 : Int) ≤ ((cpre.length + 1 : Nat) : Int) ∧ ((cpre.length + 1 : Nat) : Int) ≤ ((d.ts.2.2.1.1 : Nat) : Int) := ⟨by omega, show ((cpre.length + 1 : Nat) : Int) ≤ (d.cons.length : Nat) by omega⟩
      have e17 := cons_take (pre := cpre ++ [c]) (D := d.cons) cpost (by simpa using hc)
      rw [List.length_append, List.length_singleton] at e17
      have e17' : ((Int.toNat ((cpre.length + 1 : Nat) : Int)), List.take (Int.toNat ((cpre.length + 1 : Nat) : Int)) d.ts.2.2.1.2) = Ev.cons (cpre ++ [c]) := e17
      rw [impl_DatasOk_j4_eq, oite_dec, if_pos (show (cpre.length : Int) < ((d.ts.2.2.1.1 : Nat) : Int) by show (cpre.length : Int) < (d.cons.length : Nat); omega)]
      simp only [w64_succ (show (cpre.length : Int) < 9223372036854775807 by omega), oguard_dec hg1, oguard_dec hg2, olet_eq, osame_t]
      rw [datas_take (d :: post) h, Clone_ok pre (by omega), ocall_own3]
      simp only
      rw [oguard_dec (by omega), e17']
      have e8 := datas_snoc pre (Data.mk d.name d.vars (cpre ++ [c]))
      have e8' : (pre.length + 1, (datas pre).2 ++ ((vDs (LS.encs sh_Data (d.ts.1, d.ts.2.1, Ev.cons (cpre ++ [c]), ()))) :: [])) = datas (pre ++ [Data.mk d.name d.vars (cpre ++ [c])]) := e8
      rw [e8', conOk_ok pre (by omega) hbp d.name d.vars cpre c (fun x hx => (hb d hm).2.2 x (by rw [← hc]; simp at hx ⊢; rcases hx with hx | hx <;> simp [hx])) (by omega) z1 z2 z3, ocall_bool, oite_nbool]
    · show impl_DatasOk_j4 (d.cons.length : Int) _ _ _ _ _ _ _ = _
      rw [impl_DatasOk_j4_eq, oite_dec, if_neg (show ¬ (d.cons.length : Int) < ((d.ts.2.2.1.1 : Nat) : Int) by show ¬ (d.cons.length : Int) < (d.cons.length : Nat); omega), w64_succ (by omega)]
  have j3 : ∀ b : Bool, impl_DatasOk_j3 (pre.length : Int) (datas D) (datas D) (D.length : Int) (pre.length : Int) b d.ts = if b = true then rB false else impl_DatasOk_j4 0 (pre.length : Int) (datas D) (datas D) (D.length : Int) (pre.length : Int) ((d.ts.2.2.1.1 : Nat) : Int) d.ts := by
    intro b
    rw [impl_DatasOk_j3_eq, oite_bool, impl_DatasOk_j2_eq]
  have hdn : d.ts.1 = ub (nm d.name) := bnm (hb d hm).1
  rw [impl_DatasOk_j1_eq, oite_dec, if_pos (by omega), oat_data h, hdn, ostr_ub, isName_ok _ (by rw [nm_len]; have := hn9 d hm; omega), ocall_bool, oite_nbool]
  have fin : ∀ b c : Bool, (b = true ↔ datB pre d = true) → c = !b → impl_DatasOk_j3 (pre.length : Int) (datas D) (datas D) (D.length : Int) (pre.length : Int) c d.ts = if dataB pre d post = true then impl_DatasOk_j1 (datas D) ((pre.length + 1 : Nat) : Int) (datas D) (D.length : Int) else rB false := by
    intro b c hbb hc
    subst hc
    rw [j3, h4]
    unfold dataB
    by_cases hd : datB pre d = true
    · have := hbb.2 hd
      simp only [this, hd, Bool.not_true, Bool.true_and]
      rfl
    · have hd' : datB pre d = false := by simpa using hd
      have hb' : b = false := by rw [Bool.eq_false_iff]; exact fun hh => hd (hbb.1 hh)
      simp only [hb', hd', Bool.not_false, Bool.false_and]
      rfl
  by_cases hn : nameB (nm d.name) = true
  · rw [if_pos hn, oguard_dec ⟨by omega, show (pre.length : Int) ≤ (D.length : Nat) by omega⟩, olet_eq, ostr_ub, datas_take (d :: post) h, hasData_ok pre (by omega) hbp, ocall_bool, oite_bool]
    by_cases ha : (pre.any fun e => decide (nm e.name = nm d.name)) = true
    · rw [if_pos ha]
      exact fin false true (by unfold datB; simp only [ha]; simp) rfl
    · have ha' : (pre.any fun e => decide (nm e.name = nm d.name)) = false := by simpa using ha
      rw [if_neg ha, within_ok, ocall_bool, oite_nbool, show d.ts.2.1 = d.vars from rfl, within_ok, ocall_bool, show d.ts.2.2.1.1 = d.cons.length from rfl]
      by_cases h0 : decide (0 ≤ d.vars ∧ d.vars ≤ 2) = true
      · rw [if_pos h0]
        refine fin (decide ((1 : Int) ≤ (d.cons.length : Nat) ∧ ((d.cons.length : Nat) : Int) ≤ 5)) _ ?_ rfl
        have h0 := of_decide_eq_true h0
        unfold datB; simp only [ha', hn, Bool.and_eq_true, decide_eq_true_eq]; simp; omega
      · rw [if_neg h0]
        exact fin false true (by unfold datB; simp only [h0]; simp) rfl
  · rw [if_neg hn]
    exact fin false true (by unfold datB; simp only [Bool.not_eq_true] at hn; simp only [hn]; simp) rfl

theorem DatasOk_same (D : List Data) (hb : bokD D) (hz : szD D) (hn9 : ∀ d ∈ D, d.name.length ≤ 1048576) : ∃ b : Bool, spec_DatasOk (datas D) = rB b ∧ impl_DatasOk (datas D) = rB b := by
  rw [spec_DatasOk_eq, impl_DatasOk_eq, oite_dec, oite_dec, show (datas D).1 = D.length from rfl]
  by_cases h6 : (D.length : Int) > 6
  · exact ⟨false, by rw [if_pos h6], by rw [if_pos h6]⟩
  · rw [if_neg h6, if_neg h6]
    have a1 := loopX (l := D) (b := dataB) (J := fun i => spec_DatasOk_j1 i (datas D)) (bad := rB false) (K := rB true) (data_step D (by omega) hb hz) (by
      rw [spec_DatasOk_j1_eq, oite_dec, if_neg (show ¬ (D.length : Int) < (((datas D).1 : Nat) : Int) by show ¬ (D.length : Int) < (D.length : Nat); omega)])
    have a2 := loopX (l := D) (b := dataB) (J := fun i => impl_DatasOk_j1 (datas D) i (datas D) (D.length : Int)) (bad := rB false) (K := rB true) (implData_step D (by omega) hb hz hn9) (by
      rw [impl_DatasOk_j1_eq, oite_dec, if_neg (by omega)])
    refine ⟨allX dataB [] D, ?_, ?_⟩
    · rw [a1]; cases allX dataB [] D <;> rfl
    · rw [a2]; cases allX dataB [] D <;> rfl
theorem DatasOk_ok (D : List Data) (hl : lenOk D) (ho : ∀ d ∈ D, d.ok) : laws_FnExactDatasOk (datas D) = some (.d (.bool true), []) := by
  rw [laws_FnExactDatasOk_eq, show (1048576 : Int) = ((1048576 : Nat) : Int) from rfl, szDataS_ok D hl ho 1048576 (by omega), ocall_int, oite_dec]
  by_cases hs : datasSize D ≤ 1048576
  · rw [if_pos hs, if_neg (by omega)]
    have hsum : ∀ d ∈ D, d.size ≤ 1048576 := fun d hd => by
      have := sizes_mem (f := Data.size) hd
      unfold datasSize at hs
      omega
    have hcs : ∀ d ∈ D, ∀ c ∈ d.cons, c.size ≤ 1048576 := fun d hd c hc => by
      have h1 := hsum d hd
      have := sizes_mem (f := Con1.size) hc
      unfold Data.size at h1
      omega
    have hb : bokD D := fun d hd => by
      have h1 := hsum d hd
      cases ho d hd with
      | mk hn hv hc hcs =>
        unfold Data.size at h1
        simp only at h1
        exact ⟨hn.2, by simp only; omega, fun c hc => by
          cases hcs c hc with
          | mk hn _ _ => exact hn.2⟩
    have hz : szD D := fun d hd c hc => by
      have h1 := hcs d hd c hc
      unfold Con1.size tysSize at h1
      exact ⟨by omega, by omega, fun t ht => by have := sizes_mem (f := Ty.size) ht; omega⟩
    have hn9 : ∀ d ∈ D, d.name.length ≤ 1048576 := fun d hd => by
      have h1 := hsum d hd
      unfold Data.size at h1
      omega
    obtain ⟨b, h1, h2⟩ := DatasOk_same D hb hz hn9
    rw [toDataS_ok D hs, ocall_sl, h1, ocall_bool, ocall_sl, h2, ocall_bool]
    simp only [beq_self_eq_true, Bool.not_true]
    rw [oite_f, ocall_sl, eqDataS_ok D hs, ocall_bool, Bool.not_true, oite_f]
  · rw [if_neg hs, if_pos (by decide)]
end Q
end Go.Ev
