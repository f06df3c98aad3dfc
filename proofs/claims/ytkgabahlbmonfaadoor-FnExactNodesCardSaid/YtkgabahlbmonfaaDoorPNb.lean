import Derived.Test.YtkgabahlbmonfaaDoorPNa
set_option linter.unusedVariables false
set_option linter.unusedSimpArgs false
/-
  Expressions are taken over, weighed and compared as wanted.
-/
namespace Go.Ev.Q
open Go Go.Ev

abbrev szR (n s : Nat) : Res := some (.d (.int .i64 (if s ≤ n then ((n - s : Nat) : Int) else -1)), [])
theorem sz_step {n s t : Nat} {x : Res} (h : x = szR n s) {K : Int → Unit → Res} (hK : ∀ m : Nat, m ≤ n → K m () = szR m t) :
    (ocall (.m (.one (.int .i64))) [] x fun (r0 : Int) (m1 : Unit) => oite (decide (r0 < (0 : Int))) (some ((.d (.int .i64 (-1 : Int))), [])) (K r0 m1)) = szR n (s + t) := by
  subst h
  rw [ocall_int, oite_dec]
  by_cases h1 : s ≤ n
  · rw [if_pos h1, if_neg (by omega)]
    show K ((n - s : Nat) : Int) () = _
    rw [hK (n - s) (by omega)]
    unfold szR
    by_cases h2 : t ≤ n - s
    · rw [if_pos h2, if_pos (by omega), Nat.sub_sub]
    · rw [if_neg h2, if_neg (by omega)]
  · rw [if_neg h1, if_pos (by omega)]
    unfold szR
    rw [if_neg (by omega)]
theorem sz_end {n s : Nat} {x : Res} (h : x = szR n s) :
    (ocall (.m (.one (.int .i64))) [] x fun (r0 : Int) (m1 : Unit) => oite (decide (r0 < (0 : Int))) (some ((.d (.int .i64 (-1 : Int))), [])) (some ((.d (.int .i64 r0)), []))) = szR n s := by
  subst h
  rw [ocall_int, oite_dec]
  by_cases h1 : s ≤ n
  · rw [if_pos h1, if_neg (by omega)]; unfold szR; rw [if_pos h1]
  · rw [if_neg h1, if_pos (by omega)]; unfold szR; rw [if_neg h1]

theorem toByteS_ok (l : List Int) (hl : l.length ≤ 1048576) : laws_toByteS (bytes l) = some (.d (.sl false 1 (bytes l).1 (bytes l).2), []) :=
  to_leaf laws_toByteS_eq laws_toByteS_j1_eq l (by omega) (by omega)
theorem eqByteS_ok (l : List Int) (hl : l.length ≤ 1048576) : laws_eqByteS (bytes l) (bytes l) = some (.d (.bool true), []) :=
  eq_leaf laws_eqByteS_eq laws_eqByteS_j1_eq l (by omega)
theorem szByteS_ok (l : List Int) (hl : lenOk l) (n : Nat) (hn : (n : Int) < 9223372036854775807) : laws_szByteS (bytes l) n = szR n l.length :=
  sz_leaf laws_szByteS_eq (bytes l) hl n hn
noncomputable def bssSize (l : List (List Int)) : Nat := l.length + (l.map List.length).sum
theorem szByteSS_ok (l : List (List Int)) (hl : lenOk l) (ha : ∀ x ∈ l, textOk x) (n : Nat) (hn : (n : Int) < 9223372036854775807) : laws_szByteSS (bytess l) n = szR n (bssSize l) :=
  sz_gen (sh := [.sl 1]) rfl (elt := fun t n => laws_szByteS t.1 n) laws_szByteSS_eq laws_szByteSS_j1_eq (g := fun b => (bytes b, ())) (size := List.length) l hl (fun a h => fun n hn => szByteS_ok a (ha a h).1 n hn) n hn
theorem eqByteSS_ok (l : List (List Int)) (hs : bssSize l ≤ 1048576) : laws_eqByteSS (bytess l) (bytess l) = some (.d (.bool true), []) := by
  unfold bssSize at hs
  exact eq_gen (sh := [.sl 1]) rfl (elt := fun t u => laws_eqByteS t.1 u.1) laws_eqByteSS_eq laws_eqByteSS_j1_eq (g := fun b => (bytes b, ())) l (by omega) (fun a h => eqByteS_ok a (by have := sizes_mem (f := List.length) h; omega))
theorem toByteSS_ok (l : List (List Int)) (hs : bssSize l ≤ 1048576) : laws_toByteSS (bytess l) = some (.d (.sl false 1 (bytess l).1 (bytess l).2), []) := by
  unfold bssSize at hs
  exact to_genG (sh := [.sl 1]) rfl (K := fun s => some (.d (.sl false 1 s.1 s.2), [])) (z := (D.sl false 1 0 []) :: []) rfl (G := fun t k => ocall (.m (.one (.sl 1))) [] (laws_toByteS t.1) fun r2 (_ : Unit) => k [D.sl false 1 r2.1 r2.2]) laws_toByteSS_eq laws_toByteSS_j1_eq (g := fun b => (bytes b, ())) l (by omega) (by omega) (fun a h k => by
    show ocall _ _ (laws_toByteS (bytes a)) _ = _
    rw [toByteS_ok a (by have := sizes_mem (f := List.length) h; omega), ocall_sl]
    rfl)

theorem szExpr_ok (t : Expr) : t.ok → ∀ n : Nat, (n : Int) < 9223372036854775807 → laws_szExpr t.ts n = szR n t.size := by
  induction t using Expr.ind (Q := fun a => a.ok → ∀ n : Nat, (n : Int) < 9223372036854775807 → laws_szArm a.ts n = szR n a.size) with
  | h1 k n name arg lit kids ar ihk iha =>
    intro ho m hm
    cases ho with
    | mk hk hn hname harg hlit hkids hkid harms harm =>
      rw [laws_szExpr_eq, Expr.ts_mk, Expr.size_mk]
      have hK := fun m hm => sz_gen (sh := sh_Expr) rfl laws_szExprS_eq laws_szExprS_j1_eq (g := Expr.ts) (size := Expr.size) kids hkids (fun a h => ihk a h (hkid a h)) m hm
      have hA := fun m hm => sz_gen (sh := sh_Arm) rfl laws_szArmS_eq laws_szArmS_j1_eq (g := Arm.ts) (size := Arm.size) ar harms (fun a h => iha a h (harm a h)) m hm
      have e : name.length + arg.length + lit.length + (kids.length + (kids.map Expr.size).sum) + (ar.length + (ar.map Arm.size).sum) = name.length + (arg.length + (lit.length + ((kids.length + (kids.map Expr.size).sum) + (ar.length + (ar.map Arm.size).sum)))) := by omega
      rw [e]
      exact sz_step (szByteS_ok _ hname.1 m hm) fun m1 h1 => sz_step (szByteS_ok _ harg.1 m1 (by omega)) fun m2 h2 => sz_step (szByteS_ok _ hlit.1 m2 (by omega)) fun m3 h3 => sz_step (hK m3 (by omega)) fun m4 h4 => sz_end (hA m4 (by omega))
  | h2 c vars b ih ho m hm =>
    cases ho with
    | mk hc hvars hvs hb =>
      rw [laws_szArm_eq, Arm.ts_mk, Arm.size_mk]
      have e : c.length + (vars.length + (vars.map List.length).sum) + b.size = c.length + (bssSize vars + b.size) := by unfold bssSize; omega
      rw [e]
      exact sz_step (szByteS_ok _ hc.1 m hm) fun m1 h1 => sz_step (szByteSS_ok _ hvars hvs m1 (by omega)) fun m2 h2 => sz_end (ih hb m2 (by omega))
theorem toExpr_ok (t : Expr) : t.size ≤ 1048576 → laws_toExpr t.ts = some (.agg (LS.encs sh_Expr t.ts), []) := by
  induction t using Expr.ind (Q := fun a => a.size ≤ 1048576 → laws_toArm a.ts = some (.agg (LS.encs sh_Arm a.ts), [])) with
  | h1 k n name arg lit kids ar ihk iha =>
    intro hs
    rw [Expr.size_mk] at hs
    have hK := to_gen (sh := sh_Expr) rfl laws_toExprS_eq laws_toExprS_j1_eq (g := Expr.ts) kids (by omega) (by omega) (fun a h => ihk a h (by have := sizes_mem (f := Expr.size) h; omega))
    have hA := to_gen (sh := sh_Arm) rfl laws_toArmS_eq laws_toArmS_j1_eq (g := Arm.ts) ar (by omega) (by omega) (fun a h => iha a h (by have := sizes_mem (f := Arm.size) h; omega))
    rw [laws_toExpr_eq, Expr.ts_mk]
    simp only
    rw [toByteS_ok name (by omega), ocall_sl, toByteS_ok arg (by omega), ocall_sl, toByteS_ok lit (by omega), ocall_sl, show exprs kids = sl (sh := sh_Expr) Expr.ts kids from rfl, hK, ocall_sl, show Ev.arms ar = sl (sh := sh_Arm) Arm.ts ar from rfl, hA, ocall_sl]
  | h2 c vars b ih hs =>
    rw [Arm.size_mk] at hs
    rw [laws_toArm_eq, Arm.ts_mk]
    simp only
    rw [toByteS_ok c (by omega), ocall_sl, toByteSS_ok vars (by unfold bssSize; omega), ocall_sl, ih (by omega), ocall_agg rfl]
theorem eqExpr_ok (t : Expr) : t.size ≤ 1048576 → laws_eqExpr t.ts t.ts = some (.d (.bool true), []) := by
  induction t using Expr.ind (Q := fun a => a.size ≤ 1048576 → laws_eqArm a.ts a.ts = some (.d (.bool true), [])) with
  | h1 k n name arg lit kids ar ihk iha =>
    intro hs
    rw [Expr.size_mk] at hs
    have hK := eq_gen (sh := sh_Expr) rfl laws_eqExprS_eq laws_eqExprS_j1_eq (g := Expr.ts) kids (by omega) (fun a h => ihk a h (by have := sizes_mem (f := Expr.size) h; omega))
    have hA := eq_gen (sh := sh_Arm) rfl laws_eqArmS_eq laws_eqArmS_j1_eq (g := Arm.ts) ar (by omega) (fun a h => iha a h (by have := sizes_mem (f := Arm.size) h; omega))
    rw [laws_eqExpr_eq, Expr.ts_mk]
    simp only [oite_not, beq_self_eq_true, oite_t, eqByteS_ok name (by omega), eqByteS_ok arg (by omega), eqByteS_ok lit (by omega), ocall_bool, show exprs kids = sl (sh := sh_Expr) Expr.ts kids from rfl, hK, show Ev.arms ar = sl (sh := sh_Arm) Arm.ts ar from rfl, hA]
  | h2 c vars b ih hs =>
    rw [Arm.size_mk] at hs
    rw [laws_eqArm_eq, Arm.ts_mk]
    simp only [oite_not, oite_t, eqByteS_ok c (by omega), eqByteSS_ok vars (by unfold bssSize; omega), ih (by omega), ocall_bool]
end Go.Ev.Q

/-
  Literals and arms: both sides come to the same.
-/
namespace Go.Ev
open Go Go.Ev.Q
/-- A text's bytes. -/
def nm (l : List Int) : List UInt8 := l.map fun x => UInt8.ofNat x.toNat
theorem bnm {l : List Int} (h : byteL l) : bytes l = ub (nm l) := byteL_ub h
theorem nm_len (l : List Int) : (nm l).length = l.length := by simp [nm]
/-- Does something hold of each element, what stands ahead of it and behind it? -/
def allX {α : Type} (b : List α → α → List α → Bool) : List α → List α → Bool
  | _, [] => true
  | pre, a :: q => b pre a q && allX b (pre ++ [a]) q
theorem loopX {α R : Type} {J : Int → R} {l : List α} {b : List α → α → List α → Bool} {bad K : R} (hs : ∀ pre a q, pre ++ a :: q = l → J (pre.length : Int) = if b pre a q = true then J ((pre.length + 1 : Nat) : Int) else bad) (he : J (l.length : Int) = K) :
    J 0 = if allX b [] l = true then K else bad := by
  have key : ∀ (q pre : List α), pre ++ q = l → J (pre.length : Int) = if allX b pre q = true then K else bad := by
    intro q
    induction q with
    | nil => intro pre h; simp at h; subst h; simpa [allX] using he
    | cons a q ih =>
      intro pre h
      rw [hs pre a q h]
      have := ih (pre ++ [a]) (by simpa using h)
      rw [List.length_append, List.length_singleton] at this
      rw [this]
      unfold allX
      by_cases hp : b pre a q = true
      · rw [if_pos hp]
        simp only [hp, Bool.true_and]
        cases q <;> rfl
      · have hp' : b pre a q = false := by simpa using hp
        simp [hp']
  exact key l [] rfl
def chB (b : UInt8) : Bool := decide (32 ≤ b.toNat ∧ b.toNat ≤ 126 ∧ b.toNat ≠ 34 ∧ b.toNat ≠ 92)
def litB (u : List UInt8) : Bool := decide (u.length ≤ 20) && u.all chB
def varsB (pre : List (List Int)) (v : List Int) (_ : List (List Int)) : Bool := nameB (nm v) && !(pre.any fun u => decide (nm v = nm u))
def armB (c : List Int) (vars : List (List Int)) : Bool := if c = [] then decide (vars = []) else wordB true (nm c) && (decide (vars.length ≤ 3) && allX varsB [] vars)
namespace Q
open Go Go.Ev

theorem l5lit_ok (u : List UInt8) : spec_l5lit (ub u) = rB (litB u) := by
  rw [spec_l5lit_eq, oite_dec, ub_n]
  unfold litB
  by_cases hl : u.length ≤ 20
  · rw [if_neg (by omega)]
    have := loopB (l := u) (p := chB) (J := fun i => spec_l5lit_j1 i (ub u)) (c := true) (fun pre a q h => by
      have hlt := len_mid h
      have j2 : ∀ c : Bool, spec_l5lit_j2 (ub u) (pre.length : Int) c = if c = true then rB false else spec_l5lit_j1 ((pre.length + 1 : Nat) : Int) (ub u) := by
        intro c
        rw [spec_l5lit_j2_eq, oite_bool, w64_succ (by omega)]
      rw [spec_l5lit_j1_eq, oite_dec, if_pos (by rw [ub_n]; omega)]
      simp only [oat_ub h, j2]
      rw [oite_dec, oite_dec, oite_if]
      unfold chB
      by_cases h1 : ((a.toNat : Nat) : Int) < 32
      · rw [if_pos h1, if_pos trivial, if_neg (by simp; omega)]
      · rw [if_neg h1]
        by_cases h2 : ((a.toNat : Nat) : Int) > 126
        · rw [if_pos h2, if_pos trivial, if_neg (by simp; omega)]
        · rw [if_neg h2]
          by_cases h3 : ((a.toNat : Nat) : Int) = 34
          · rw [if_pos (by simp [h3]), if_pos trivial, if_neg (by simp; omega)]
          · rw [if_neg (by simpa using h3)]
            by_cases h4 : ((a.toNat : Nat) : Int) = 92
            · rw [if_pos (by simp [h4]), if_neg (by simp; omega)]
            · rw [if_neg (by simpa using h4), if_pos (by simp; omega)]) (by
      rw [spec_l5lit_j1_eq, oite_dec, if_neg (by rw [ub_n]; omega)])
    rw [this]
    simp [hl]
  · rw [if_pos (by omega)]
    simp [hl]
theorem litOk1_ok (b : UInt8) : impl_litOk_1 ((b.toNat : Nat) : Int) = rB (!chB b) := by
  rw [impl_litOk_1_eq, oite_dec, oite_dec, oite_if]
  unfold chB
  by_cases h1 : ((b.toNat : Nat) : Int) < 32
  · rw [if_pos h1]; refine resB ?_; simp; omega
  · rw [if_neg h1]
    by_cases h2 : ((b.toNat : Nat) : Int) > 126
    · rw [if_pos h2]; refine resB ?_; simp; omega
    · rw [if_neg h2]
      by_cases h3 : ((b.toNat : Nat) : Int) = 34
      · rw [if_pos (by simp [h3])]; refine resB ?_; simp; omega
      · rw [if_neg (by simpa using h3)]
        refine resP ?_
        simp
        omega
theorem litOk_ok (u : List UInt8) (hl : u.length ≤ 1048576) : impl_litOk (ub u) = rB (litB u) := by
  rw [impl_litOk_eq, oite_dec, ub_n]
  unfold litB
  by_cases h : u.length ≤ 20
  · rw [if_pos (by omega)]
    obtain ⟨r, h1, h2⟩ := index_all (l := u) (p := chB) (J := fun i => slices_IndexFunc_byte_byte_2_Fimpl_litOk_1_j1 i (ub u) (u.length : Int)) (Mm := []) (fun pre a q h => by
      have hlt := len_mid h
      rw [slices_IndexFunc_byte_byte_2_Fimpl_litOk_1_j1_eq, oite_dec, if_pos (by omega), oat_ub h, litOk1_ok, ocall_bool, oite_nbool, w64_succ (by omega)]) (by
      rw [slices_IndexFunc_byte_byte_2_Fimpl_litOk_1_j1_eq, oite_dec, if_neg (by omega)])
    rw [slices_ContainsFunc_byte_byte_2_Fimpl_litOk_1_eq, slices_IndexFunc_byte_byte_2_Fimpl_litOk_1_eq, ub_n, h1, ocall_int, ocall_bool, h2, Bool.not_not]
    simp [h]
  · rw [if_neg (by omega)]
    simp [h]

theorem ocall_b1 {R : Type} {b : Bool} {x : Sl} {f : Bool → (Sl × Unit) × Unit → Option R} : ocall (.m (.one .bool)) [.box [.sl 1]] (some (.d (.bool b), [.box [.d (.sl false 1 x.1 x.2)]])) f = f b ((x, ()), ()) := ocall_bool_box (l := [.sl 1]) rfl (t := (x, ()))
theorem ocall_i1 {R : Type} {n : Int} {x : Sl} {f : Int → (Sl × Unit) × Unit → Option R} : ocall (.m (.one (.int .i64))) [.box [.sl 1]] (some (.d (.int .i64 n), [.box [.d (.sl false 1 x.1 x.2)]])) f = f n ((x, ()), ()) := ocall_int_box (l := [.sl 1]) rfl (t := (x, ()))
theorem oat_bs {R : Type} {pre q l : List (List Int)} {a : List Int} (h : pre ++ a :: q = l) {f : Sl × Unit → Option R} : oat [.sl 1] (bytess l).1 (bytess l).2 (pre.length : Int) f = f (bytes a, ()) := oat_mid (sh := [.sl 1]) (g := fun b => (bytes b, ())) h rfl
theorem any_not {α : Type} {l : List α} {p : α → Bool} : (!(l.all fun a => !p a)) = l.any p := by
  induction l with
  | nil => rfl
  | cons a l ih => simp only [List.all_cons, List.any_cons, ← ih, Bool.not_and, Bool.not_not]
theorem bytess_take {pre D : List (List Int)} (q : List (List Int)) (h : pre ++ q = D) : ((Int.toNat (pre.length : Int)), List.take (Int.toNat (pre.length : Int)) (bytess D).2) = bytess pre := by
  rw [← h]
  simp [bytess, sl]
theorem armSame_ok (l : List (List Int)) (hl : l.length ≤ 1048576) (hb : ∀ v ∈ l, byteL v) (v : List UInt8) : slices_ContainsFunc_byte_byte_Fimpl_armOk_1c (bytess l) (ub v) = some (.d (.bool (l.any fun u => decide (v = nm u))), [.box [.d (.sl false 1 (ub v).1 (ub v).2)]]) := by
  obtain ⟨r, h1, h2⟩ := index_all (l := l) (p := fun u => !decide (v = nm u)) (J := fun i => slices_IndexFunc_byte_byte_Fimpl_armOk_1c_j1 i (bytess l) (l.length : Int) (ub v)) (Mm := [.box [.d (.sl false 1 (ub v).1 (ub v).2)]]) (fun pre a q h => by
    have hm := mem_mid h
    have hlt := len_mid h
    rw [slices_IndexFunc_byte_byte_Fimpl_armOk_1c_j1_eq, oite_dec, if_pos (by omega), oat_bs h, impl_armOk_1_eq]
    simp only
    rw [bytes_Equal_eq, bnm (hb a hm), ostr_ub, ostr_ub, ocall_bool, ocall_b1, tx_inj, oite_bool, w64_succ (by omega)]
    by_cases e : nm a = v
    · simp [e]
    · have e' : ¬ v = nm a := fun h => e h.symm
      simp [e, e']) (by
    rw [slices_IndexFunc_byte_byte_Fimpl_armOk_1c_j1_eq, oite_dec, if_neg (by omega)])
  have h1' : slices_IndexFunc_byte_byte_Fimpl_armOk_1c_j1 0 (bytess l) (((bytess l).1 : Nat) : Int) (ub v) = _ := h1
  rw [slices_ContainsFunc_byte_byte_Fimpl_armOk_1c_eq, slices_IndexFunc_byte_byte_Fimpl_armOk_1c_eq, h1', ocall_i1, h2, any_not]
theorem armOk_ok (c : List Int) (vars : List (List Int)) (b : Expr) (hc : byteL c) (hcl : c.length ≤ 1048576) (hl : vars.length ≤ 1048576) (hb : ∀ v ∈ vars, byteL v) (hbl : ∀ v ∈ vars, v.length ≤ 1048576) : impl_armOk (Arm.mk c vars b).ts = rB (armB c vars) := by
  rw [Arm.ts_mk, impl_armOk_eq]
  simp only
  unfold armB
  have hcn : (bytes c).1 = c.length := rfl
  have hvn : (bytess vars).1 = vars.length := rfl
  rw [hcn, hvn, oite_if]
  by_cases h0 : c = []
  · subst h0
    rw [if_pos (by rfl), if_pos rfl]
    refine resP ?_
    simp
  · have hcl0 : c.length ≠ 0 := fun e => h0 (List.length_eq_zero_iff.1 e)
    rw [if_neg (by simp; omega), if_neg h0, bnm hc, ostr_ub, isCon_ok _ (by rw [nm_len]; omega), ocall_bool, oite_nbool]
    have hj3 : impl_armOk_j3 0 (bytess vars) (vars.length : Int) (ub (nm c), bytess vars, b.ts) = rB (allX varsB [] vars) := by
      have := loopX (l := vars) (b := varsB) (J := fun i => impl_armOk_j3 i (bytess vars) (vars.length : Int) (ub (nm c), bytess vars, b.ts)) (bad := rB false) (K := rB true) (fun pre a q h => by
        have hm := mem_mid h
        have hlt := len_mid h
        have j4 : ∀ e : Bool, impl_armOk_j4 (bytess vars) (vars.length : Int) (pre.length : Int) e (ub (nm c), bytess vars, b.ts) = if e = true then rB false else impl_armOk_j3 ((pre.length + 1 : Nat) : Int) (bytess vars) (vars.length : Int) (ub (nm c), bytess vars, b.ts) := by
          intro e
          rw [impl_armOk_j4_eq, oite_bool, w64_succ (by omega)]
        rw [impl_armOk_j3_eq, oite_dec, if_pos (by omega), oat_bs h, bnm (hb a hm)]
        simp only
        rw [ostr_ub, isName_ok _ (by rw [nm_len]; have := hbl a hm; omega), ocall_bool, oite_nbool]
        unfold varsB
        by_cases hn : nameB (nm a) = true
        · rw [if_pos hn, oguard_dec ⟨by omega, by rw [hvn]; omega⟩, olet_eq, bytess_take (a :: q) h, armSame_ok pre (by omega) (fun v hv => hb v (by rw [← h]; simp [hv])), ocall_b1, j4]
          simp only [hn, Bool.true_and]
          cases (pre.any fun u => decide (nm a = nm u)) <;> rfl
        · rw [if_neg hn, j4]
          have hn' : nameB (nm a) = false := by simpa using hn
          simp [hn']) (by
        rw [impl_armOk_j3_eq, oite_dec, if_neg (by omega)])
      rw [this]
      cases allX varsB [] vars <;> rfl
    have j2 : ∀ e : Bool, impl_armOk_j2 e (ub (nm c), bytess vars, b.ts) = if e = true then rB false else rB (allX varsB [] vars) := by
      intro e
      rw [impl_armOk_j2_eq, oite_bool, impl_armOk_j1_eq]
      simp only
      rw [hvn, hj3]
    rw [j2, j2]
    by_cases hw : wordB true (nm c) = true
    · rw [if_pos hw]
      simp only [hw, Bool.true_and]
      by_cases h3 : vars.length ≤ 3
      · rw [if_neg (by simp; omega)]; simp [h3]
      · rw [if_pos (by simp; omega)]; simp [h3]
    · rw [if_neg hw]
      have hw' : wordB true (nm c) = false := by simpa using hw
      simp [hw']
/-- The reference's: an arm that is right goes on with its body. -/
theorem l5arm_ok (c : List Int) (vars : List (List Int)) (b : Expr) (d : Int) (hc : byteL c) (hl : vars.length ≤ 1048576) (hb : ∀ v ∈ vars, byteL v) {r : Int} (hr : spec_l5expr b.ts d = rI r) : spec_l5arm (Arm.mk c vars b).ts d = if armB c vars = true then rI r else rI (-1) := by
  rw [Arm.ts_mk, spec_l5arm_eq]
  simp only
  unfold armB
  have hcn : (bytes c).1 = c.length := rfl
  have hvn : (bytess vars).1 = vars.length := rfl
  rw [hcn, hvn, oite_if, oite_dec, hr, ocall_int]
  by_cases h0 : c = []
  · subst h0
    rw [if_pos (by rfl), if_pos rfl]
    by_cases hv : vars = []
    · subst hv
      rw [if_neg (by simp)]; simp
    · have : vars.length ≠ 0 := fun e => hv (List.length_eq_zero_iff.1 e)
      rw [if_pos (by omega)]; simp [hv]
  · have hcl0 : c.length ≠ 0 := fun e => h0 (List.length_eq_zero_iff.1 e)
    rw [if_neg (by simp; omega), if_neg h0, bnm hc, l5word_ok, ocall_bool, oite_nbool]
    have hj3 : spec_l5arm_j3 0 d (ub (nm c), bytess vars, b.ts) = if allX varsB [] vars = true then rI r else rI (-1) := by
      refine loopX (l := vars) (b := varsB) (J := fun i => spec_l5arm_j3 i d (ub (nm c), bytess vars, b.ts)) (bad := rI (-1)) (K := rI r) (fun pre a q h => ?_) ?_
      · have hm := mem_mid h
        have hlt := len_mid h
        have j4 : spec_l5arm_j4 0 (pre.length : Int) d (ub (nm c), bytess vars, b.ts) = if (pre.all fun u => !decide (nm a = nm u)) = true then spec_l5arm_j3 ((pre.length + 1 : Nat) : Int) d (ub (nm c), bytess vars, b.ts) else rI (-1) := by
          refine loop_all (l := pre) (p := fun u => !decide (nm a = nm u)) (J := fun i => spec_l5arm_j4 i (pre.length : Int) d (ub (nm c), bytess vars, b.ts)) (fun pre2 a2 q2 h2 => ?_) ?_
          · have hlt2 := len_mid h2
            have hm2 : a2 ∈ vars := by rw [← h, ← h2]; simp
            have hq : pre2 ++ a2 :: (q2 ++ a :: q) = vars := by rw [← h, ← h2]; simp
            rw [spec_l5arm_j4_eq, oite_dec, if_pos (by omega), oat_bs h, bnm (hb a hm)]
            simp only
            rw [ostr_ub, oat_bs hq, bnm (hb a2 hm2)]
            simp only
            rw [ostr_ub, tx_inj, oite_bool, w64_succ (by omega)]
            by_cases e : nm a = nm a2 <;> simp [e]
          · show spec_l5arm_j4 (pre.length : Int) _ _ _ = _
            rw [spec_l5arm_j4_eq, oite_dec, if_neg (by omega), w64_succ (by omega)]
        rw [spec_l5arm_j3_eq, oite_dec, if_pos (by simp only; rw [hvn]; omega), oat_bs h, bnm (hb a hm)]
        simp only
        rw [l5name_ok, ocall_bool, oite_nbool, j4]
        unfold varsB
        rw [← any_not, Bool.not_not]
        by_cases hn : nameB (nm a) = true
        · rw [if_pos hn]; simp only [hn, Bool.true_and]
        · rw [if_neg hn]
          have hn' : nameB (nm a) = false := by simpa using hn
          simp only [hn', Bool.false_and]
          rfl
      · show spec_l5arm_j3 (vars.length : Int) _ _ = _
        rw [spec_l5arm_j3_eq, oite_dec, if_neg (by simp only; rw [hvn]; omega), hr, ocall_int]
    have j2 : ∀ e : Bool, spec_l5arm_j2 d e (ub (nm c), bytess vars, b.ts) = if e = true then rI (-1) else if allX varsB [] vars = true then rI r else rI (-1) := by
      intro e
      rw [spec_l5arm_j2_eq, oite_bool, spec_l5arm_j1_eq, hj3]
    rw [j2, j2]
    by_cases hw : wordB true (nm c) = true
    · rw [if_pos hw]
      simp only [hw, Bool.true_and]
      by_cases h3 : vars.length ≤ 3
      · rw [if_neg (by simp; omega)]; simp only [h3, decide_true, Bool.true_and]
      · rw [if_pos (by simp; omega)]; simp [h3]
    · rw [if_neg hw]
      have hw' : wordB true (nm c) = false := by simpa using hw
      simp [hw']
end Q
end Go.Ev
