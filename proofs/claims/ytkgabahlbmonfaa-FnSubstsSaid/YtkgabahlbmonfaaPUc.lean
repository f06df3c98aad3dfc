import Derived.Test.YtkgabahlbmonfaaPUa
import Derived.Test.YtkgabahlbmonfaaPUb
set_option linter.unusedVariables false
set_option linter.unusedSimpArgs false
/-
  Variables that stand for themselves change nothing; what is put for variables leaves just the variables of what was put: the law.
-/
namespace Go.Ev
open Go
/-- Variables that stand for themselves. -/
def selfs (n : Nat) : List Ty := (List.range n).map fun (i : Nat) => .mk 7 i []
theorem selfs_len {n : Nat} : (selfs n).length = n := by simp [selfs]
theorem selfs_get {n i : Nat} (h : i < n) : (selfs n).getD i (.mk 0 0 []) = .mk 7 i [] := by
  simp [selfs, List.getD_eq_getElem?_getD, h]
theorem Ty.sub_self {n : Nat} (t : Ty) : t.good → Ty.sub (selfs n) t = t := by
  induction t using Ty.ind with
  | h k m l ih =>
    intro hg
    cases hg with
    | mk hv hl hga =>
    rw [Ty.sub_mk, selfs_len]
    split
    · rename_i h
      obtain ⟨h0, rfl⟩ := hv h.1
      rw [selfs_get h.2, h.1, show ((m.toNat : Nat) : Int) = m by omega]
    · congr 1
      exact (List.map_congr_left fun a ha => ih a ha (hga a ha)).trans (List.map_id l)
theorem Ty.vars_sub {L : List Ty} (t : Ty) : t.good → ∀ v ∈ t.vars, 0 ≤ v ∧ (v.toNat < L.length → ∀ x ∈ (L.getD v.toNat (.mk 0 0 [])).vars, x ∈ (Ty.sub L t).vars) ∧ (¬ v.toNat < L.length → v ∈ (Ty.sub L t).vars) := by
  induction t using Ty.ind with
  | h k n l ih =>
    intro hg v hv
    cases hg with
    | mk hv7 hl hga =>
    rw [Ty.vars_mk] at hv
    rw [Ty.sub_mk]
    by_cases h7 : k = 7
    · obtain ⟨h0, rfl⟩ := hv7 h7
      rw [if_pos h7] at hv
      simp at hv
      subst hv
      refine ⟨h0, fun h x hx => ?_, fun h => ?_⟩
      · rw [if_pos ⟨h7, h⟩]; exact hx
      · rw [if_neg (fun hc => h hc.2), Ty.vars_mk, if_pos h7]; simp
    · rw [if_neg h7, List.nil_append] at hv
      rw [if_neg (fun hc => h7 hc.1), Ty.vars_mk, if_neg h7, List.nil_append]
      obtain ⟨xs, h1, h2⟩ := List.mem_flatten.1 hv
      obtain ⟨a, ha, rfl⟩ := List.mem_map.1 h1
      obtain ⟨q0, q1, q2⟩ := ih a ha (hga a ha) v h2
      have hin : ∀ x, x ∈ (Ty.sub L a).vars → x ∈ ((l.map (Ty.sub L)).map Ty.vars).flatten := fun x hx => List.mem_flatten.2 ⟨_, List.mem_map.2 ⟨_, List.mem_map.2 ⟨a, ha, rfl⟩, rfl⟩, hx⟩
      exact ⟨q0, fun h x hx => hin x (q1 h x hx), fun h => hin v (q2 h)⟩
namespace Q
open Go Go.Ev

theorem selfs_ok {n : Nat} (hn : n ≤ 60) : (selfs n).all Ty.okB = true := by
  rw [List.all_eq_true]
  intro a ha
  obtain ⟨i, hi, rfl⟩ := List.mem_map.1 ha
  have hi := List.mem_range.1 hi
  unfold Ty.okB
  rw [Ty.meas, if_neg (by rintro (h | h); omega; exact h (.inr (.inr (.inr (.inr ⟨rfl, rfl, by omega, by omega⟩))))), Ty.meass]
  rfl
theorem subB_self {n : Nat} (hn : n ≤ 60) {t : Ty} (h : t.okB = true) : subB t (selfs n) = true ∧ subT t (selfs n) = t := by
  have e := Ty.sub_self (n := n) t (Ty.okB_good h).1
  have e2 : subB t (selfs n) = true := by unfold subB; rw [h, selfs_len, decide_eq_true hn, selfs_ok hn, e, h]; rfl
  exact ⟨e2, by unfold subT; rw [e2]; exact e⟩

theorem sameTy_refl (t : Ty) : t.size ≤ 2000000 → laws_sameTy t.ts t.ts = rB true := by
  induction t using Ty.ind with
  | h k n l ih =>
    intro hs
    rw [Ty.size_mk] at hs
    have loop : ∀ (q pre : List Ty), pre ++ q = l → laws_sameTy_j3 (pre.length : Int) (k, n, tys l, ()) (k, n, tys l, ()) = rB true := by
      intro q
      induction q with
      | nil =>
        intro pre hp
        rw [List.append_nil] at hp; subst hp
        rw [laws_sameTy_j3_eq, oite_dec, if_neg (by simp [tys, sl])]
      | cons a q ihq =>
        intro pre hp
        have hm := mem_mid hp
        have hlt := len_mid hp
        have hsz := sizes_mem (f := Ty.size) hm
        rw [laws_sameTy_j3_eq, oite_dec, if_pos (show (pre.length : Int) < ((tys l).1 : Nat) by show (pre.length : Int) < (l.length : Nat); omega)]
        simp only
        rw [show tys l = sl (sh := sh_Ty) Ty.ts l from rfl, oat_mid hp rfl, oat_mid hp rfl, ih a hm (by omega), ocall_bool, Bool.not_true, oite_f, w64_succ (by omega)]
        have := ihq (pre ++ [a]) (by simpa using hp)
        rw [List.length_append, List.length_singleton] at this
        exact this
    rw [laws_sameTy_eq, Ty.ts_mk]
    simp only [beq_self_eq_true, Bool.not_true, oite_f]
    rw [laws_sameTy_j2_eq, oite_f, laws_sameTy_j1_eq]
    exact loop l [] rfl
theorem has_ok (l : List Int) (x : Int) (hl : l.length ≤ 1048576) (hx : x ∈ l) : laws_has (ints l) x = rB true := by
  have key : ∀ (q pre : List Int), pre ++ q = l → x ∈ q → laws_has_j1 (pre.length : Int) x (ints l) = rB true := by
    intro q
    induction q with
    | nil => intro pre _ h; simp at h
    | cons a q ih =>
      intro pre hp hx
      have hlt := len_mid hp
      rw [laws_has_j1_eq, oite_dec, if_pos (by rw [ints_num]; omega), show ints l = sl (sh := [.int .i64]) (fun n => (n, ())) l from rfl, oat_mid hp rfl]
      rw [show sl (sh := [.int .i64]) (fun n => (n, ())) l = ints l from rfl]
      simp only [oite_if, beq_iff_eq]
      by_cases he : a = x
      · rw [if_pos he]
      · rw [if_neg he, w64_succ (by omega)]
        have := ih (pre ++ [a]) (by simpa using hp) (by
          rcases List.mem_cons.1 hx with h | h
          · exact absurd h.symm he
          · exact h)
        rw [List.length_append, List.length_singleton] at this
        exact this
  rw [laws_has_eq]
  exact key l [] rfl hx
theorem varsI_ok (y : Ty) (hy : y.okB = true) : ∃ l, impl_TyVars y.ts = rL l ∧ l.length ≤ 1000 ∧ ∀ x, x ∈ y.vars → x ∈ l := by
  obtain ⟨hg, hz⟩ := Ty.okB_good hy
  have hv := y.vars_len
  have hl := fold_len1 y.vars []
  have hf := fold_ins y.vars [] List.Pairwise.nil
  refine ⟨y.vars.foldl insR [], by rw [TyVars_ok y (by omega), if_pos hy], by simp at hl; omega, fun x hx => (hf.2 x).2 (.inl hx)⟩

theorem j5_ok2 {y : Ty} {L : List Ty} {r : List Int} (hy : y.okB = true) (i : Nat) (hi : i < 100) (hP : laws_FnSubsts_j4 ((i + 1 : Nat) : Int) (ints r) (tys L) y.ts.1 y.ts.2.1 y.ts.2.2.1 = rB true ∧ laws_FnSubsts_j4v1 ((i + 1 : Nat) : Int) (ints r) (tys L) y.ts.1 y.ts.2.1 y.ts.2.2.1 = rB true)
    (r2 : List Int) (hr2 : r2.length ≤ 100) (hx : ∀ x ∈ r2, x ∈ y.vars) : ∀ (q pre : List Int), pre ++ q = r2 →
    laws_FnSubsts_j5 (pre.length : Int) (ints r2) (ints r) (tys L) i y.ts.1 y.ts.2.1 y.ts.2.2.1 = rB true ∧ laws_FnSubsts_j5v1 (pre.length : Int) (ints r2) (ints r) (tys L) i y.ts.1 y.ts.2.1 y.ts.2.2.1 = rB true := by
  intro q
  induction q with
  | nil =>
    intro pre hp
    rw [List.append_nil] at hp; subst hp
    refine ⟨?_, ?_⟩
    · rw [laws_FnSubsts_j5_eq, oite_dec, if_neg (by rw [ints_num]; omega), w64_succ (by omega)]; exact hP.1
    · rw [laws_FnSubsts_j5v1_eq, oite_dec, if_neg (by rw [ints_num]; omega), w64_succ (by omega)]; exact hP.2
  | cons a q ih =>
    intro pre hp
    have hlt := len_mid hp
    have hm := mem_mid hp
    obtain ⟨l, e, hl, hin⟩ := varsI_ok y hy
    have hnext := ih (pre ++ [a]) (by simpa using hp)
    rw [List.length_append, List.length_singleton] at hnext
    have hat : ∀ {R : Type} {f : Int × Unit → Option R}, oat [.int .i64] (ints r2).1 (ints r2).2 (pre.length : Int) f = f (a, ()) := fun {R f} => oat_mid (sh := [.int .i64]) (g := fun n => (n, ())) hp rfl
    refine ⟨?_, ?_⟩
    · rw [laws_FnSubsts_j5_eq, oite_dec, if_pos (by rw [ints_num]; omega)]
      simp only [hat, ts_k, osame_i]
      rw [e, ocall_rL, has_ok l a (by omega) (hin a (hx a hm)), ocall_bool, Bool.not_true, oite_f, w64_succ (by omega)]
      exact hnext.2
    · rw [laws_FnSubsts_j5v1_eq, oite_dec, if_pos (by rw [ints_num]; omega)]
      simp only [hat, ts_k, osame_i]
      rw [e, ocall_rL, has_ok l a (by omega) (hin a (hx a hm)), ocall_bool, Bool.not_true, oite_f, w64_succ (by omega)]
      exact hnext.2
theorem j4_ok2 {y : Ty} {L : List Ty} {r : List Int} (hy : y.okB = true) (hr : r.length ≤ 100) (hL : ∀ a ∈ L, a.okB = true) (hln : L.length ≤ 60) (hv : ∀ v ∈ r, 0 ≤ v ∧ (v.toNat < L.length → ∀ x ∈ (L.getD v.toNat (.mk 0 0 [])).vars, x ∈ y.vars) ∧ (¬ v.toNat < L.length → v ∈ y.vars)) : ∀ (q pre : List Int), pre ++ q = r →
    laws_FnSubsts_j4 (pre.length : Int) (ints r) (tys L) y.ts.1 y.ts.2.1 y.ts.2.2.1 = rB true ∧ laws_FnSubsts_j4v1 (pre.length : Int) (ints r) (tys L) y.ts.1 y.ts.2.1 y.ts.2.2.1 = rB true := by
  intro q
  induction q with
  | nil =>
    intro pre hp
    rw [List.append_nil] at hp; subst hp
    refine ⟨?_, ?_⟩
    · rw [laws_FnSubsts_j4_eq, oite_dec, if_neg (by rw [ints_num]; omega)]
    · rw [laws_FnSubsts_j4v1_eq, oite_dec, if_neg (by rw [ints_num]; omega)]
  | cons a q ih =>
    intro pre hp
    have hlt := len_mid hp
    have hm := mem_mid hp
    obtain ⟨a0, a1, a2⟩ := hv a hm
    have hnext := ih (pre ++ [a]) (by simpa using hp)
    rw [List.length_append, List.length_singleton] at hnext
    have hat : ∀ {R : Type} {f : Int × Unit → Option R}, oat [.int .i64] (ints r).1 (ints r).2 (pre.length : Int) f = f (a, ()) := fun {R f} => oat_mid (sh := [.int .i64]) (g := fun n => (n, ())) hp rfl
    obtain ⟨l, e, hl, hin⟩ := varsI_ok y hy
    by_cases ha : a.toNat < L.length
    · have hLa : L[a.toNat]? = some (L.getD a.toNat (.mk 0 0 [])) := by simp [List.getD_eq_getElem?_getD, ha]
      have a1 := a1 ha
      generalize L.getD a.toNat (.mk 0 0 []) = u at hLa a1
      have hu := hL u (List.mem_of_getElem? hLa)
      obtain ⟨r2, e2, l2, m2⟩ := TyVarsS_ok u (by have := (Ty.okB_good hu).2; omega)
      have h5 := j5_ok2 hy pre.length (by omega) hnext r2 l2 (fun x hx => a1 x ((m2 hu x).1 hx)) r2 [] rfl
      have hoat : ∀ {R : Type} {f : T_Ty → Option R}, oat sh_Ty (tys L).1 (tys L).2 a f = f u.ts := fun {R f} => oat_sl (sh := sh_Ty) (g := Ty.ts) (l := L) rfl a0 hLa
      refine ⟨?_, ?_⟩
      · rw [laws_FnSubsts_j4_eq, oite_dec, if_pos (by rw [ints_num]; omega)]
        simp only [hat]
        rw [oite_dec, if_pos (by show a < ((L.length : Nat) : Int); omega), hoat, e2, ocall_rL]
        exact h5.1
      · rw [laws_FnSubsts_j4v1_eq, oite_dec, if_pos (by rw [ints_num]; omega)]
        simp only [hat]
        rw [oite_dec, if_pos (by show a < ((L.length : Nat) : Int); omega), hoat, e2, ocall_rL]
        exact h5.2
    · have hmem := a2 ha
      refine ⟨?_, ?_⟩
      · rw [laws_FnSubsts_j4_eq, oite_dec, if_pos (by rw [ints_num]; omega)]
        simp only [hat, ts_k, osame_i]
        rw [oite_dec, if_neg (by show ¬ a < ((L.length : Nat) : Int); omega), e, ocall_rL, has_ok l a (by omega) (hin a hmem), ocall_bool, Bool.not_true, oite_f, w64_succ (by omega)]
        exact hnext.2
      · rw [laws_FnSubsts_j4v1_eq, oite_dec, if_pos (by rw [ints_num]; omega)]
        simp only [hat, ts_k, osame_i]
        rw [oite_dec, if_neg (by show ¬ a < ((L.length : Nat) : Int); omega), e, ocall_rL, has_ok l a (by omega) (hin a hmem), ocall_bool, Bool.not_true, oite_f, w64_succ (by omega)]
        exact hnext.2
theorem TySize0 : impl_TySize ((0 : Int), (0 : Int), (0, []), ()) = rI 1 := by
  have e : ((0 : Int), (0 : Int), ((0 : Nat), ([] : List (List D))), ()) = noT.ts := by rw [noT, Ty.ts_mk]; rfl
  have hm : Ty.meas noT 1 = 1 := by rw [noT, Ty.meas, if_neg (by unfold headOk; simp), Ty.meass]
  rw [impl_TySize_eq, e, show (1 : Int) = ((1 : Nat) : Int) from rfl, measure_ok noT (by rw [noT, Ty.size_mk]; simp) 1 (by omega), hm, ocall_int, oite_dec, if_pos (by omega)]
theorem j2_ok2 (t : Ty) (L : List Ty) (ht : t.size ≤ 4002) (hL : ∀ a ∈ L, a.size ≤ 4002) (hn : L.length ≤ 4) : laws_FnSubsts_j2 (tys L) t.ts = rB true := by
  have hz : tysSize L ≤ 1048576 := by
    have : ∀ q : List Ty, (∀ a ∈ q, a.size ≤ 4002) → tysSize q ≤ 4003 * q.length := by
      intro q
      induction q with
      | nil => intro _; simp [tysSize]
      | cons a q ih =>
        intro h
        have h1 := h a (by simp)
        have h2 := ih fun b hb => h b (by simp [hb])
        unfold tysSize at h2 ⊢
        simp only [List.length_cons, List.map_cons, List.sum_cons]
        omega
    have := this L hL
    omega
  rw [laws_FnSubsts_j2_eq, (TySubstI_ok t L (by omega) hz).call]
  simp only
  cases hb : subB t L with
  | false =>
    rw [Bool.not_false, oite_t, TySize0, ocall_int]
    have : subT t L = noT := by unfold subT; rw [hb]; rfl
    rw [this, noT, Ty.ts_mk, show ((1 : Int) == 1) = true from rfl, oite_t]
    rfl
  | true =>
    rw [Bool.not_true, oite_f]
    have hT : subT t L = Ty.sub L t := by unfold subT; rw [hb]; rfl
    have hb2 := hb
    unfold subB at hb2
    simp only [Bool.and_eq_true] at hb2
    obtain ⟨b1, b2, b3, b4⟩ := hb2
    obtain ⟨r, e, hl, hm⟩ := TyVarsS_ok t (by omega)
    rw [e, ocall_rL, hT]
    exact (j4_ok2 b4 hl (fun a ha => List.all_eq_true.1 b3 a ha) (by omega) (fun v hv => Ty.vars_sub t (Ty.okB_good b1).1 v ((hm b1 v).1 hv)) r [] rfl).1
theorem j1_ok2 (t : Ty) (L : List Ty) (ht : t.size ≤ 4002) (hL : ∀ a ∈ L, a.size ≤ 4002) (hn : L.length ≤ 4) : laws_FnSubsts_j1 0 (tys L) (0, []) t.ts = rB true := by
  have h3 : laws_FnSubsts_j3 (tys L) false t.ts = rB true := by rw [laws_FnSubsts_j3_eq, oite_f]; exact j2_ok2 t L ht hL hn
  have hz : tysSize (selfs L.length) ≤ 1048576 := by
    have : ∀ n, tysSize (selfs n) = n := by
      intro n
      unfold tysSize
      rw [selfs_len]
      have : ((selfs n).map Ty.size).sum = 0 := by
        have : (selfs n).map Ty.size = (List.range n).map fun _ => 0 := by
          simp only [selfs, List.map_map]
          exact List.map_congr_left fun i _ => by show Ty.size (.mk 7 i []) = 0; rw [Ty.size_mk]; rfl
        rw [this]; exact sum_zero _
      omega
    rw [this]; omega
  have end_ : (ocall (.tup [(.agg [(.int .i64), (.int .i64), (.own 0)]), (.one .bool)]) [(.lrow 3 true)] (impl_TySubst t.ts (tys (selfs L.length))) fun (r3 : ((Int × (Int × (Unit × Unit))) × (Bool × Unit))) (m4 : (Sl × Unit)) =>
    ocall (.m (.one .bool)) [] (spec_TyOk t.ts) fun (r5 : Bool) (m6 : Unit) =>
    oite r5
      (oite (!r3.2.1)
        (laws_FnSubsts_j3 (tys L) true t.ts)
        (ocall (.m (.one .bool)) [] (laws_sameTy (r3.1.1, r3.1.2.1, m4.1, ()) t.ts) fun (r7 : Bool) (m8 : Unit) =>
        laws_FnSubsts_j3 (tys L) (!r7) t.ts))
      (laws_FnSubsts_j3 (tys L) false t.ts)) = rB true := by
    rw [(TySubstI_ok t (selfs L.length) (by omega) hz).call, spec_TyOk_ok t (by omega), ocall_bool]
    cases h : t.okB with
    | false => rw [oite_f]; exact h3
    | true =>
      obtain ⟨e1, e2⟩ := subB_self (n := L.length) (by omega) h
      rw [oite_t, e1, e2]
      simp only [Bool.not_true, oite_f, ts_k]
      rw [sameTy_refl t (by omega), ocall_bool]
      exact h3
  have app : ∀ i : Nat, ((tys (selfs i)).1 + 1, (tys (selfs i)).2 ++ ((vDs (LS.encs sh_Ty ((7 : Int), (i : Int), (0, []), ()))) :: [])) = tys (selfs (i + 1)) := by
    intro i
    have : ((7 : Int), (i : Int), ((0 : Nat), ([] : List (List D))), ()) = (Ty.mk 7 i []).ts := by rw [Ty.ts_mk]; rfl
    rw [this, tys_app]
    simp [selfs, List.range_succ]
  have key : ∀ (m i : Nat), i + m = L.length → laws_FnSubsts_j1v1 (i : Int) (tys L) (tys (selfs i)) t.ts = rB true := by
    intro m
    induction m with
    | zero =>
      intro i hi
      have : i = L.length := by omega
      subst this
      rw [laws_FnSubsts_j1v1_eq, oite_dec, if_neg (by show ¬ ((L.length : Int) < ((L.length : Nat) : Int)); omega)]
      exact end_
    | succ m ih =>
      intro i hi
      rw [laws_FnSubsts_j1v1_eq, oite_dec, if_pos (by show ((i : Int) < ((L.length : Nat) : Int)); omega), oguard_dec (by show ((selfs i).length + 1) * 40 ≤ _; rw [selfs_len]; omega), olet_eq, app i, w64_succ (by omega)]
      exact ih (i + 1) (by omega)
  cases hL0 : L.length with
  | zero =>
    rw [laws_FnSubsts_j1_eq, oite_dec, if_neg (by show ¬ ((0 : Int) < ((L.length : Nat) : Int)); omega)]
    rw [hL0] at end_
    exact end_
  | succ n =>
    rw [laws_FnSubsts_j1_eq, oite_dec, if_pos (by show ((0 : Int) < ((L.length : Nat) : Int)); omega), oguard_dec (by decide), olet_eq]
    have h1 := app 0
    exact key n 1 (by omega)

/-! what is drawn -/
theorem DrawTySubst_ok (b : List Int) (hb : lenOk b) : ∃ (t : Ty) (L : List Ty), spec_DrawTySubst (bytes b) = some (.tup [.agg (LS.encs sh_Ty t.ts), .d (.sl false 3 (tys L).1 (tys L).2)], []) ∧ t.size ≤ 4002 ∧ (∀ a ∈ L, a.size ≤ 4002) ∧ L.length ≤ 4 := by
  obtain ⟨h0, e0⟩ := l1New_ok b hb
  obtain ⟨t, i1, h1, mv, e1, z1, q1⟩ := l3any_ok b hb 0 h0 (by omega)
  obtain ⟨r, i2, h2, e2, r0, r1, _, q2⟩ := l1Below_ok 5 b i1 h1 q1 hb (by omega)
  have r1 := r1 (by omega)
  rw [spec_DrawTySubst_eq, e0]
  refine Exists.imp (fun t' h => ?_) (?_ : ∃ t' : Ty, t' = t)
  rotate_left
  · exact ⟨t, rfl⟩
  subst h
  rw [ocall_t (s := .m (.one (.ptr 0 0))) (m := [.box sh_l1Cur]) (t := ()) (u := (cur b 0 h0, ())) rfl rfl rfl]
  simp only [List.length_cons, List.length_nil, Nat.zero_add, Nat.reduceAdd]
  rw [e1, ocall_dt]
  simp only
  rw [e2, ocall_cur]
  have key : ∀ (m j : Nat) (i h x y : Int) (z : Sl) (L : List Ty), ((j : Int) + m = r ∨ r ≤ j ∧ m = 0) → 0 ≤ i → (∀ a ∈ L, a.size ≤ 4002) → L.length = j →
      ∃ L', spec_DrawTySubst_j1v1 (j : Int) r (cur b i h) (tys L) x y t'.ts.1 t'.ts.2.1 z t'.ts.2.2.1 = some (.tup [.agg (LS.encs sh_Ty t'.ts), .d (.sl false 3 (tys L').1 (tys L').2)], []) ∧ t'.size ≤ 4002 ∧ (∀ a ∈ L', a.size ≤ 4002) ∧ L'.length ≤ j + m := by
    intro m
    induction m with
    | zero =>
      intro j i h x y z L hj hi hL hl
      rw [spec_DrawTySubst_j1v1_eq, oite_dec, if_neg (by omega)]
      exact ⟨L, rfl, z1, hL, by omega⟩
    | succ m ih =>
      intro j i h x y z L hj hi hL hl
      obtain ⟨u, i4, h4, mv, e4, z4, q4⟩ := l3any_ok b hb i h hi
      rw [spec_DrawTySubst_j1v1_eq, oite_dec, if_pos (by omega)]
      simp only [List.length_cons, List.length_nil, Nat.zero_add, Nat.reduceAdd]
      rw [e4, ocall_dt, oguard_dec (by show (L.length + 1) * 40 ≤ _; omega), olet_eq]
      simp only [ts_k, tys_app]
      rw [w64_succ (by omega)]
      obtain ⟨L', p1, p2, p3, p4⟩ := ih (j + 1) i4 h4 x y z (L ++ [u]) (by omega) q4 (fun a ha => by
        rcases List.mem_append.1 ha with ha | ha
        · exact hL a ha
        · simp at ha; subst ha; exact z4) (by simp [hl])
      exact ⟨L', p1, p2, p3, by omega⟩
  simp only
  rw [spec_DrawTySubst_j1_eq, oite_dec]
  by_cases hr : 0 < r
  · rw [if_pos hr]
    obtain ⟨u, i4, h4, mv, e4, z4, q4⟩ := l3any_ok b hb i2 h2 q2
    simp only [List.length_cons, List.length_nil, Nat.zero_add, Nat.reduceAdd]
    rw [e4, ocall_dt, oguard_dec (by decide), olet_eq]
    obtain ⟨L', p1, p2, p3, p4⟩ := key (r - 1).toNat 1 i4 h4 0 0 (0, []) [u] (by omega) q4 (fun a ha => by simp at ha; subst ha; exact z4) rfl
    exact ⟨L', p1, p2, p3, by omega⟩
  · rw [if_neg hr]
    exact ⟨[], rfl, z1, by simp, by simp⟩
theorem Substs_ok (b : List Int) (hb : lenOk b) (_ : ∀ x ∈ b, (Lit.int .u8 x).wf = true) : laws_FnSubsts (bytes b) = rB true := by
  obtain ⟨t, L, e, h1, h2, h3⟩ := DrawTySubst_ok b hb
  rw [laws_FnSubsts_eq, e, ocall_t (s := .tup [(.agg sh_Ty), (.one (.sl 3))]) (m := []) (t := (t.ts, tys L, ())) (u := ()) rfl rfl rfl]
  exact j1_ok2 t L h1 h2 h3
end Q
end Go.Ev
