import Derived.Test.YtkgabahlbmonfaaPSa
set_option linter.unusedVariables false
set_option linter.unusedSimpArgs false
/-
  What is put for the variables of a type.
-/
namespace Go.Ev
open Go
mutual
theorem Ty.meas_w : ∀ (t : Ty) (d : Nat), Ty.meas t d ≤ 60 → Ty.meas t d = 1 + t.size
  | .mk k n l, d, h => by
    rw [Ty.meas] at h ⊢
    split at h
    · omega
    · rename_i h1
      rw [if_neg h1, Ty.meass_w l (d + 1) 1 h, Ty.size_mk]
theorem Ty.meass_w : ∀ (l : List Ty) (d acc : Nat), Ty.meass l d acc ≤ 60 → Ty.meass l d acc = acc + (l.length + (l.map Ty.size).sum)
  | [], d, acc, h => by rw [Ty.meass]; simp
  | a :: l, d, acc, h => by
    rw [Ty.meass] at h ⊢
    split at h
    · omega
    · rename_i h1
      rw [if_neg h1, Ty.meass_w l d _ h, Ty.meas_w a d (by have := Ty.meas_pos a d; omega)]
      simp only [List.length_cons, List.map_cons, List.sum_cons]
      omega
end
theorem Ty.meass_mem : ∀ {l : List Ty} {d acc : Nat}, Ty.meass l d acc ≤ 60 → ∀ a ∈ l, Ty.meas a d ≤ 60
  | b :: l, d, acc, h, a, ha => by
    rw [Ty.meass] at h
    split at h
    · omega
    · rename_i h1
      rcases List.mem_cons.1 ha with rfl | ha
      · omega
      · exact Ty.meass_mem h a ha
/-- A type in which variables are right. -/
inductive Ty.good : Ty → Prop where
  | mk {k n : Int} {l : List Ty} (hv : k = 7 → 0 ≤ n ∧ l = []) (hl : l.length ≤ 60) (ha : ∀ a ∈ l, a.good) : Ty.good (.mk k n l)
theorem Ty.meas_good (t : Ty) : ∀ d : Nat, Ty.meas t d ≤ 60 → t.good := by
  induction t using Ty.ind with
  | h k n l ih =>
    intro d h
    rw [Ty.meas] at h
    split at h
    · omega
    · rename_i h1
      have h2 : headOk k n l.length := Classical.byContradiction fun hc => h1 (.inr hc)
      refine .mk (fun hk => ?_) ?_ (fun a ha => ih a ha (d + 1) (Ty.meass_mem h a ha))
      · unfold headOk at h2
        refine ⟨by omega, List.eq_nil_of_length_eq_zero (by omega)⟩
      · unfold headOk at h2; omega
theorem Ty.okB_good {t : Ty} (h : t.okB = true) : t.good ∧ 1 + t.size ≤ 60 := by
  unfold Ty.okB at h
  have h := of_decide_eq_true h
  exact ⟨Ty.meas_good t 1 h, by rw [← Ty.meas_w t 1 h]; exact h⟩

mutual
def Ty.sub (L : List Ty) : Ty → Ty
  | .mk k n l => if k = 7 ∧ n.toNat < L.length then L.getD n.toNat (.mk 0 0 []) else .mk k n (Ty.subs L l)
def Ty.subs (L : List Ty) : List Ty → List Ty
  | [] => []
  | a :: l => Ty.sub L a :: Ty.subs L l
end
theorem Ty.subs_eq (L : List Ty) : ∀ l : List Ty, Ty.subs L l = l.map (Ty.sub L)
  | [] => by rw [Ty.subs]; rfl
  | a :: l => by rw [Ty.subs, Ty.subs_eq L l]; rfl
theorem Ty.sub_mk {L : List Ty} {k n : Int} {l : List Ty} : Ty.sub L (.mk k n l) = if k = 7 ∧ n.toNat < L.length then L.getD n.toNat (.mk 0 0 []) else .mk k n (l.map (Ty.sub L)) := by rw [Ty.sub, Ty.subs_eq]
/-- What is put has not too many parts. -/
theorem Ty.sub_size {L : List Ty} {c : Nat} (hL : ∀ a ∈ L, 1 + a.size ≤ c) (hc : 1 ≤ c) (t : Ty) : 1 + (Ty.sub L t).size ≤ c * (1 + t.size) := by
  induction t using Ty.ind with
  | h k n l ih =>
    rw [Ty.sub_mk]
    have h1 : c * (1 + 0) ≤ c * (1 + (Ty.mk k n l).size) := Nat.mul_le_mul_left _ (by omega)
    split
    · rename_i h
      have : L.getD n.toNat (.mk 0 0 []) ∈ L := by
        rw [List.getD_eq_getElem?_getD, List.getElem?_eq_getElem h.2]
        exact List.getElem_mem h.2
      have := hL _ this
      omega
    · rw [Ty.size_mk, Ty.size_mk]
      have hs : ∀ q : List Ty, (∀ a ∈ q, 1 + (Ty.sub L a).size ≤ c * (1 + a.size)) → q.length + ((q.map (Ty.sub L)).map Ty.size).sum ≤ c * (q.length + (q.map Ty.size).sum) := by
        intro q
        induction q with
        | nil => intro _; simp
        | cons a q ihq =>
          intro h
          have h1 := h a (by simp)
          have h2 := ihq fun b hb => h b (by simp [hb])
          simp only [List.length_cons, List.map_cons, List.sum_cons]
          have : c * (q.length + 1 + (a.size + (q.map Ty.size).sum)) = c * (1 + a.size) + c * (q.length + (q.map Ty.size).sum) := by
            rw [← Nat.mul_add]; congr 1; omega
          omega
      have := hs l ih
      simp only [List.length_map]
      have e : c * (1 + (l.length + (l.map Ty.size).sum)) = c + c * (l.length + (l.map Ty.size).sum) := by rw [Nat.mul_add, Nat.mul_one]
      omega
theorem tys_app {l : List Ty} {a : Ty} : ((tys l).1 + 1, (tys l).2 ++ (vDs (LS.encs sh_Ty a.ts) :: [])) = tys (l ++ [a]) := by simp [tys, sl]
namespace Q
open Go Go.Ev

/-! copies -/
theorem l3copy_ok (t : Ty) : t.size ≤ 2000000 → spec_l3copy t.ts = some (.agg (LS.encs sh_Ty t.ts), []) := by
  induction t using Ty.ind with
  | h k n l ih =>
    intro hs
    rw [Ty.size_mk] at hs
    have key : ∀ (q pre : List Ty) (x y : Int) (z : Sl), pre ++ q = l → spec_l3copy_j1v1 (pre.length : Int) k n (k, n, tys l, ()) x y (tys pre) z = some (.agg (LS.encs sh_Ty (k, n, tys l, ())), []) := by
      intro q
      induction q with
      | nil =>
        intro pre x y z hp
        rw [List.append_nil] at hp; subst hp
        rw [spec_l3copy_j1v1_eq, oite_dec, if_neg (by simp [tys, sl])]
      | cons a q ihq =>
        intro pre x y z hp
        have hm := mem_mid hp
        have hlt := len_mid hp
        have hsz := sizes_mem (f := Ty.size) hm
        rw [spec_l3copy_j1v1_eq, oite_dec, if_pos (show (pre.length : Int) < ((tys l).1 : Nat) by show (pre.length : Int) < (l.length : Nat); omega)]
        simp only
        rw [show tys l = sl (sh := sh_Ty) Ty.ts l from rfl, oat_mid hp rfl, ih a hm (by omega), ocall_agg rfl, oguard_dec (by show (pre.length + 1) * 40 ≤ _; omega), olet_eq, tys_app, w64_succ (by omega)]
        have := ihq (pre ++ [a]) x y z (by simpa using hp)
        rw [List.length_append, List.length_singleton] at this
        exact this
    rw [spec_l3copy_eq, Ty.ts_mk]
    cases l with
    | nil => rw [spec_l3copy_j1_eq, oite_dec, if_neg (by simp [tys, sl])]; rfl
    | cons a q =>
      have hm : a ∈ a :: q := by simp
      have hsz := sizes_mem (f := Ty.size) hm
      have hp : ([] : List Ty) ++ a :: q = a :: q := rfl
      rw [spec_l3copy_j1_eq, oite_dec, if_pos (by simp [tys, sl])]
      simp only
      rw [show tys (a :: q) = sl (sh := sh_Ty) Ty.ts (a :: q) from rfl, oat_hd rfl, ih a hm (by omega), ocall_agg rfl, oguard_dec (by decide), olet_eq]
      have := key q [a] 0 0 (0, []) rfl
      exact this

/-- A type of one's own, as a call returns it. -/
def PT (x : Res) (t : Ty) : Prop := ∃ mv, x = some (.agg [.d (.int .i64 t.ts.1), .d (.int .i64 t.ts.2.1), .own 0], [.lrow 3 t.ts.2.2.1.1 mv t.ts.2.2.1.2])
theorem PT.call {x : Res} {t : Ty} (h : PT x t) {R : Type} {f : Int × Int × Unit × Unit → Sl × Unit → Option R} : ocall (.m (.agg [.int .i64, .int .i64, .own 0])) [.lrow 3 true] x f = f (t.ts.1, t.ts.2.1, (), ()) (t.ts.2.2.1, ()) := by
  obtain ⟨mv, rfl⟩ := h
  refine ocall_t (s := .m (.agg [.int .i64, .int .i64, .own 0])) (m := [.lrow 3 true]) (t := (t.ts.1, t.ts.2.1, (), ())) (u := (t.ts.2.2.1, ())) rfl rfl ?_
  cases mv <;> rfl
theorem ts_eta (t : Ty) : (t.ts.1, t.ts.2.1, t.ts.2.2.1, ()) = t.ts := rfl
theorem cloneTy_ok (t : Ty) : t.size ≤ 2000000 → PT (impl_cloneTy t.ts) t := by
  induction t using Ty.ind with
  | h k n l ih =>
    intro hs
    rw [Ty.size_mk] at hs
    have key : ∀ (q pre : List Ty) (x y : Int) (z : Sl), pre ++ q = l → PT (impl_cloneTy_j1v1 (pre.length : Int) (tys l) (((tys l).1 : Nat) : Int) k n x y (tys pre) z) (.mk k n l) := by
      intro q
      induction q with
      | nil =>
        intro pre x y z hp
        rw [List.append_nil] at hp; subst hp
        rw [impl_cloneTy_j1v1_eq, oite_dec, if_neg (by simp [tys, sl])]
        exact ⟨true, by rw [Ty.ts_mk]⟩
      | cons a q ihq =>
        intro pre x y z hp
        have hm := mem_mid hp
        have hlt := len_mid hp
        have hsz := sizes_mem (f := Ty.size) hm
        rw [impl_cloneTy_j1v1_eq, oite_dec, if_pos (show (pre.length : Int) < ((tys l).1 : Nat) by show (pre.length : Int) < (l.length : Nat); omega)]
        rw [show tys l = sl (sh := sh_Ty) Ty.ts l from rfl, oat_mid hp rfl, (ih a hm (by omega)).call, oguard_dec (by show (pre.length + 1) * 40 ≤ _; omega), olet_eq]
        simp only [ts_eta, tys_app]
        rw [w64_succ (by omega)]
        have := ihq (pre ++ [a]) x y z (by simpa using hp)
        rw [List.length_append, List.length_singleton] at this
        exact this
    rw [impl_cloneTy_eq, Ty.ts_mk]
    cases l with
    | nil => rw [impl_cloneTy_j1_eq, oite_dec, if_neg (by simp [tys, sl])]; exact ⟨false, by rw [Ty.ts_mk]; rfl⟩
    | cons a q =>
      have hm : a ∈ a :: q := by simp
      have hsz := sizes_mem (f := Ty.size) hm
      have hp : ([] : List Ty) ++ a :: q = a :: q := rfl
      rw [impl_cloneTy_j1_eq, oite_dec, if_pos (by simp [tys, sl])]
      simp only
      rw [show tys (a :: q) = sl (sh := sh_Ty) Ty.ts (a :: q) from rfl, oat_hd rfl, (ih a hm (by omega)).call, oguard_dec (by decide), olet_eq]
      have := key q [a] 0 0 (0, []) rfl
      exact this

/-! the reference -/
/-- The numbers from 0 on. -/
def upTo (n : Nat) : List Int := (List.range n).map fun (i : Nat) => (i : Int)
theorem upTo_len {n : Nat} : (upTo n).length = n := by simp [upTo]
theorem l3put_ok (L : List Ty) (hL : ∀ a ∈ L, a.size ≤ 100) (hn : L.length ≤ 100) (t : Ty) : t.good → t.size ≤ 100 → spec_l3put t.ts (ints (upTo L.length)) (tys L) = some (.agg (LS.encs sh_Ty (Ty.sub L t).ts), []) := by
  induction t using Ty.ind with
  | h k n l ih =>
    intro hg hs
    rw [Ty.size_mk] at hs
    cases hg with
    | mk hv hl hga =>
    rw [spec_l3put_eq, Ty.ts_mk, Ty.sub_mk]
    simp only [oite_if, beq_iff_eq]
    by_cases h7 : k = 7
    · obtain ⟨hn0, rfl⟩ := hv h7
      rw [if_pos h7]
      have key : ∀ (m i : Nat) (x y : Int) (z : Sl), i + m = L.length → (i : Int) ≤ n → spec_l3put_j1 (i : Int) (tys L) (ints (upTo L.length)) x y (k, n, tys [], ()) z = some (.agg (LS.encs sh_Ty (if n.toNat < L.length then (L.getD n.toNat (.mk 0 0 [])).ts else (k, n, tys [], ()))), []) := by
        intro m
        induction m with
        | zero =>
          intro i x y z hi hin
          rw [spec_l3put_j1_eq, oite_dec, if_neg (by show ¬ ((i : Int) < ((upTo L.length).length : Nat)); rw [upTo_len]; omega), spec_l3put_j3_eq, oite_f, if_neg (by omega)]
        | succ m ihm =>
          intro i x y z hi hin
          have hlt : i < L.length := by omega
          rw [spec_l3put_j1_eq, oite_dec, if_pos (by show (i : Int) < ((upTo L.length).length : Nat); rw [upTo_len]; omega), spec_l3put_j3_eq, show decide ((i : Int) < ((tys L).1 : Nat)) = true from decide_eq_true (by show (i : Int) < (L.length : Nat); omega), oite_t, spec_l3put_j2_eq]
          rw [show ints (upTo L.length) = sl (sh := [.int .i64]) (fun n => (n, ())) (upTo L.length) from rfl, oat_sl (a := (i : Int)) rfl (by omega) (by simp [upTo, hlt])]
          simp only [oite_if, beq_iff_eq]
          by_cases he : (i : Int) = n
          · have hLi : L[i]? = some (L.getD n.toNat (.mk 0 0 [])) := by
              subst he
              simp [List.getD_eq_getElem?_getD, hlt]
            generalize L.getD n.toNat (.mk 0 0 []) = u at hLi
            rw [if_pos he, if_pos (by omega), show tys L = sl (sh := sh_Ty) Ty.ts L from rfl, oat_sl (a := u) rfl (by omega) (by simpa using hLi)]
            rw [l3copy_ok _ (by have := hL _ (List.mem_of_getElem? hLi); omega), ocall_agg rfl]
          · rw [if_neg he, w64_succ (by omega)]
            exact ihm (i + 1) x y z (by omega) (by omega)
      have h := key L.length 0 0 0 (0, []) (by omega) (by omega)
      rw [show ((0 : Nat) : Int) = 0 from rfl] at h
      rw [h]
      by_cases hc : n.toNat < L.length
      · rw [if_pos hc, if_pos ⟨h7, hc⟩]
      · rw [if_neg hc, if_neg (fun h => hc h.2), Ty.ts_mk]; rfl
    · rw [if_neg h7, if_neg (fun h => h7 h.1), Ty.ts_mk]
      have key : ∀ (q pre : List Ty) (x y : Int) (z : Sl), pre ++ q = l → spec_l3put_j4v1 (pre.length : Int) (tys L) (ints (upTo L.length)) k n (k, n, tys l, ()) x y (tys (pre.map (Ty.sub L))) z = some (.agg (LS.encs sh_Ty (k, n, tys (l.map (Ty.sub L)), ())), []) := by
        intro q
        induction q with
        | nil =>
          intro pre x y z hp
          rw [List.append_nil] at hp; subst hp
          rw [spec_l3put_j4v1_eq, oite_dec, if_neg (by simp [tys, sl])]
        | cons a q ihq =>
          intro pre x y z hp
          have hm := mem_mid hp
          have hlt := len_mid hp
          have hsz := sizes_mem (f := Ty.size) hm
          rw [spec_l3put_j4v1_eq, oite_dec, if_pos (show (pre.length : Int) < ((tys l).1 : Nat) by show (pre.length : Int) < (l.length : Nat); omega)]
          simp only
          rw [show tys l = sl (sh := sh_Ty) Ty.ts l from rfl, oat_mid hp rfl, ih a hm (hga a hm) (by omega), ocall_agg rfl, oguard_dec (by show ((pre.map (Ty.sub L)).length + 1) * 40 ≤ _; rw [List.length_map]; omega), olet_eq, tys_app, w64_succ (by omega)]
          have := ihq (pre ++ [a]) x y z (by simpa using hp)
          rw [List.length_append, List.length_singleton, List.map_append] at this
          exact this
      cases l with
      | nil => rw [spec_l3put_j4_eq, oite_dec, if_neg (by simp [tys, sl])]; rfl
      | cons a q =>
        have hm : a ∈ a :: q := by simp
        have hsz := sizes_mem (f := Ty.size) hm
        have hp : ([] : List Ty) ++ a :: q = a :: q := rfl
        rw [spec_l3put_j4_eq, oite_dec, if_pos (by simp [tys, sl])]
        simp only
        rw [show tys (a :: q) = sl (sh := sh_Ty) Ty.ts (a :: q) from rfl, oat_hd rfl, ih a hm (hga a hm) (by omega), ocall_agg rfl, oguard_dec (by decide), olet_eq]
        have := key q [a] 0 0 (0, []) rfl
        exact this

abbrev noT : Ty := .mk 0 0 []
/-- Whether something is put, and what. -/
def subB (t : Ty) (L : List Ty) : Bool := t.okB && (decide (L.length ≤ 60) && (L.all Ty.okB && (Ty.sub L t).okB))
def subT (t : Ty) (L : List Ty) : Ty := if subB t L then Ty.sub L t else noT
theorem ints_app {l : List Int} {n : Int} : ((ints l).1 + 1, (ints l).2 ++ ((D.int .i64 n :: []) :: [])) = ints (l ++ [n]) := by simp [ints, sl, vDs, LS.encs, LS.enc, vD]
theorem TySubstS_ok (t : Ty) (L : List Ty) (hs : t.size ≤ 1048576) (hl : tysSize L ≤ 1048576) : spec_TySubst t.ts (tys L) = some (.tup [.agg (LS.encs sh_Ty (subT t L).ts), .d (.bool (subB t L))], []) := by
  rw [spec_TySubst_eq, spec_TyOk_ok t (by omega), ocall_bool]
  simp only [spec_TySubst_j2_eq, spec_TySubst_j1_eq]
  have hbad : (some (V.tup [.agg (LS.encs sh_Ty (0, 0, (0, []), ())), .d (.bool false)], []) : Res) = some (V.tup [.agg (LS.encs sh_Ty noT.ts), .d (.bool false)], []) := by rw [noT, Ty.ts_mk]; rfl
  unfold tysSize at hl
  cases ht : t.okB with
  | false =>
    have e : subB t L = false := by unfold subB; rw [ht]; rfl
    rw [Bool.not_false, oite_t, oite_t, subT, e, hbad]; rfl
  | true =>
    rw [Bool.not_true, oite_f, oite_dec]
    by_cases h60 : L.length ≤ 60
    · rw [if_neg (by show ¬ (((L.length : Nat) : Int) > 60); omega)]
      obtain ⟨hg, hsz⟩ := Ty.okB_good ht
      have fin : L.all Ty.okB = true → ∀ (R : T_Ty × Bool × Unit → Res),
        ocall (.m (.agg sh_Ty)) [] (spec_l3put t.ts (ints (upTo L.length)) (tys L)) (fun r6 _ => ocall (.m (.one .bool)) [] (spec_TyOk r6) fun r8 _ => oite (!r8) (some (.tup [.agg (LS.encs sh_Ty (0, 0, (0, []), ())), .d (.bool false)], [])) (some (.tup [.agg (LS.encs sh_Ty r6), .d (.bool true)], []))) = (some (.tup [.agg (LS.encs sh_Ty (subT t L).ts), .d (.bool (subB t L))], []) : Res) := by
        intro hall _
        have hok : ∀ a ∈ L, 1 + a.size ≤ 60 := fun a ha => (Ty.okB_good (List.all_eq_true.1 hall a ha)).2
        have hsub := Ty.sub_size hok (by omega) t
        have hb : 60 * (1 + t.size) ≤ 60 * 60 := Nat.mul_le_mul_left _ hsz
        rw [l3put_ok L (fun a ha => by have := hok a ha; omega) (by omega) t hg (by omega), ocall_agg rfl, spec_TyOk_ok _ (by omega), ocall_bool]
        have e : subB t L = (Ty.sub L t).okB := by unfold subB; rw [ht, hall, decide_eq_true h60]; simp
        unfold subT
        rw [e]
        cases hb2 : (Ty.sub L t).okB with
        | true => rw [Bool.not_true, oite_f]; rfl
        | false => rw [Bool.not_false, oite_t, hbad]; rfl
      have key : ∀ (q pre : List Ty) (x y : Int) (z : Sl), pre ++ q = L → pre.all Ty.okB = true → spec_TySubst_j3v1 (pre.length : Int) (tys L) x y (ints (upTo pre.length)) t.ts z = some (.tup [.agg (LS.encs sh_Ty (subT t L).ts), .d (.bool (subB t L))], []) := by
        intro q
        induction q with
        | nil =>
          intro pre x y z hp ha
          rw [List.append_nil] at hp; subst hp
          rw [spec_TySubst_j3v1_eq, oite_dec, if_neg (by simp [tys, sl])]
          exact fin ha (fun _ => none)
        | cons a q ihq =>
          intro pre x y z hp ha
          have hm := mem_mid hp
          have hlt := len_mid hp
          have hsz := sizes_mem (f := Ty.size) hm
          rw [spec_TySubst_j3v1_eq, oite_dec, if_pos (show (pre.length : Int) < ((tys L).1 : Nat) by show (pre.length : Int) < (L.length : Nat); omega)]
          rw [show tys L = sl (sh := sh_Ty) Ty.ts L from rfl, oat_mid hp rfl, spec_TyOk_ok a (by omega), ocall_bool]
          cases hok : a.okB with
          | false =>
            have hall : L.all Ty.okB = false := by
              rw [Bool.eq_false_iff]; intro h
              have := List.all_eq_true.1 h a hm
              rw [hok] at this; cases this
            have e : subB t L = false := by unfold subB; rw [hall]; simp
            rw [Bool.not_false, oite_t, subT, e, hbad]; rfl
          | true =>
            rw [Bool.not_true, oite_f, oguard_dec (by show ((upTo pre.length).length + 1) * 8 ≤ _; rw [upTo_len]; omega), olet_eq, ints_app, w64_succ (by omega)]
            have := ihq (pre ++ [a]) x y z (by simpa using hp) (by simp [List.all_append, ha, hok])
            rw [List.length_append, List.length_singleton] at this
            have e2 : upTo pre.length ++ [(pre.length : Int)] = upTo (pre.length + 1) := by simp [upTo, List.range_succ]
            rw [e2]
            exact this
      cases L with
      | nil =>
        rw [spec_TySubst_j3_eq, oite_dec, if_neg (by simp [tys, sl])]
        exact fin rfl (fun _ => none)
      | cons a q =>
        have hm : a ∈ a :: q := by simp
        have hsz := sizes_mem (f := Ty.size) hm
        have hp : ([] : List Ty) ++ a :: q = a :: q := rfl
        rw [spec_TySubst_j3_eq, oite_dec, if_pos (by simp [tys, sl])]
        rw [show tys (a :: q) = sl (sh := sh_Ty) Ty.ts (a :: q) from rfl, oat_hd rfl, spec_TyOk_ok a (by omega), ocall_bool]
        cases hok : a.okB with
        | false =>
          have e : subB t (a :: q) = false := by unfold subB; rw [List.all_cons, hok]; simp
          rw [Bool.not_false, oite_t, subT, e, hbad]; rfl
        | true =>
          rw [Bool.not_true, oite_f, oguard_dec (by decide), olet_eq]
          have := key q [a] 0 0 (0, []) rfl (by simp [hok])
          exact this
    · have e : subB t L = false := by unfold subB; rw [decide_eq_false h60]; simp
      rw [if_pos (by show (((L.length : Nat) : Int) > 60); omega), subT, e, hbad]; rfl
end Q
end Go.Ev

/-
  What is put for the variables of a type, by the program.
-/
namespace Go.Ev.Q
open Go Go.Ev

theorem osame_i {α : Type} {a : α} {R : Type} {x : Option R} : osame a a x = x := osame_t
/-- A type of one's own with a truth value, the list, what is left. -/
def PR (x : Res) (L : List Ty) (b : Bool) (c : Int) (t : Ty) : Prop := ∃ mv v, (v = .kb b ∨ v = .d (.bool b)) ∧ x = some (.tup [.agg [.d (.int .i64 t.ts.1), .d (.int .i64 t.ts.2.1), .own 2], v], [.box [.d (.sl false 3 (tys L).1 (tys L).2)], .box [.d (.int .i64 c)], .lrow 3 t.ts.2.2.1.1 mv t.ts.2.2.1.2])
theorem PR.call {x : Res} {L : List Ty} {b : Bool} {c : Int} {t : Ty} (h : PR x L b c t) {R : Type} {f : (Int × Int × Unit × Unit) × Bool × Unit → (Sl × Unit) × (Int × Unit) × Sl × Unit → Option R} : ocall (.tup [(.agg [(.int .i64), (.int .i64), (.own 2)]), (.one .bool)]) [(.box [(.sl 3)]), (.box [(.int .i64)]), (.lrow 3 true)] x f = f ((t.ts.1, t.ts.2.1, (), ()), b, ()) ((tys L, ()), (c, ()), t.ts.2.2.1, ()) := by
  obtain ⟨mv, v, hv, rfl⟩ := h
  refine ocall_t (s := .tup [(.agg [(.int .i64), (.int .i64), (.own 2)]), (.one .bool)]) (m := [(.box [(.sl 3)]), (.box [(.int .i64)]), (.lrow 3 true)]) (t := ((t.ts.1, t.ts.2.1, (), ()), b, ())) (u := ((tys L, ()), (c, ()), t.ts.2.2.1, ())) rfl ?_ ?_
  · rcases hv with rfl | rfl <;> rfl
  · cases mv <;> rfl
theorem ocall_place {R : Type} {t : Ty} {b : Bool} {L : List Ty} {f : T_Ty × Bool × Unit → (Sl × Unit) × Unit → Option R} : ocall (.tup [(.agg sh_Ty), (.one .bool)]) [(.box [(.sl 3)])] (some (.tup [.agg (LS.encs sh_Ty t.ts), .d (.bool b)], [.box [.d (.sl false 3 (tys L).1 (tys L).2)]])) f = f (t.ts, b, ()) ((tys L, ()), ()) :=
  ocall_t (s := .tup [(.agg sh_Ty), (.one .bool)]) (m := [(.box [(.sl 3)])]) rfl rfl rfl

/-- What comes of it: whether there was enough room, and then what is left. -/
def RR (x : Res) (L : List Ty) (c : Int) (t : Ty) (w : Nat) : Prop := ∃ b c' t', PR x L b c' t' ∧ (b = true → (w : Int) ≤ c ∧ c' = c - w ∧ t' = t) ∧ ((w : Int) ≤ c → b = true)
theorem replace_ok (L : List Ty) (hL : ∀ a ∈ L, a.okB = true) (hn : L.length ≤ 100) (t : Ty) : t.good → t.size ≤ 100 → ∀ c : Int, -4000000 + 61 * (t.size : Int) ≤ c → c ≤ 60 → RR (impl_replace_Fimpl_inPlace_1c t.ts (tys L) c) L c (Ty.sub L t) (1 + (Ty.sub L t).size) := by
  induction t using Ty.ind with
  | h k n l ih =>
    intro hg hs c hc0 hc
    have hg0 := hg
    rw [Ty.size_mk] at hs hc0
    cases hg with
    | mk hv hl hga =>
    have loop : ¬ (k = 7 ∧ n.toNat < L.length) → RR (impl_replace_Fimpl_inPlace_1c_j1 (tys L) c 0 0 (k, n, tys l, ()) (0, [])) L c (Ty.sub L (.mk k n l)) (1 + (Ty.sub L (.mk k n l)).size) := by
      intro hno
      rw [Ty.sub_mk, if_neg hno, Ty.size_mk, List.length_map]
      have e0 : w64 (c - 1) = c - 1 := w64_id (by omega) (by omega)
      have key : ∀ (q pre : List Ty) (x y : Int) (z : Sl) (d : Int), pre ++ q = l → d = c - 1 - (pre.length + ((pre.map (Ty.sub L)).map Ty.size).sum : Nat) → -4000000 + 61 * ((q.map Ty.size).sum : Int) ≤ d → (pre ≠ [] → 0 ≤ d) →
          RR (impl_replace_Fimpl_inPlace_1c_j2v1 (pre.length : Int) (tys l) (((tys l).1 : Nat) : Int) (tys L) d x y k n z (tys (pre.map (Ty.sub L)))) L c (.mk k n (l.map (Ty.sub L))) (1 + (l.length + ((l.map (Ty.sub L)).map Ty.size).sum)) := by
        intro q
        induction q with
        | nil =>
          intro pre x y z d hp hd hd0 hdn
          rw [List.append_nil] at hp; subst hp
          rw [impl_replace_Fimpl_inPlace_1c_j2v1_eq, oite_dec, if_neg (by simp [tys, sl])]
          simp only [osame_i]
          refine ⟨decide (d ≥ 0), d, .mk k n (pre.map (Ty.sub L)), ⟨true, _, .inr rfl, by rw [Ty.ts_mk]⟩, fun hb => ?_, fun hb => ?_⟩
          · have := of_decide_eq_true hb
            exact ⟨by omega, by omega, rfl⟩
          · exact decide_eq_true (by omega)
        | cons a q ihq =>
          intro pre x y z d hp hd hd0 hdn
          have hm := mem_mid hp
          have hlt := len_mid hp
          have hsz := sizes_mem (f := Ty.size) hm
          simp only [List.map_cons, List.sum_cons] at hd0
          obtain ⟨b, c', t', h1, h2, h3⟩ := ih a hm (hga a hm) (by omega) d (by omega) (by omega)
          rw [impl_replace_Fimpl_inPlace_1c_j2v1_eq, oite_dec, if_pos (show (pre.length : Int) < ((tys l).1 : Nat) by show (pre.length : Int) < (l.length : Nat); omega)]
          rw [show tys l = sl (sh := sh_Ty) Ty.ts l from rfl, oat_mid hp rfl]
          have hsum : ((l.map (Ty.sub L)).map Ty.size).sum = ((pre.map (Ty.sub L)).map Ty.size).sum + ((Ty.sub L a).size + ((q.map (Ty.sub L)).map Ty.size).sum) := by
            rw [← hp]; simp [List.sum_append]
          have hll : l.length = pre.length + (q.length + 1) := by rw [← hp]; simp
          simp only [List.length_cons, List.length_nil, Nat.zero_add, Nat.reduceAdd]
          rw [h1.call]
          cases b with
          | false =>
            rw [Bool.not_false, oite_t, impl_replace_Fimpl_inPlace_1c_j4v1_eq, oite_t]
            refine ⟨false, c', noT, ⟨false, _, .inl rfl, by rw [noT, Ty.ts_mk]; rfl⟩, fun hb => (by cases hb), fun hb => ?_⟩
            exact h3 (by omega)
          | true =>
            obtain ⟨h4, h5, h6⟩ := h2 rfl
            subst h6
            have h0 : 0 ≤ c' := by omega
            rw [Bool.not_true, oite_f, impl_replace_Fimpl_inPlace_1c_j4v1_eq, oite_dec, if_neg (show ¬ c' < 0 by omega), impl_replace_Fimpl_inPlace_1c_j3v1_eq, oguard_dec (by show ((pre.map (Ty.sub L)).length + 1) * 40 ≤ _; rw [List.length_map]; omega), olet_eq]
            simp only [ts_eta, tys_app]
            rw [w64_succ (by omega)]
            have hqs : (q.map Ty.size).sum ≤ (l.map Ty.size).sum := by rw [← hp]; simp [List.sum_append]; omega
            have := ihq (pre ++ [a]) x y z c' (by simpa using hp) (by simp only [List.length_append, List.length_singleton, List.map_append, List.map_cons, List.map_nil, List.sum_append, List.sum_cons, List.sum_nil]; omega) (by omega) (fun _ => h0)
            rw [List.length_append, List.length_singleton, List.map_append] at this
            exact this
      rw [impl_replace_Fimpl_inPlace_1c_j1_eq, e0]
      simp only
      cases l with
      | nil =>
        rw [impl_replace_Fimpl_inPlace_1c_j2_eq, oite_dec, if_neg (by simp [tys, sl])]
        simp only [osame_i]
        refine ⟨decide (c - 1 ≥ 0), c - 1, .mk k n [], ⟨false, _, .inr rfl, by rw [Ty.ts_mk]; rfl⟩, fun hb => ?_, fun hb => ?_⟩
        · have := of_decide_eq_true hb
          simp
          omega
        · simp at hb
          exact decide_eq_true (by omega)
      | cons a q =>
        have hm : a ∈ a :: q := by simp
        have hsz := sizes_mem (f := Ty.size) hm
        have hp : ([] : List Ty) ++ a :: q = a :: q := rfl
        have hsz2 : ((a :: q).map Ty.size).sum = a.size + (q.map Ty.size).sum := by simp
        obtain ⟨b, c', t', h1, h2, h3⟩ := ih a hm (hga a hm) (by omega) (c - 1) (by simp only [List.length_cons] at hc0; omega) (by omega)
        rw [impl_replace_Fimpl_inPlace_1c_j2_eq, oite_dec, if_pos (by simp [tys, sl])]
        rw [show tys (a :: q) = sl (sh := sh_Ty) Ty.ts (a :: q) from rfl, oat_hd rfl]
        have hsum : (((a :: q).map (Ty.sub L)).map Ty.size).sum = (Ty.sub L a).size + ((q.map (Ty.sub L)).map Ty.size).sum := by simp
        simp only [List.length_cons, List.length_nil, Nat.zero_add, Nat.reduceAdd]
        rw [h1.call]
        cases b with
        | false =>
          rw [Bool.not_false, oite_t, impl_replace_Fimpl_inPlace_1c_j4_eq, oite_t]
          refine ⟨false, c', noT, ⟨false, _, .inl rfl, by rw [noT, Ty.ts_mk]; rfl⟩, fun hb => (by cases hb), fun hb => ?_⟩
          exact h3 (by omega)
        | true =>
          obtain ⟨h4, h5, h6⟩ := h2 rfl
          subst h6
          have h0 : 0 ≤ c' := by omega
          rw [Bool.not_true, oite_f, impl_replace_Fimpl_inPlace_1c_j4_eq, oite_dec, if_neg (show ¬ c' < 0 by omega), impl_replace_Fimpl_inPlace_1c_j3_eq, oguard_dec (by decide), olet_eq]
          have := key q [a] 0 0 (0, []) c' rfl (by simp; omega) (by simp only [List.length_cons] at hs; omega) (fun _ => h0)
          exact this
    rw [impl_replace_Fimpl_inPlace_1c_eq, Ty.ts_mk]
    simp only [oite_if, beq_iff_eq]
    by_cases h7 : k = 7
    · obtain ⟨hn0, rfl⟩ := hv h7
      rw [if_pos h7, impl_inPlace_1_eq, oite_dec]
      by_cases hc2 : n.toNat < L.length
      · have hLi : L[n.toNat]? = some (L.getD n.toNat (.mk 0 0 [])) := by simp [List.getD_eq_getElem?_getD, hc2]
        rw [Ty.sub_mk, if_pos (show k = 7 ∧ n.toNat < L.length from ⟨h7, hc2⟩)]
        generalize L.getD n.toNat (.mk 0 0 []) = u at hLi
        have hu := hL _ (List.mem_of_getElem? hLi)
        obtain ⟨hug, hus⟩ := Ty.okB_good hu
        have hum : Ty.meas u 1 = 1 + u.size := Ty.meas_w u 1 (by unfold Ty.okB at hu; exact of_decide_eq_true hu)
        rw [if_neg (show ¬ n ≥ (((tys L).1 : Nat) : Int) by show ¬ n ≥ (L.length : Nat); omega), show tys L = sl (sh := sh_Ty) Ty.ts L from rfl, oat_sl (a := u) rfl hn0 hLi]
        rw [show sl (sh := sh_Ty) Ty.ts L = tys L from rfl, ocall_place]
        simp only [if_true]
        rw [show (1 : Int) = ((1 : Nat) : Int) from rfl, measure_ok u (by omega) 1 (by omega), ocall_int]
        simp only [osame_i]
        rw [(cloneTy_ok u (by omega)).call, hum, w64_id (by omega) (by omega)]
        refine ⟨decide (c - ((1 + u.size : Nat) : Int) ≥ 0), c - ((1 + u.size : Nat) : Int), u, ⟨true, _, .inr rfl, rfl⟩, fun hb => ?_, fun hb => ?_⟩
        · have := of_decide_eq_true hb
          exact ⟨by omega, rfl, rfl⟩
        · exact decide_eq_true (by omega)
      · rw [if_pos (show n ≥ (((tys L).1 : Nat) : Int) by show n ≥ (L.length : Nat); omega)]
        rw [show (some (V.tup [.agg (LS.encs sh_Ty (0, 0, (0, []), ())), .d (.bool false)], [.box [.d (.sl false 3 (tys L).1 (tys L).2)]]) : Res) = some (V.tup [.agg (LS.encs sh_Ty noT.ts), .d (.bool false)], [.box [.d (.sl false 3 (tys L).1 (tys L).2)]]) by rw [noT, Ty.ts_mk]; rfl, ocall_place]
        simp only [Bool.false_eq_true, if_false]
        exact loop (fun h => hc2 h.2)
    · rw [if_neg h7]
      exact loop (fun h => h7 h.1)
end Go.Ev.Q

/-
  What is put for the variables of a type: the law.
-/
namespace Go.Ev.Q
open Go Go.Ev

/-- A type of one's own with a truth value. -/
def PB (x : Res) (b : Bool) (t : Ty) : Prop := ∃ mv v, (v = .kb b ∨ v = .d (.bool b)) ∧ x = some (.tup [.agg [.d (.int .i64 t.ts.1), .d (.int .i64 t.ts.2.1), .own 0], v], [.lrow 3 t.ts.2.2.1.1 mv t.ts.2.2.1.2])
theorem PB.call {x : Res} {b : Bool} {t : Ty} (h : PB x b t) {R : Type} {f : (Int × Int × Unit × Unit) × Bool × Unit → Sl × Unit → Option R} : ocall (.tup [(.agg [(.int .i64), (.int .i64), (.own 0)]), (.one .bool)]) [(.lrow 3 true)] x f = f ((t.ts.1, t.ts.2.1, (), ()), b, ()) (t.ts.2.2.1, ()) := by
  obtain ⟨mv, v, hv, rfl⟩ := h
  refine ocall_t (s := .tup [(.agg [(.int .i64), (.int .i64), (.own 0)]), (.one .bool)]) (m := [(.lrow 3 true)]) (t := ((t.ts.1, t.ts.2.1, (), ()), b, ())) (u := (t.ts.2.2.1, ())) rfl ?_ ?_
  · rcases hv with rfl | rfl <;> rfl
  · cases mv <;> rfl
/-- The same with a variable's entry. -/
def PP (x : Res) (L : List Ty) (b : Bool) (t : Ty) : Prop := ∃ mv v, (v = .kb b ∨ v = .d (.bool b)) ∧ x = some (.tup [.agg [.d (.int .i64 t.ts.1), .d (.int .i64 t.ts.2.1), .own 1], v], [.box [.d (.sl false 3 (tys L).1 (tys L).2)], .lrow 3 t.ts.2.2.1.1 mv t.ts.2.2.1.2])
theorem PP.call {x : Res} {L : List Ty} {b : Bool} {t : Ty} (h : PP x L b t) {R : Type} {f : (Int × Int × Unit × Unit) × Bool × Unit → (Sl × Unit) × Sl × Unit → Option R} : ocall (.tup [(.agg [(.int .i64), (.int .i64), (.own 1)]), (.one .bool)]) [(.box [(.sl 3)]), (.lrow 3 true)] x f = f ((t.ts.1, t.ts.2.1, (), ()), b, ()) ((tys L, ()), t.ts.2.2.1, ()) := by
  obtain ⟨mv, v, hv, rfl⟩ := h
  refine ocall_t (s := .tup [(.agg [(.int .i64), (.int .i64), (.own 1)]), (.one .bool)]) (m := [(.box [(.sl 3)]), (.lrow 3 true)]) (t := ((t.ts.1, t.ts.2.1, (), ()), b, ())) (u := ((tys L, ()), t.ts.2.2.1, ())) rfl ?_ ?_
  · rcases hv with rfl | rfl <;> rfl
  · cases mv <;> rfl

theorem put_ok (L : List Ty) (hL : ∀ a ∈ L, a.okB = true) (hn : L.length ≤ 100) (t : Ty) (ht : t.okB = true) : ∃ b t', PP (impl_put_Fimpl_inPlace_1c t.ts (tys L)) L b t' ∧ b = (Ty.sub L t).okB ∧ (b = true → t' = Ty.sub L t) := by
  obtain ⟨hg, hsz⟩ := Ty.okB_good ht
  obtain ⟨b, c', t', h1, h2, h3⟩ := replace_ok L hL hn t hg (by omega) 60 (by omega) (by omega)
  rw [impl_put_Fimpl_inPlace_1c_eq]
  simp only [osame_i, List.length_cons, List.length_nil, Nat.zero_add, Nat.reduceAdd]
  rw [h1.call]
  cases b with
  | true =>
    obtain ⟨h4, h5, h6⟩ := h2 rfl
    subst h6
    rw [oite_t]
    simp only [ts_eta]
    rw [TyOk_ok _ (by omega), ocall_bool]
    exact ⟨_, _, ⟨true, _, .inr rfl, rfl⟩, rfl, fun _ => rfl⟩
  | false =>
    rw [oite_f]
    refine ⟨false, t', ⟨true, _, .inl rfl, rfl⟩, ?_, fun h => by cases h⟩
    symm
    rw [Bool.eq_false_iff]
    intro hc
    have := h3 (by have := (Ty.okB_good hc).2; omega)
    cases this
theorem ocall_clo {R : Type} {k : Nat} {s : Sl} {f : Unit × Unit → (Sl × Unit) × Unit → Option R} : ocall (.m (.fn k [(.ptr 0 0)])) [(.box [(.sl 3)])] (some ((.fn k [(.ptr 0 0)]), [(.box [(.d (.sl false 3 s.1 s.2))])])) f = f ((), ()) ((s, ()), ()) :=
  ocall_t (s := .m (.fn k [(.ptr 0 0)])) (m := [(.box [(.sl 3)])]) (t := ((), ())) (u := ((s, ()), ())) rfl (by simp [Sh.dec, MS.dec, LS.decs, LS.dec]) rfl
theorem told_ok (t : Ty) (b : Bool) : PB (impl_toldTy t.ts.1 t.ts.2.1 b t.ts.2.2.1) b (if b then t else noT) := by
  cases b with
  | true => exact ⟨false, _, .inl rfl, by rw [impl_toldTy_eq, Bool.not_true, oite_f]; rfl⟩
  | false => exact ⟨true, _, .inl rfl, by rw [impl_toldTy_eq, Bool.not_false, oite_t]; simp only [Bool.false_eq_true, if_false, noT, Ty.ts_mk]; rfl⟩
theorem tysOk_ok (L : List Ty) (hs : tysSize L ≤ 2000000) : impl_tysOk (tys L) = rB (L.all Ty.okB) := by
  unfold tysSize at hs
  obtain ⟨i, h1, h2⟩ := index_all (J := fun i => slices_IndexFunc_impl_Ty_impl_Ty_Fimpl_tysOk_1_j1 i (tys L) (((tys L).1 : Nat) : Int)) (l := L) (p := Ty.okB) (Mm := []) (fun pre a q hp => by
    have hlt := len_mid hp
    have hmm := mem_mid hp
    have hsz := sizes_mem (f := Ty.size) hmm
    rw [slices_IndexFunc_impl_Ty_impl_Ty_Fimpl_tysOk_1_j1_eq, oite_dec, if_pos (show (pre.length : Int) < ((tys L).1 : Nat) by show (pre.length : Int) < (L.length : Nat); omega)]
    rw [show tys L = sl (sh := sh_Ty) Ty.ts L from rfl, oat_mid hp rfl, impl_tysOk_1_eq, TyOk_ok a (by omega), ocall_bool, ocall_bool, oite_nbool, w64_succ (by omega)])
    (by rw [slices_IndexFunc_impl_Ty_impl_Ty_Fimpl_tysOk_1_j1_eq, oite_dec, if_neg (by simp [tys, sl])])
  rw [impl_tysOk_eq, slices_ContainsFunc_impl_Ty_impl_Ty_Fimpl_tysOk_1_eq, slices_IndexFunc_impl_Ty_impl_Ty_Fimpl_tysOk_1_eq]
  rw [h1, ocall_int, ocall_bool, h2, Bool.not_not]
theorem TySubstI_ok (t : Ty) (L : List Ty) (hs : t.size ≤ 1048576) (hl : tysSize L ≤ 1048576) : PB (impl_TySubst t.ts (tys L)) (subB t L) (subT t L) := by
  rw [impl_TySubst_eq, oite_dec]
  simp only [impl_TySubst_j2_eq]
  have hbad : subB t L = false → PB (some (.tup [.agg [.d (.int .i64 0), .d (.int .i64 0), .own 0], .kb false], [.lrow 3 0 false []])) (subB t L) (subT t L) := fun h => by
    unfold subT
    rw [h]
    exact ⟨false, _, .inl rfl, by simp only [Bool.false_eq_true, if_false, noT, Ty.ts_mk]; rfl⟩
  have hn : (tys L).1 = L.length := rfl
  by_cases h60 : L.length ≤ 60
  · rw [if_neg (by rw [hn]; omega), TyOk_ok t (by omega), ocall_bool]
    cases ht : t.okB with
    | false =>
      rw [Bool.not_false, oite_t, oite_t]
      exact hbad (by unfold subB; rw [ht]; rfl)
    | true =>
      rw [Bool.not_true, oite_f, tysOk_ok L (by omega), ocall_bool]
      cases ha : L.all Ty.okB with
      | false =>
        rw [Bool.not_false, oite_t]
        exact hbad (by unfold subB; rw [ha]; simp)
      | true =>
        rw [Bool.not_true, oite_f, impl_TySubst_j1_eq, impl_inPlace_eq, ocall_clo]
        obtain ⟨b, t', h1, h2, h3⟩ := put_ok L (fun a h => List.all_eq_true.1 ha a h) (by omega) t ht
        have e : subB t L = b := by unfold subB; rw [ht, ha, decide_eq_true h60, h2]; simp
        simp only [osame_i, List.length_cons, List.length_nil, Nat.zero_add, Nat.reduceAdd]
        rw [h1.call, (told_ok t' b).call]
        have e2 : subT t L = if b then t' else noT := by
          unfold subT
          rw [e]
          cases b with
          | true => simp only [if_true]; exact (h3 rfl).symm
          | false => rfl
        rw [e, e2]
        exact ⟨true, _, .inr rfl, rfl⟩
  · rw [if_pos (by rw [hn]; omega), oite_t]
    exact hbad (by unfold subB; rw [decide_eq_false h60]; simp)
theorem subT_size (t : Ty) (L : List Ty) : (subT t L).size ≤ 60 := by
  unfold subT
  split
  · rename_i h
    unfold subB at h
    simp only [Bool.and_eq_true] at h
    have := (Ty.okB_good h.2.2.2).2
    omega
  · rw [noT, Ty.size_mk]; simp
theorem ocall_subS {R : Type} {t : Ty} {b : Bool} {f : T_Ty × Bool × Unit → Unit → Option R} : ocall (.tup [(.agg sh_Ty), (.one .bool)]) [] (some (.tup [.agg (LS.encs sh_Ty t.ts), .d (.bool b)], [])) f = f (t.ts, b, ()) () :=
  ocall_t (s := .tup [(.agg sh_Ty), (.one .bool)]) (m := []) rfl rfl rfl
theorem toTyS_ok (l : List Ty) (hs : tysSize l ≤ 1048576) : laws_toTyS (tys l) = rO 3 (tys l) := by
  unfold tysSize at hs
  exact to_genG (sh := sh_Ty) rfl (K := rO 3) (z := vDs (LS.encs sh_Ty ((0 : Int), (0 : Int), (0, []), ()))) rfl (G := fun t k => ocall (.m (.agg [.int .i64, .int .i64, .own 0])) [.lrow 3 false] (laws_toTy t) fun r m => k (vDs (LS.encs sh_Ty (r.1, r.2.1, m.1, ())))) laws_toTyS_eq laws_toTyS_j1_eq (g := Ty.ts) l (by omega) (by omega) (fun a h k => by
      show ocall _ _ (laws_toTy a.ts) _ = _
      rw [toTy_ok a (by have := sizes_mem (f := Ty.size) h; omega), ocall_tyO])
theorem eqTyS_ok (l : List Ty) (hs : tysSize l ≤ 1048576) : laws_eqTyS (tys l) (tys l) = some (.d (.bool true), []) := by
  unfold tysSize at hs
  exact eq_gen (sh := sh_Ty) rfl laws_eqTyS_eq laws_eqTyS_j1_eq (g := Ty.ts) l (by omega) (fun a h => eqTy_ok a (by have := sizes_mem (f := Ty.size) h; omega))
theorem szTyS_ok (l : List Ty) (hl : lenOk l) (ho : ∀ a ∈ l, a.ok) (n : Nat) (hn : (n : Int) < 9223372036854775807) : laws_szTyS (tys l) n = some (.d (.int .i64 (if tysSize l ≤ n then ((n - tysSize l : Nat) : Int) else -1)), []) := by
  unfold tysSize
  exact sz_gen (sh := sh_Ty) rfl laws_szTyS_eq laws_szTyS_j1_eq (g := Ty.ts) (size := Ty.size) l hl (fun a h => szTy_ok a (ho a h)) n hn
theorem markTyX_ok (t : Ty) (k : Nat) (hs : t.size ≤ 1048576) (hk : (k : Int) + 2 * t.size < 4611686018427387904) : laws_markTy t.ts.1 t.ts.2.1 k t.ts.2.2.1 = some (.d (.int .i64 ((k + 2 * t.size : Nat) : Int)), [.lrow 3 (tys (Ty.marks t.kids k)).1 false (tys (Ty.marks t.kids k)).2]) := by
  have e : t.ts.2.2.1 = tys t.kids := by obtain ⟨a, b, c⟩ := t; rw [Ty.ts_mk]; rfl
  rw [Ty.size_kids] at hs hk ⊢
  rw [laws_markTy_eq, e, markX_ok t k hs hk, ocall_mk]
theorem heldTyX_ok (t : Ty) (x y : Int) (k : Nat) (hs : t.size ≤ 1048576) (hk : (k : Int) + 2 * t.size < 4611686018427387904) : laws_heldTy (x, y, tys (Ty.marks t.kids k), ()) k = some (.d (.int .i64 ((k + 2 * t.size : Nat) : Int)), []) := by
  rw [Ty.size_kids] at hs hk ⊢
  rw [laws_heldTy_eq, heldX_ok t k hs hk, ocall_int, oite_dec, if_neg (by omega)]
theorem markTyS2_ok (l : List Ty) (hs : tysSize l ≤ 1048576) (k : Nat) (hk : (k : Int) + 2 * tysSize l < 4611686018427387904) : MkX k l := markX_ok (.mk 0 0 l) k hs hk

theorem TySubst_ok (t : Ty) (ho : t.ok) (L : List Ty) (hL : lenOk L) (hLo : ∀ a ∈ L, a.ok) : laws_FnExactTySubst t.ts (tys L) = some (.d (.bool true), []) := by
  rw [laws_FnExactTySubst_eq, show (1048576 : Int) = ((1048576 : Nat) : Int) from rfl, szTy_ok t ho 1048576 (by omega), ocall_int, oite_dec]
  by_cases hs : t.size ≤ 1048576
  · rw [if_pos hs, if_neg (by omega), szTyS_ok L hL hLo _ (by omega), ocall_int, oite_dec]
    by_cases hl : tysSize L ≤ 1048576 - t.size
    · rw [if_pos hl, if_neg (by omega)]
      have hl' : tysSize L ≤ 1048576 := by omega
      have hz := subT_size t L
      rw [toTy_ok t hs, ocall_tyO, toTyS_ok L hl', ocall_own]
      simp only [ts_eta]
      rw [TySubstS_ok t L hs hl', ocall_subS, ocall_tyO, ocall_own]
      simp only [ts_eta]
      rw [(TySubstI_ok t L hs hl').call]
      simp only [ts_eta]
      rw [eqTy_ok _ (by omega), ocall_bool, Bool.not_true, oite_f, laws_FnExactTySubst_j2_eq]
      simp only [beq_self_eq_true, Bool.not_true]
      rw [oite_f, laws_FnExactTySubst_j1_eq, toTy_ok t hs, ocall_tyO]
      simp only [ts_eta]
      rw [eqTy_ok t hs, ocall_bool, Bool.not_true, oite_f, toTyS_ok L hl', ocall_own, eqTyS_ok L hl', ocall_bool, Bool.not_true, oite_f]
      rw [show (1 : Int) = ((1 : Nat) : Int) from rfl, markTyX_ok t 1 hs (by omega), ocall_mk, show laws_markTyS_o ((1 + 2 * t.size : Nat) : Int) (tys L) = _ from markTyS2_ok L hl' (1 + 2 * t.size) (by omega), ocall_mk, oite_dec, if_neg (by omega)]
      rw [eqTy_ok _ (by omega), ocall_bool, Bool.not_true, oite_f]
      simp only [beq_self_eq_true, Bool.not_true]
      rw [laws_FnExactTySubst_j4_eq, oite_f, laws_FnExactTySubst_j3_eq, show (1 : Int) = ((1 : Nat) : Int) from rfl, markTyX_ok (subT t L) 1 (by omega) (by omega), ocall_mk]
      rw [heldTyX_ok (subT t L) _ _ 1 (by omega) (by omega), ocall_int, oite_dec, if_neg (by omega)]
      simp only [beq_self_eq_true, Bool.not_true]
      rw [oite_f, toTy_ok t hs, ocall_tyO, toTyS_ok L hl', ocall_own]
      simp only [ts_eta]
      rw [(TySubstI_ok t L hs hl').call]
      simp only [ts_eta]
      rw [eqTy_ok _ (by omega), ocall_bool, Bool.not_true, oite_f]
      simp only [beq_self_eq_true, Bool.not_true]
      rw [laws_FnExactTySubst_j6_eq, oite_f, laws_FnExactTySubst_j5_eq, show (1 : Int) = ((1 : Nat) : Int) from rfl, heldTyX_ok (subT t L) _ _ 1 (by omega) (by omega), ocall_int, oite_dec, if_neg (by omega)]
      simp only [beq_self_eq_true, Bool.not_true]
      rw [oite_f]
    · rw [if_neg hl, if_pos (by decide)]
  · rw [if_neg hs, if_pos (by decide)]
end Go.Ev.Q
