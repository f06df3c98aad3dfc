import Derived.Test.YtkgabahlbmonfaaEvCon
import Derived.Test.YtkgabahlbmonfaaPUa
import Derived.KernelRfl
set_option linter.unusedVariables false
set_option linter.unusedSimpArgs false
/-
  Sorted and compacted: just what is inserted one by one. In plain.
-/
namespace Go.Ev.Q
open Go Go.Lib

def insR : List Int → Int → List Int
  | [],n => [n]
  | a :: t,n => if a < n then a :: insR t n else if a = n then a :: t else n :: a :: t
theorem insR_len (l : List Int) (n : Int) : (insR l n).length ≤ l.length + 1 := by
  induction l with
  | nil => simp [insR]
  | cons a t ih =>
    rw [insR]
    split
    · simp; exact ih
    · split <;> simp
theorem insR_mem (l : List Int) (n x : Int) : x ∈ insR l n ↔ x = n ∨ x ∈ l := by
  induction l with
  | nil => simp [insR]
  | cons a t ih =>
    rw [insR]
    split
    · rw [List.mem_cons,ih,List.mem_cons]
      constructor
      · rintro (h | h | h)
        · exact .inr (.inl h)
        · exact .inl h
        · exact .inr (.inr h)
      · rintro (h | h | h)
        · exact .inr (.inl h)
        · exact .inl h
        · exact .inr (.inr h)
    · split
      · rename_i h
        subst h
        rw [List.mem_cons]
        constructor
        · exact fun h => .inr h
        · rintro (h | h)
          · exact .inl h
          · exact h
      · rw [List.mem_cons]
theorem insR_lt (l : List Int) (n : Int) (h : l.Pairwise (· < ·)) : (insR l n).Pairwise (· < ·) := by
  induction l with
  | nil => simp [insR]
  | cons a t ih =>
    rw [List.pairwise_cons] at h
    rw [insR]
    split
    · rename_i c
      rw [List.pairwise_cons]
      refine ⟨fun b hb => ?_,ih h.2⟩
      rcases (insR_mem t n b).1 hb with h1 | h1
      · rw [h1]; exact c
      · exact h.1 b h1
    · split
      · exact List.pairwise_cons.2 h
      · rename_i c1 c2
        rw [List.pairwise_cons]
        refine ⟨fun b hb => ?_,List.pairwise_cons.2 h⟩
        rcases List.mem_cons.1 hb with h1 | h1
        · omega
        · have := h.1 b h1; omega
theorem fold_ins (v : List Int) : ∀ l : List Int,l.Pairwise (· < ·) → (v.foldl insR l).Pairwise (· < ·) ∧ ∀ x,x ∈ v.foldl insR l ↔ x ∈ v ∨ x ∈ l := by
  induction v with
  | nil => intro l h; exact ⟨h,fun x => by simp⟩
  | cons a t ih =>
    intro l h
    obtain ⟨h1,h2⟩ := ih (insR l a) (insR_lt l a h)
    refine ⟨h1,fun x => ?_⟩
    rw [List.foldl_cons,h2,insR_mem,List.mem_cons]
    constructor
    · rintro (h | h | h)
      · exact .inl (.inr h)
      · exact .inl (.inl h)
      · exact .inr h
    · rintro ((h | h) | h)
      · exact .inr (.inl h)
      · exact .inl h
      · exact .inr (.inr h)
theorem fold_len1 (v : List Int) : ∀ l : List Int,(v.foldl insR l).length ≤ l.length + v.length := by
  induction v with
  | nil => intro l; simp
  | cons a t ih =>
    intro l
    have := ih (insR l a)
    have := insR_len l a
    rw [List.foldl_cons,List.length_cons]
    omega
theorem ssorted_ext : ∀ (a b : List Int),a.Pairwise (· < ·) → b.Pairwise (· < ·) → (∀ x,x ∈ a ↔ x ∈ b) → a = b := by
  intro a
  induction a with
  | nil =>
    intro b _ _ h
    cases b with
    | nil => rfl
    | cons y t => exact absurd ((h y).2 List.mem_cons_self) (by simp)
  | cons x t ih =>
    intro b ha hb h
    cases b with
    | nil => exact absurd ((h x).1 List.mem_cons_self) (by simp)
    | cons y s =>
      rw [List.pairwise_cons] at ha hb
      have hx := (h x).1 List.mem_cons_self
      have hy := (h y).2 List.mem_cons_self
      have e : x = y := by
        rcases List.mem_cons.1 hx with h1 | h1
        · exact h1
        · rcases List.mem_cons.1 hy with h2 | h2
          · exact h2.symm
          · have := hb.1 x h1; have := ha.1 y h2; omega
      subst e
      congr 1
      refine ih s ha.2 hb.2 (fun z => ⟨fun hz => ?_,fun hz => ?_⟩)
      · have := ha.1 z hz
        rcases List.mem_cons.1 ((h z).1 (List.mem_cons_of_mem _ hz)) with h1 | h1
        · omega
        · exact h1
      · have := hb.1 z hz
        rcases List.mem_cons.1 ((h z).2 (List.mem_cons_of_mem _ hz)) with h1 | h1
        · omega
        · exact h1

theorem get_arr (zs : List Int) (i : Nat) (h : i < zs.length) : zs.toArray[i]! = zs[i] := by simp [getElem!_pos,h]
theorem compact_mem (zs : List Int) (x : Int) : x ∈ Lib.compact zs ↔ x ∈ zs := by
  unfold Lib.compact Lib.compactUpTo
  constructor
  · intro h
    obtain ⟨i,hi,rfl⟩ := List.mem_map.1 h
    have hi' : i < zs.length := List.mem_range.1 (List.mem_filter.1 hi).1
    show zs.toArray[i]! ∈ zs
    rw [get_arr zs i hi']
    exact List.getElem_mem hi'
  · have go : ∀ i (h : i < zs.length),zs[i] ∈ ((List.range zs.length).filter (keeps zs.toArray)).map (zs.toArray[·]!) := by
      intro i
      induction i using Nat.strongRecOn with
      | _ i ih =>
        intro h
        by_cases c : keeps zs.toArray i = true
        · exact List.mem_map.2 ⟨i,List.mem_filter.2 ⟨List.mem_range.2 h,c⟩,get_arr zs i h⟩
        · unfold keeps at c
          rw [decide_eq_true_iff,not_or,Classical.not_not] at c
          rw [get_arr zs i h,get_arr zs (i - 1) (by omega)] at c
          rw [c.2]
          exact ih (i - 1) (by omega) (by omega)
    intro h
    obtain ⟨i,hi,rfl⟩ := List.mem_iff_getElem.1 h
    exact go i hi
theorem compact_lt (zs : List Int) (h : zs.Pairwise (· ≤ ·)) : (Lib.compact zs).Pairwise (· < ·) := by
  have hm : ∀ i j (hi : i < zs.length) (hj : j < zs.length),i ≤ j → zs[i] ≤ zs[j] := by
    intro i j hi hj hij
    rcases Nat.lt_or_eq_of_le hij with h1 | h1
    · exact List.pairwise_iff_getElem.1 h i j hi hj h1
    · subst h1; exact Int.le_refl _
  unfold Lib.compact Lib.compactUpTo
  rw [List.pairwise_map,List.pairwise_filter]
  refine List.Pairwise.imp_of_mem (fun {i j} hi hj hij => ?_) List.pairwise_lt_range
  intro _ kj
  have hi' := List.mem_range.1 hi
  have hj' := List.mem_range.1 hj
  show zs.toArray[i]! < zs.toArray[j]!
  rw [get_arr zs i hi',get_arr zs j hj']
  unfold keeps at kj
  rw [decide_eq_true_iff,get_arr zs j hj',get_arr zs (j - 1) (by omega)] at kj
  have h1 := hm i (j - 1) hi' (by omega) (by omega)
  have h2 := hm (j - 1) j (by omega) hj' (by omega)
  rcases kj with h3 | h3
  · omega
  · omega
/-- Sorted and compacted: just what is inserted one by one. -/
theorem compact_sort (v : List Int) : Lib.compact (v.mergeSort fun x y => decide (x ≤ y)) = v.foldl insR [] := by
  have hs : (v.mergeSort fun x y => decide (x ≤ y)).Pairwise (· ≤ ·) := by
    have := List.pairwise_mergeSort (le := fun x y : Int => decide (x ≤ y)) (by intro a b c; simp; omega) (by intro a b; simp; omega) v
    exact this.imp (fun h => of_decide_eq_true h)
  obtain ⟨h1,h2⟩ := fold_ins v [] List.Pairwise.nil
  refine ssorted_ext _ _ (compact_lt _ hs) h1 (fun x => ?_)
  rw [compact_mem,List.mem_mergeSort,h2]
  simp
end Go.Ev.Q

/-
  Numbers are sorted, and of equal ones one is left.
-/
namespace Go.Ev.Q
open Go Go.Ev
set_option maxRecDepth 100000

theorem Sort_eq (x0 : Sl) : slices_Sort_int_int_o x0 = oguard (intsB x0.2 && decide (x0.1 ≤ 140737488351232)) (some (.tup [], [.row 1 x0.1 false false (sortEs x0.2)])) := (evF_eq ..).trans (by kernel_rfl)
theorem Compact_eq (x0 : Sl) : slices_Compact_int_int_o x0 = oguard (intsB x0.2 && decide (x0.1 ≤ 140737488351232)) (some (.own 0, [.row 1 (compN x0.2) false true (compEs x0.2)])) := (evF_eq ..).trans (by kernel_rfl)
theorem ints_es (l : List Int) : (ints l).2 = l.map fun n => [.int .i64 n] := rfl
theorem ints_num (l : List Int) : (ints l).1 = l.length := rfl
theorem intsB_ints (l : List Int) : intsB (ints l).2 = true := by rw [ints_es, intsB, intsD_map]; rfl
theorem sortEs_ints (l : List Int) : sortEs (ints l).2 = (ints (l.mergeSort fun x y => decide (x ≤ y))).2 := by rw [ints_es, sortEs, intsD_map]; rfl
theorem compEs_ints (l : List Int) : compEs (ints l).2 = (ints (Lib.compact l)).2 := by rw [ints_es, compEs, intsD_map]; rfl
theorem compN_ints (l : List Int) : compN (ints l).2 = (ints (Lib.compact l)).1 := by rw [ints_es, compN, intsD_map]; rfl
/-- What goes on behind: with what is left. -/
theorem sortK {R : Type} (K : Sl → Option R) (l : List Int) (h : l.length ≤ 1048576) :
    (ocall (.tup []) [(.row 1 false false)] (slices_Sort_int_int_o (ints l)) fun (r1 : Unit) (m2 : (Sl × Unit)) =>
    ocall (.m (.one (.own 0))) [(.row 1 false true)] (slices_Compact_int_int_o m2.1) fun (r3 : Unit) (m4 : (Sl × Unit)) => K m4.1) = K (ints (l.foldl insR [])) := by
  have hb : (intsB (ints l).2 && decide ((ints l).1 ≤ 140737488351232)) = true := by rw [intsB_ints, ints_num, Bool.true_and]; exact decide_eq_true (by omega)
  have hm : (l.mergeSort fun x y => decide (x ≤ y)).length = l.length := List.length_mergeSort l
  rw [Sort_eq, oguard_t hb, sortEs_ints]
  have e1 : (ints l).1 = (ints (l.mergeSort fun x y => decide (x ≤ y))).1 := by rw [ints_num, ints_num, hm]
  rw [e1]
  refine Eq.trans (ocall_t (s := .tup []) (m := [(.row 1 false false)]) (t := ()) (u := (ints (l.mergeSort fun x y => decide (x ≤ y)), ())) rfl rfl rfl) ?_
  have hb2 : (intsB (ints (l.mergeSort fun x y => decide (x ≤ y))).2 && decide ((ints (l.mergeSort fun x y => decide (x ≤ y))).1 ≤ 140737488351232)) = true := by rw [intsB_ints, ints_num, hm, Bool.true_and]; exact decide_eq_true (by omega)
  rw [Compact_eq, oguard_t hb2, compEs_ints, compN_ints]
  refine Eq.trans (ocall_t (s := .m (.one (.own 0))) (m := [(.row 1 false true)]) (t := ()) (u := (ints (Lib.compact (l.mergeSort fun x y => decide (x ≤ y))), ())) rfl rfl rfl) ?_
  rw [compact_sort]
end Go.Ev.Q

/-
  The variables of a type.
-/
namespace Go.Ev
open Go
mutual
def Ty.vars : Ty → List Int
  | .mk k n l => (if k = 7 then [n] else []) ++ Ty.varss l
def Ty.varss : List Ty → List Int
  | [] => []
  | a :: l => Ty.vars a ++ Ty.varss l
end
theorem Ty.varss_eq : ∀ l : List Ty, Ty.varss l = (l.map Ty.vars).flatten
  | [] => by rw [Ty.varss]; rfl
  | a :: l => by rw [Ty.varss, Ty.varss_eq l]; rfl
theorem Ty.vars_mk {k n : Int} {l : List Ty} : Ty.vars (.mk k n l) = (if k = 7 then [n] else []) ++ (l.map Ty.vars).flatten := by rw [Ty.vars, Ty.varss_eq]
theorem Ty.vars_len (t : Ty) : t.vars.length ≤ 1 + t.size := by
  induction t using Ty.ind with
  | h k n l ih =>
    rw [Ty.vars_mk, Ty.size_mk, List.length_append]
    have h1 : (if k = 7 then [n] else []).length ≤ 1 := by split <;> simp
    have h2 : ∀ q : List Ty, (∀ a ∈ q, a.vars.length ≤ 1 + a.size) → ((q.map Ty.vars).flatten).length ≤ q.length + (q.map Ty.size).sum := by
      intro q
      induction q with
      | nil => intro _; simp
      | cons a q ihq =>
        intro h
        have h3 := h a (by simp)
        have h4 := ihq fun b hb => h b (by simp [hb])
        simp only [List.map_cons, List.flatten_cons, List.length_append, List.length_cons, List.sum_cons]
        omega
    have := h2 l ih
    omega
namespace Q
open Go Go.Ev

abbrev rL (l : List Int) : Res := some (.d (.sl false 1 (ints l).1 (ints l).2), [])
theorem ocall_rL {R : Type} {l : List Int} {f : Sl → Unit → Option R} : ocall (.m (.one (.sl 1))) [] (rL l) f = f (ints l) () := ocall_sl
theorem ints_app1 (l : List Int) (n : Int) : ((ints l).1 + 1, (ints l).2 ++ ([D.int .i64 n] :: [])) = ints (l ++ [n]) := by simp [ints, sl, vDs, LS.encs, LS.enc, vD]
/-- A row of numbers that a variable holds. -/
def PV (x : Res) (l : List Int) : Prop := ∃ mv, x = some (.tup [], [.box [.own 1], .row 1 (ints l).1 false mv (ints l).2])
theorem PV.call {x : Res} {l : List Int} (h : PV x l) {R : Type} {f : Unit → (Unit × Unit) × (Sl × Unit) → Option R} : ocall (.tup []) [(.box [(.own 1)]), (.row 1 false true)] x f = f () (((), ()), (ints l, ())) := by
  obtain ⟨mv, rfl⟩ := h
  refine ocall_t (s := .tup []) (m := [(.box [(.own 1)]), (.row 1 false true)]) (t := ()) (u := (((), ()), (ints l, ()))) rfl rfl ?_
  cases mv <;> rfl

/-! the program -/
theorem one_ok (n : Int) (l : List Int) (hl : l.length ≤ 1048576) : PV (impl_TyVars_1 n (ints l)) (l ++ [n]) := by
  rw [impl_TyVars_1_eq, oguard_dec (by rw [ints_num]; omega), olet_eq]
  exact ⟨true, by rw [← ints_app1]⟩
theorem eachVar_ok (t : Ty) : ∀ l : List Int, t.good → l.length + t.size ≤ 1048000 → PV (impl_eachVar_Fimpl_TyVars_1c t.ts (ints l)) (l ++ t.vars) := by
  induction t using Ty.ind with
  | h k n q ih =>
    intro l hg hs
    rw [Ty.size_mk] at hs
    cases hg with
    | mk hv hl hga =>
    have loop : ∀ (r pre : List Ty) (l : List Int), pre ++ r = q → l.length + (r.length + (r.map Ty.size).sum) ≤ 1048001 → PV (impl_eachVar_Fimpl_TyVars_1c_j2 (pre.length : Int) (tys q) (((tys q).1 : Nat) : Int) (ints l)) (l ++ (r.map Ty.vars).flatten) := by
      intro r
      induction r with
      | nil =>
        intro pre l hp hs
        rw [List.append_nil] at hp; subst hp
        rw [impl_eachVar_Fimpl_TyVars_1c_j2_eq, oite_dec, if_neg (by simp [tys, sl])]
        exact ⟨true, by simp⟩
      | cons a r ihr =>
        intro pre l hp hs
        have hm := mem_mid hp
        have hlt := len_mid hp
        simp only [List.length_cons, List.map_cons, List.sum_cons] at hs
        have hvl := a.vars_len
        rw [impl_eachVar_Fimpl_TyVars_1c_j2_eq, oite_dec, if_pos (show (pre.length : Int) < ((tys q).1 : Nat) by show (pre.length : Int) < (q.length : Nat); omega)]
        rw [show tys q = sl (sh := sh_Ty) Ty.ts q from rfl, oat_mid hp rfl, (ih a hm l (hga a hm) (by omega)).call, w64_succ (by omega)]
        have := ihr (pre ++ [a]) (l ++ a.vars) (by simpa using hp) (by rw [List.length_append]; omega)
        rw [List.length_append, List.length_singleton] at this
        simp only [List.map_cons, List.flatten_cons]
        rw [← List.append_assoc]
        exact this
    rw [impl_eachVar_Fimpl_TyVars_1c_eq, Ty.ts_mk, Ty.vars_mk]
    simp only [oite_if, beq_iff_eq]
    by_cases h7 : k = 7
    · obtain ⟨_, rfl⟩ := hv h7
      rw [if_pos h7, if_pos h7, (one_ok n l (by omega)).call, impl_eachVar_Fimpl_TyVars_1c_j1_eq]
      have := loop [] [] (l ++ [n]) rfl (by simp; omega)
      simpa using this
    · rw [if_neg h7, if_neg h7, impl_eachVar_Fimpl_TyVars_1c_j1v1_eq, List.nil_append]
      simp only
      cases q with
      | nil =>
        rw [impl_eachVar_Fimpl_TyVars_1c_j2v1_eq, oite_dec, if_neg (by simp [tys, sl])]
        exact ⟨false, by simp⟩
      | cons a r =>
        have hm : a ∈ a :: r := by simp
        have hvl := a.vars_len
        simp only [List.length_cons, List.map_cons, List.sum_cons] at hs
        rw [impl_eachVar_Fimpl_TyVars_1c_j2v1_eq, oite_dec, if_pos (by simp [tys, sl]), show tys (a :: r) = sl (sh := sh_Ty) Ty.ts (a :: r) from rfl, oat_hd rfl, (ih a hm l (hga a hm) (by omega)).call]
        have := loop r [a] (l ++ a.vars) rfl (by rw [List.length_append]; omega)
        simp only [List.map_cons, List.flatten_cons]
        rw [← List.append_assoc]
        exact this
theorem TyVars_ok (t : Ty) (hs : t.size ≤ 1048576) : impl_TyVars t.ts = rL (if t.okB then t.vars.foldl insR [] else []) := by
  rw [impl_TyVars_eq, TyOk_ok t (by omega), ocall_bool]
  cases h : t.okB with
  | false => rw [Bool.not_false, oite_t]; rfl
  | true =>
    obtain ⟨hg, hz⟩ := Ty.okB_good h
    have hv := t.vars_len
    have he := eachVar_ok t [] hg (by simp; omega)
    rw [Bool.not_true, oite_f]
    have he' : ∀ {R : Type} {f : Unit → (Unit × Unit) × (Sl × Unit) → Option R}, ocall (.tup []) [(.box [(.own 1)]), (.row 1 false true)] (impl_eachVar_Fimpl_TyVars_1c t.ts (0, [])) f = f () (((), ()), (ints ([] ++ t.vars), ())) := he.call
    rw [he', List.nil_append]
    exact sortK (R := V × Mem) (fun s => some (V.d (D.sl false 1 s.1 s.2), [])) t.vars (by omega)

/-! the reference -/
theorem l3insert_ok (l : List Int) (n : Int) (hl : l.length ≤ 1048576) : ∃ r, spec_l3insert (ints l) n = rL r ∧ (∀ x, x ∈ r ↔ x ∈ l ∨ x = n) ∧ r.length ≤ l.length + 1 := by
  have fin : ∀ i : Nat, i ≤ l.length → ∃ r, spec_l3insert_j4 (i : Int) (ints l) n = rL r ∧ (∀ x, x ∈ r ↔ x ∈ l ∨ x = n) ∧ r.length ≤ l.length + 1 := by
    intro i hi
    refine ⟨(l.take i ++ [n]) ++ l.drop i, ?_, fun x => ?_, by simp; omega⟩
    · have hi' : (i : Int) ≤ (((ints l).1 : Nat) : Int) := by rw [ints_num]; omega
      rw [spec_l3insert_j4_eq]
      simp only [Int.toNat_natCast]
      rw [oguard_dec ⟨by omega, hi'⟩, olet_eq, oguard_dec (by omega), oguard_dec (by omega), olet_eq, oguard_dec ⟨by omega, hi'⟩, olet_eq, oguard_dec (by rw [ints_num]; omega), olet_eq]
      have e1 : (i + 1 + ((ints l).1 - i)) = (ints ((l.take i ++ [n]) ++ l.drop i)).1 := by rw [ints_num, ints_num]; simp; omega
      have e2 : (ints l).2.take i ++ ([D.int .i64 n] :: []) ++ (ints l).2.drop i = (ints ((l.take i ++ [n]) ++ l.drop i)).2 := by
        simp [ints_es, List.map_take, List.map_drop]
      rw [e1, e2]
    · have := List.take_append_drop i l
      constructor
      · intro h
        simp only [List.mem_append, List.mem_singleton] at h
        rcases h with (h | h) | h
        · exact .inl (List.mem_of_mem_take h)
        · exact .inr h
        · exact .inl (List.mem_of_mem_drop h)
      · rintro (h | h)
        · rw [← this] at h
          simp only [List.mem_append, List.mem_singleton] at h ⊢
          rcases h with h | h
          · exact .inl (.inl h)
          · exact .inr h
        · simp [h]
  have at3 : ∀ i : Nat, i ≤ l.length → ∃ r, spec_l3insert_j3 (ints l) n (i : Int) false = rL r ∧ (∀ x, x ∈ r ↔ x ∈ l ∨ x = n) ∧ r.length ≤ l.length + 1 := by
    intro i hi
    rw [spec_l3insert_j3_eq, oite_f, oite_dec]
    by_cases h : i < l.length
    · rw [if_pos (by rw [ints_num]; omega)]
      have ha : l[(i : Int).toNat]? = some l[i] := by simp [h]
      rw [show ints l = sl (sh := [.int .i64]) (fun n => (n, ())) l from rfl, oat_sl rfl (by omega) ha]
      rw [show sl (sh := [.int .i64]) (fun n => (n, ())) l = ints l from rfl, spec_l3insert_j5_eq]
      simp only [oite_if, beq_iff_eq]
      by_cases he : l[i] = n
      · rw [if_pos he]
        exact ⟨l, rfl, fun x => ⟨.inl, fun h => h.elim id fun e => e ▸ he ▸ List.getElem_mem _⟩, by omega⟩
      · rw [if_neg he]
        exact fin i (by omega)
    · rw [if_neg (by rw [ints_num]; omega), spec_l3insert_j5_eq, oite_f]
      exact fin i hi
  have key : ∀ (m i : Nat), i + m = l.length → ∃ r, spec_l3insert_j1 (i : Int) (ints l) n = rL r ∧ (∀ x, x ∈ r ↔ x ∈ l ∨ x = n) ∧ r.length ≤ l.length + 1 := by
    intro m
    induction m with
    | zero =>
      intro i hi
      rw [spec_l3insert_j1_eq, oite_dec, if_neg (by rw [ints_num]; omega)]
      exact at3 i (by omega)
    | succ m ih =>
      intro i hi
      have ha : l[(i : Int).toNat]? = some (l[i]'(by omega)) := by simp
      rw [spec_l3insert_j1_eq, oite_dec, if_pos (by rw [ints_num]; omega), show ints l = sl (sh := [.int .i64]) (fun n => (n, ())) l from rfl, oat_sl rfl (by omega) ha]
      rw [show sl (sh := [.int .i64]) (fun n => (n, ())) l = ints l from rfl]
      simp only
      by_cases hlt : l[i]'(by omega) < n
      · rw [decide_eq_true hlt, spec_l3insert_j3_eq, oite_t, spec_l3insert_j2_eq, w64_succ (by omega)]
        exact ih (i + 1) (by omega)
      · rw [decide_eq_false hlt]
        exact at3 i (by omega)
  rw [spec_l3insert_eq]
  exact key l.length 0 (by omega)
theorem l3vars_ok (t : Ty) : ∀ l : List Int, t.good → l.length + t.size ≤ 1048000 → ∃ r, spec_l3vars t.ts (ints l) = rL r ∧ (∀ x, x ∈ r ↔ x ∈ l ∨ x ∈ t.vars) ∧ r.length ≤ l.length + 1 + t.size := by
  induction t using Ty.ind with
  | h k n q ih =>
    intro l hg hs
    rw [Ty.size_mk] at hs ⊢
    cases hg with
    | mk hv hl hga =>
    have loop : ∀ (r pre : List Ty) (l : List Int), pre ++ r = q → l.length + (r.length + (r.map Ty.size).sum) ≤ 1048000 → ∃ z, spec_l3vars_j1 (pre.length : Int) (ints l) (k, n, tys q, ()) = rL z ∧ (∀ x, x ∈ z ↔ x ∈ l ∨ x ∈ (r.map Ty.vars).flatten) ∧ z.length ≤ l.length + (r.length + (r.map Ty.size).sum) := by
      intro r
      induction r with
      | nil =>
        intro pre l hp hs
        rw [List.append_nil] at hp; subst hp
        rw [spec_l3vars_j1_eq, oite_dec, if_neg (by simp [tys, sl])]
        exact ⟨l, rfl, by simp, by simp⟩
      | cons a r ihr =>
        intro pre l hp hs
        have hm := mem_mid hp
        have hlt := len_mid hp
        simp only [List.length_cons, List.map_cons, List.sum_cons] at hs ⊢
        obtain ⟨z1, e1, m1, l1⟩ := ih a hm l (hga a hm) (by omega)
        rw [spec_l3vars_j1_eq, oite_dec, if_pos (show (pre.length : Int) < ((tys q).1 : Nat) by show (pre.length : Int) < (q.length : Nat); omega)]
        simp only
        rw [show tys q = sl (sh := sh_Ty) Ty.ts q from rfl, oat_mid hp rfl, e1, ocall_rL, w64_succ (by omega)]
        obtain ⟨z2, e2, m2, l2⟩ := ihr (pre ++ [a]) z1 (by simpa using hp) (by omega)
        rw [List.length_append, List.length_singleton] at e2
        refine ⟨z2, e2, fun x => ?_, by omega⟩
        rw [m2, m1]
        simp [or_assoc]
    rw [spec_l3vars_eq, Ty.ts_mk, Ty.vars_mk]
    simp only [oite_if, beq_iff_eq]
    by_cases h7 : k = 7
    · obtain ⟨_, rfl⟩ := hv h7
      obtain ⟨r, e, hm, hl2⟩ := l3insert_ok l n (by omega)
      rw [if_pos h7, if_pos h7, e, ocall_rL]
      exact ⟨r, rfl, by simpa using hm, by simpa using hl2⟩
    · rw [if_neg h7, if_neg h7, List.nil_append]
      obtain ⟨z, e, hm, hl2⟩ := loop q [] l rfl (by omega)
      exact ⟨z, e, hm, by omega⟩
theorem TyVarsS_ok (t : Ty) (hs : t.size ≤ 1048576) : ∃ r, spec_TyVars t.ts = rL r ∧ r.length ≤ 100 ∧ (t.okB = true → ∀ x, x ∈ r ↔ x ∈ t.vars) := by
  rw [spec_TyVars_eq, spec_TyOk_ok t (by omega), ocall_bool]
  cases h : t.okB with
  | false => rw [Bool.not_false, oite_t]; exact ⟨[], rfl, by simp, fun h => by cases h⟩
  | true =>
    obtain ⟨hg, hz⟩ := Ty.okB_good h
    obtain ⟨r, e, hm, hl⟩ := l3vars_ok t [] hg (by simp; omega)
    have e : spec_l3vars t.ts (0, []) = rL r := e
    rw [Bool.not_true, oite_f, e, ocall_rL]
    exact ⟨r, rfl, by simp at hl; omega, fun _ x => by rw [hm]; simp⟩
end Q
end Go.Ev

/-
  Draws come to an end, whatever the code is.
-/
namespace Go.Ev.Q
open Go Go.Ev

abbrev cur (b : List Int) (i h : Int) : T_l1Cur := (bytes b, i, h, ())
abbrev curB (b : List Int) (i h : Int) : Mem := [.box (LS.encs sh_l1Cur (cur b i h))]
theorem ocall_cur {R : Type} {v : Int} {b : List Int} {i h : Int} {f : Int → T_l1Cur × Unit → Option R} : ocall (.m (.one (.int .i64))) [.box sh_l1Cur] (some (.d (.int .i64 v), curB b i h)) f = f v (cur b i h, ()) := ocall_int_box rfl

theorem and255 (X : BitVec 64) : 0 ≤ ((BitVec.toNat (X &&& BitVec.ofInt 64 255) : Nat) : Int) ∧ ((BitVec.toNat (X &&& BitVec.ofInt 64 255) : Nat) : Int) ≤ 255 := by
  have h : BitVec.toNat (X &&& BitVec.ofInt 64 255) ≤ 255 := by
    rw [BitVec.toNat_and]
    exact Nat.and_le_right
  omega
theorem wand255 (X : BitVec 64) : 0 ≤ w64 ((BitVec.toNat (X &&& BitVec.ofInt 64 255) : Nat) : Int) ∧ w64 ((BitVec.toNat (X &&& BitVec.ofInt 64 255) : Nat) : Int) ≤ 255 := by
  have := and255 X
  rw [w64_id (by omega) (by omega)]
  exact this
theorem l1Byte_ok (b : List Int) (i h : Int) (hi : 0 ≤ i) (hb : lenOk b) : ∃ r i' h', spec_l1Byte (cur b i h) = some (.d (.int .i64 r), curB b i' h') ∧ 0 ≤ r ∧ r ≤ 255 ∧ 0 ≤ i' := by
  rw [spec_l1Byte_eq]
  simp only [oguard_true]
  rw [oite_dec]
  by_cases h1 : i < b.length
  · rw [if_pos (by simpa [bytes_n] using h1)]
    have ha : b[i.toNat]? = some (b[i.toNat]'(by omega)) := by simp
    rw [show bytes b = sl (sh := [.int .u8]) (fun n => (n, ())) b from rfl, oat_sl rfl hi ha]
    unfold lenOk at hb
    exact ⟨_, _, _, rfl, (wand255 _).1, (wand255 _).2, by rw [w64_id (by omega) (by omega)]; omega⟩
  · rw [if_neg (by simpa [bytes_n] using h1)]
    exact ⟨_, _, _, rfl, (wand255 _).1, (wand255 _).2, hi⟩
theorem l1Below_ok (n : Int) (b : List Int) (i h : Int) (hi : 0 ≤ i) (hb : lenOk b) (hn : n ≤ 4294967296) : ∃ r i' h', spec_l1Below n (cur b i h) = some (.d (.int .i64 r), curB b i' h') ∧ 0 ≤ r ∧ (0 < n → r < n) ∧ (n ≤ 0 → r = 0) ∧ 0 ≤ i' := by
  rw [spec_l1Below_eq, oite_dec]
  by_cases h1 : n ≤ 0
  · rw [if_pos h1]
    exact ⟨0, i, h, rfl, by omega, by omega, fun _ => rfl, hi⟩
  rw [if_neg h1, oite_dec]
  by_cases h2 : n ≤ 256
  · rw [if_pos h2]
    obtain ⟨r, i', h', e, r0, r1, i0⟩ := l1Byte_ok b i h hi hb
    rw [e, ocall_cur, oguard_dec (by omega)]
    refine ⟨_, i', h', rfl, ?_, fun _ => ?_, by omega, i0⟩
    · exact Int.tmod_nonneg _ r0
    · exact Int.tmod_lt_of_pos _ (by omega)
  · rw [if_neg h2]
    obtain ⟨r, i1, h3, e1, r0, r1, q1⟩ := l1Byte_ok b i h hi hb
    obtain ⟨s, i2, h4, e2, s0, s1, q2⟩ := l1Byte_ok b i1 h3 q1 hb
    obtain ⟨t, i3, h5, e3, t0, t1, q3⟩ := l1Byte_ok b i2 h4 q2 hb
    obtain ⟨u, i4, h6, e4, u0, u1, q4⟩ := l1Byte_ok b i3 h5 q3 hb
    rw [e1, ocall_cur]; simp only
    rw [e2, ocall_cur]; simp only
    rw [e3, ocall_cur]; simp only
    rw [e4, ocall_cur]; simp only
    rw [w64_id (x := r * 16777216) (by omega) (by omega), w64_id (x := s * 65536) (by omega) (by omega), w64_id (x := t * 256) (by omega) (by omega),
      w64_id (x := r * 16777216 + s * 65536) (by omega) (by omega), w64_id (x := r * 16777216 + s * 65536 + t * 256) (by omega) (by omega), w64_id (x := r * 16777216 + s * 65536 + t * 256 + u) (by omega) (by omega), oguard_dec (by omega)]
    refine ⟨_, i4, h6, rfl, ?_, fun _ => ?_, by omega, q4⟩
    · exact Int.tmod_nonneg _ (by omega)
    · exact Int.tmod_lt_of_pos _ (by omega)
theorem l1Once_ok (n : Int) (b : List Int) (i h : Int) (hi : 0 ≤ i) (hb : lenOk b) (hn : n ≤ 4294967296) : ∃ (r : Bool) (i' h' : Int), (∀ f : Bool → T_l1Cur × Unit → Res, ocall (.m (.one .bool)) [.box sh_l1Cur] (spec_l1Once n (cur b i h)) f = f r (cur b i' h', ())) ∧ 0 ≤ i' := by
  obtain ⟨r, i', h', e, _, _, _, i0⟩ := l1Below_ok n b i h hi hb hn
  refine ⟨r == 0, i', h', fun f => ?_, i0⟩
  rw [spec_l1Once_eq, e, ocall_cur]
  exact ocall_bool_box (l := sh_l1Cur) rfl (t := cur b i' h')
theorem l1PickInt_ok (l : List Int) (b : List Int) (i h : Int) (hi : 0 ≤ i) (hb : lenOk b) (hl : 0 < l.length) (hl2 : l.length < 4294967296) : ∃ r i' h', spec_l1PickInt (ints l) (cur b i h) = some (.d (.int .i64 r), curB b i' h') ∧ r ∈ l ∧ 0 ≤ i' := by
  obtain ⟨r, i', h', e, r0, r1, _, i0⟩ := l1Below_ok (l.length : Int) b i h hi hb (by omega)
  have hr := r1 (by omega)
  rw [spec_l1PickInt_eq, ints_n, e, ocall_cur]
  have ha : l[r.toNat]? = some (l[r.toNat]'(by omega)) := by simp
  rw [show ints l = sl (sh := [.int .i64]) (fun n => (n, ())) l from rfl]
  rw [← sl_n (sh := [.int .i64]) (g := fun n => (n, ())) (l := l), oat_sl rfl r0 ha]
  exact ⟨_, i', h', rfl, List.getElem_mem _, i0⟩
theorem l1New_j1_ok (b : List Int) (hb : lenOk b) : ∀ (n i : Nat) (x : Int), i + n = 4000 → i ≤ b.length → ∃ h, spec_l1New_j1 (i : Int) (bytes b) x = some (.ptr 0 0, curB b 0 h)
  | 0, i, x, hi, hl => by
    rw [spec_l1New_j1_eq, oite_dec, show (decide ((i : Int) < 4000)) = false from decide_eq_false (by omega)]
    have e : spec_l1New_j3 (bytes b) i x false = some (.ptr 0 0, curB b 0 x) := by rw [spec_l1New_j3_eq, oite_f]
    split <;> exact ⟨x, e⟩
  | n + 1, i, x, hi, hl => by
    rw [spec_l1New_j1_eq, oite_dec]
    by_cases h1 : i < b.length
    · rw [if_pos (by rw [bytes_n]; omega), show (decide ((i : Int) < 4000)) = true from decide_eq_true (by omega), spec_l1New_j3_eq, oite_t, spec_l1New_j2_eq]
      have ha : b[(i : Int).toNat]? = some (b[i]) := by simp [h1]
      rw [show bytes b = sl (sh := [.int .u8]) (fun n => (n, ())) b from rfl, oat_sl rfl (by omega) ha]
      unfold lenOk at hb
      rw [w64_succ (by omega)]
      exact l1New_j1_ok b hb n (i + 1) _ (by omega) (by omega)
    · rw [if_neg (by rw [bytes_n]; omega), spec_l1New_j3_eq, oite_f]
      exact ⟨_, rfl⟩
theorem l1New_ok (b : List Int) (hb : lenOk b) : ∃ h, spec_l1New (bytes b) = some (.ptr 0 0, curB b 0 h) := by
  rw [spec_l1New_eq]
  exact l1New_j1_ok b hb 4000 0 _ (by omega) (by omega)
end Go.Ev.Q

/-
  Drawn types: draws come to an end, and what is drawn is not too great.
-/
namespace Go.Ev.Q
open Go Go.Ev

/-- A drawn type. -/
def DT (b : List Int) (N : Nat) (x : Res) : Prop := ∃ (t : Ty) (i h : Int) (mv : Bool), x = some (.agg [.d (.int .i64 t.ts.1), .d (.int .i64 t.ts.2.1), .own 1], [.box (LS.encs sh_l1Cur (cur b i h)), .lrow 3 t.ts.2.2.1.1 mv t.ts.2.2.1.2]) ∧ t.size ≤ N ∧ 0 ≤ i
theorem DT.mono {b : List Int} {N N' : Nat} {x : Res} (h : DT b N x) (hn : N ≤ N') : DT b N' x := by
  obtain ⟨t, i, h', mv, e, h1, h2⟩ := h
  exact ⟨t, i, h', mv, e, by omega, h2⟩
theorem ocall_dt {R : Type} {t : Ty} {b : List Int} {i h : Int} {mv : Bool} {f : Int × Int × Unit × Unit → T_l1Cur × Sl × Unit → Option R} : ocall (.m (.agg [(.int .i64), (.int .i64), (.own 1)])) [(.box sh_l1Cur), (.lrow 3 true)] (some (.agg [.d (.int .i64 t.ts.1), .d (.int .i64 t.ts.2.1), .own 1], [.box (LS.encs sh_l1Cur (cur b i h)), .lrow 3 t.ts.2.2.1.1 mv t.ts.2.2.1.2])) f = f (t.ts.1, t.ts.2.1, (), ()) (cur b i h, t.ts.2.2.1, ()) := by
  refine ocall_t (s := .m (.agg [(.int .i64), (.int .i64), (.own 1)])) (m := [(.box sh_l1Cur), (.lrow 3 true)]) (t := (t.ts.1, t.ts.2.1, (), ())) (u := (cur b i h, t.ts.2.2.1, ())) rfl rfl ?_
  cases mv <;> rfl
theorem DT.leaf {b : List Int} {N : Nat} {k n i h : Int} (hi : 0 ≤ i) : DT b N (some ((.agg [(.d (.int .i64 k)), (.d (.int .i64 n)), (.own 1)]), [(.box (LS.encs sh_l1Cur (cur b i h))), (.lrow 3 0 false [])])) :=
  ⟨.mk k n [], i, h, false, by rw [Ty.ts_mk]; rfl, by rw [Ty.size_mk]; simp, hi⟩
theorem DT.mk {b : List Int} {N : Nat} {k n i h : Int} {mv : Bool} {l : List Ty} (hi : 0 ≤ i) (hs : l.length + (l.map Ty.size).sum ≤ N) : DT b N (some ((.agg [(.d (.int .i64 k)), (.d (.int .i64 n)), (.own 1)]), [(.box (LS.encs sh_l1Cur (cur b i h))), (.lrow 3 (tys l).1 mv (tys l).2)])) :=
  ⟨.mk k n l, i, h, mv, by rw [Ty.ts_mk], by rw [Ty.size_mk]; exact hs, hi⟩

theorem l3ty_ok (b : List Int) (hb : lenOk b) : ∀ (m : Nat) (deep vars datas i h : Int), deep ≤ m → -1000 ≤ deep → deep ≤ 1000 → vars ≤ 1000 → datas ≤ 1000 → 0 ≤ i → DT b (2 ^ (m + 1) - 2) (spec_l3ty deep vars datas (cur b i h)) := by
  intro m
  induction m with
  | zero =>
    intro deep vars datas i h hd hd0 hd2 hv hda hi
    obtain ⟨r, i1, h1, e1, r0, r1, _, q1⟩ := l1Below_ok 9 b i h hi hb (by omega)
    obtain ⟨s, i2, h2, e2, s0, s1, _, q2⟩ := l1Below_ok 4 b i1 h1 q1 hb (by omega)
    have s1 := s1 (by omega)
    rw [spec_l3ty_eq, e1, ocall_cur, oite_dec, if_pos (by omega)]
    simp only
    rw [e2, ocall_cur, spec_l3ty_j1_eq]
    simp only [oite_if, beq_iff_eq, decide_eq_true_eq]
    by_cases c0 : s = 0
    · rw [if_pos c0]; exact .leaf q2
    rw [if_neg c0]
    by_cases c1 : s = 1
    · rw [if_pos c1]; exact .leaf q2
    rw [if_neg c1]
    by_cases c2 : s = 2
    · rw [if_pos c2]; exact .leaf q2
    rw [if_neg c2, if_pos (show s = 3 by omega)]
    by_cases cv : vars > 0
    · rw [if_pos cv]
      obtain ⟨u, i3, h3, e3, _, _, _, q3⟩ := l1Below_ok vars b i2 h2 q2 hb (by omega)
      rw [e3, ocall_cur]; exact .leaf q3
    · rw [if_neg cv]; exact .leaf q2
  | succ m ih =>
    intro deep vars datas i h hd hd0 hd2 hv hda hi
    have hpow : 2 ^ (m + 1 + 1) = 2 * 2 ^ (m + 1) := by rw [Nat.pow_succ]; omega
    have hp1 : 2 ≤ 2 ^ (m + 1) := by rw [Nat.pow_succ]; have := Nat.one_le_two_pow (n := m); omega
    have j2 : ∀ (i h : Int), 0 ≤ i → 0 < deep → DT b (2 ^ (m + 1 + 1) - 2) (spec_l3ty_j2 datas vars deep (cur b i h) ((0 : Int), (0 : Int), (0, []), ())) := by
      intro i h hi hdp
      rw [spec_l3ty_j2_eq, oite_dec]
      by_cases cd : datas > 0
      · rw [if_pos cd]
        obtain ⟨u, i3, h3, e3, _, _, _, q3⟩ := l1Below_ok datas b i h hi hb (by omega)
        rw [e3, ocall_cur]
        simp only [List.length_cons, List.length_nil, Nat.zero_add, Nat.reduceAdd]
        obtain ⟨t, i4, h4, mv, e4, z4, q4⟩ := ih (deep - 1) vars datas i3 h3 (by omega) (by omega) (by omega) hv hda q3
        rw [w64_id (by omega) (by omega), e4, ocall_dt]
        exact (DT.mk (l := [t]) q4 (by simp; omega))
      · rw [if_neg cd]; exact .leaf hi
    have one : ∀ (k i h : Int), 0 ≤ i → 0 < deep → ∀ (F : (Int × Int × Unit × Unit) → (T_l1Cur × Sl × Unit) → Res), (∀ (t : Ty) (i h : Int), 0 ≤ i → t.size ≤ 2 ^ (m + 1) - 2 → DT b (2 ^ (m + 1 + 1) - 2) (F (t.ts.1, t.ts.2.1, (), ()) (cur b i h, t.ts.2.2.1, ()))) → DT b (2 ^ (m + 1 + 1) - 2) (ocall (.m (.agg [(.int .i64), (.int .i64), (.own 1)])) [(.box sh_l1Cur), (.lrow 3 true)] (spec_l3ty (w64 (deep - 1)) vars datas (cur b i h)) F) := by
      intro k i h hi hdp F hF
      obtain ⟨t, i4, h4, mv, e4, z4, q4⟩ := ih (deep - 1) vars datas i h (by omega) (by omega) (by omega) hv hda hi
      rw [w64_id (by omega) (by omega), e4, ocall_dt]
      exact hF t i4 h4 q4 z4
    have j1 : ∀ (s i h : Int), 0 ≤ i → 0 ≤ s → (deep ≤ 0 → s < 4) → s < 9 → DT b (2 ^ (m + 1 + 1) - 2) (spec_l3ty_j1 vars datas deep s (cur b i h) ((0 : Int), (0 : Int), (0, []), ())) := by
      intro s i h hi hs hs4 hs9
      rw [spec_l3ty_j1_eq]
      simp only [oite_if, beq_iff_eq, decide_eq_true_eq, List.length_cons, List.length_nil, Nat.zero_add, Nat.reduceAdd]
      by_cases c0 : s = 0
      · rw [if_pos c0]; exact .leaf hi
      rw [if_neg c0]
      by_cases c1 : s = 1
      · rw [if_pos c1]; exact .leaf hi
      rw [if_neg c1]
      by_cases c2 : s = 2
      · rw [if_pos c2]; exact .leaf hi
      rw [if_neg c2]
      by_cases c3 : s = 3
      · rw [if_pos c3]
        by_cases cv : vars > 0
        · rw [if_pos cv]
          obtain ⟨u, i3, h3, e3, _, _, _, q3⟩ := l1Below_ok vars b i h hi hb (by omega)
          rw [e3, ocall_cur]; exact .leaf q3
        · rw [if_neg cv]; exact .leaf hi
      rw [if_neg c3]
      by_cases c4 : s = 4
      · rw [if_pos c4]
        refine one 0 i h hi (by omega) _ (fun t i h hi hz => ?_)
        simp only
        refine one 0 i h hi (by omega) _ (fun u i h hi hz2 => ?_)
        exact (DT.mk (l := [t, u]) hi (by simp; omega))
      rw [if_neg c4]
      have j3 : ∀ c : Bool, DT b (2 ^ (m + 1 + 1) - 2) (spec_l3ty_j3 datas vars deep s c (cur b i h) ((0 : Int), (0 : Int), (0, []), ())) := by
        intro c
        rw [spec_l3ty_j3_eq]
        simp only [oite_if, beq_iff_eq, decide_eq_true_eq, List.length_cons, List.length_nil, Nat.zero_add, Nat.reduceAdd]
        by_cases cc : c = true
        · rw [if_pos cc]
          refine one 0 i h hi (by omega) _ (fun t i h hi hz => ?_)
          simp only
          refine one 0 i h hi (by omega) _ (fun u i h hi hz2 => ?_)
          exact (DT.mk (l := [t, u]) hi (by simp; omega))
        rw [if_neg cc]
        by_cases c7 : s = 7
        · rw [if_pos c7]
          refine one 0 i h hi (by omega) _ (fun t i h hi hz => ?_)
          exact (DT.mk (l := [t]) hi (by simp; omega))
        · rw [if_neg c7]
          exact j2 i h hi (by omega)
      repeat' split
      all_goals exact j3 _
    obtain ⟨r, i1, h1, e1, r0, r1, _, q1⟩ := l1Below_ok 9 b i h hi hb (by omega)
    have r1 := r1 (by omega)
    rw [spec_l3ty_eq, e1, ocall_cur, oite_dec]
    simp only
    by_cases hd1 : deep ≤ 0
    · rw [if_pos hd1]
      obtain ⟨s, i2, h2, e2, s0, s1, _, q2⟩ := l1Below_ok 4 b i1 h1 q1 hb (by omega)
      have s1 := s1 (by omega)
      rw [e2, ocall_cur]
      exact j1 s i2 h2 q2 s0 (fun _ => s1) (by omega)
    · rw [if_neg hd1]
      exact j1 r i1 h1 q1 r0 (fun h => absurd h hd1) r1

theorem ts_k (t : Ty) : (t.ts.1, t.ts.2.1, t.ts.2.2.1, ()) = t.ts := rfl
theorem PT0.call {x : Res} {t : Ty} (h : ∃ mv, x = some (.agg [.d (.int .i64 t.ts.1), .d (.int .i64 t.ts.2.1), .own 0], [.lrow 3 t.ts.2.2.1.1 mv t.ts.2.2.1.2])) {R : Type} {f : Int × Int × Unit × Unit → Sl × Unit → Option R} : ocall (.m (.agg [.int .i64, .int .i64, .own 0])) [.lrow 3 true] x f = f (t.ts.1, t.ts.2.1, (), ()) (t.ts.2.2.1, ()) := PT.call h
/-- A type is copied. -/
theorem l3copyO_ok (t : Ty) : t.size ≤ 2000000 → PT (spec_l3copy t.ts) t := by
  induction t using Ty.ind with
  | h k n l ih =>
    intro hs
    rw [Ty.size_mk] at hs
    have key : ∀ (q pre : List Ty) (x y : Int) (z : Sl), pre ++ q = l → PT (spec_l3copy_j1v1 (pre.length : Int) k n (k, n, tys l, ()) x y (tys pre) z) (.mk k n l) := by
      intro q
      induction q with
      | nil =>
        intro pre x y z hp
        rw [List.append_nil] at hp; subst hp
        rw [spec_l3copy_j1v1_eq, oite_dec, if_neg (by simp [tys, sl])]
        exact ⟨true, by rw [Ty.ts_mk]⟩
      | cons a q ihq =>
        intro pre x y z hp
        have hm := mem_mid hp
        have hlt := len_mid hp
        have hsz := sizes_mem (f := Ty.size) hm
        rw [spec_l3copy_j1v1_eq, oite_dec, if_pos (show (pre.length : Int) < ((tys l).1 : Nat) by show (pre.length : Int) < (l.length : Nat); omega)]
        simp only
        rw [show tys l = sl (sh := sh_Ty) Ty.ts l from rfl, oat_mid hp rfl, (ih a hm (by omega)).call, oguard_dec (by show (pre.length + 1) * 40 ≤ _; omega), olet_eq]
        simp only [ts_k, tys_app]
        rw [w64_succ (by omega)]
        have := ihq (pre ++ [a]) x y z (by simpa using hp)
        rw [List.length_append, List.length_singleton] at this
        exact this
    rw [spec_l3copy_eq, Ty.ts_mk]
    cases l with
    | nil => rw [spec_l3copy_j1_eq, oite_dec, if_neg (by simp [tys, sl])]; exact ⟨false, by rw [Ty.ts_mk]; rfl⟩
    | cons a q =>
      have hm : a ∈ a :: q := by simp
      have hsz := sizes_mem (f := Ty.size) hm
      rw [spec_l3copy_j1_eq, oite_dec, if_pos (by simp [tys, sl])]
      simp only
      rw [show tys (a :: q) = sl (sh := sh_Ty) Ty.ts (a :: q) from rfl, oat_hd rfl, (ih a hm (by omega)).call, oguard_dec (by decide), olet_eq]
      have := key q [a] 0 0 (0, []) rfl
      exact this

theorem two_eq (t u : Ty) : ((2 : Nat), ((vDs (LS.encs sh_Ty (t.ts.1, t.ts.2.1, t.ts.2.2.1, ()))) :: ((vDs (LS.encs sh_Ty (u.ts.1, u.ts.2.1, u.ts.2.2.1, ()))) :: []))) = tys [t, u] := rfl
theorem one_eq (t : Ty) : ((1 : Nat), ((vDs (LS.encs sh_Ty (t.ts.1, t.ts.2.1, t.ts.2.2.1, ()))) :: [])) = tys [t] := rfl
section
variable (b : List Int)
theorem j5_ok {N : Nat} {i h k n x y : Int} {l : List Ty} {z : Sl} (hi : 0 ≤ i) (hs : l.length + (l.map Ty.size).sum ≤ N) : DT b N (spec_l3any_j5 (cur b i h) x y k n z (tys l)) := by
  rw [spec_l3any_j5_eq]; exact .mk hi hs
theorem j5v_ok {N : Nat} {i h k n x y : Int} {l : List Ty} {z : Sl} (hi : 0 ≤ i) (hs : l.length + (l.map Ty.size).sum ≤ N) : DT b N (spec_l3any_j5v1 (cur b i h) x y k n z (tys l)) := by
  rw [spec_l3any_j5v1_eq]; exact .mk hi hs
theorem tys_rep (n : Nat) : (n, List.replicate n (vDs (LS.encs sh_Ty ((0 : Int), (0 : Int), (0, []), ())))) = tys (List.replicate n noT) := by
  refine Prod.ext ?_ ?_
  · simp [tys, sl]
  · have : vDs (LS.encs sh_Ty ((0 : Int), (0 : Int), (0, []), ())) = vDs (LS.encs sh_Ty noT.ts) := by rw [noT, Ty.ts_mk]; rfl
    rw [this]
    simp [tys, sl]
theorem rep_size (n : Nat) : ((List.replicate n noT).map Ty.size).sum = 0 := by
  have : noT.size = 0 := by rw [noT, Ty.size_mk]; rfl
  rw [List.map_replicate, this]
  simp
variable (hb : lenOk b)
include hb
theorem l3any_end (F : T_l1Cur → Int → Int → Int → Int → Sl → Sl → Res) (G : T_l1Cur → Int → Int → Int → Int → Sl → Sl → Res)
    (hG : ∀ (i h k n x y : Int) (l : List Ty) (z : Sl), 0 ≤ i → l.length + (l.map Ty.size).sum ≤ 4002 → DT b 4002 (G (cur b i h) x y k n z (tys l)))
    (hF : ∀ x0 x1 x2 x3 x4 x5 x6, F x0 x1 x2 x3 x4 x5 x6 = ocall (.m (.one .bool)) [(.box sh_l1Cur)] (spec_l1Once (15 : Int) x0) fun (r16 : Bool) (m17 : (T_l1Cur × Unit)) =>
      oite r16
        (ocall (.m (.one (.int .i64))) [(.box sh_l1Cur)] (spec_l1Below (6 : Int) m17.1) fun (r18 : Int) (m19 : (T_l1Cur × Unit)) =>
        oite (r18 == (0 : Int))
          (ocall (.m (.one (.int .i64))) [(.box sh_l1Cur)] (spec_l1PickInt (4, (((D.int .i64 (-1 : Int)) :: []) :: (((D.int .i64 (8 : Int)) :: []) :: (((D.int .i64 (3 : Int)) :: []) :: (((D.int .i64 (5 : Int)) :: []) :: []))))) m19.1) fun (r20 : Int) (m21 : (T_l1Cur × Unit)) =>
          G m21.1 x1 x2 r20 x4 x5 x6)
          (oite (r18 == (1 : Int))
            (ocall (.m (.one (.int .i64))) [(.box sh_l1Cur)] (spec_l1PickInt (4, (((D.int .i64 (-1 : Int)) :: []) :: (((D.int .i64 (1 : Int)) :: []) :: (((D.int .i64 (20 : Int)) :: []) :: (((D.int .i64 (100000 : Int)) :: []) :: []))))) m19.1) fun (r22 : Int) (m23 : (T_l1Cur × Unit)) =>
            G m23.1 x1 x2 x3 r22 x5 x6)
            (oite (r18 == (2 : Int))
              (oguard (decide (((x6.1 + 1) * 40) ≤ 140737488351232)) (
              olet (x6.2 ++ (((D.int .i64 (0 : Int)) :: ((D.int .i64 (0 : Int)) :: ((D.sl false 3 0 []) :: []))) :: [])) fun (e24 : (List (List D))) =>
              spec_l3any_j5 m19.1 x1 x2 x3 x4 x5 ((x6.1 + 1), e24)))
              (oite (r18 == (3 : Int))
                (ocall (.m (.one (.int .i64))) [(.box sh_l1Cur)] (spec_l1Below (2 : Int) m19.1) fun (r25 : Int) (m26 : (T_l1Cur × Unit)) =>
                spec_l3any_j5v1 m26.1 x1 x2 (7 : Int) (w64 ((100000 : Int) - r25)) x5 (0, []))
                (oite (r18 == (4 : Int))
                  (ocall (.m (.one (.int .i64))) [(.box sh_l1Cur)] (spec_l1Below (2 : Int) m19.1) fun (r27 : Int) (m28 : (T_l1Cur × Unit)) =>
                  ocall (.m (.one (.int .i64))) [(.box sh_l1Cur)] (spec_l1Below (5 : Int) m28.1) fun (r29 : Int) (m30 : (T_l1Cur × Unit)) =>
                  oguard (decide (((0 : Int) ≤ r29) ∧ ((r29 = r29) ∧ ((r29 * (40 : Int)) ≤ (140737488351232 : Int))))) (
                  olet (List.replicate (Int.toNat r29) (vDs (LS.encs sh_Ty ((0 : Int), (0 : Int), (0, []), ())))) fun (e31 : (List (List D))) =>
                  spec_l3any_j5v1 m30.1 x1 x2 (6 : Int) (w64 ((20 : Int) - r27)) x5 ((Int.toNat r29), e31)))
                  (spec_l3any_j5v1 m19.1 x1 x2 (4 : Int) (0 : Int) x5 (2, ((vDs (LS.encs sh_Ty (x3, x4, x6, ()))) :: (((D.int .i64 (9 : Int)) :: ((D.int .i64 (0 : Int)) :: ((D.sl false 3 0 []) :: []))) :: [])))))))))
        (G m17.1 x1 x2 x3 x4 x5 x6))
    (i h x y : Int) (t : Ty) (z : Sl) (hi : 0 ≤ i) (hs : t.size ≤ 4000) : DT b 4002 (F (cur b i h) x y t.ts.1 t.ts.2.1 z t.ts.2.2.1) := by
  rw [hF]
  obtain ⟨r, i1, h1, e1, q1⟩ := l1Once_ok 15 b i h hi hb (by omega)
  rw [e1, oite_if]
  by_cases c : r = true
  rotate_left
  · rw [if_neg c]
    obtain ⟨k, n, l⟩ := t
    rw [Ty.size_mk] at hs
    rw [Ty.ts_mk]
    exact hG i1 h1 k n x y l z q1 (by omega)
  rw [if_pos c]
  obtain ⟨k, n, l⟩ := t
  rw [Ty.size_mk] at hs
  rw [Ty.ts_mk]
  obtain ⟨s, i2, h2, e2, s0, s1, _, q2⟩ := l1Below_ok 6 b i1 h1 q1 hb (by omega)
  simp only
  rw [e2, ocall_cur]
  simp only [oite_if, beq_iff_eq]
  by_cases c0 : s = 0
  · rw [if_pos c0]
    obtain ⟨u, i3, h3, e3, _, q3⟩ := l1PickInt_ok [-1, 8, 3, 5] b i2 h2 q2 hb (by decide) (by decide)
    have e3 : spec_l1PickInt (4, [[D.int .i64 (-1)], [D.int .i64 8], [D.int .i64 3], [D.int .i64 5]]) (cur b i2 h2) = _ := e3
    rw [e3, ocall_cur]
    exact hG i3 h3 u n x y l z q3 (by omega)
  rw [if_neg c0]
  by_cases c1 : s = 1
  · rw [if_pos c1]
    obtain ⟨u, i3, h3, e3, _, q3⟩ := l1PickInt_ok [-1, 1, 20, 100000] b i2 h2 q2 hb (by decide) (by decide)
    have e3 : spec_l1PickInt (4, [[D.int .i64 (-1)], [D.int .i64 1], [D.int .i64 20], [D.int .i64 100000]]) (cur b i2 h2) = _ := e3
    rw [e3, ocall_cur]
    exact hG i3 h3 k u x y l z q3 (by omega)
  rw [if_neg c1]
  by_cases c2 : s = 2
  · rw [if_pos c2, oguard_dec (by show (l.length + 1) * 40 ≤ _; omega), olet_eq]
    have e : ((tys l).1 + 1, (tys l).2 ++ (((D.int .i64 (0 : Int)) :: ((D.int .i64 (0 : Int)) :: ((D.sl false 3 0 []) :: []))) :: [])) = tys (l ++ [noT]) := by
      rw [← tys_app, noT, Ty.ts_mk]; rfl
    rw [e]
    have hz : noT.size = 0 := by rw [noT, Ty.size_mk]; rfl
    exact j5_ok b q2 (by simp only [List.length_append, List.map_append, List.sum_append, List.length_singleton, List.map_cons, List.map_nil, List.sum_cons, List.sum_nil]; omega)
  rw [if_neg c2]
  by_cases c3 : s = 3
  · rw [if_pos c3]
    obtain ⟨u, i3, h3, e3, _, _, _, q3⟩ := l1Below_ok 2 b i2 h2 q2 hb (by omega)
    rw [e3, ocall_cur]
    exact j5v_ok b (l := []) q3 (by simp)
  rw [if_neg c3]
  by_cases c4 : s = 4
  · rw [if_pos c4]
    obtain ⟨u, i3, h3, e3, _, _, _, q3⟩ := l1Below_ok 2 b i2 h2 q2 hb (by omega)
    rw [e3, ocall_cur]
    simp only
    obtain ⟨v, i4, h4, e4, v0, v1, _, q4⟩ := l1Below_ok 5 b i3 h3 q3 hb (by omega)
    have v1 := v1 (by omega)
    rw [e4, ocall_cur, oguard_dec (by refine ⟨v0, ?_, by omega⟩; trivial), olet_eq]
    simp only
    rw [tys_rep]
    exact j5v_ok b q4 (by rw [List.length_replicate, rep_size]; omega)
  rw [if_neg c4]
  have e : ((2 : Nat), ((vDs (LS.encs sh_Ty (k, n, tys l, ()))) :: (((D.int .i64 (9 : Int)) :: ((D.int .i64 (0 : Int)) :: ((D.sl false 3 0 []) :: []))) :: []))) = tys [.mk k n l, .mk 9 0 []] := by
    simp only [tys, sl, List.length_cons, List.length_nil, List.map_cons, List.map_nil, Ty.ts_mk]
    rfl
  rw [e]
  refine j5v_ok b q2 ?_
  simp only [List.length_cons, List.length_nil, List.map_cons, List.map_nil, List.sum_cons, List.sum_nil, Ty.size_mk]
  omega

theorem j3_ok (i h x y : Int) (t : Ty) (z : Sl) (hi : 0 ≤ i) (hs : t.size ≤ 4000) : DT b 4002 (spec_l3any_j3 (cur b i h) x y t.ts.1 t.ts.2.1 z t.ts.2.2.1) :=
  l3any_end b hb spec_l3any_j3 spec_l3any_j5 (fun i h k n x y l z hi hl => j5_ok b hi hl) spec_l3any_j3_eq i h x y t z hi hs
theorem j3v_ok (i h x y : Int) (t : Ty) (z : Sl) (hi : 0 ≤ i) (hs : t.size ≤ 4000) : DT b 4002 (spec_l3any_j3v1 (cur b i h) x y t.ts.1 t.ts.2.1 z t.ts.2.2.1) :=
  l3any_end b hb spec_l3any_j3v1 spec_l3any_j5v1 (fun i h k n x y l z hi hl => j5v_ok b hi hl) spec_l3any_j3v1_eq i h x y t z hi hs
theorem j4v_ok : ∀ (m j : Nat) (n i h x y : Int) (t : Ty) (z : Sl), (j : Int) + m = n ∨ n ≤ j ∧ m = 0 → n ≤ 10 → 0 ≤ i → t.size + 2 ≤ 62 * 2 ^ (6 - m) → m ≤ 6 → DT b 4002 (spec_l3any_j4v1 j n (cur b i h) t.ts.1 t.ts.2.1 x y t.ts.2.2.1 z)
  | 0, j, n, i, h, x, y, t, z, hn, hj, hi, hs, hm => by
    rw [spec_l3any_j4v1_eq, oite_dec, if_neg (by omega)]
    exact j3v_ok b hb i h x y t z hi (by simp at hs; omega)
  | m + 1, j, n, i, h, x, y, t, z, hn, hj, hi, hs, hm => by
    have hp : 2 * 2 ^ (6 - (m + 1)) = 2 ^ (6 - m) := by rw [← Nat.pow_succ']; congr 1; omega
    have hp2 : 2 ^ (6 - (m + 1)) ≤ 2 ^ 6 := Nat.pow_le_pow_right (by omega) (by omega)
    rw [spec_l3any_j4v1_eq, oite_dec, if_pos (by omega)]
    simp only [ts_k]
    rw [(l3copyO_ok t (by omega)).call, osame_t, (l3copyO_ok t (by omega)).call, two_eq, w64_succ (by omega)]
    have := j4v_ok m (j + 1) n i h x y (.mk 3 0 [t, t]) z (by omega) (by omega) hi (by rw [Ty.size_mk]; simp only [List.length_cons, List.length_nil, List.map_cons, List.map_nil, List.sum_cons, List.sum_nil]; omega) (by omega)
    rw [Ty.ts_mk] at this
    exact this
theorem j4_ok (n i h x y : Int) (t : Ty) (z : Sl) (hn : n ≤ 6) (hi : 0 ≤ i) (hs : t.size ≤ 60) : DT b 4002 (spec_l3any_j4 0 n (cur b i h) t.ts.1 t.ts.2.1 x y t.ts.2.2.1 z) := by
  rw [spec_l3any_j4_eq, oite_dec]
  by_cases h0 : 0 < n
  · rw [if_pos h0]
    simp only [ts_k]
    rw [(l3copyO_ok t (by omega)).call, osame_t, (l3copyO_ok t (by omega)).call, two_eq]
    have hm : 6 - (n - 1).toNat ≥ 1 := by omega
    have hp2 : 2 ^ 1 ≤ 2 ^ (6 - (n - 1).toNat) := Nat.pow_le_pow_right (by omega) hm
    have := j4v_ok b hb (n - 1).toNat 1 n i h x y (.mk 3 0 [t, t]) z (by omega) (by omega) hi (by rw [Ty.size_mk]; simp only [List.length_cons, List.length_nil, List.map_cons, List.map_nil, List.sum_cons, List.sum_nil]; omega) (by omega)
    rw [Ty.ts_mk] at this
    exact this
  · rw [if_neg h0]
    exact j3_ok b hb i h x y t z hi (by omega)
theorem j1_ok (i h x y : Int) (t : Ty) (z : Sl) (hi : 0 ≤ i) (hs : t.size ≤ 60) : DT b 4002 (spec_l3any_j1 (cur b i h) t.ts.1 t.ts.2.1 x y t.ts.2.2.1 z) := by
  obtain ⟨r, i1, h1, e1, q1⟩ := l1Once_ok 20 b i h hi hb (by omega)
  rw [spec_l3any_j1_eq, e1, oite_if]
  by_cases c : r = true
  · rw [if_pos c]
    obtain ⟨s, i2, h2, e2, s0, s1, _, q2⟩ := l1Below_ok 7 b i1 h1 q1 hb (by omega)
    have s1 := s1 (by omega)
    simp only
    rw [e2, ocall_cur]
    exact j4_ok b hb s i2 h2 x y t z (by omega) q2 hs
  · rw [if_neg c]
    exact j3_ok b hb i1 h1 x y t z q1 (by omega)
theorem j1v_ok (i h x y : Int) (t : Ty) (z : Sl) (hi : 0 ≤ i) (hs : t.size ≤ 60) : DT b 4002 (spec_l3any_j1v1 (cur b i h) t.ts.1 t.ts.2.1 x y t.ts.2.2.1 z) := by
  obtain ⟨r, i1, h1, e1, q1⟩ := l1Once_ok 20 b i h hi hb (by omega)
  rw [spec_l3any_j1v1_eq, e1, oite_if]
  by_cases c : r = true
  · rw [if_pos c]
    obtain ⟨s, i2, h2, e2, s0, s1, _, q2⟩ := l1Below_ok 7 b i1 h1 q1 hb (by omega)
    have s1 := s1 (by omega)
    simp only
    rw [e2, ocall_cur]
    have hm : (6 : Nat) - s.toNat ≥ 0 := by omega
    have hp2 : 2 ^ 0 ≤ 2 ^ (6 - s.toNat) := Nat.pow_le_pow_right (by omega) hm
    have := j4v_ok b hb s.toNat 0 s i2 h2 x y t z (by omega) (by omega) q2 (by omega) (by omega)
    exact this
  · rw [if_neg c]
    exact j3v_ok b hb i1 h1 x y t z q1 (by omega)
theorem j2v_ok : ∀ (m j : Nat) (n i h x y : Int) (t : Ty) (z : Sl), (j : Int) + m = n ∨ n ≤ j ∧ m = 0 → n ≤ 20 → 0 ≤ i → t.size + m ≤ 60 → DT b 4002 (spec_l3any_j2v1 j n (cur b i h) t.ts.1 t.ts.2.1 x y t.ts.2.2.1 z)
  | 0, j, n, i, h, x, y, t, z, hn, hj, hi, hs => by
    rw [spec_l3any_j2v1_eq, oite_dec, if_neg (by omega)]
    exact j1v_ok b hb i h x y t z hi (by omega)
  | m + 1, j, n, i, h, x, y, t, z, hn, hj, hi, hs => by
    rw [spec_l3any_j2v1_eq, oite_dec, if_pos (by omega), one_eq, w64_succ (by omega)]
    have := j2v_ok m (j + 1) n i h x y (.mk 5 0 [t]) z (by omega) (by omega) hi (by rw [Ty.size_mk]; simp only [List.length_cons, List.length_nil, List.map_cons, List.map_nil, List.sum_cons, List.sum_nil]; omega)
    rw [Ty.ts_mk] at this
    exact this
theorem l3any_ok (i h : Int) (hi : 0 ≤ i) : DT b 4002 (spec_l3any (cur b i h)) := by
  obtain ⟨r, i1, h1, e1, r0, r1, _, q1⟩ := l1Below_ok 4 b i h hi hb (by omega)
  have r1 := r1 (by omega)
  rw [spec_l3any_eq, e1, ocall_cur]
  simp only [List.length_cons, List.length_nil, Nat.zero_add, Nat.reduceAdd]
  rw [w64_id (by omega) (by omega)]
  obtain ⟨t, i2, h2, mv, e2, z2, q2⟩ := l3ty_ok b hb 4 (1 + r) 4 3 i1 h1 (by omega) (by omega) (by omega) (by omega) (by omega) q1
  rw [e2, ocall_dt]
  simp only
  obtain ⟨s, i3, h3, e3, q3⟩ := l1Once_ok 12 b i2 h2 q2 hb (by omega)
  rw [e3, oite_if]
  by_cases c : s = true
  · rw [if_pos c]
    obtain ⟨u, i4, h4, e4, u0, u1, _, q4⟩ := l1Below_ok 12 b i3 h3 q3 hb (by omega)
    have u1 := u1 (by omega)
    simp only
    rw [e4, ocall_cur, spec_l3any_j2_eq, oite_dec]
    by_cases hu : 0 < u
    · rw [if_pos hu, one_eq]
      have := j2v_ok b hb (u - 1).toNat 1 u i4 h4 0 0 (.mk 5 0 [t]) (0, []) (by omega) (by omega) q4 (by rw [Ty.size_mk]; simp only [List.length_cons, List.length_nil, List.map_cons, List.map_nil, List.sum_cons, List.sum_nil]; omega)
      rw [Ty.ts_mk] at this
      exact this
    · rw [if_neg hu]
      exact j1_ok b hb i4 h4 0 0 t (0, []) q4 (by omega)
  · rw [if_neg c]
    exact j1_ok b hb i3 h3 0 0 t (0, []) q3 (by omega)
end
end Go.Ev.Q
