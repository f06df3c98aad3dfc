import Derived.Test.YtkaolpcfpnckcaaGreatEvCon
import Derived.Test.YtkaolpcfpnckcaaGreatPOf
import Derived.KernelRfl
set_option linter.unusedVariables false
set_option linter.unusedSimpArgs false
/-
  Sorted and compacted: just what is inserted one by one. In plain.
-/
namespace Go.Ev.Q
open Go Go.Lib

def insR : List Int → Int → List Int
  | [],n => [n]
  | a :: t,n => if a < n then a :: insR t n else if a = n then a :: t else n :: a :: t
theorem insR_len (l : List Int) (n : Int) : (insR l n).length ≤ l.length + 1 := by
  induction l with
  | nil => simp [insR]
  | cons a t ih =>
    rw [insR]
    split
    · simp; exact ih
    · split <;> simp
theorem insR_mem (l : List Int) (n x : Int) : x ∈ insR l n ↔ x = n ∨ x ∈ l := by
  induction l with
  | nil => simp [insR]
  | cons a t ih =>
    rw [insR]
    split
    · rw [List.mem_cons,ih,List.mem_cons]
      constructor
      · rintro (h | h | h)
        · exact .inr (.inl h)
        · exact .inl h
        · exact .inr (.inr h)
      · rintro (h | h | h)
        · exact .inr (.inl h)
        · exact .inl h
        · exact .inr (.inr h)
    · split
      · rename_i h
        subst h
        rw [List.mem_cons]
        constructor
        · exact fun h => .inr h
        · rintro (h | h)
          · exact .inl h
          · exact h
      · rw [List.mem_cons]
theorem insR_lt (l : List Int) (n : Int) (h : l.Pairwise (· < ·)) : (insR l n).Pairwise (· < ·) := by
  induction l with
  | nil => simp [insR]
  | cons a t ih =>
    rw [List.pairwise_cons] at h
    rw [insR]
    split
    · rename_i c
      rw [List.pairwise_cons]
      refine ⟨fun b hb => ?_,ih h.2⟩
      rcases (insR_mem t n b).1 hb with h1 | h1
      · rw [h1]; exact c
      · exact h.1 b h1
    · split
      · exact List.pairwise_cons.2 h
      · rename_i c1 c2
        rw [List.pairwise_cons]
        refine ⟨fun b hb => ?_,List.pairwise_cons.2 h⟩
        rcases List.mem_cons.1 hb with h1 | h1
        · omega
        · have := h.1 b h1; omega
theorem fold_ins (v : List Int) : ∀ l : List Int,l.Pairwise (· < ·) → (v.foldl insR l).Pairwise (· < ·) ∧ ∀ x,x ∈ v.foldl insR l ↔ x ∈ v ∨ x ∈ l := by
  induction v with
  | nil => intro l h; exact ⟨h,fun x => by simp⟩
  | cons a t ih =>
    intro l h
    obtain ⟨h1,h2⟩ := ih (insR l a) (insR_lt l a h)
    refine ⟨h1,fun x => ?_⟩
    rw [List.foldl_cons,h2,insR_mem,List.mem_cons]
    constructor
    · rintro (h | h | h)
      · exact .inl (.inr h)
      · exact .inl (.inl h)
      · exact .inr h
    · rintro ((h | h) | h)
      · exact .inr (.inl h)
      · exact .inl h
      · exact .inr (.inr h)
theorem fold_len1 (v : List Int) : ∀ l : List Int,(v.foldl insR l).length ≤ l.length + v.length := by
  induction v with
  | nil => intro l; simp
  | cons a t ih =>
    intro l
    have := ih (insR l a)
    have := insR_len l a
    rw [List.foldl_cons,List.length_cons]
    omega
theorem ssorted_ext : ∀ (a b : List Int),a.Pairwise (· < ·) → b.Pairwise (· < ·) → (∀ x,x ∈ a ↔ x ∈ b) → a = b := by
  intro a
  induction a with
  | nil =>
    intro b _ _ h
    cases b with
    | nil => rfl
    | cons y t => exact absurd ((h y).2 List.mem_cons_self) (by simp)
  | cons x t ih =>
    intro b ha hb h
    cases b with
    | nil => exact absurd ((h x).1 List.mem_cons_self) (by simp)
    | cons y s =>
      rw [List.pairwise_cons] at ha hb
      have hx := (h x).1 List.mem_cons_self
      have hy := (h y).2 List.mem_cons_self
      have e : x = y := by
        rcases List.mem_cons.1 hx with h1 | h1
        · exact h1
        · rcases List.mem_cons.1 hy with h2 | h2
          · exact h2.symm
          · have := hb.1 x h1; have := ha.1 y h2; omega
      subst e
      congr 1
      refine ih s ha.2 hb.2 (fun z => ⟨fun hz => ?_,fun hz => ?_⟩)
      · have := ha.1 z hz
        rcases List.mem_cons.1 ((h z).1 (List.mem_cons_of_mem _ hz)) with h1 | h1
        · omega
        · exact h1
      · have := hb.1 z hz
        rcases List.mem_cons.1 ((h z).2 (List.mem_cons_of_mem _ hz)) with h1 | h1
        · omega
        · exact h1

theorem get_arr (zs : List Int) (i : Nat) (h : i < zs.length) : zs.toArray[i]! = zs[i] := by simp [getElem!_pos,h]
theorem compact_mem (zs : List Int) (x : Int) : x ∈ Lib.compact zs ↔ x ∈ zs := by
  unfold Lib.compact Lib.compactUpTo
  constructor
  · intro h
    obtain ⟨i,hi,rfl⟩ := List.mem_map.1 h
    have hi' : i < zs.length := List.mem_range.1 (List.mem_filter.1 hi).1
    show zs.toArray[i]! ∈ zs
    rw [get_arr zs i hi']
    exact List.getElem_mem hi'
  · have go : ∀ i (h : i < zs.length),zs[i] ∈ ((List.range zs.length).filter (keeps zs.toArray)).map (zs.toArray[·]!) := by
      intro i
      induction i using Nat.strongRecOn with
      | _ i ih =>
        intro h
        by_cases c : keeps zs.toArray i = true
        · exact List.mem_map.2 ⟨i,List.mem_filter.2 ⟨List.mem_range.2 h,c⟩,get_arr zs i h⟩
        · unfold keeps at c
          rw [decide_eq_true_iff,not_or,Classical.not_not] at c
          rw [get_arr zs i h,get_arr zs (i - 1) (by omega)] at c
          rw [c.2]
          exact ih (i - 1) (by omega) (by omega)
    intro h
    obtain ⟨i,hi,rfl⟩ := List.mem_iff_getElem.1 h
    exact go i hi
theorem compact_lt (zs : List Int) (h : zs.Pairwise (· ≤ ·)) : (Lib.compact zs).Pairwise (· < ·) := by
  have hm : ∀ i j (hi : i < zs.length) (hj : j < zs.length),i ≤ j → zs[i] ≤ zs[j] := by
    intro i j hi hj hij
    rcases Nat.lt_or_eq_of_le hij with h1 | h1
    · exact List.pairwise_iff_getElem.1 h i j hi hj h1
    · subst h1; exact Int.le_refl _
  unfold Lib.compact Lib.compactUpTo
  rw [List.pairwise_map,List.pairwise_filter]
  refine List.Pairwise.imp_of_mem (fun {i j} hi hj hij => ?_) List.pairwise_lt_range
  intro _ kj
  have hi' := List.mem_range.1 hi
  have hj' := List.mem_range.1 hj
  show zs.toArray[i]! < zs.toArray[j]!
  rw [get_arr zs i hi',get_arr zs j hj']
  unfold keeps at kj
  rw [decide_eq_true_iff,get_arr zs j hj',get_arr zs (j - 1) (by omega)] at kj
  have h1 := hm i (j - 1) hi' (by omega) (by omega)
  have h2 := hm (j - 1) j (by omega) hj' (by omega)
  rcases kj with h3 | h3
  · omega
  · omega
/-- Sorted and compacted: just what is inserted one by one. -/
theorem compact_sort (v : List Int) : Lib.compact (v.mergeSort fun x y => decide (x ≤ y)) = v.foldl insR [] := by
  have hs : (v.mergeSort fun x y => decide (x ≤ y)).Pairwise (· ≤ ·) := by
    have := List.pairwise_mergeSort (le := fun x y : Int => decide (x ≤ y)) (by intro a b c; simp; omega) (by intro a b; simp; omega) v
    exact this.imp (fun h => of_decide_eq_true h)
  obtain ⟨h1,h2⟩ := fold_ins v [] List.Pairwise.nil
  refine ssorted_ext _ _ (compact_lt _ hs) h1 (fun x => ?_)
  rw [compact_mem,List.mem_mergeSort,h2]
  simp
end Go.Ev.Q

/-
  A program's calls: both sides come to the same numbers.
-/
namespace Go.Ev.Q
open Go Go.Ev
set_option maxRecDepth 100000

theorem Sort_eq (x0 : Sl) : slices_Sort_int_int_o x0 = oguard (intsB x0.2 && Nat.ble x0.1 140737488351232) (some (.tup [], [.row 1 x0.1 false false (sortEs x0.2)])) := (evF_eq ..).trans (by kernel_rfl)
theorem Compact_eq (x0 : Sl) : slices_Compact_int_int_o x0 = oguard (intsB x0.2 && Nat.ble x0.1 140737488351232) (some (.own 0, [.row 1 (compN x0.2) false true (compEs x0.2)])) := (evF_eq ..).trans (by kernel_rfl)
theorem ints_es (l : List Int) : (ints l).2 = l.map fun n => [.int .i64 n] := rfl
theorem ints_num (l : List Int) : (ints l).1 = l.length := rfl
theorem intsB_ints (l : List Int) : intsB (ints l).2 = true := by rw [ints_es, intsB, intsD_map]; rfl
theorem sortEs_ints (l : List Int) : sortEs (ints l).2 = (ints (l.mergeSort fun x y => decide (x ≤ y))).2 := by rw [ints_es, sortEs, intsD_map]; rfl
theorem compEs_ints (l : List Int) : compEs (ints l).2 = (ints (Lib.compact l)).2 := by rw [ints_es, compEs, intsD_map]; rfl
theorem compN_ints (l : List Int) : compN (ints l).2 = (ints (Lib.compact l)).1 := by rw [ints_es, compN, intsD_map]; rfl

/-- The calls that an instruction names. -/
def capI (n : Ins) : List Int := if n.op = 31 ∧ n.a ≤ 4 then [n.a] else []
def capB (b : Blk) : List Int := (b.code.map capI).flatten
def capP (bl : List Blk) : List Int := (bl.map capB).flatten
/-- What is left of them. -/
def capG (l : List Int) : Res := some (.own 0, [.row 1 (ints (l.foldl insR [])).1 false true (ints (l.foldl insR [])).2])
theorem sortG (l : List Int) (h : l.length ≤ 1048576) :
    (ocall (.tup []) [(.row 1 false false)] (slices_Sort_int_int_o (ints l)) fun (r1 : Unit) (m2 : (Sl × Unit)) =>
    ocall (.m (.one (.own 0))) [(.row 1 false true)] (slices_Compact_int_int_o m2.1) fun (r3 : Unit) (m4 : (Sl × Unit)) =>
    some ((.own 0), [(.row 1 m4.1.1 false true m4.1.2)])) = capG l := by
  have hb : (intsB (ints l).2 && Nat.ble (ints l).1 140737488351232) = true := by rw [intsB_ints, ints_num, Bool.true_and]; exact Nat.ble_eq_true_of_le (by omega)
  have hm : (l.mergeSort fun x y => decide (x ≤ y)).length = l.length := List.length_mergeSort l
  rw [Sort_eq, oguard_t hb, sortEs_ints]
  have e1 : (ints l).1 = (ints (l.mergeSort fun x y => decide (x ≤ y))).1 := by rw [ints_num, ints_num, hm]
  rw [e1]
  refine Eq.trans (ocall_t (s := .tup []) (m := [(.row 1 false false)]) (t := ()) (u := (ints (l.mergeSort fun x y => decide (x ≤ y)), ())) rfl rfl rfl) ?_
  have hb2 : (intsB (ints (l.mergeSort fun x y => decide (x ≤ y))).2 && Nat.ble (ints (l.mergeSort fun x y => decide (x ≤ y))).1 140737488351232) = true := by rw [intsB_ints, ints_num, hm, Bool.true_and]; exact Nat.ble_eq_true_of_le (by omega)
  rw [Compact_eq, oguard_t hb2, compEs_ints, compN_ints]
  refine Eq.trans (ocall_t (s := .m (.one (.own 0))) (m := [(.row 1 false true)]) (t := ()) (u := (ints (Lib.compact (l.mergeSort fun x y => decide (x ≤ y))), ())) rfl rfl rfl) ?_
  rw [compact_sort]; rfl

theorem ints_app1 (l : List Int) (n : Int) : ((ints l).1 + 1, (ints l).2 ++ ([D.int .i64 n] :: [])) = ints (l ++ [n]) := by simp [ints, sl, vDs, LS.encs, LS.enc, vD]
theorem capI_yes {n : Ins} (h1 : n.op = 31) (h2 : n.a ≤ 4) : capI n = [n.a] := if_pos ⟨h1, h2⟩
theorem capI_no {n : Ins} (h : ¬ (n.op = 31 ∧ n.a ≤ 4)) : capI n = [] := if_neg h

/-- Rounds over instructions that put numbers behind a list. -/
theorem loop_ins {J : Int → Sl → Res} {K : List Int → Res} {code : List Ins} {N : Nat} (hN : N ≤ 1048576)
    (hs : ∀ pre a q l, pre ++ a :: q = code → (l ++ capI a).length ≤ N → J (pre.length : Int) (ints l) = J ((pre.length + 1 : Nat) : Int) (ints (l ++ capI a)))
    (he : ∀ l, l.length ≤ N → J (code.length : Int) (ints l) = K l) : ∀ (q pre : List Ins) (l : List Int), pre ++ q = code → (l ++ (q.map capI).flatten).length ≤ N → J (pre.length : Int) (ints l) = K (l ++ (q.map capI).flatten) := by
  intro q
  induction q with
  | nil =>
    intro pre l hp hl
    simp only [List.append_nil] at hp
    simp only [List.map_nil, List.flatten_nil, List.append_nil] at hl ⊢
    rw [hp]; exact he l hl
  | cons a q ih =>
    intro pre l hp hl
    simp only [List.map_cons, List.flatten_cons] at hl ⊢
    rw [← List.append_assoc] at hl ⊢
    rw [hs pre a q l hp (by rw [List.length_append] at hl; omega)]
    have := ih (pre ++ [a]) (l ++ capI a) (by simpa using hp) hl
    simpa using this
end Go.Ev.Q

/-
  A program's calls: both sides.
-/
namespace Go.Ev.Q
open Go Go.Ev

section
variable {bl : List Blk} (hbl : bl.length ≤ 1048576) (hcd : ∀ b ∈ bl, b.code.length ≤ 1048576) {N : Nat} (hN : N ≤ 1048576)
include hbl hcd hN
theorem capsI1 : ∀ (q pre : List Blk) (l : List Int), pre ++ q = bl → (l ++ capP q).length ≤ N → impl_capsOf_j1v1 (pre.length : Int) (blocks bl) ((bl.length : Nat) : Int) (ints l) = capG (l ++ capP q) := by
  intro q
  induction q with
  | nil =>
    intro pre l hp hl
    simp only [List.append_nil] at hp
    subst hp
    rw [impl_capsOf_j1v1_eq, oite_dec, if_neg (by omega)]
    simp only [capP, List.map_nil, List.flatten_nil, List.append_nil] at hl ⊢
    exact sortG l (by omega)
  | cons b q ih =>
    intro pre l hp hl
    have hlt := len_mid hp
    have hc := hcd b (mem_mid hp)
    have at1 : ∀ {R : Type} (f : T_Block → Option R), oat sh_Block (blocks bl).1 (blocks bl).2 (pre.length : Int) f = f b.ts := fun f => oat_mid hp rfl
    have e0 : l ++ capP (b :: q) = (l ++ (b.code.map capI).flatten) ++ capP q := by simp [capP, capB]
    rw [e0] at hl ⊢
    rw [impl_capsOf_j1v1_eq, oite_dec, if_pos (show (pre.length : Int) < (bl.length : Nat) by omega), at1]
    have key := loop_ins (J := fun i s => impl_capsOf_j2v1 i (inss b.code) (blocks bl) ((bl.length : Nat) : Int) (pre.length : Int) ((b.code.length : Nat) : Int) s) (K := fun l => impl_capsOf_j1v1 ((pre.length + 1 : Nat) : Int) (blocks bl) ((bl.length : Nat) : Int) (ints l)) (code := b.code) (N := N) hN (fun pre2 a q2 l hp2 hl2 => ?_) (fun l hl2 => ?_) b.code [] l rfl (by rw [List.length_append] at hl; omega)
    · refine Eq.trans key ?_
      have := ih (pre ++ [b]) (l ++ (b.code.map capI).flatten) (by simpa using hp) hl
      simpa using this
    · have hlt2 := len_mid hp2
      have at2 : ∀ {R : Type} (f : T_Ins → Option R), oat sh_Ins (inss b.code).1 (inss b.code).2 (pre2.length : Int) f = f a.ts := fun f => oat_mid hp2 rfl
      have hts : a.ts.1 = a.op ∧ a.ts.2.1 = a.a := ⟨rfl, rfl⟩
      try simp only
      rw [impl_capsOf_j2v1_eq, oite_dec, if_pos (show (pre2.length : Int) < (b.code.length : Nat) by omega), at2, hts.1, hts.2]
      by_cases h1 : a.op = 31
      · by_cases h2 : a.a ≤ 4
        · rw [capI_yes h1 h2] at hl2 ⊢
          simp only [List.length_append, List.length_singleton] at hl2
          simp only [h1, beq_self_eq_true, oite_t, h2, decide_true]
          rw [impl_capsOf_j3v1_eq, oite_t, oguard_dec (by rw [ints_num]; omega), olet_eq, hts.2, ints_app1, w64_succ (by omega)]
        · rw [capI_no (fun h => h2 h.2)]
          simp only [h1, beq_self_eq_true, oite_t, h2, decide_false]
          rw [impl_capsOf_j3v1_eq, oite_f, w64_succ (by omega), List.append_nil]
      · rw [capI_no (fun h => h1 h.1)]
        have hb : (a.op == 31) = false := by simpa using h1
        rw [hb, oite_f, impl_capsOf_j3v1_eq, oite_f, w64_succ (by omega), List.append_nil]
    · try simp only
      rw [impl_capsOf_j2v1_eq, oite_dec, if_neg (by omega), w64_succ (by omega)]
theorem capsI0 : ∀ (q pre : List Blk) (l : List Int), pre ++ q = bl → (l ++ capP q).length ≤ N → impl_capsOf_j1 (pre.length : Int) (blocks bl) ((bl.length : Nat) : Int) (ints l) = capG (l ++ capP q) := by
  intro q
  induction q with
  | nil =>
    intro pre l hp hl
    simp only [List.append_nil] at hp
    subst hp
    rw [impl_capsOf_j1_eq, oite_dec, if_neg (by omega)]
    simp only [capP, List.map_nil, List.flatten_nil, List.append_nil] at hl ⊢
    exact sortG l (by omega)
  | cons b q ih =>
    intro pre l hp hl
    have hlt := len_mid hp
    have hc := hcd b (mem_mid hp)
    have at1 : ∀ {R : Type} (f : T_Block → Option R), oat sh_Block (blocks bl).1 (blocks bl).2 (pre.length : Int) f = f b.ts := fun f => oat_mid hp rfl
    have e0 : l ++ capP (b :: q) = (l ++ (b.code.map capI).flatten) ++ capP q := by simp [capP, capB]
    rw [e0] at hl ⊢
    rw [impl_capsOf_j1_eq, oite_dec, if_pos (show (pre.length : Int) < (bl.length : Nat) by omega), at1]
    -- the two forms of the inner loop agree
    have v1 : ∀ (q2 pre2 : List Ins) (l : List Int), pre2 ++ q2 = b.code → ((l ++ (q2.map capI).flatten) ++ capP q).length ≤ N → impl_capsOf_j2v1 (pre2.length : Int) (inss b.code) (blocks bl) ((bl.length : Nat) : Int) (pre.length : Int) ((b.code.length : Nat) : Int) (ints l) = capG ((l ++ (q2.map capI).flatten) ++ capP q) := by
      intro q2
      induction q2 with
      | nil =>
        intro pre2 l hp2 hl2
        simp only [List.append_nil] at hp2
        simp only [List.map_nil, List.flatten_nil, List.append_nil] at hl2 ⊢
        rw [← hp2, impl_capsOf_j2v1_eq, oite_dec, if_neg (by omega), w64_succ (by omega)]
        have := capsI1 hbl hcd hN q (pre ++ [b]) l (by simpa using hp) hl2
        simpa using this
      | cons a q2 ih2 =>
        intro pre2 l hp2 hl2
        have hlt2 := len_mid hp2
        have at2 : ∀ {R : Type} (f : T_Ins → Option R), oat sh_Ins (inss b.code).1 (inss b.code).2 (pre2.length : Int) f = f a.ts := fun f => oat_mid hp2 rfl
        have hts : a.ts.1 = a.op ∧ a.ts.2.1 = a.a := ⟨rfl, rfl⟩
        have e1 : l ++ ((a :: q2).map capI).flatten = (l ++ capI a) ++ (q2.map capI).flatten := by simp
        rw [e1] at hl2 ⊢
        have nx := ih2 (pre2 ++ [a]) (l ++ capI a) (by simpa using hp2) hl2
        rw [List.length_append, List.length_singleton] at nx
        refine Eq.trans ?_ nx
        simp only [List.length_append] at hl2
        rw [impl_capsOf_j2v1_eq, oite_dec, if_pos (show (pre2.length : Int) < (b.code.length : Nat) by omega), at2, hts.1, hts.2]
        by_cases h1 : a.op = 31
        · by_cases h2 : a.a ≤ 4
          · rw [capI_yes h1 h2] at hl2 ⊢
            simp only [List.length_singleton] at hl2
            simp only [h1, beq_self_eq_true, oite_t, h2, decide_true]
            rw [impl_capsOf_j3v1_eq, oite_t, oguard_dec (by rw [ints_num]; omega), olet_eq, hts.2, ints_app1, w64_succ (by omega)]
          · rw [capI_no (fun h => h2 h.2)]
            simp only [h1, beq_self_eq_true, oite_t, h2, decide_false]
            rw [impl_capsOf_j3v1_eq, oite_f, w64_succ (by omega), List.append_nil]
        · rw [capI_no (fun h => h1 h.1)]
          have hb : (a.op == 31) = false := by simpa using h1
          rw [hb, oite_f, impl_capsOf_j3v1_eq, oite_f, w64_succ (by omega), List.append_nil]
    have v0 : ∀ (q2 pre2 : List Ins) (l : List Int), pre2 ++ q2 = b.code → ((l ++ (q2.map capI).flatten) ++ capP q).length ≤ N → impl_capsOf_j2 (pre2.length : Int) (inss b.code) (blocks bl) ((bl.length : Nat) : Int) (pre.length : Int) ((b.code.length : Nat) : Int) (ints l) = capG ((l ++ (q2.map capI).flatten) ++ capP q) := by
      intro q2
      induction q2 with
      | nil =>
        intro pre2 l hp2 hl2
        simp only [List.append_nil] at hp2
        simp only [List.map_nil, List.flatten_nil, List.append_nil] at hl2 ⊢
        rw [← hp2, impl_capsOf_j2_eq, oite_dec, if_neg (by omega), w64_succ (by omega)]
        have := ih (pre ++ [b]) l (by simpa using hp) hl2
        simpa using this
      | cons a q2 ih2 =>
        intro pre2 l hp2 hl2
        have hlt2 := len_mid hp2
        have at2 : ∀ {R : Type} (f : T_Ins → Option R), oat sh_Ins (inss b.code).1 (inss b.code).2 (pre2.length : Int) f = f a.ts := fun f => oat_mid hp2 rfl
        have hts : a.ts.1 = a.op ∧ a.ts.2.1 = a.a := ⟨rfl, rfl⟩
        have e1 : l ++ ((a :: q2).map capI).flatten = (l ++ capI a) ++ (q2.map capI).flatten := by simp
        rw [e1] at hl2 ⊢
        rw [impl_capsOf_j2_eq, oite_dec, if_pos (show (pre2.length : Int) < (b.code.length : Nat) by omega), at2, hts.1, hts.2]
        by_cases h1 : a.op = 31
        · by_cases h2 : a.a ≤ 4
          · have nx := v1 q2 (pre2 ++ [a]) (l ++ capI a) (by simpa using hp2) hl2
            rw [List.length_append, List.length_singleton] at nx
            refine Eq.trans ?_ nx
            simp only [List.length_append] at hl2
            rw [capI_yes h1 h2] at hl2 ⊢
            simp only [List.length_singleton] at hl2
            simp only [h1, beq_self_eq_true, oite_t, h2, decide_true]
            rw [impl_capsOf_j3_eq, oite_t, oguard_dec (by rw [ints_num]; omega), olet_eq, hts.2, ints_app1, w64_succ (by omega)]
          · have nx := ih2 (pre2 ++ [a]) (l ++ capI a) (by simpa using hp2) hl2
            rw [List.length_append, List.length_singleton] at nx
            refine Eq.trans ?_ nx
            rw [capI_no (fun h => h2 h.2)]
            simp only [h1, beq_self_eq_true, oite_t, h2, decide_false]
            rw [impl_capsOf_j3_eq, oite_f, w64_succ (by omega), List.append_nil]
        · have nx := ih2 (pre2 ++ [a]) (l ++ capI a) (by simpa using hp2) hl2
          rw [List.length_append, List.length_singleton] at nx
          refine Eq.trans ?_ nx
          rw [capI_no (fun h => h1 h.1)]
          have hb : (a.op == 31) = false := by simpa using h1
          rw [hb, oite_f, impl_capsOf_j3_eq, oite_f, w64_succ (by omega), List.append_nil]
    exact v0 b.code [] l rfl hl
end
end Go.Ev.Q

/-
  A program's calls: the model's side.
-/
namespace Go.Ev.Q
open Go Go.Ev

abbrev rL (l : List Int) : Res := some (.d (.sl false 1 (ints l).1 (ints l).2), [])
theorem ocall_rL {R : Type} {l : List Int} {f : Sl → Unit → Option R} : ocall (.m (.one (.sl 1))) [] (rL l) f = f (ints l) () :=
  ocall_t (s := .m (.one (.sl 1))) (m := []) (t := ints l) (u := ()) rfl rfl rfl
theorem ins_j4 (p q : List Int) (n : Int) (h : (p ++ q).length ≤ 1048576) : spec_l3insert_j4 (p.length : Int) (ints (p ++ q)) n = rL (p ++ n :: q) := by
  simp only [List.length_append] at h
  rw [spec_l3insert_j4_eq]
  have hg : (0 : Int) ≤ (p.length : Int) ∧ (p.length : Int) ≤ (((ints (p ++ q)).1 : Nat) : Int) := ⟨by omega, by rw [ints_num, List.length_append]; omega⟩
  rw [oguard_dec hg, olet_eq]
  simp only [Int.toNat_natCast]
  rw [oguard_dec (by omega), oguard_dec (by omega), olet_eq, oguard_dec hg, olet_eq, oguard_dec (by rw [ints_num, List.length_append]; omega), olet_eq]
  have e1 : List.take p.length (ints (p ++ q)).2 = (ints p).2 := by simp [ints, sl]
  have e2 : List.drop p.length (ints (p ++ q)).2 = (ints q).2 := by simp [ints, sl]
  have e3 : p.length + 1 + ((ints (p ++ q)).1 - p.length) = (ints (p ++ n :: q)).1 := by rw [ints_num, ints_num]; simp; omega
  have e4 : (ints p).2 ++ ([D.int .i64 n] :: []) ++ (ints q).2 = (ints (p ++ n :: q)).2 := by simp [ints, sl, vDs, LS.encs, LS.enc, vD]
  rw [e1, e2, e3, e4]
theorem ins_loop (l : List Int) (n : Int) (h : l.length ≤ 1048576) : ∀ (q p : List Int), p ++ q = l → spec_l3insert_j1 (p.length : Int) (ints l) n = rL (p ++ insR q n) := by
  intro q
  induction q with
  | nil =>
    intro p hp
    simp only [List.append_nil] at hp
    subst hp
    rw [spec_l3insert_j1_eq, oite_dec, if_neg (by rw [ints_num]; omega), spec_l3insert_j3_eq, oite_f, oite_dec, if_neg (by rw [ints_num]; omega), spec_l3insert_j5_eq, oite_f]
    have := ins_j4 p [] n (by simpa using h)
    rw [List.append_nil] at this
    rw [this]; rfl
  | cons a q ih =>
    intro p hp
    have hlt : p.length < l.length := by rw [← hp]; simp
    have at1 : ∀ {R : Type} (f : LS.Ts [.int .i64] → Option R), oat [.int .i64] (ints l).1 (ints l).2 (p.length : Int) f = f (a, ()) := fun f => oat_mid hp rfl
    rw [spec_l3insert_j1_eq, oite_dec, if_pos (by rw [ints_num]; omega), at1, spec_l3insert_j3_eq, oite_dec]
    simp only [insR]
    by_cases h1 : a < n
    · rw [if_pos h1, if_pos h1, spec_l3insert_j2_eq, w64_succ (by omega)]
      have := ih (p ++ [a]) (by simpa using hp)
      simpa using this
    · rw [if_neg h1, if_neg h1, oite_dec, if_pos (by rw [ints_num]; omega), at1, spec_l3insert_j5_eq]
      by_cases h2 : a = n
      · rw [if_pos h2]
        simp only [h2, beq_self_eq_true, oite_t]
        rw [← hp, h2]
      · rw [if_neg h2]
        have hb : (a == n) = false := by simpa using h2
        simp only [hb, oite_f]
        rw [← hp]
        exact ins_j4 p (a :: q) n (by rw [hp]; exact h)
theorem l3insert_ok (l : List Int) (n : Int) (h : l.length ≤ 1048576) : spec_l3insert (ints l) n = rL (insR l n) := by
  rw [spec_l3insert_eq]
  have := ins_loop l n h l [] rfl
  simpa using this

section
variable {x : Prog} (hbl : x.blocks.length ≤ 1048576) (hcd : ∀ b ∈ x.blocks, b.code.length ≤ 1048576)
include hbl hcd
theorem capsS_loop : ∀ (q pre : List Blk) (acc : List Int), pre ++ q = x.blocks → acc.length + (capP q).length ≤ 1048576 → spec_CapsOf_j1 (ints acc) (pre.length : Int) x.ts = rL ((capP q).foldl insR acc) := by
  intro q
  induction q with
  | nil =>
    intro pre acc hp hl
    simp only [List.append_nil] at hp
    rw [spec_CapsOf_j1_eq, oite_dec, if_neg (show ¬ (pre.length : Int) < (x.ts.2.1.1 : Nat) by rw [show x.ts.2.1.1 = x.blocks.length from rfl, ← hp]; omega)]
    rfl
  | cons b q ih =>
    intro pre acc hp hl
    have hlt := len_mid hp
    have hc := hcd b (mem_mid hp)
    have at1 : ∀ {R : Type} (f : T_Block → Option R), oat sh_Block x.ts.2.1.1 x.ts.2.1.2 (pre.length : Int) f = f b.ts := fun f => oat_mid hp rfl
    have e0 : capP (b :: q) = (b.code.map capI).flatten ++ capP q := by simp [capP, capB]
    rw [e0] at hl ⊢
    rw [spec_CapsOf_j1_eq, oite_dec, if_pos (show (pre.length : Int) < (x.ts.2.1.1 : Nat) by rw [show x.ts.2.1.1 = x.blocks.length from rfl]; omega)]
    have inner : ∀ (q2 pre2 : List Ins) (acc : List Int), pre2 ++ q2 = b.code → acc.length + ((q2.map capI).flatten ++ capP q).length ≤ 1048576 → spec_CapsOf_j2 (pre2.length : Int) (ints acc) (pre.length : Int) x.ts = rL (((q2.map capI).flatten ++ capP q).foldl insR acc) := by
      intro q2
      induction q2 with
      | nil =>
        intro pre2 acc hp2 hl2
        simp only [List.append_nil] at hp2
        simp only [List.map_nil, List.flatten_nil, List.nil_append] at hl2 ⊢
        rw [spec_CapsOf_j2_eq, at1, oite_dec, if_neg (show ¬ (pre2.length : Int) < (b.ts.2.2.2.2.2.2.2.2.1.1 : Nat) by rw [show b.ts.2.2.2.2.2.2.2.2.1.1 = b.code.length from rfl, ← hp2]; omega), w64_succ (by omega)]
        have := ih (pre ++ [b]) acc (by simpa using hp) hl2
        simpa using this
      | cons a q2 ih2 =>
        intro pre2 acc hp2 hl2
        have hlt2 := len_mid hp2
        have at2 : ∀ {R : Type} (f : T_Ins → Option R), oat sh_Ins (inss b.code).1 (inss b.code).2 (pre2.length : Int) f = f a.ts := fun f => oat_mid hp2 rfl
        have hbc : b.ts.2.2.2.2.2.2.2.2.1 = inss b.code := rfl
        have hts : a.ts.1 = a.op ∧ a.ts.2.1 = a.a := ⟨rfl, rfl⟩
        have e1 : ((a :: q2).map capI).flatten ++ capP q = capI a ++ ((q2.map capI).flatten ++ capP q) := by simp
        rw [e1] at hl2 ⊢
        rw [List.foldl_append]
        rw [spec_CapsOf_j2_eq, at1, oite_dec, if_pos (show (pre2.length : Int) < (b.ts.2.2.2.2.2.2.2.2.1.1 : Nat) by rw [show b.ts.2.2.2.2.2.2.2.2.1.1 = b.code.length from rfl]; omega), at1]
        simp only [hbc, at2, hts.1, hts.2]
        by_cases h1 : a.op = 31
        · by_cases h2 : a.a ≤ 4
          · rw [capI_yes h1 h2] at hl2 ⊢
            simp only [List.length_append, List.length_singleton] at hl2
            have hi := insR_len acc a.a
            have nx := ih2 (pre2 ++ [a]) (insR acc a.a) (by simpa using hp2) (by simp only [List.length_append]; omega)
            rw [List.length_append, List.length_singleton] at nx
            simp only [h1, beq_self_eq_true, oite_t, h2, decide_true]
            rw [spec_CapsOf_j3_eq, oite_t, hts.2, l3insert_ok acc a.a (by omega), ocall_rL, w64_succ (by omega), nx]
            rfl
          · have nx := ih2 (pre2 ++ [a]) acc (by simpa using hp2) (by rw [List.length_append] at hl2; omega)
            rw [List.length_append, List.length_singleton] at nx
            rw [capI_no (fun h => h2 h.2)]
            simp only [h1, beq_self_eq_true, oite_t, h2, decide_false]
            rw [spec_CapsOf_j3_eq, oite_f, w64_succ (by omega), nx]
            rfl
        · have nx := ih2 (pre2 ++ [a]) acc (by simpa using hp2) (by rw [List.length_append] at hl2; omega)
          rw [List.length_append, List.length_singleton] at nx
          rw [capI_no (fun h => h1 h.1)]
          have hb : (a.op == 31) = false := by simpa using h1
          simp only [hb, oite_f]
          rw [spec_CapsOf_j3_eq, oite_f, w64_succ (by omega), nx]
          rfl
    exact inner b.code [] acc rfl hl
end
end Go.Ev.Q

/-
  A program's calls: the law.
-/
namespace Go.Ev.Q
open Go Go.Ev

theorem capI_len (n : Ins) : (capI n).length ≤ 1 := by unfold capI; split <;> simp
theorem capIs_len : ∀ l : List Ins, ((l.map capI).flatten).length ≤ l.length
  | [] => by simp
  | a :: l => by
    have := capI_len a
    have := capIs_len l
    simp only [List.map_cons, List.flatten_cons, List.length_append, List.length_cons]
    omega
theorem blk_code (b : Blk) : b.code.length ≤ b.size := by
  obtain ⟨env, arg, res, locals, code⟩ := b
  have : Blk.size (.mk env arg res locals code) = tysSize env + arg.size + res.size + tysSize locals + inssSize code := rfl
  rw [this]
  unfold inssSize
  show code.length ≤ _
  omega
theorem capP_len : ∀ l : List Blk, (capP l).length ≤ (l.map Blk.size).sum
  | [] => by simp [capP]
  | b :: l => by
    have h1 := capP_len l
    have h2 := capIs_len b.code
    have h3 := blk_code b
    simp only [capP, capB, List.map_cons, List.flatten_cons, List.length_append, List.sum_cons] at h1 ⊢
    omega

/-- Whether a program is right. -/
def cOk (x : Prog) : Bool := formB x && decide (x.enc.length ≤ 30000)
theorem progS_ok (x : Prog) (hs : x.size ≤ 1048576) : spec_ProgramOk x.ts = rB (cOk x) := by
  rw [spec_ProgramOk_eq, formS_ok x hs, ocall_bool, (codeS_ok x hs).call, oite_rB']
  refine resP ?_
  rw [bytes_n, cOk]
  simp only [Bool.and_eq_true, decide_eq_true_eq]
  exact ⟨fun h => ⟨h.1, by omega⟩, fun h => ⟨h.1, by omega⟩⟩
theorem progI_ok (x : Prog) (hs : x.size ≤ 1048576) : impl_ProgramOk x.ts = rB (cOk x) := by
  rw [impl_ProgramOk_eq, formI_ok x hs, ocall_bool, (codeI_ok x hs).call, oite_rB']
  refine resP ?_
  rw [bytes_n, cOk]
  simp only [Bool.and_eq_true, decide_eq_true_eq]
  exact ⟨fun h => ⟨h.1, by omega⟩, fun h => ⟨h.1, by omega⟩⟩
def capOut (x : Prog) : List Int := if cOk x then (capP x.blocks).foldl insR [] else []
/-- A row of numbers of one's own. -/
def PI (x : Res) (m : List Int) : Prop := ∃ mv, x = some (.own 0, [.row 1 (ints m).1 false mv (ints m).2])
theorem PI.call {x : Res} {m : List Int} (h : PI x m) {R : Type} {f : Unit → Sl × Unit → Option R} : ocall (.m (.one (.own 0))) [(.row 1 false true)] x f = f () (ints m, ()) := by
  obtain ⟨mv, rfl⟩ := h
  refine ocall_t (s := .m (.one (.own 0))) (m := [(.row 1 false true)]) rfl rfl ?_
  cases mv <;> rfl

section
variable (x : Prog) (hs : x.size ≤ 1048576)
include hs
theorem bl_len : x.blocks.length ≤ 1048576 ∧ (∀ b ∈ x.blocks, b.code.length ≤ 1048576) ∧ (capP x.blocks).length ≤ 1048576 := by
  have hz : x.size = (x.layouts.length + (x.layouts.map Layout.size).sum) + (x.blocks.length + (x.blocks.map Blk.size).sum) + x.caps.length := rfl
  refine ⟨by omega, fun b hb => ?_, ?_⟩
  · have := sizes_mem (f := Blk.size) hb
    have := blk_code b
    omega
  · have := capP_len x.blocks
    omega
theorem capOut_len : (capOut x).length ≤ 1048576 := by
  have := (bl_len x hs).2.2
  unfold capOut
  split
  · have := fold_len1 (capP x.blocks) []
    simp at this
    omega
  · simp
theorem CapsS_ok : spec_CapsOf x.ts = rL (capOut x) := by
  obtain ⟨h1, h2, h3⟩ := bl_len x hs
  rw [spec_CapsOf_eq, progS_ok x hs, ocall_bool, oite_not]
  unfold capOut
  cases h : cOk x with
  | true =>
    rw [oite_t]
    have := capsS_loop h1 h2 x.blocks [] [] rfl (by simpa using h3)
    exact this
  | false => rw [oite_f]; rfl
theorem CapsI_ok : PI (impl_CapsOf x.ts) (capOut x) := by
  obtain ⟨h1, h2, h3⟩ := bl_len x hs
  rw [impl_CapsOf_eq, progI_ok x hs, ocall_bool, oite_not]
  unfold capOut
  cases h : cOk x with
  | true =>
    rw [oite_t]
    have e : impl_capsOf x.ts = capG ([] ++ capP x.blocks) := by
      rw [impl_capsOf_eq]
      exact capsI0 h1 h2 (N := 1048576) (Nat.le_refl _) x.blocks [] [] rfl (by simpa using h3)
    rw [e, List.nil_append]
    refine ⟨true, ?_⟩
    exact Eq.trans (PI.call (x := capG (capP x.blocks)) (m := (capP x.blocks).foldl insR []) ⟨true, rfl⟩) rfl
  | false => rw [oite_f]; exact ⟨false, rfl⟩
end
theorem flat_ints (l : List Int) : flatR (ints l).2 = true := by
  show flatEs (ints l).2 = true
  induction l with
  | nil => rfl
  | cons a l ih => exact ih
theorem markIntE_ok (l : List Int) (x : Int) (hx : 0 ≤ x) (hx2 : x + l.length < 9223372036854775807) : laws_markIntS_o x (ints l) = some (.d (.int .i64 (x + l.length)), [.row 1 (ints (wmarks (fun x => x) x l.length)).1 false false (ints (wmarks (fun x => x) x l.length)).2]) :=
  markE_leaf (wr := fun x => x) (K := fun k s => some (.d (.int .i64 k), [.row 1 s.1 false false s.2])) laws_markIntS_o_eq laws_markIntS_o_j1_eq l x hx hx2
theorem heldIntE_ok (n : Nat) (x : Int) (hx : 0 ≤ x) (hx2 : x + n < 9223372036854775807) : laws_heldIntS (ints (wmarks (fun x => x) x n)) x = some (.d (.int .i64 (x + n)), []) :=
  held_leaf (wr := fun x => x) (K := fun k => some (.d (.int .i64 k), [])) laws_heldIntS_eq laws_heldIntS_j1_eq n x hx hx2
theorem ocall_mkr {R : Type} {k : Int} {s : Sl} {f : Int → Sl × Unit → Option R} : ocall (.m (.one (.int .i64))) [.row 1 false false] (some (.d (.int .i64 k), [.row 1 s.1 false false s.2])) f = f k (s, ()) :=
  ocall_t (s := .m (.one (.int .i64))) (m := [.row 1 false false]) (t := k) (u := (s, ())) rfl (LS.dec_enc (s := .int .i64) rfl k) rfl
theorem ocall_mk3 {R : Type} {k : Int} {s t u : Sl} {f : Int → Sl × (Sl × (Sl × Unit)) → Option R} : ocall (.m (.one (.int .i64))) [(.lrow 1 false), (.lrow 9 false), (.lrow 1 false)] (some (.d (.int .i64 k), [.lrow 1 s.1 false s.2, .lrow 9 t.1 false t.2, .lrow 1 u.1 false u.2])) f = f k (s, t, u, ()) :=
  ocall_t (s := .m (.one (.int .i64))) (m := [(.lrow 1 false), (.lrow 9 false), (.lrow 1 false)]) (t := k) (u := (s, t, u, ())) rfl (LS.dec_enc (s := .int .i64) rfl k) (by simp only [ES.decs, ES.dec_lrow])

theorem CapsOf_ok (x : Prog) (ho : x.ok) : laws_FnExactCapsOf x.ts = some (.d (.bool true), []) := by
  rw [laws_FnExactCapsOf_eq, show (1048576 : Int) = ((1048576 : Nat) : Int) from rfl, szProgram_ok x ho 1048576 (by omega)]
  unfold szR
  rw [ocall_int, oite_dec]
  by_cases hs : x.size ≤ 1048576
  · rw [if_pos hs, if_neg (by omega)]
    have hl := capOut_len x hs
    have hb := CapsI_ok x hs
    have hts : (x.ts.1, x.ts.2.1, x.ts.2.2.1, ()) = x.ts := rfl
    rw [toProgram_ok x hs, ocall_progO, hts, CapsS_ok x hs, ocall_rL, ocall_progO, hb.call]
    simp only [flat_ints, oguard_t]
    rw [eqIntS_ok _ (by omega), ocall_bool, oite_not, oite_t, ocall_progO, hts, eqProgram_ok x hs, ocall_bool, oite_not, oite_t]
    obtain ⟨k, m, h3⟩ := markProgram_ok x hs
    have hm : ES.encs [.lrow 1 false, .lrow 9 false, .lrow 1 false] m = [.lrow 1 m.1.1 false m.1.2, .lrow 9 m.2.1.1 false m.2.1.2, .lrow 1 m.2.2.1.1 false m.2.2.1.2] := rfl
    rw [h3, hm, ocall_mk3, oite_dec, if_neg (by omega), ocall_bool]
    simp only [Bool.not_true]
    rw [laws_FnExactCapsOf_j2_eq, oite_f, laws_FnExactCapsOf_j1_eq, markIntE_ok _ 1 (by omega) (by omega), ocall_mkr]
    rw [heldIntE_ok _ 1 (by omega) (by omega), ocall_int, oite_dec, if_neg (by omega), oite_not]
    simp only [beq_self_eq_true]
    rw [oite_t, toProgram_ok x hs, ocall_progO, hts, hb.call]
    simp only [flat_ints, oguard_t]
    rw [eqIntS_ok _ (by omega), ocall_bool, oite_not, oite_t]
    rw [ocall_int, oite_dec, if_neg (by omega), oite_not]
    simp only [beq_self_eq_true]
    rw [oite_t]
  · rw [if_neg hs, if_pos (by decide)]
end Go.Ev.Q
