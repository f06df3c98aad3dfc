import Derived.Test.YtkaolpcfpnckcaaGreatPOd
set_option linter.unusedVariables false
set_option linter.unusedSimpArgs false
/-
  Bytes are put alike by both sides: numbers.
-/
namespace Go.Ev.Q
open Go Go.Ev

/-- What a function that appends to a new row came to. -/
def PN (x : Res) (l m : List Int) : Prop := ∃ mv, x = some (.own 1, [.row 1 (bytes l).1 false false (bytes l).2, .row 1 (bytes m).1 false mv (bytes m).2])
/-- What a function that appends to the row it was given came to. -/
def P1 (x : Res) (m : List Int) : Prop := ∃ mv, x = some (.own 0, [.row 1 (bytes m).1 false mv (bytes m).2])
theorem PN.call {x : Res} {l m : List Int} (h : PN x l m) {R : Type} {f : Unit → Sl × (Sl × Unit) → Option R} : ocall (.m (.one (.own 1))) [(.row 1 false false), (.row 1 false true)] x f = f () (bytes l, (bytes m, ())) := by
  obtain ⟨mv, rfl⟩ := h
  refine ocall_t (s := .m (.one (.own 1))) (m := [(.row 1 false false), (.row 1 false true)]) rfl rfl ?_
  cases mv <;> rfl
theorem P1.call {x : Res} {m : List Int} (h : P1 x m) {R : Type} {f : Unit → Sl × Unit → Option R} : ocall (.m (.one (.own 0))) [(.row 1 false true)] x f = f () (bytes m, ()) := by
  obtain ⟨mv, rfl⟩ := h
  refine ocall_t (s := .m (.one (.own 0))) (m := [(.row 1 false true)]) rfl rfl ?_
  cases mv <;> rfl
theorem P1.self (m : List Int) : P1 (some (.own 0, [.row 1 (bytes m).1 false true (bytes m).2])) m := ⟨true, rfl⟩
theorem bytes_app (l m : List Int) : ((bytes l).1 + (bytes m).1, (bytes l).2 ++ (bytes m).2) = bytes (l ++ m) := by simp [bytes, sl]
theorem bytes_one (l : List Int) (c : Int) : ((bytes l).1 + 1, (bytes l).2 ++ ([D.int .u8 c] :: [])) = bytes (l ++ [c]) := by simp [bytes, sl, vDs, LS.encs, LS.enc, vD]
theorem bytes_n (l : List Int) : (bytes l).1 = l.length := rfl

theorem wrap8 {x : Int} (h : 0 ≤ x ∧ x < 256) : IntKind.wrap .u8 x = x := by
  simp only [IntKind.wrap, IntKind.bits, IntKind.signed]
  simp
  omega
theorem tmod_nat (n : Nat) : Int.tmod (n : Int) 128 = ((n % 128 : Nat) : Int) := by
  rw [Int.tmod_eq_emod_of_nonneg (by omega)]; rfl
theorem tdiv_nat (n : Nat) : Int.tdiv (n : Int) 128 = ((n / 128 : Nat) : Int) := by
  rw [Int.tdiv_eq_ediv_of_nonneg (by omega)]; rfl
theorem fdiv_nat (n : Nat) : Int.fdiv (n : Int) 128 = ((n / 128 : Nat) : Int) := by
  rw [Int.fdiv_eq_ediv_of_nonneg _ (by omega)]; rfl
theorem orB (m : Nat) (h : m < 128) : IntKind.wrap .u8 (((BitVec.toNat ((BitVec.ofInt 8 (IntKind.wrap .u8 (m : Int))) ||| (BitVec.ofInt 8 (128 : Int)))) : Nat) : Int) = ((128 + m : Nat) : Int) := by
  have : ∀ m : Fin 128, IntKind.wrap .u8 (((BitVec.toNat ((BitVec.ofInt 8 (IntKind.wrap .u8 ((m.val : Nat) : Int))) ||| (BitVec.ofInt 8 (128 : Int)))) : Nat) : Int) = ((128 + m.val : Nat) : Int) := by decide
  exact this ⟨m, h⟩

abbrev lim : Nat := 140737488351232
theorem numS (n : Nat) : n < 9223372036854775807 → ∀ (l k : List Int), (k ++ numB n).length ≤ lim → PN (spec_PutNum_o_j3v1 (n : Int) (bytes l) (bytes k)) l (k ++ numB n) := by
  induction n using Nat.strongRecOn with
  | ind n ih =>
    intro hb l k hk
    rw [spec_PutNum_o_j3v1_eq, oite_dec]
    rw [numB] at hk ⊢
    by_cases h : n < 128
    · rw [if_pos h] at hk ⊢
      rw [List.length_append, List.length_singleton] at hk
      rw [if_neg (by omega), oguard_dec (show ((bytes k).1 + 1) * 1 ≤ 140737488351232 by rw [bytes_n]; unfold lim at hk; omega), olet_eq, wrap8 ⟨by omega, by omega⟩]
      refine ⟨true, ?_⟩
      have := bytes_one k n
      rw [← this]
    · rw [if_neg h] at hk ⊢
      have hk' := hk
      rw [List.length_append, List.length_cons] at hk
      rw [if_pos (by omega), oguard_t rfl, oguard_dec (show ((bytes k).1 + 1) * 1 ≤ 140737488351232 by rw [bytes_n]; unfold lim at hk; omega), olet_eq, oguard_t rfl, tmod_nat, tdiv_nat, w64_id (by omega) (by omega), w64_id (by omega) (by omega)]
      rw [show ((128 : Int) + ((n % 128 : Nat) : Int)) = ((128 + n % 128 : Nat) : Int) by omega, wrap8 ⟨by omega, by omega⟩, bytes_one]
      have := ih (n / 128) (by omega) (by omega) l (k ++ [((128 + n % 128 : Nat) : Int)]) (by simpa using hk')
      simpa using this
theorem numS3 (n : Nat) (hb : n < 9223372036854775807) (l k : List Int) (hk : (k ++ numB n).length ≤ lim) : PN (spec_PutNum_o_j3 (n : Int) (bytes l) (bytes k)) l (k ++ numB n) := by
  have h := numS n hb l k hk
  rw [spec_PutNum_o_j3v1_eq] at h
  rw [spec_PutNum_o_j3_eq]
  exact h
theorem PutNumS (n : Int) (l : List Int) (hk : (l ++ encNum n).length ≤ lim) : PN (spec_PutNum_o n (bytes l)) l (l ++ encNum n) := by
  have h0 : l.length ≤ lim := by rw [List.length_append] at hk; omega
  rw [spec_PutNum_o_eq, oguard_dec (show (bytes l).1 * 1 ≤ 140737488351232 by rw [bytes_n]; unfold lim at h0; omega), oite_dec]
  simp only [spec_PutNum_o_j2_eq, spec_PutNum_o_j1_eq, oite_t, oite_dec]
  unfold encNum at hk ⊢
  by_cases h1 : n < 0
  · rw [if_pos h1, if_neg (by omega), List.append_nil]
    exact ⟨false, rfl⟩
  · rw [if_neg h1]
    by_cases h2 : n > 2147483647
    · rw [if_pos h2, if_neg (by omega), List.append_nil]
      exact ⟨false, rfl⟩
    · rw [if_neg h2, if_pos (by omega)]
      rw [if_pos (by omega)] at hk
      have := numS3 n.toNat (by omega) l l hk
      rwa [Int.toNat_of_nonneg (by omega)] at this

theorem numI (n : Nat) : n < 9223372036854775807 → ∀ (l k : List Int), (k ++ numB n).length ≤ lim → PN (impl_PutNum_o_j1 (n : Int) (bytes l) (bytes k)) l (k ++ numB n) := by
  induction n using Nat.strongRecOn with
  | ind n ih =>
    intro hb l k hk
    rw [impl_PutNum_o_j1_eq, oite_dec]
    rw [numB] at hk ⊢
    by_cases h : n < 128
    · rw [if_pos h] at hk ⊢
      rw [List.length_append, List.length_singleton] at hk
      rw [if_neg (by omega), oguard_dec (show ((bytes k).1 + 1) * 1 ≤ 140737488351232 by rw [bytes_n]; unfold lim at hk; omega), olet_eq, wrap8 ⟨by omega, by omega⟩]
      refine ⟨true, ?_⟩
      have := bytes_one k n
      rw [← this]
    · rw [if_neg h] at hk ⊢
      have hk' := hk
      rw [List.length_append, List.length_cons] at hk
      rw [if_pos (by omega), oguard_t rfl, oguard_dec (show ((bytes k).1 + 1) * 1 ≤ 140737488351232 by rw [bytes_n]; unfold lim at hk; omega), olet_eq, oguard_t rfl, tmod_nat, fdiv_nat, orB _ (by omega), bytes_one]
      have := ih (n / 128) (by omega) (by omega) l (k ++ [((128 + n % 128 : Nat) : Int)]) (by simpa using hk')
      simpa using this
theorem CloneB (l : List Int) (hl : l.length ≤ lim) : PN (slices_Clone_byte_byte_o (bytes l)) l l := by
  rw [slices_Clone_byte_byte_o_eq]
  cases l with
  | nil =>
    refine ⟨false, ?_⟩
    rw [oguard_dec (show (bytes []).1 * 1 ≤ 140737488351232 by decide)]
    exact onil_same
  | cons a l => 
    rw [onil_pos (by simp [bytes, sl]), oguard_dec (show (bytes (a :: l)).1 * 1 ≤ 140737488351232 by rw [bytes_n]; unfold lim at hl; omega)]
    exact ⟨false, rfl⟩
theorem PutNumI (n : Int) (l : List Int) (hk : (l ++ encNum n).length ≤ lim) : PN (impl_PutNum_o n (bytes l)) l (l ++ encNum n) := by
  have h0 : l.length ≤ lim := by rw [List.length_append] at hk; omega
  rw [impl_PutNum_o_eq]
  have hc := CloneB l h0
  refine cast (congrArg (fun x => PN x l (l ++ encNum n)) (hc.call.symm)) ?_
  rw [within_ok, ocall_bool, oite_nbool]
  unfold encNum at hk ⊢
  by_cases h1 : 0 ≤ n ∧ n ≤ 2147483647
  · rw [if_pos (by simpa using h1), if_pos h1]
    rw [if_pos h1] at hk
    have := numI n.toNat (by omega) l l hk
    rwa [Int.toNat_of_nonneg (by omega)] at this
  · rw [if_neg (by simpa using h1), if_neg h1, List.append_nil]
    exact ⟨true, rfl⟩
end Go.Ev.Q

/-
  Bytes are put alike by both sides: types, texts, instructions.
-/
namespace Go.Ev.Q
open Go Go.Ev

theorem loop_put {α : Type} {J : Int → Sl → Res} {xs : List α} {enc : α → List Int} {K : Sl → Res} (hs : ∀ pre a q l, pre ++ a :: q = xs → (l ++ enc a).length ≤ lim → J (pre.length : Int) (bytes l) = J ((pre.length + 1 : Nat) : Int) (bytes (l ++ enc a))) (he : ∀ s, J (xs.length : Int) s = K s) (l : List Int) (h : (l ++ (xs.map enc).flatten).length ≤ lim) :
    J 0 (bytes l) = K (bytes (l ++ (xs.map enc).flatten)) := by
  have key : ∀ (q pre : List α) (l : List Int), pre ++ q = xs → (l ++ (q.map enc).flatten).length ≤ lim → J (pre.length : Int) (bytes l) = K (bytes (l ++ (q.map enc).flatten)) := by
    intro q
    induction q with
    | nil => intro pre l h _; simp at h; subst h; rw [he]; simp
    | cons a q ih =>
      intro pre l h hl
      simp only [List.map_cons, List.flatten_cons] at hl ⊢
      rw [← List.append_assoc] at hl ⊢
      rw [hs pre a q l h (by rw [List.length_append] at hl; omega)]
      have := ih (pre ++ [a]) (l ++ enc a) (by simpa using h) hl
      rw [List.length_append, List.length_singleton] at this
      exact this
  exact key xs [] l rfl h
abbrev outB (s : Sl) : Res := some (.own 0, [.row 1 s.1 false true s.2])
theorem P1.of {x : Res} {m : List Int} (h : x = outB (bytes m)) : P1 x m := ⟨true, h⟩
theorem lim_le {a b : List Int} (h : (a ++ b).length ≤ lim) : a.length ≤ lim := by rw [List.length_append] at h; omega

/-! Types -/
theorem l3bytes_ok (t : Ty) : t.size ≤ 2000000 → ∀ l : List Int, (l ++ t.enc).length ≤ lim → P1 (spec_l3bytes_o t.ts (bytes l)) (l ++ t.enc) := by
  induction t using Ty.ind with
  | h k n ks ih =>
    intro hs l hl
    rw [Ty.size_mk] at hs
    rw [Ty.enc_mk] at hl ⊢
    have loop : ∀ l : List Int, (l ++ (ks.map Ty.enc).flatten).length ≤ lim → spec_l3bytes_o_j4 0 (bytes l) (k, n, tys ks, ()) = outB (bytes (l ++ (ks.map Ty.enc).flatten)) := by
      refine fun l hl => loop_put (J := fun i s => spec_l3bytes_o_j4 i s (k, n, tys ks, ())) (fun pre a q l hp hl => ?_) (fun s => ?_) l hl
      · have hlt := len_mid hp
        have hsz := sizes_mem (f := Ty.size) (mem_mid hp)
        rw [spec_l3bytes_o_j4_eq, oite_dec, if_pos (show (pre.length : Int) < ((tys ks).1 : Nat) by show (pre.length : Int) < (ks.length : Nat); omega)]
        have at1 : ∀ {R : Type} (f : T_Ty → Option R), oat sh_Ty (tys ks).1 (tys ks).2 (pre.length : Int) f = f a.ts := fun f => oat_mid hp rfl
        simp only [at1]
        rw [(ih a (mem_mid hp) (by omega) l hl).call, w64_succ (by omega)]
      · rw [spec_l3bytes_o_j4_eq, oite_dec, if_neg (by simp [tys, sl])]
    have j1 : ∀ l : List Int, (l ++ ((if k = 6 then encNum ks.length else []) ++ (ks.map Ty.enc).flatten)).length ≤ lim → spec_l3bytes_o_j1 (bytes l) (k, n, tys ks, ()) = outB (bytes (l ++ ((if k = 6 then encNum ks.length else []) ++ (ks.map Ty.enc).flatten))) := by
      intro l hl
      rw [spec_l3bytes_o_j1_eq]
      simp only [oite_if, beq_iff_eq, spec_l3bytes_o_j3_eq]
      by_cases h : k = 6
      · simp only [if_pos h] at hl ⊢
        rw [← List.append_assoc] at hl ⊢
        have hc := PutNumS ks.length l (lim_le hl)
        refine Eq.trans hc.call ?_
        exact loop _ hl
      · simp only [if_neg h, List.nil_append] at hl ⊢
        exact loop _ hl
    have e : ∀ x : List Int, l ++ (w8 k :: (if k = 6 ∨ k = 7 then encNum n else []) ++ (if k = 6 then encNum ks.length else []) ++ x) = (l ++ [w8 k]) ++ ((if k = 6 ∨ k = 7 then encNum n else []) ++ ((if k = 6 then encNum ks.length else []) ++ x)) := fun x => by simp
    rw [e] at hl ⊢
    refine P1.of ?_
    have hl1 := lim_le hl
    rw [List.length_append, List.length_singleton] at hl1
    rw [spec_l3bytes_o_eq, Ty.ts_mk]
    simp only
    rw [oguard_dec (show ((bytes l).1 + 1) * 1 ≤ 140737488351232 by rw [bytes_n]; unfold lim at hl1; omega), olet_eq, bytes_one]
    have j2 : ∀ b : Bool, (b = true ↔ (k = 6 ∨ k = 7)) → spec_l3bytes_o_j2 b (bytes (l ++ [w8 k])) (k, n, tys ks, ()) = outB (bytes ((l ++ [w8 k]) ++ ((if k = 6 ∨ k = 7 then encNum n else []) ++ ((if k = 6 then encNum ks.length else []) ++ (ks.map Ty.enc).flatten)))) := by
      intro b hb
      rw [spec_l3bytes_o_j2_eq, oite_if]
      by_cases h : k = 6 ∨ k = 7
      · simp only [if_pos h] at hl ⊢
        rw [if_pos (hb.2 h)]
        rw [← List.append_assoc] at hl ⊢
        have hc := PutNumS n _ (lim_le hl)
        refine Eq.trans hc.call ?_
        exact j1 _ hl
      · simp only [if_neg h, List.nil_append] at hl ⊢
        rw [if_neg (fun h' => h (hb.1 h'))]
        exact j1 _ hl
    rw [oite_if]
    by_cases h : k = 6
    · rw [if_pos (by simpa using h)]; exact j2 true (by simp [h])
    · rw [if_neg (by simpa using h)]; exact j2 _ (by simp [h])
theorem l8tys_ok (ks : List Ty) (hs : tysSize ks ≤ 2000000) (l : List Int) (hl : (l ++ encTys ks).length ≤ lim) : P1 (spec_l8tys_o (tys ks) (bytes l)) (l ++ encTys ks) := by
  unfold tysSize at hs
  unfold encTys at hl ⊢
  rw [← List.append_assoc] at hl ⊢
  refine P1.of ?_
  rw [spec_l8tys_o_eq]
  have hc := PutNumS ks.length l (lim_le hl)
  refine Eq.trans hc.call ?_
  refine loop_put (J := fun i s => spec_l8tys_o_j1 i (tys ks) (bytes l) s) (fun pre a q m hp hm => ?_) (fun s => ?_) _ hl
  · have hlt := len_mid hp
    have hsz := sizes_mem (f := Ty.size) (mem_mid hp)
    rw [spec_l8tys_o_j1_eq, oite_dec, if_pos (show (pre.length : Int) < ((tys ks).1 : Nat) by show (pre.length : Int) < (ks.length : Nat); omega)]
    have at1 : ∀ {R : Type} (f : T_Ty → Option R), oat sh_Ty (tys ks).1 (tys ks).2 (pre.length : Int) f = f a.ts := fun f => oat_mid hp rfl
    simp only [at1]
    rw [(l3bytes_ok a (by omega) m hm).call, w64_succ (by omega)]
  · rw [spec_l8tys_o_j1_eq, oite_dec, if_neg (by simp [tys, sl])]

theorem putTy_ok (t : Ty) : t.size ≤ 2000000 → ∀ l : List Int, (l ++ t.enc).length ≤ lim → P1 (impl_putTy_o t.ts (bytes l)) (l ++ t.enc) := by
  induction t using Ty.ind with
  | h k n ks ih =>
    intro hs l hl
    rw [Ty.size_mk] at hs
    rw [Ty.enc_mk] at hl ⊢
    have loop : ∀ l : List Int, (l ++ (ks.map Ty.enc).flatten).length ≤ lim → impl_putTy_o_j4 0 (tys ks) (((tys ks).1 : Nat) : Int) (bytes l) = outB (bytes (l ++ (ks.map Ty.enc).flatten)) := by
      refine fun l hl => loop_put (J := fun i s => impl_putTy_o_j4 i (tys ks) (((tys ks).1 : Nat) : Int) s) (fun pre a q l hp hl => ?_) (fun s => ?_) l hl
      · have hlt := len_mid hp
        have hsz := sizes_mem (f := Ty.size) (mem_mid hp)
        rw [impl_putTy_o_j4_eq, oite_dec, if_pos (show (pre.length : Int) < ((tys ks).1 : Nat) by show (pre.length : Int) < (ks.length : Nat); omega)]
        have at1 : ∀ {R : Type} (f : T_Ty → Option R), oat sh_Ty (tys ks).1 (tys ks).2 (pre.length : Int) f = f a.ts := fun f => oat_mid hp rfl
        simp only [at1]
        rw [(ih a (mem_mid hp) (by omega) l hl).call, w64_succ (by omega)]
      · rw [impl_putTy_o_j4_eq, oite_dec, if_neg (by simp [tys, sl])]
    have j1 : ∀ l : List Int, (l ++ ((if k = 6 then encNum ks.length else []) ++ (ks.map Ty.enc).flatten)).length ≤ lim → impl_putTy_o_j1 (bytes l) (k, n, tys ks, ()) = outB (bytes (l ++ ((if k = 6 then encNum ks.length else []) ++ (ks.map Ty.enc).flatten))) := by
      intro l hl
      rw [impl_putTy_o_j1_eq]
      simp only [oite_if, beq_iff_eq, impl_putTy_o_j3_eq]
      by_cases h : k = 6
      · simp only [if_pos h] at hl ⊢
        rw [← List.append_assoc] at hl ⊢
        have hc := PutNumI ks.length l (lim_le hl)
        refine Eq.trans hc.call ?_
        exact loop _ hl
      · simp only [if_neg h, List.nil_append] at hl ⊢
        exact loop _ hl
    have e : ∀ x : List Int, l ++ (w8 k :: (if k = 6 ∨ k = 7 then encNum n else []) ++ (if k = 6 then encNum ks.length else []) ++ x) = (l ++ [w8 k]) ++ ((if k = 6 ∨ k = 7 then encNum n else []) ++ ((if k = 6 then encNum ks.length else []) ++ x)) := fun x => by simp
    rw [e] at hl ⊢
    refine P1.of ?_
    have hl1 := lim_le hl
    rw [List.length_append, List.length_singleton] at hl1
    rw [impl_putTy_o_eq, Ty.ts_mk]
    simp only
    rw [oguard_dec (show ((bytes l).1 + 1) * 1 ≤ 140737488351232 by rw [bytes_n]; unfold lim at hl1; omega), olet_eq, bytes_one]
    have j2 : ∀ b : Bool, (b = true ↔ (k = 6 ∨ k = 7)) → impl_putTy_o_j2 b (bytes (l ++ [w8 k])) (k, n, tys ks, ()) = outB (bytes ((l ++ [w8 k]) ++ ((if k = 6 ∨ k = 7 then encNum n else []) ++ ((if k = 6 then encNum ks.length else []) ++ (ks.map Ty.enc).flatten)))) := by
      intro b hb
      rw [impl_putTy_o_j2_eq, oite_if]
      by_cases h : k = 6 ∨ k = 7
      · simp only [if_pos h] at hl ⊢
        rw [if_pos (hb.2 h)]
        rw [← List.append_assoc] at hl ⊢
        have hc := PutNumI n _ (lim_le hl)
        refine Eq.trans hc.call ?_
        exact j1 _ hl
      · simp only [if_neg h, List.nil_append] at hl ⊢
        rw [if_neg (fun h' => h (hb.1 h'))]
        exact j1 _ hl
    rw [oite_if]
    by_cases h : k = 6
    · rw [if_pos (by simpa using h)]; exact j2 true (by simp [h])
    · rw [if_neg (by simpa using h)]; exact j2 _ (by simp [h])
theorem putTys_ok (ks : List Ty) (hs : tysSize ks ≤ 2000000) (l : List Int) (hl : (l ++ encTys ks).length ≤ lim) : P1 (impl_putTys_o (tys ks) (bytes l)) (l ++ encTys ks) := by
  unfold tysSize at hs
  unfold encTys at hl ⊢
  rw [← List.append_assoc] at hl ⊢
  refine P1.of ?_
  rw [impl_putTys_o_eq]
  have hc := PutNumI ks.length l (lim_le hl)
  refine Eq.trans hc.call ?_
  refine loop_put (J := fun i s => impl_putTys_o_j1 i (tys ks) (((tys ks).1 : Nat) : Int) (bytes l) s) (fun pre a q m hp hm => ?_) (fun s => ?_) _ hl
  · have hlt := len_mid hp
    have hsz := sizes_mem (f := Ty.size) (mem_mid hp)
    rw [impl_putTys_o_j1_eq, oite_dec, if_pos (show (pre.length : Int) < ((tys ks).1 : Nat) by show (pre.length : Int) < (ks.length : Nat); omega)]
    have at1 : ∀ {R : Type} (f : T_Ty → Option R), oat sh_Ty (tys ks).1 (tys ks).2 (pre.length : Int) f = f a.ts := fun f => oat_mid hp rfl
    simp only [at1]
    rw [(putTy_ok a (by omega) m hm).call, w64_succ (by omega)]
  · rw [impl_putTys_o_j1_eq, oite_dec, if_neg (by simp [tys, sl])]
theorem putNums_ok (ns : List Int) (hs : ns.length ≤ 2000000) (l : List Int) (hl : (l ++ encNums ns).length ≤ lim) : P1 (impl_putNums_o (ints ns) (bytes l)) (l ++ encNums ns) := by
  unfold encNums at hl ⊢
  rw [← List.append_assoc] at hl ⊢
  refine P1.of ?_
  rw [impl_putNums_o_eq]
  have hc := PutNumI ns.length l (lim_le hl)
  refine Eq.trans hc.call ?_
  refine loop_put (J := fun i s => impl_putNums_o_j1 i (ints ns) (((ints ns).1 : Nat) : Int) (bytes l) s) (fun pre a q m hp hm => ?_) (fun s => ?_) _ hl
  · have hlt := len_mid hp
    rw [impl_putNums_o_j1_eq, oite_dec, if_pos (show (pre.length : Int) < ((ints ns).1 : Nat) by show (pre.length : Int) < (ns.length : Nat); omega)]
    simp only [at_nums hp]
    refine Eq.trans (PutNumI a m hm).call ?_
    rw [w64_succ (by omega)]
  · rw [impl_putNums_o_j1_eq, oite_dec, if_neg (by simp [ints, sl])]
end Go.Ev.Q

/-
  Bytes are put alike by both sides: texts, instructions.
-/
namespace Go.Ev.Q
open Go Go.Ev

theorem FoldS (n : Int) : spec_Fold n = rI (foldN n) := by
  rw [spec_Fold_eq]
  simp only [spec_Fold_j2_eq, spec_Fold_j1_eq, spec_Fold_j3_eq, oite_if, decide_eq_true_eq, Bool.false_eq_true, reduceIte]
  unfold foldN
  by_cases h1 : 0 ≤ n
  · by_cases h2 : n ≤ 1073741823
    · rw [if_pos h1, if_pos h2, if_pos ⟨h1, h2⟩, w64_id (by omega) (by omega)]
    · rw [if_pos h1, if_neg h2, if_neg (show ¬ n < 0 by omega), if_neg (by omega), if_neg (by omega)]
  · rw [if_neg h1, if_pos (show n < 0 by omega)]
    by_cases h2 : n ≥ -1073741824
    · rw [if_pos h2, if_neg (show ¬ (0 ≤ n ∧ n ≤ 1073741823) by omega), if_pos (by omega), w64_id (x := -2 * n) (by omega) (by omega), w64_id (by omega) (by omega)]
    · rw [if_neg h2, if_neg (show ¬ (0 ≤ n ∧ n ≤ 1073741823) by omega), if_neg (by omega)]
theorem FoldI (n : Int) : impl_Fold n = rI (foldN n) := by
  rw [impl_Fold_eq]
  simp only [within_ok, ocall_bool, oite_if, decide_eq_true_eq]
  unfold foldN
  by_cases h1 : 0 ≤ n ∧ n ≤ 1073741823
  · rw [if_pos h1, if_pos h1, w64_id (by omega) (by omega)]
  · rw [if_neg h1, if_neg h1]
    by_cases h2 : -1073741824 ≤ n ∧ n ≤ -1
    · rw [if_pos h2, if_pos (by omega), w64_id (x := -2 * n) (by omega) (by omega), w64_id (by omega) (by omega)]
    · rw [if_neg h2, if_neg (by omega)]

theorem PutTextS (t : List Int) (l : List Int) (hl : (l ++ encText t).length ≤ lim) : PN (spec_PutText_o (bytes t) (bytes l)) l (l ++ encText t) := by
  have h0 := lim_le hl
  rw [spec_PutText_o_eq, oite_dec]
  unfold encText at hl ⊢
  by_cases h : 40 < t.length
  · rw [if_pos (show (((bytes t).1 : Nat) : Int) > 40 by rw [bytes_n]; omega), if_pos h, List.append_nil, oguard_dec (show (bytes l).1 * 1 ≤ 140737488351232 by rw [bytes_n]; unfold lim at h0; omega)]
    exact ⟨false, rfl⟩
  · rw [if_neg (show ¬ (((bytes t).1 : Nat) : Int) > 40 by rw [bytes_n]; omega), if_neg h]
    rw [if_neg h, ← List.append_assoc] at hl
    rw [← List.append_assoc]
    have hc := PutNumS t.length l (lim_le hl)
    refine ⟨true, Eq.trans hc.call ?_⟩
    simp only
    rw [oguard_dec (show ((bytes (l ++ encNum t.length)).1 + (bytes t).1) * 1 ≤ 140737488351232 by rw [bytes_n, bytes_n, ← List.length_append]; unfold lim at hl; omega), olet_eq]
    rw [← bytes_app (l ++ encNum t.length) t]
theorem PutTextI (t : List Int) (l : List Int) (hl : (l ++ encText t).length ≤ lim) : PN (impl_PutText_o (bytes t) (bytes l)) l (l ++ encText t) := by
  have h0 := lim_le hl
  rw [impl_PutText_o_eq, oite_dec]
  unfold encText at hl ⊢
  by_cases h : 40 < t.length
  · rw [if_pos (show (((bytes t).1 : Nat) : Int) > 40 by rw [bytes_n]; omega), if_pos h, List.append_nil]
    have hc := CloneB l h0
    exact ⟨true, hc.call⟩
  · rw [if_neg (show ¬ (((bytes t).1 : Nat) : Int) > 40 by rw [bytes_n]; omega), if_neg h]
    rw [if_neg h, ← List.append_assoc] at hl
    rw [← List.append_assoc]
    have hc := PutNumI t.length l (lim_le hl)
    refine ⟨true, Eq.trans hc.call ?_⟩
    simp only
    rw [oguard_dec (show ((bytes (l ++ encNum t.length)).1 + (bytes t).1) * 1 ≤ 140737488351232 by rw [bytes_n, bytes_n, ← List.length_append]; unfold lim at hl; omega), olet_eq]
    rw [← bytes_app (l ++ encNum t.length) t]

theorem l8ins_ok (x : Ins) (hs : x.size ≤ 1048576) (l : List Int) (hl : (l ++ x.enc).length ≤ lim) : P1 (spec_l8ins_o x.ts (bytes l)) (l ++ x.enc) := by
  obtain ⟨op, a, b, lit, to⟩ := x
  have hs' : lit.length + to.length ≤ 1048576 := hs
  unfold Ins.enc at hl ⊢
  simp only at hl ⊢
  have e : ∀ y : List Int, l ++ (w8 op :: y) = (l ++ [w8 op]) ++ y := fun y => by simp
  rw [e] at hl ⊢
  refine P1.of ?_
  have hl1 := lim_le hl
  rw [List.length_append, List.length_singleton] at hl1
  rw [spec_l8ins_o_eq, Ins.ts_mk]
  simp only
  rw [oguard_dec (show ((bytes l).1 + 1) * 1 ≤ 140737488351232 by rw [bytes_n]; unfold lim at hl1; omega), olet_eq]
  simp only [bytes_one, parts_ok, ocall_int, FoldS, oite_if, beq_iff_eq]
  generalize partsN op = p at hl
  by_cases p1 : p = 1
  · rw [if_pos (by omega)]
    simp only [if_pos p1] at hl ⊢
    by_cases o1 : op = 1
    · simp only [if_pos o1] at hl ⊢
      exact Eq.trans (PutNumS _ _ hl).call rfl
    · simp only [if_neg o1] at hl ⊢
      exact Eq.trans (PutNumS _ _ hl).call rfl
  · rw [if_neg (by omega)]
    simp only [if_neg p1] at hl ⊢
    by_cases p2 : p = 2
    · rw [if_pos (by omega)]
      simp only [if_pos p2] at hl ⊢
      rw [← List.append_assoc] at hl ⊢
      refine Eq.trans (PutNumS _ _ (lim_le hl)).call ?_
      rw [osame_t]
      exact Eq.trans (PutNumS _ _ hl).call rfl
    · rw [if_neg (by omega)]
      simp only [if_neg p2] at hl ⊢
      by_cases p3 : p = 3
      · rw [if_pos (by omega)]
        simp only [if_pos p3] at hl ⊢
        unfold encNums at hl ⊢
        rw [← List.append_assoc, ← List.append_assoc] at hl ⊢
        refine Eq.trans (PutNumS _ _ (lim_le (lim_le hl))).call ?_
        rw [osame_t, osame_t]
        refine Eq.trans (PutNumS _ _ (lim_le hl)).call ?_
        refine loop_put (J := fun i s => spec_l8ins_o_j1 i (bytes (l ++ [w8 op])) (op, a, b, bytes lit, ints to, ()) s) (xs := to) (fun pre a q m hp hm => ?_) (fun s => ?_) _ hl
        · have hlt := len_mid hp
          rw [spec_l8ins_o_j1_eq, oite_dec, if_pos (show (pre.length : Int) < ((ints to).1 : Nat) by show (pre.length : Int) < (to.length : Nat); omega)]
          simp only [at_nums hp]
          refine Eq.trans (PutNumS _ m hm).call ?_
          rw [w64_succ (by omega)]
        · rw [spec_l8ins_o_j1_eq, oite_dec, if_neg (by simp [ints, sl])]
      · rw [if_neg (by omega)]
        simp only [if_neg p3] at hl ⊢
        by_cases p4 : p = 4
        · rw [if_pos (by omega)]
          simp only [if_pos p4] at hl ⊢
          exact Eq.trans (PutTextS _ _ hl).call rfl
        · rw [if_neg (by omega)]
          simp only [if_neg p4, List.append_nil]
          rw [← bytes_one]

theorem putIns_ok (x : Ins) (hs : x.size ≤ 1048576) (l : List Int) (hl : (l ++ x.enc).length ≤ lim) : P1 (impl_putIns_o x.ts (bytes l)) (l ++ x.enc) := by
  obtain ⟨op, a, b, lit, to⟩ := x
  have hs' : lit.length + to.length ≤ 1048576 := hs
  unfold Ins.enc at hl ⊢
  simp only at hl ⊢
  have e : ∀ y : List Int, l ++ (w8 op :: y) = (l ++ [w8 op]) ++ y := fun y => by simp
  rw [e] at hl ⊢
  refine P1.of ?_
  have hl1 := lim_le hl
  rw [List.length_append, List.length_singleton] at hl1
  rw [impl_putIns_o_eq, Ins.ts_mk]
  simp only
  rw [oguard_dec (show ((bytes l).1 + 1) * 1 ≤ 140737488351232 by rw [bytes_n]; unfold lim at hl1; omega), olet_eq]
  simp only [bytes_one, partsI_ok, ocall_agg (show LS.alld [.bool, .bool, .bool, .bool] = true from rfl), ocall_int, FoldI, oite_if, beq_iff_eq, decide_eq_true_eq]
  have hp1 : op = 1 → partsN op = 1 := by rintro rfl; rfl
  generalize partsN op = p at hl hp1
  by_cases o1 : op = 1
  · have p1 := hp1 o1
    simp only [if_pos o1, if_pos p1] at hl ⊢
    exact Eq.trans (PutNumI _ _ hl).call rfl
  · simp only [if_neg o1] at hl ⊢
    by_cases p4 : p = 4
    · have p1 : ¬ p = 1 := by omega
      have p2 : ¬ p = 2 := by omega
      have p3 : ¬ p = 3 := by omega
      simp only [if_pos p4, if_neg p1, if_neg p2, if_neg p3] at hl ⊢
      exact Eq.trans (PutTextI _ _ hl).call rfl
    · simp only [if_neg p4]
      simp only [impl_putIns_o_j1_eq, impl_putIns_o_j2_eq, oite_if, decide_eq_true_eq]
      by_cases p1 : p = 1
      · have p2 : ¬ p = 2 := by omega
        have p3 : ¬ p = 3 := by omega
        simp only [if_pos p1, if_neg p2, if_neg p3] at hl ⊢
        rw [if_pos (.inl p1)]
        exact Eq.trans (PutNumI _ _ hl).call rfl
      · simp only [if_neg p1] at hl ⊢
        by_cases p2 : p = 2
        · have p3 : ¬ p = 3 := by omega
          simp only [if_pos p2, if_neg p3] at hl ⊢
          rw [if_pos (.inr (.inl p2))]
          rw [← List.append_assoc] at hl ⊢
          refine Eq.trans (PutNumI _ _ (lim_le hl)).call ?_
          exact Eq.trans (PutNumI _ _ hl).call rfl
        · simp only [if_neg p2] at hl ⊢
          by_cases p3 : p = 3
          · simp only [if_pos p3] at hl ⊢
            rw [if_pos (.inr (.inr p3))]
            rw [← List.append_assoc] at hl ⊢
            refine Eq.trans (PutNumI _ _ (lim_le hl)).call ?_
            exact Eq.trans (putNums_ok to (by omega) _ hl).call rfl
          · simp only [if_neg p3, if_neg p4, List.append_nil] at hl ⊢
            rw [if_neg (by omega), ← bytes_one]
end Go.Ev.Q
