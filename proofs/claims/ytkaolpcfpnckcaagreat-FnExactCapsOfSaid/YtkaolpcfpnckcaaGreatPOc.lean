import Derived.Test.YtkaolpcfpnckcaaGreatPOb
import Derived.Test.YtkaolpcfpnckcaaGreatPOa
set_option linter.unusedVariables false
set_option linter.unusedSimpArgs false
/-
  Both sides weigh a type alike: the weight.
-/
namespace Go.Ev.Q
open Go Go.Ev

theorem measure_ok (t : Ty) : t.size ≤ 2000000 → ∀ d : Nat, d ≤ 11 → impl_measure t.ts d = rI (Ty.meas t d : Nat) := by
  induction t using Ty.ind with
  | h k n l ih =>
    intro hs d hd
    rw [Ty.size_mk] at hs
    rw [impl_measure_eq, Ty.ts_mk, Ty.meas]
    simp only [headOk_ok, ocall_bool, impl_measure_j2_eq, oite_t, oite_nbool, decide_eq_true_eq, oite_dec, impl_measure_j1_eq]
    by_cases h1 : 10 < d
    · rw [if_pos (by omega), if_pos (.inl h1)]; rfl
    · rw [if_neg (by omega)]
      by_cases h2 : headOk k n l.length
      · rw [if_pos h2, if_neg (by rintro (h | h); exact h1 h; exact h h2)]
        have key : ∀ (q pre : List Ty) (acc : Nat), pre ++ q = l → acc ≤ 60 → impl_measure_j3 (pre.length : Int) d acc (tys l) (((tys l).1 : Nat) : Int) = rI (Ty.meass q (d + 1) acc : Nat) := by
          intro q
          induction q with
          | nil =>
            intro pre acc hp ha
            rw [impl_measure_j3_eq, oite_dec, if_neg (by rw [← hp]; simp [tys, sl]), Ty.meass]
          | cons a q ihq =>
            intro pre acc hp ha
            have hm := mem_mid hp
            have hlt := len_mid hp
            have hsz := sizes_mem (f := Ty.size) hm
            rw [impl_measure_j3_eq, oite_dec, if_pos (show (pre.length : Int) < ((tys l).1 : Nat) by show (pre.length : Int) < (l.length : Nat); omega), show tys l = sl (sh := sh_Ty) Ty.ts l from rfl, oat_mid hp rfl, w64_id (x := (d : Int) + 1) (by omega) (by omega)]
            have e := ih a hm (by omega) (d + 1) (by omega)
            rw [show ((d : Int) + 1) = ((d + 1 : Nat) : Int) by omega, e, ocall_int, oite_dec, Ty.meass]
            have hle := Ty.meas_le a (d + 1)
            rw [w64_id (by omega) (by omega), w64_id (by omega) (by omega)]
            by_cases h3 : 60 < acc + Ty.meas a (d + 1)
            · rw [if_pos (by omega), if_pos h3]; rfl
            · rw [if_neg (by omega), if_neg h3]
              have := ihq (pre ++ [a]) (acc + Ty.meas a (d + 1)) (by simpa using hp) (by omega)
              rw [List.length_append, List.length_singleton] at this
              exact this
        exact key l [] 1 rfl (by omega)
      · rw [if_neg h2, if_pos (.inr h2)]; rfl
theorem TyOk_ok (t : Ty) (hs : t.size ≤ 2000000) : impl_TyOk t.ts = rB t.okB := by
  rw [impl_TyOk_eq, show (1 : Int) = ((1 : Nat) : Int) from rfl, measure_ok t hs 1 (by omega), ocall_int]
  refine resP ?_
  unfold Ty.okB
  simp only [decide_eq_true_eq]
  omega

theorem l3ok_ok (t : Ty) : t.size ≤ 2000000 → ∀ d : Nat, d ≤ 11 → spec_l3ok t.ts d = rI (if Ty.meas t d ≤ 60 then (Ty.meas t d : Int) else -1) := by
  induction t using Ty.ind with
  | h k n l ih =>
    intro hs d hd
    rw [Ty.size_mk] at hs
    have loop : d ≤ 10 → spec_l3ok_j6 0 1 d (k, n, tys l, ()) = rI (if Ty.meass l (d + 1) 1 ≤ 60 then (Ty.meass l (d + 1) 1 : Int) else -1) := by
      intro hd
      have key : ∀ (q pre : List Ty) (acc : Nat), pre ++ q = l → acc ≤ 60 → spec_l3ok_j6 (pre.length : Int) acc d (k, n, tys l, ()) = rI (if Ty.meass q (d + 1) acc ≤ 60 then (Ty.meass q (d + 1) acc : Int) else -1) := by
        intro q
        induction q with
        | nil =>
          intro pre acc hp ha
          rw [spec_l3ok_j6_eq, oite_dec, if_neg (by rw [← hp]; simp [tys, sl]), Ty.meass, if_pos ha]
        | cons a q ihq =>
          intro pre acc hp ha
          have hm := mem_mid hp
          have hlt := len_mid hp
          have hsz := sizes_mem (f := Ty.size) hm
          rw [spec_l3ok_j6_eq, oite_dec, if_pos (show (pre.length : Int) < ((tys l).1 : Nat) by show (pre.length : Int) < (l.length : Nat); omega)]
          simp only
          rw [show tys l = sl (sh := sh_Ty) Ty.ts l from rfl, oat_mid hp rfl, w64_id (x := (d : Int) + 1) (by omega) (by omega)]
          have e := ih a hm (by omega) (d + 1) (by omega)
          rw [show ((d : Int) + 1) = ((d + 1 : Nat) : Int) by omega, e, ocall_int, oite_dec, oite_dec, Ty.meass]
          have hle := Ty.meas_le a (d + 1)
          have hpos := Ty.meas_pos a (d + 1)
          by_cases h4 : Ty.meas a (d + 1) ≤ 60
          · simp only [if_pos h4]
            rw [if_neg (by omega), w64_id (by omega) (by omega), w64_id (by omega) (by omega)]
            by_cases h3 : 60 < acc + Ty.meas a (d + 1)
            · rw [if_pos (by omega), if_pos h3]; rfl
            · rw [if_neg (by omega), if_neg h3]
              have := ihq (pre ++ [a]) (acc + Ty.meas a (d + 1)) (by simpa using hp) (by omega)
              rw [List.length_append, List.length_singleton] at this
              exact this
          · simp only [if_neg h4]
            rw [if_pos (by decide), if_pos (show 60 < acc + Ty.meas a (d + 1) by omega)]; rfl
      exact key l [] 1 rfl (by omega)
    have j1 : ∀ mx w : Int, d ≤ 10 → spec_l3ok_j1 d mx w (k, n, tys l, ()) = if (l.length : Int) = w ∧ 0 ≤ n ∧ n ≤ mx then rI (if Ty.meass l (d + 1) 1 ≤ 60 then (Ty.meass l (d + 1) 1 : Int) else -1) else rI (-1) := by
      intro mx w hd
      rw [spec_l3ok_j1_eq]
      simp only [spec_l3ok_j5_eq, spec_l3ok_j4_eq, loop hd, oite_if, Bool.not_eq_true', beq_eq_false_iff_ne, ne_eq, decide_eq_true_eq, reduceIte, show (tys l).1 = l.length from rfl]
      repeat' split
      all_goals first | rfl | (exfalso; omega) | (exfalso; simp_all)
    rw [spec_l3ok_eq, Ty.ts_mk]
    simp only [spec_l3ok_j2_eq, spec_l3ok_j3_eq]
    by_cases h1 : 10 < d
    · have hM : Ty.meas (.mk k n l) d = 61 := by rw [Ty.meas, if_pos (.inl h1)]
      rw [oite_dec, if_pos (by omega), hM]; rfl
    · simp only [j1 _ _ (show d ≤ 10 by omega)]
      rw [oite_dec, if_neg (by omega)]
      by_cases h2 : headOk k n l.length
      · have hM : Ty.meas (.mk k n l) d = Ty.meass l (d + 1) 1 := by rw [Ty.meas, if_neg (by rintro (h | h); exact h1 h; exact h h2)]
        rw [hM]
        unfold headOk at h2
        simp only [oite_if, beq_iff_eq, decide_eq_true_eq, show (tys l).1 = l.length from rfl]
        generalize Ty.meass l (d + 1) 1 = X
        rcases h2 with ⟨(rfl | rfl | rfl), hl, hn⟩ | ⟨(rfl | rfl), hl, hn⟩ | ⟨rfl, hl, hn⟩ | ⟨rfl, hl, hn, hn'⟩ | ⟨rfl, hl, hn, hn'⟩
        all_goals
          simp only [Int.reduceEq, reduceIte, true_and]
          first
            | rw [if_pos (by omega)]
            | rw [if_neg (by omega), if_pos (by omega)]
      · have hM : Ty.meas (.mk k n l) d = 61 := by rw [Ty.meas, if_pos (.inr h2)]
        rw [hM]
        unfold headOk at h2
        simp only [oite_if, beq_iff_eq, decide_eq_true_eq, show (tys l).1 = l.length from rfl]
        generalize Ty.meass l (d + 1) 1 = X
        rcases (by omega : k = 0 ∨ k = 1 ∨ k = 2 ∨ k = 3 ∨ k = 4 ∨ k = 5 ∨ k = 6 ∨ k = 7 ∨ (k < 0 ∨ 7 < k)) with rfl | rfl | rfl | rfl | rfl | rfl | rfl | rfl | h
        all_goals first
          | (simp only [Int.reduceEq, reduceIte, true_and]
             first
              | (rw [if_neg (by omega)]; rfl)
              | (split
                 · rfl
                 · rw [if_neg (by omega)]; rfl))
          | (rw [if_neg (show ¬ k = 0 by omega), if_neg (show ¬ k = 1 by omega), if_neg (show ¬ k = 2 by omega), if_neg (show ¬ k = 3 by omega), if_neg (show ¬ k = 4 by omega), if_neg (show ¬ k = 5 by omega), if_neg (show ¬ k = 6 by omega), if_neg (show ¬ k = 7 by omega)]; rfl)
theorem spec_TyOk_ok (t : Ty) (hs : t.size ≤ 2000000) : spec_TyOk t.ts = rB t.okB := by
  rw [spec_TyOk_eq, show (1 : Int) = ((1 : Nat) : Int) from rfl, l3ok_ok t hs 1 (by omega), ocall_int]
  refine resP ?_
  have hpos := Ty.meas_pos t 1
  unfold Ty.okB
  simp only [decide_eq_true_eq]
  split <;> omega
end Go.Ev.Q

/-
  Both sides agree on which types a program may name.
-/
namespace Go.Ev.Q
open Go Go.Ev

theorem l7closed_ok (t : Ty) (m : Nat) (_hm : m ≤ 2000000) : t.size ≤ 2000000 → spec_l7closed t.ts m = rB (t.low m) := by
  induction t using Ty.ind with
  | h k n l ih =>
    intro hs
    rw [Ty.size_mk] at hs
    have loop : spec_l7closed_j3 0 m (k, n, tys l, ()) = rB (l.all fun a => a.low m) := by
      have h := loopB (J := fun i => spec_l7closed_j3 i m (k, n, tys l, ())) (l := l) (p := fun a => a.low m) (c := true) (fun pre a q hp => ?_) ?_
      · simpa using h
      · have hlt := len_mid hp
        have hmm := mem_mid hp
        have hsz := sizes_mem (f := Ty.size) hmm
        rw [spec_l7closed_j3_eq, oite_dec, if_pos (show (pre.length : Int) < ((tys l).1 : Nat) by show (pre.length : Int) < (l.length : Nat); omega)]
        simp only
        rw [show tys l = sl (sh := sh_Ty) Ty.ts l from rfl, oat_mid hp rfl, ih a hmm (by omega), ocall_bool, oite_nbool, w64_succ (by omega)]
      · rw [spec_l7closed_j3_eq, oite_dec, if_neg (by simp [tys, sl])]
    rw [spec_l7closed_eq, Ty.ts_mk, Ty.low_mk]
    simp only [spec_l7closed_j2_eq, spec_l7closed_j1_eq, loop]
    simp only [oite_if, beq_iff_eq, decide_eq_true_eq, show (tys l).1 = l.length from rfl, reduceIte, Bool.false_eq_true]
    unfold lowHead
    repeat' split
    all_goals
      refine resP ?_
      simp only [Bool.false_eq_true, false_iff, Bool.and_eq_true, Bool.not_eq_true', Bool.or_eq_false_iff, decide_eq_false_iff_not, Bool.and_eq_false_imp, decide_eq_true_eq]
      first
        | (rintro ⟨⟨q1, q2⟩, q3⟩; simp_all; done)
        | (rintro ⟨⟨q1, q2⟩, q3⟩; have := q2 (by assumption); omega)
        | (refine ⟨fun h => ⟨⟨by omega, fun _ => by omega⟩, h⟩, fun h => h.2⟩)
        | (refine ⟨fun h => ⟨⟨by omega, fun hh => absurd hh (by assumption)⟩, h⟩, fun h => h.2⟩)
        | skip

theorem ocall_bool_sl {R : Type} {b : Bool} {x : Sl} {f : Bool → (Sl × Unit) × Unit → Option R} : ocall (.m (.one .bool)) [.box [.sl 1]] (some (.d (.bool b), [.box [.d (.sl false 1 x.1 x.2)]])) f = f b ((x, ()), ()) := ocall_bool_box (l := [.sl 1]) rfl (t := (x, ()))
theorem ocall_int_sl {R : Type} {n : Int} {x : Sl} {f : Int → (Sl × Unit) × Unit → Option R} : ocall (.m (.one (.int .i64))) [.box [.sl 1]] (some (.d (.int .i64 n), [.box [.d (.sl false 1 x.1 x.2)]])) f = f n ((x, ()), ()) := ocall_int_box (l := [.sl 1]) rfl (t := (x, ()))

theorem lowIn_ok (t : Ty) (x : Sl) (_hm : x.1 ≤ 2000000) : t.size ≤ 2000000 → impl_lowIn t.ts x = rB (t.low x.1) := by
  induction t using Ty.ind with
  | h k n l ih =>
    intro hs
    rw [Ty.size_mk] at hs
    have loop : impl_lowIn_j1 x (k, n, tys l, ()) = rB (l.all fun a => a.low x.1) := by
      obtain ⟨i, h1, h2⟩ := index_all (J := fun i => slices_IndexFunc_impl_Ty_impl_Ty_Fimpl_lowIn_1c_j1 i (tys l) (((tys l).1 : Nat) : Int) x) (l := l) (p := fun a => a.low x.1) (Mm := [.box [.d (.sl false 1 x.1 x.2)]]) (fun pre a q hp => by
        have hlt := len_mid hp
        have hmm := mem_mid hp
        have hsz := sizes_mem (f := Ty.size) hmm
        rw [slices_IndexFunc_impl_Ty_impl_Ty_Fimpl_lowIn_1c_j1_eq, oite_dec, if_pos (show (pre.length : Int) < ((tys l).1 : Nat) by show (pre.length : Int) < (l.length : Nat); omega)]
        rw [show tys l = sl (sh := sh_Ty) Ty.ts l from rfl, oat_mid hp rfl, impl_lowIn_1_eq, ih a hmm (by omega), ocall_bool, ocall_bool_sl, oite_nbool, w64_succ (by omega)])
        (by rw [slices_IndexFunc_impl_Ty_impl_Ty_Fimpl_lowIn_1c_j1_eq, oite_dec, if_neg (by simp [tys, sl])])
      rw [impl_lowIn_j1_eq, slices_ContainsFunc_impl_Ty_impl_Ty_Fimpl_lowIn_1c_eq, slices_IndexFunc_impl_Ty_impl_Ty_Fimpl_lowIn_1c_eq]
      simp only at h1 ⊢
      rw [h1, ocall_int_sl, ocall_bool_sl, h2, Bool.not_not]
    rw [impl_lowIn_eq, Ty.ts_mk, Ty.low_mk]
    simp only [impl_lowIn_j2_eq, loop]
    simp only [oite_if, beq_iff_eq, decide_eq_true_eq, show (tys l).1 = l.length from rfl, reduceIte, Bool.false_eq_true]
    unfold lowHead
    repeat' split
    all_goals
      refine resP ?_
      simp only [Bool.false_eq_true, false_iff, Bool.and_eq_true, Bool.not_eq_true', Bool.or_eq_false_iff, decide_eq_false_iff_not, Bool.and_eq_false_imp, decide_eq_true_eq]
      first
        | (rintro ⟨⟨q1, q2⟩, q3⟩; simp_all; done)
        | (rintro ⟨⟨q1, q2⟩, q3⟩; have := q2 (by assumption); omega)
        | (refine ⟨fun h => ⟨⟨by omega, fun _ => by omega⟩, h⟩, fun h => h.2⟩)
        | (refine ⟨fun h => ⟨⟨by omega, fun hh => absurd hh (by assumption)⟩, h⟩, fun h => h.2⟩)
theorem lowTyOk_ok (t : Ty) (x : Sl) (hm : x.1 ≤ 2000000) (hs : t.size ≤ 2000000) : impl_lowTyOk t.ts x = rB (t.lowOk x.1) := by
  rw [impl_lowTyOk_eq, TyOk_ok t hs, ocall_bool, lowIn_ok t x hm hs, ocall_bool, oite_rB']
  rfl

/-! Layouts -/
def _root_.Go.Ev.Layout.okB (x : Layout) (m : Nat) : Bool := decide (1 ≤ x.cons.length ∧ x.cons.length ≤ 5) && x.cons.all fun c => decide (c.length ≤ 3) && c.all fun t => t.lowOk m
def layoutsB (ls : List Layout) : Bool := decide (ls.length ≤ 20) && ls.all fun x => x.okB ls.length
end Go.Ev.Q

/-
  Both sides agree on which layouts are right.
-/
namespace Go.Ev.Q
open Go Go.Ev

theorem lay_sz {ls : List Layout} {a : Layout} (hs : ls.length + (ls.map Layout.size).sum ≤ 1048576) (h : a ∈ ls) : a.cons.length + (a.cons.map tysSize).sum ≤ 1048576 := by
  have := sizes_mem (f := Layout.size) h
  have e : a.size = a.cons.length + (a.cons.map tysSize).sum := rfl
  omega
theorem con_sz {cs : List (List Ty)} {c : List Ty} (hs : cs.length + (cs.map tysSize).sum ≤ 1048576) (h : c ∈ cs) : c.length + (c.map Ty.size).sum ≤ 1048576 := by
  have := sizes_mem (f := tysSize) h
  have e : tysSize c = c.length + (c.map Ty.size).sum := rfl
  omega
theorem ty_sz {c : List Ty} {t : Ty} (hs : c.length + (c.map Ty.size).sum ≤ 1048576) (h : t ∈ c) : t.size ≤ 2000000 := by
  have := sizes_mem (f := Ty.size) h
  omega
theorem layoutsS_ok (ls : List Layout) (hs : ls.length + (ls.map Layout.size).sum ≤ 1048576) : spec_l7layoutsOk (layouts ls) = rB (layoutsB ls) := by
  have j1 : spec_l7layoutsOk_j1 (layouts ls) 0 = rB ((ls.all fun x => x.okB ls.length) && true) := by
    refine loopB (J := fun i => spec_l7layoutsOk_j1 (layouts ls) i) (fun pre a q hp => ?_) ?_
    · have hlt := len_mid hp
      have has := lay_sz hs (mem_mid hp)
      have at1 : ∀ {R : Type} (f : LS.Ts [.sl 1] → Option R), oat [(.sl 1)] (layouts ls).1 (layouts ls).2 (pre.length : Int) f = f a.ts := fun f => oat_mid hp rfl
      have j4 : spec_l7layoutsOk_j4 (layouts ls) 0 (pre.length : Int) = if (a.cons.all fun c => decide (c.length ≤ 3) && c.all fun t => t.lowOk ls.length) = true then spec_l7layoutsOk_j1 (layouts ls) ((pre.length + 1 : Nat) : Int) else rB false := by
        refine loop_all (J := fun c => spec_l7layoutsOk_j4 (layouts ls) c (pre.length : Int)) (fun pre2 c q2 hp2 => ?_) ?_
        · have hlt2 := len_mid hp2
          have hcs := con_sz has (mem_mid hp2)
          have at2 : ∀ {R : Type} (f : LS.Ts [.sl 3] → Option R), oat [(.sl 3)] a.ts.1.1 a.ts.1.2 (pre2.length : Int) f = f (tys c, ()) := fun f => oat_mid (g := consTs) hp2 rfl
          have j5 : spec_l7layoutsOk_j5 0 (layouts ls) (pre2.length : Int) (pre.length : Int) = if (c.all fun t => t.lowOk ls.length) = true then spec_l7layoutsOk_j4 (layouts ls) ((pre2.length + 1 : Nat) : Int) (pre.length : Int) else rB false := by
            refine loop_all (J := fun k => spec_l7layoutsOk_j5 k (layouts ls) (pre2.length : Int) (pre.length : Int)) (fun pre3 t q3 hp3 => ?_) ?_
            · have hlt3 := len_mid hp3
              have hts := ty_sz hcs (mem_mid hp3)
              have at3 : ∀ {R : Type} (f : T_Ty → Option R), oat sh_Ty (tys c).1 (tys c).2 (pre3.length : Int) f = f t.ts := fun f => oat_mid hp3 rfl
              rw [spec_l7layoutsOk_j5_eq]
              simp only [at1, at2, at3]
              rw [oite_dec, if_pos (show (pre3.length : Int) < ((tys c).1 : Nat) by show (pre3.length : Int) < (c.length : Nat); omega), spec_TyOk_ok t hts, ocall_bool, show ((layouts ls).1 : Int) = (ls.length : Nat) from rfl, l7closed_ok t ls.length (by omega) hts, ocall_bool]
              simp only [spec_l7layoutsOk_j6_eq, oite_t, oite_nbool, w64_succ (show (pre3.length : Int) < 9223372036854775807 by omega)]
              show _ = if (t.okB && t.low ls.length) = true then _ else _
              cases t.okB <;> cases t.low ls.length <;> rfl
            · rw [spec_l7layoutsOk_j5_eq]
              simp only [at1, at2]
              rw [oite_dec, if_neg (by simp [tys, sl]), w64_succ (by omega)]
          rw [spec_l7layoutsOk_j4_eq]
          simp only [at1, at2]
          rw [oite_dec, if_pos (show (pre2.length : Int) < (a.ts.1.1 : Nat) by show (pre2.length : Int) < (a.cons.length : Nat); omega), oite_dec, show (((tys c).1 : Nat) : Int) = (c.length : Nat) from rfl, j5]
          by_cases h : c.length ≤ 3
          · rw [if_neg (by omega)]; simp [h]
          · rw [if_pos (by omega)]; simp [h]
        · rw [spec_l7layoutsOk_j4_eq]
          simp only [at1]
          rw [oite_dec, if_neg (show ¬ (a.cons.length : Int) < (a.ts.1.1 : Nat) by show ¬ (a.cons.length : Int) < (a.cons.length : Nat); omega), w64_succ (by omega)]
      rw [spec_l7layoutsOk_j1_eq]
      simp only [at1]
      rw [oite_dec, if_pos (show (pre.length : Int) < ((layouts ls).1 : Nat) by show (pre.length : Int) < (ls.length : Nat); omega)]
      simp only [spec_l7layoutsOk_j3_eq, spec_l7layoutsOk_j2_eq, j4, oite_t, oite_dec, show a.ts.1.1 = a.cons.length from rfl]
      unfold Layout.okB
      by_cases h1 : a.cons.length < 1
      · rw [if_pos (by omega), if_neg (by rw [decide_eq_false (by omega)]; simp)]
      · rw [if_neg (by omega)]
        by_cases h2 : 5 < a.cons.length
        · rw [if_pos (by omega), if_neg (by rw [decide_eq_false (by omega)]; simp)]
        · rw [if_neg (by omega), decide_eq_true (by omega : 1 ≤ a.cons.length ∧ a.cons.length ≤ 5), Bool.true_and]
    · rw [spec_l7layoutsOk_j1_eq, oite_dec, if_neg (by simp [layouts, sl])]
  rw [spec_l7layoutsOk_eq, j1, oite_rB]
  unfold layoutsB
  refine resP ?_
  rw [show (layouts ls).1 = ls.length from rfl]
  simp only [Bool.and_true, Bool.and_eq_true, Bool.not_eq_true', decide_eq_false_iff_not, decide_eq_true_eq]
  refine ⟨fun h => ⟨by omega, h.2⟩, fun h => ⟨by omega, h.2⟩⟩

theorem layoutsI_ok (ls : List Layout) (hs : ls.length + (ls.map Layout.size).sum ≤ 1048576) : impl_layoutsOk (layouts ls) = rB (layoutsB ls) := by
  have hm : (layouts ls).1 ≤ 2000000 := by show ls.length ≤ _; omega
  have j1 : impl_layoutsOk_j1 0 (layouts ls) (((layouts ls).1 : Nat) : Int) (layouts ls) = rB ((ls.all fun x => x.okB ls.length) && true) := by
    refine loopB (J := fun i => impl_layoutsOk_j1 i (layouts ls) (((layouts ls).1 : Nat) : Int) (layouts ls)) (fun pre a q hp => ?_) ?_
    · have hlt := len_mid hp
      have has := lay_sz hs (mem_mid hp)
      have at1 : ∀ {R : Type} (f : LS.Ts [.sl 1] → Option R), oat [(.sl 1)] (layouts ls).1 (layouts ls).2 (pre.length : Int) f = f a.ts := fun f => oat_mid hp rfl
      have j2 : impl_layoutsOk_j2 0 a.ts.1 (layouts ls) (((layouts ls).1 : Nat) : Int) (pre.length : Int) ((a.ts.1.1 : Nat) : Int) (layouts ls) = if (a.cons.all fun c => decide (c.length ≤ 3) && c.all fun t => t.lowOk ls.length) = true then impl_layoutsOk_j1 ((pre.length + 1 : Nat) : Int) (layouts ls) (((layouts ls).1 : Nat) : Int) (layouts ls) else rB false := by
        refine loop_all (J := fun c => impl_layoutsOk_j2 c a.ts.1 (layouts ls) (((layouts ls).1 : Nat) : Int) (pre.length : Int) ((a.ts.1.1 : Nat) : Int) (layouts ls)) (fun pre2 c q2 hp2 => ?_) ?_
        · have hlt2 := len_mid hp2
          have hcs := con_sz has (mem_mid hp2)
          have at2 : ∀ {R : Type} (f : LS.Ts [.sl 3] → Option R), oat [(.sl 3)] a.ts.1.1 a.ts.1.2 (pre2.length : Int) f = f (tys c, ()) := fun f => oat_mid (g := consTs) hp2 rfl
          obtain ⟨i, h1, h2⟩ := index_all (J := fun i => slices_IndexFunc_impl_Ty_impl_Ty_Fimpl_layoutsOk_1c_j1 i (tys c) (((tys c).1 : Nat) : Int) (layouts ls)) (l := c) (p := fun t => t.lowOk ls.length) (Mm := [.box [.d (.sl false 1 (layouts ls).1 (layouts ls).2)]]) (fun pre a q hp => by
            have hlt := len_mid hp
            have hts := ty_sz hcs (mem_mid hp)
            rw [slices_IndexFunc_impl_Ty_impl_Ty_Fimpl_layoutsOk_1c_j1_eq, oite_dec, if_pos (show (pre.length : Int) < ((tys c).1 : Nat) by show (pre.length : Int) < (c.length : Nat); omega)]
            rw [show tys c = sl (sh := sh_Ty) Ty.ts c from rfl, oat_mid hp rfl, impl_layoutsOk_1_eq, lowTyOk_ok a _ hm hts, ocall_bool, ocall_bool_sl, oite_nbool, w64_succ (by omega)]
            rfl)
            (by rw [slices_IndexFunc_impl_Ty_impl_Ty_Fimpl_layoutsOk_1c_j1_eq, oite_dec, if_neg (by simp [tys, sl])])
          rw [impl_layoutsOk_j2_eq]
          simp only [at2]
          rw [oite_dec, if_pos (show (pre2.length : Int) < (a.ts.1.1 : Nat) by show (pre2.length : Int) < (a.cons.length : Nat); omega), oite_dec, slices_ContainsFunc_impl_Ty_impl_Ty_Fimpl_layoutsOk_1c_eq, slices_IndexFunc_impl_Ty_impl_Ty_Fimpl_layoutsOk_1c_eq]
          rw [h1, ocall_int_sl, ocall_bool_sl, h2, show (((tys c).1 : Nat) : Int) = (c.length : Nat) from rfl]
          simp only [impl_layoutsOk_j3_eq, oite_t, oite_nbool, w64_succ (show (pre2.length : Int) < 9223372036854775807 by omega)]
          by_cases h : c.length ≤ 3
          · rw [if_neg (by omega)]; simp [h]
          · rw [if_pos (by omega)]; simp [h]
        · rw [impl_layoutsOk_j2_eq, oite_dec, if_neg (show ¬ (a.cons.length : Int) < (a.ts.1.1 : Nat) by show ¬ (a.cons.length : Int) < (a.cons.length : Nat); omega), w64_succ (by omega)]
      rw [impl_layoutsOk_j1_eq]
      simp only [at1]
      rw [oite_dec, if_pos (show (pre.length : Int) < ((layouts ls).1 : Nat) by show (pre.length : Int) < (ls.length : Nat); omega), within_ok, ocall_bool, j2, oite_nbool]
      unfold Layout.okB
      rw [show a.ts.1.1 = a.cons.length from rfl]
      by_cases h1 : 1 ≤ a.cons.length ∧ a.cons.length ≤ 5
      · rw [decide_eq_true h1, decide_eq_true (by omega), if_pos rfl, Bool.true_and]
      · rw [decide_eq_false h1, decide_eq_false (by omega), if_neg (by simp), if_neg (by simp)]
    · rw [impl_layoutsOk_j1_eq, oite_dec, if_neg (by simp [layouts, sl])]
  rw [impl_layoutsOk_eq, j1, oite_rB]
  unfold layoutsB
  refine resP ?_
  rw [show (layouts ls).1 = ls.length from rfl]
  simp only [Bool.and_true, Bool.and_eq_true, Bool.not_eq_true', decide_eq_false_iff_not, decide_eq_true_eq]
  refine ⟨fun h => ⟨by omega, h.2⟩, fun h => ⟨by omega, h.2⟩⟩
end Go.Ev.Q
