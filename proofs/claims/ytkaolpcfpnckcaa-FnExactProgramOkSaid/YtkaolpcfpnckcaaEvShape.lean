/-
  Values in their forms.
-/
import Derived.Test.YtkaolpcfpnckcaaEvSt
import Derived.Test.YtkaolpcfpnckcaaEvMv
set_option linter.unusedVariables false
set_option linter.unusedSimpArgs false
namespace Go.Ev
open Go

theorem bif_some' {R : Type} {c : Bool} {x : Option R} {r : R} (h : (bif c then x else none) = some r) : c = true ∧ x = some r := by
  cases c <;> simp at h ⊢; exact h
theorem ocall_some {R : Type} {s : Sh} {m : List ES} {x : Option (V × Mem)} {f : s.T → ES.Ts m → Option R} {r : R} (h : ocall s m x f = some r) : ∃ v M t u, x = some (v, M) ∧ s.dec v = some t ∧ ES.decs m M = some u ∧ f t u = some r := by
  unfold ocall at h
  split at h
  · split at h
    · exact ⟨_, _, _, _, rfl, by assumption, by assumption, h⟩
    · cases h
  · cases h
theorem onil_some {R : Type} {n : Nat} {x y : Option R} {r : R} (h : onil n x y = some r) : (n = 0 ∧ x = some r ∧ y = some r) ∨ (n ≠ 0 ∧ y = some r) := by
  unfold onil at h
  split at h
  · split at h
    · rename_i h0 h1; exact .inl ⟨h0, h, h1 ▸ h⟩
    · cases h
  · rename_i h0; exact .inr ⟨h0, h⟩
theorem onil_pos {R : Type} {n : Nat} {x y : Option R} (h : n ≠ 0) : onil n x y = y := by unfold onil; rw [if_neg h]
theorem onil_same {R : Type} {n : Nat} {x : Option R} : onil n x x = x := by unfold onil; split <;> simp
theorem ocells_some {R : Type} {l : List LS} {c : List D} {f : LS.Ts l → Option R} {r : R} (h : ocells l c f = some r) : ∃ t, LS.decD l c = some t ∧ f t = some r := by
  unfold ocells at h
  split at h
  · exact ⟨_, by assumption, h⟩
  · cases h
theorem oat_some {R : Type} {l : List LS} {n : Nat} {es : List (List D)} {i : Int} {f : LS.Ts l → Option R} {r : R} (h : oat l n es i f = some r) : (0 ≤ i ∧ i < n) ∧ ∃ t, LS.decD l (es.getD i.toNat []) = some t ∧ f t = some r := by
  unfold oat at h
  cases hd : decide (0 ≤ i ∧ i < n) with
  | false => rw [hd] at h; cases h
  | true =>
    rw [hd] at h
    simp only [cond_true] at h
    split at h
    · exact ⟨of_decide_eq_true hd, _, by assumption, h⟩
    · cases h

theorem ocall_t {R : Type} {s : Sh} {m : List ES} {x : Option (V × Mem)} {f : s.T → ES.Ts m → Option R} {v : V} {M : Mem} {t : s.T} {u : ES.Ts m} (h : x = some (v, M)) (h1 : s.dec v = some t) (h2 : ES.decs m M = some u) : ocall s m x f = f t u := by
  unfold ocall; rw [h]; simp only [h1, h2]
theorem ocells_t {R : Type} {l : List LS} {c : List D} {f : LS.Ts l → Option R} {t : LS.Ts l} (h : LS.decD l c = some t) : ocells l c f = f t := by
  unfold ocells; simp only [h]
theorem oat_t {R : Type} {l : List LS} {n : Nat} {es : List (List D)} {i : Int} {f : LS.Ts l → Option R} {t : LS.Ts l} (hi : 0 ≤ i ∧ i < n) (h : LS.decD l (es.getD i.toNat []) = some t) : oat l n es i f = f t := by
  unfold oat; rw [decide_eq_true hi]; simp only [cond_true, h]

section
variable {w : World} {C : Com} {ι : Locs}
theorem LS.dec_ok (s : LS) {v : V} {t : s.T} {u : Value} (h : s.dec v = some t) (hu : RV w C ι u v) : RV w C ι u (s.enc t) := by
  cases s with
  | int k =>
    simp only [LS.dec] at h
    split at h
    · split at h
      · rename_i hk; cases h; subst hk; exact hu
      · cases h
    · cases h
  | bool =>
    simp only [LS.dec] at h
    split at h
    · cases h; exact hu
    · cases h; unfold RV at hu; show RV w C ι u (.d (.bool _)); unfold RV RD; exact hu
    · cases h
  | str =>
    simp only [LS.dec] at h
    split at h
    · cases h; exact hu
    · cases h
  | sl sz =>
    simp only [LS.dec] at h
    split at h
    · rename_i f sz' n es
      obtain ⟨hb, h⟩ := bif_some' h
      cases h
      have := Nat.eq_of_beq_eq_true hb
      subst this
      show RV w C ι u (.d (.sl false _ _ _))
      unfold RV RD at hu ⊢
      obtain ⟨a, cap, e, h1, _, h3, h4, h5⟩ := hu
      exact ⟨a, cap, e, h1, (fun h => by cases h), h3, h4, h5⟩
    · cases h
  | own i =>
    simp only [LS.dec] at h
    split at h
    · obtain ⟨hb, h⟩ := bif_some' h
      have := Nat.eq_of_beq_eq_true hb
      subst this
      exact hu
    · cases h
  | ptr i o =>
    simp only [LS.dec] at h
    split at h
    · obtain ⟨hb, h⟩ := bif_some' h
      simp only [Bool.and_eq_true] at hb
      have h1 := Nat.eq_of_beq_eq_true hb.1
      have h2 := Nat.eq_of_beq_eq_true hb.2
      subst h1 h2
      exact hu
    · cases h
  | undef => show RV w C ι u .undef; simp [RV]
theorem LS.decs_ok : ∀ (l : List LS) {vs : List V} {t : LS.Ts l} {us : List Value}, LS.decs l vs = some t → RVs w C ι us vs → RVs w C ι us (LS.encs l t)
  | [], vs, t, us, h, hu => by
    simp only [LS.decs] at h
    split at h
    · exact hu
    · cases h
  | s :: l, vs, t, us, h, hu => by
    simp only [LS.decs] at h
    split at h
    · rename_i v vs
      split at h
      · rename_i t1 t2 h1 h2
        cases h
        cases us with
        | nil => simp [RVs] at hu
        | cons u us =>
          unfold RVs at hu
          show RVs w C ι (u :: us) (s.enc t1 :: LS.encs l t2)
          unfold RVs
          exact ⟨LS.dec_ok s h1 hu.1, LS.decs_ok l h2 hu.2⟩
      · cases h
    · cases h
theorem MS.dec_ok (s : MS) {v : V} {t : s.T} {u : Value} (h : s.dec v = some t) (hu : RV w C ι u v) : RV w C ι u (s.enc t) := by
  cases s with
  | one s => exact LS.dec_ok s h hu
  | agg l =>
    cases v with
    | agg vs =>
      have h : LS.decs l vs = some t := h
      show RV w C ι u (.agg (LS.encs l t))
      unfold RV at hu ⊢
      obtain ⟨cs, e, hv⟩ := hu
      exact ⟨cs, e, LS.decs_ok l h hv⟩
    | _ =>
      have h : (none : Option (LS.Ts l)) = some t := h
      exact nomatch h
  | fn f l =>
    cases v with
    | fn f' vs =>
      have h : (bif Nat.beq f' f then LS.decs l vs else none) = some t := h
      obtain ⟨hb, h⟩ := bif_some' h
      have hf := Nat.eq_of_beq_eq_true hb
      subst hf
      show RV w C ι u (.fn f' (LS.encs l t))
      unfold RV at hu ⊢
      obtain ⟨cs, e, hv⟩ := hu
      exact ⟨cs, e, LS.decs_ok l h hv⟩
    | _ =>
      have h : (none : Option (LS.Ts l)) = some t := h
      exact nomatch h
theorem MS.decs_ok : ∀ (l : List MS) {vs : List V} {t : MS.Ts l} {us : List Value}, MS.decs l vs = some t → RVs w C ι us vs → RVs w C ι us (MS.encs l t)
  | [], vs, t, us, h, hu => by
    simp only [MS.decs] at h
    split at h
    · exact hu
    · cases h
  | s :: l, vs, t, us, h, hu => by
    simp only [MS.decs] at h
    split at h
    · rename_i v vs
      split at h
      · rename_i t1 t2 h1 h2
        cases h
        cases us with
        | nil => simp [RVs] at hu
        | cons u us =>
          unfold RVs at hu
          show RVs w C ι (u :: us) (s.enc t1 :: MS.encs l t2)
          unfold RVs
          exact ⟨MS.dec_ok s h1 hu.1, MS.decs_ok l h2 hu.2⟩
      · cases h
    · cases h
theorem Sh.dec_ok (s : Sh) {v : V} {t : s.T} {u : Value} (h : s.dec v = some t) (hu : RV w C ι u v) : RV w C ι u (s.enc t) := by
  cases s with
  | m s => exact MS.dec_ok s h hu
  | tup l =>
    cases v with
    | tup vs =>
      have h : MS.decs l vs = some t := h
      show RV w C ι u (.tup (MS.encs l t))
      unfold RV at hu ⊢
      obtain ⟨cs, e, hv⟩ := hu
      exact ⟨cs, e, MS.decs_ok l h hv⟩
    | _ =>
      have h : (none : Option (MS.Ts l)) = some t := h
      exact nomatch h

theorem decD_eq : ∀ (l : List LS) (xs : List D), LS.decD l xs = LS.decs l (toVs xs)
  | [], [] => rfl
  | [], _ :: _ => rfl
  | _ :: _, [] => rfl
  | s :: l, x :: xs => by
    simp only [LS.decD, toVs, LS.decs]
    rw [decD_eq l xs]

theorem LS.encs_len : ∀ (l : List LS) (t : LS.Ts l), (LS.encs l t).length = l.length
  | [], _ => rfl
  | s :: l, t => by
    show (s.enc t.1 :: LS.encs l t.2).length = _
    simp [LS.encs_len l t.2]
theorem ES.dec_ok (s : ES) {L : Loc} {e : Ent} {t : s.T} (h : s.dec e = some t) (he : EntOk w C ι L e) : EntOk w C ι L (s.enc t) ∧ ∀ {sz n fz es}, e = .row sz n fz true es → ∃ sz n fz es, s.enc t = .row sz n fz true es := by
  cases s with
  | box l =>
    cases e with
    | box vs =>
      have h : LS.decs l vs = some t := h
      refine ⟨?_, fun h => nomatch h⟩
      show EntOk w C ι L (.box (LS.encs l t))
      obtain ⟨h1, h2, us, T, fr, h3, h4, h5⟩ := he
      exact ⟨h1, h2, us, T, fr, h3, h4, LS.decs_ok l h h5⟩
    | row => exact nomatch (show (none : Option (LS.Ts l)) = some t from h)
  | row sz fz mv =>
    cases e with
    | box => exact nomatch (show (none : Option (Nat × List (List D))) = some t from h)
    | row sz' n fz' mv' es =>
      have h : (bif Nat.beq sz' sz && ((fz || !fz') && (mv || !mv')) then some (n, es) else none) = some t := h
      obtain ⟨hb, h⟩ := bif_some' h
      cases h
      simp only [Bool.and_eq_true] at hb
      obtain ⟨h1, h2, h3⟩ := hb
      have h1 := Nat.eq_of_beq_eq_true h1
      subst h1
      obtain ⟨q1, q2, q3, q4, q5, q6, q7⟩ := he
      refine ⟨⟨q1, q2, q3, q4, q5, q6, q7.imp id ?_⟩, ?_⟩
      · rintro ⟨us, T, fr, h1, h2', h3', h4, h5⟩
        refine ⟨us, T, fr, h1, h2', h3', ?_, h5⟩
        cases fz <;> cases fz' <;> simp at h2 h4 ⊢ <;> first | exact h4 | omega
      · intro _ _ _ _ e
        cases e
        refine ⟨sz', n, fz, es, ?_⟩
        show Ent.row sz' n fz mv es = _
        cases mv <;> simp at h3 ⊢
theorem ES.decs_ok' : ∀ (l : List ES) {M : Mem} {u : ES.Ts l}, ES.decs l M = some u → (ES.encs l u).length = M.length ∧ ∀ (i : Nat) (e : Ent), M[i]? = some e → ∃ e', (ES.encs l u)[i]? = some e' ∧ (∀ {L : Loc}, EntOk w C ι L e → EntOk w C ι L e') ∧ ∀ {sz n fz es}, e = .row sz n fz true es → ∃ sz n fz es, e' = .row sz n fz true es
  | [], M, u, h => by
    cases M with
    | nil => exact ⟨rfl, fun i e h => by simp at h⟩
    | cons e M => exact nomatch (show (none : Option Unit) = some u from h)
  | s :: l, M, u, h => by
    cases M with
    | nil => exact nomatch (show (none : Option (ES.Ts (s :: l))) = some u from h)
    | cons e M =>
      have h : (match s.dec e, ES.decs l M with
        | some t, some ts => some (t, ts)
        | _, _ => none) = some u := h
      split at h
      · rename_i t1 t2 h1 h2
        cases h
        obtain ⟨i1, i2⟩ := ES.decs_ok' l h2
        refine ⟨?_, fun i e' he' => ?_⟩
        · show (s.enc t1 :: ES.encs l t2).length = _
          simp [i1]
        · show ∃ e'', (s.enc t1 :: ES.encs l t2)[i]? = some e'' ∧ _
          cases i with
          | zero =>
            simp at he'
            subst he'
            exact ⟨_, rfl, fun he => (ES.dec_ok s h1 he).1, fun {sz n fz es} e0 => by
              subst e0
              have key : ∀ {x : Ent} {t : s.T}, s.dec x = some t → x = .row sz n fz true es → ∃ sz n fz es, s.enc t = .row sz n fz true es := by
                intro x t hx e0
                subst e0
                cases s with
                | box l => exact nomatch (show (none : Option (LS.Ts l)) = some t from hx)
                | row sz0 fz0 mv0 =>
                  have h : (bif Nat.beq sz sz0 && ((fz0 || !fz) && (mv0 || !true)) then some (n, es) else none) = some t := hx
                  obtain ⟨hb, h⟩ := bif_some' h
                  cases h
                  simp only [Bool.and_eq_true] at hb
                  refine ⟨sz0, n, fz0, es, ?_⟩
                  show Ent.row sz0 n fz0 mv0 es = _
                  have := hb.2.2
                  cases mv0 <;> simp at this ⊢
              exact key h1 rfl⟩
          | succ i => exact i2 i e' (by simpa using he')
      · exact nomatch h
theorem ES.decs_ok (l : List ES) {M : Mem} {u : ES.Ts l} (h : ES.decs l M = some u) (hst : St C ι M w) : St C ι (ES.encs l u) w ∧ ∀ i, mvs M i → mvs (ES.encs l u) i := by
  obtain ⟨h1, h2⟩ := ES.decs_ok' (w := w) (C := C) (ι := ι) l h
  refine ⟨⟨by rw [h1]; exact hst.len, fun i L e' hL he' => ?_, hst.inj, hst.com⟩, ?_⟩
  · have hlt : i < M.length := by rw [← hst.len]; exact (List.getElem?_eq_some_iff.1 hL).1
    obtain ⟨e'', q1, q2, _⟩ := h2 i M[i] (List.getElem?_eq_getElem hlt)
    rw [q1] at he'; cases he'
    exact q2 (hst.ent i L _ hL (List.getElem?_eq_getElem hlt))
  · rintro i ⟨sz, n, fz, es, hi⟩
    obtain ⟨e'', q1, _, q3⟩ := h2 i _ hi
    obtain ⟨a, b, c, d, e⟩ := q3 rfl
    exact ⟨a, b, c, d, by rw [q1, e]⟩

/-- What is told of data is data. -/
theorem dec_data {s : LS} {x : D} {t : s.T} (h : s.dec (.d x) = some t) : (∃ y, s.enc t = .d y) ∨ s.enc t = .undef := by
  cases s with
  | int k => exact .inl ⟨_, rfl⟩
  | bool => exact .inl ⟨_, rfl⟩
  | str => exact .inl ⟨_, rfl⟩
  | sl sz => exact .inl ⟨_, rfl⟩
  | undef => exact .inr rfl
  | _ => simp [LS.dec] at h
/-- The cells of an element, told in their form. -/
theorem cells_ok {g : Nat → Option Value} : ∀ (l : List LS) {c : List D} {t : LS.Ts l} {off : Nat}, LS.decD l c = some t → leafs (LS.encs l t) = true → RCs w C g off c → RCs w C g off (vDs (LS.encs l t)) ∧ LS.encs l t = toVs (vDs (LS.encs l t))
  | [], c, t, off, h, _, hr => ⟨by show RCs w C g off []; simp [RCs], rfl⟩
  | s :: l, c, t, off, h, hl, hr => by
    cases c with
    | nil => simp [LS.decD] at h
    | cons x c =>
      simp only [LS.decD] at h
      split at h
      · rename_i t1 t2 h1 h2
        cases h
        have hl' : leafs (s.enc t1 :: LS.encs l t2) = true := hl
        simp only [leafs, Bool.and_eq_true] at hl'
        unfold RCs at hr
        obtain ⟨hu, hr'⟩ := hr
        obtain ⟨i1, i2⟩ := cells_ok l (t := t2) h2 hl'.2 hr'
        obtain ⟨u, hg, hx⟩ := hu
        have hv : RV w C [] u (s.enc t1) := LS.dec_ok s h1 (by unfold RV; exact hx)
        rcases dec_data h1 with ⟨y, hy⟩ | hy
        · have e : vDs (LS.encs (s :: l) (t1, t2)) = y :: vDs (LS.encs l t2) := by
            show vD (s.enc t1) :: vDs (LS.encs l t2) = _
            rw [hy]; rfl
          refine ⟨?_, ?_⟩
          · rw [e]; unfold RCs
            refine ⟨⟨u, hg, ?_⟩, i1⟩
            rw [hy] at hv; unfold RV at hv; exact hv
          · rw [e]
            show s.enc t1 :: LS.encs l t2 = _
            rw [hy]
            simp only [toVs]
            rw [← i2]
        · rw [hy] at hl'; simp [V.leaf] at hl'
      · cases h
theorem alld_leafs : ∀ (l : List LS) (t : LS.Ts l), LS.alld l = true → leafs (LS.encs l t) = true
  | [], _, _ => rfl
  | s :: l, t, h => by
    have h' : (s.isD && LS.alld l) = true := h
    rw [Bool.and_eq_true] at h'
    show ((s.enc t.1).leaf && leafs (LS.encs l t.2)) = true
    rw [Bool.and_eq_true]
    refine ⟨?_, alld_leafs l t.2 h'.2⟩
    cases s <;> first | rfl | exact nomatch h'.1
theorem vDs_len : ∀ (vs : List V), (vDs vs).length = vs.length
  | [] => rfl
  | v :: vs => by simp [vDs, vDs_len vs]
end
end Go.Ev
