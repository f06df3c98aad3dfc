import Derived.Test.YtkgabahlbmonfaaDoorEvLt
set_option linter.unusedVariables false
set_option linter.unusedSimpArgs false
/-
  The evaluator's operations are the machine's: reads, stores, data out of rows.
-/
namespace Go.Ev
open Go


structure Go1 (C : Com) (ι : Locs) (M : Mem) (w : World) (C' : Com) (ι' : Locs) (M' : Mem) (w' : World) (ks : Nat → Prop) : Prop where
  st : St C' ι' M' w'
  stp : Stp C ι w C' ι' w' ks
  mv : ∀ i, i < M.length → mvs M i ∨ ks i → mvs M' i

theorem Go1.refl {C : Com} {ι : Locs} {M : Mem} {w : World} (h : St C ι M w) : Go1 C ι M w C ι M w (fun _ => False) :=
  ⟨h, .refl h.own _, fun _ _ h => h.elim id False.elim⟩
theorem Go1.refl' {C : Com} {ι : Locs} {M : Mem} {w : World} (h : St C ι M w) : Go1 C ι M w C ι M w (· ∈ ([] : List Nat)) :=
  ⟨h, .refl h.own _, fun _ _ h => h.elim id (fun h => by simp at h)⟩

theorem Go1.grow {C : Com} {ι : Locs} {M : Mem} {w : World} {C' : Com} {ι' : Locs} {M' : Mem} {w' : World} {ks : Nat → Prop} (h0 : St C ι M w) (h : Go1 C ι M w C' ι' M' w' ks) : M.length ≤ M'.length := by
  rw [← h0.len, ← h.st.len]; exact h.stp.grow

theorem Go1.trans {C0 C1 C2 : Com} {ι0 ι1 ι2 : Locs} {M0 M1 M2 : Mem} {w0 w1 w2 : World} {k1 k2 k : Nat → Prop} (h0 : St C0 ι0 M0 w0) (h : Go1 C0 ι0 M0 w0 C1 ι1 M1 w1 k1) (h' : Go1 C1 ι1 M1 w1 C2 ι2 M2 w2 k2)
    (e : ∀ i, k i ↔ k1 i ∨ k2 i) : Go1 C0 ι0 M0 w0 C2 ι2 M2 w2 k := by
  refine ⟨h'.st, h.stp.trans h'.stp (fun i _ hi => (e i).2 (.inl hi)) (fun i _ hi => (e i).2 (.inr hi)), fun i hi hm => ?_⟩
  have hl := h.grow h0
  refine h'.mv i (by omega) ?_
  rcases hm with hm | hm
  · exact .inl (h.mv i hi (.inl hm))
  · rcases (e i).1 hm with hm | hm
    · exact .inl (h.mv i hi (.inr hm))
    · exact .inr hm
theorem Go1.weak {C : Com} {ι : Locs} {M : Mem} {w : World} {C' : Com} {ι' : Locs} {M' : Mem} {w' : World} {ks ks' : Nat → Prop} (h : Go1 C ι M w C' ι' M' w' ks) (e : ∀ i, ks i ↔ ks' i) : Go1 C ι M w C' ι' M' w' ks' := by
  have : ks = ks' := funext fun i => propext (e i)
  subst this; exact h

/-- What goes on behind an operation. -/
def Nxt {R : Type} (C : Com) (ι : Locs) (M : Mem) (w : World) (k : V → Mem → List Nat → Option R) (r : R) (Nx : Value → World → Prop) : Prop :=
  ∀ u v M' ks C' ι' w', k v M' ks = some r → Go1 C ι M w C' ι' M' w' (· ∈ ks) → RV w' C' ι' u v → Nx u w'

theorem Nxt.same {R : Type} {C : Com} {ι : Locs} {M : Mem} {w : World} {k : V → Mem → List Nat → Option R} {r : R} {Nx : Value → World → Prop} (h : Nxt C ι M w k r Nx) (hst : St C ι M w) {u : Value} {v : V} (hk : k v M [] = some r) (hv : RV w C ι u v) : Nx u w :=
  h u v M [] C ι w hk (Go1.refl' hst) hv

/-- What an operation's run comes to. -/
def After (P : Program) (Nx : Value → World → Prop) : Result Next → Prop
  | .ok (.value u) w => Nx u w
  | .ok .skip w => Nx undef w
  | .ok (.enter f args) w => Calls P f args w fun e w' => ∃ u, e = .returned u ∧ Nx u w'
  | _ => False

/-! data out of rows -/
theorem RD.wk {w : World} {C : Com} {v : Value} {x : D} (h : RD w C v x) : RD w C v x.wk := by
  cases x with
  | sl f sz n es =>
    simp only [D.wk]
    unfold RD at h ⊢
    obtain ⟨a, cap, e, h1, _, h3, h4, h5⟩ := h
    exact ⟨a, cap, e, h1, (fun h => by cases h), h3, h4, h5⟩
  | _ => simpa [D.wk] using h

theorem mvs_setE {M : Mem} {id : Nat} {e e' : Ent} (h : M[id]? = some e) (he : e.mvd = true → e'.mvd = true) {i : Nat} (hm : mvs M i) : mvs (M.set id e') i := by
  obtain ⟨e1, h1, h2⟩ := hm
  by_cases ei : id = i
  · subst ei
    rw [h] at h1; cases h1
    exact ⟨e', List.getElem?_set_self (lt_of_get h), he h2⟩
  · exact ⟨e1, by rw [List.getElem?_set_ne ei]; exact h1, h2⟩
theorem mvs_set {M : Mem} {id : Nat} {sz n : Nat} {fz fz' mv : Bool} {es : List (List D)} {n' : Nat} {es' : List (List D)} (h : M[id]? = some (.row sz n fz mv es)) {i : Nat} (hm : mvs M i) : mvs (M.set id (.row sz n' fz' mv es')) i :=
  mvs_setE (e' := .row sz n' fz' mv es') h (fun h => h) hm

theorem freeze1_ok {M : Mem} {v : V} {x : D} {M' : Mem} (hf : freeze1 M v = some (x, M')) {C : Com} {ι : Locs} {w : World} (hst : St C ι M w) {u : Value} (hu : RV w C ι u v) :
    ∃ C', Go1 C ι M w C' ι M' w (fun _ => False) ∧ RD w C' u x ∧ M'.length = M.length := by
  cases v with
  | d y => simp [freeze1] at hf; obtain ⟨rfl, rfl⟩ := hf; unfold RV at hu; exact ⟨C, Go1.refl hst, hu.wk, rfl⟩
  | kb b => simp [freeze1] at hf; obtain ⟨rfl, rfl⟩ := hf; unfold RV at hu; exact ⟨C, Go1.refl hst, by unfold RD; exact hu, rfl⟩
  | own id =>
    simp only [freeze1, getM] at hf
    cases hM : M[id]? with
    | none => rw [hM] at hf; cases hf
    | some e =>
      rw [hM] at hf
      cases e with
      | box cs => cases hf
      | hole sz n mv es i j v => cases hf
      | lrow sz n mv es =>
        simp only [Option.some.injEq, Prod.mk.injEq] at hf
        obtain ⟨rfl, rfl⟩ := hf
        obtain ⟨C', h1, h2, h3⟩ := hst.lfreeze hM
        refine ⟨C', ⟨h1, h2 _, fun i _ hm => mvs_setE (e' := .row sz n true mv es) hM (fun h => h) (hm.elim (fun h => h) False.elim)⟩, ?_, by simp⟩
        unfold RV at hu
        obtain ⟨L, hL, hr, a, rfl, ha⟩ := hu
        obtain ⟨_, e1, e2, e3, e4, e5, _⟩ := hst.ent id L _ hL hM
        subst e2
        unfold RD
        refine ⟨a, L.cap, rfl, e3, (fun h => by cases h), e4, e5, ?_⟩
        rcases h3 L hL with h0 | ⟨hc, hre⟩
        · exact .inl (by omega)
        · rcases ha with h0 | rfl
          · exact .inl (by omega)
          · exact .inr ⟨_, _, rfl, hc, hre⟩
      | row sz n fz mv es =>
        simp only [Option.some.injEq, Prod.mk.injEq] at hf
        obtain ⟨rfl, hM'⟩ := hf
        obtain ⟨C', h1, h2, h3⟩ := hst.freeze hM
        have hM2 : M' = M.set id (.row sz n true mv es) := by
          cases fz with
          | true => rw [← hM', set_same hM]; rfl
          | false => exact hM'.symm
        subst hM2
        refine ⟨C', ⟨h1, h2 _, fun i _ hm => mvs_set hM (hm.elim (fun h => h) False.elim)⟩, ?_, by simp⟩
        unfold RV at hu
        obtain ⟨L, hL, hr, a, rfl, ha⟩ := hu
        obtain ⟨_, e1, e2, e3, e4, e5, _⟩ := hst.ent id L _ hL hM
        subst e2
        unfold RD
        refine ⟨a, L.cap, rfl, e3, (fun h => by cases h), e4, e5, ?_⟩
        rcases h3 L hL with h0 | ⟨hc, hre⟩
        · exact .inl (by omega)
        · rcases ha with h0 | rfl
          · exact .inl (by omega)
          · exact .inr ⟨_, _, rfl, hc, hre⟩
  | ref id off n' =>
    simp only [freeze1, getM] at hf
    cases hM : M[id]? with
    | none => rw [hM] at hf; cases hf
    | some e =>
      rw [hM] at hf
      cases e with
      | box cs => cases hf
      | hole sz n mv es i j v => cases hf
      | lrow sz n mv es => cases hf
      | row sz n fz mv es =>
        simp only [Option.some.injEq, Prod.mk.injEq] at hf
        obtain ⟨rfl, hM'⟩ := hf
        obtain ⟨C', h1, h2, h3⟩ := hst.freeze hM
        have hM2 : M' = M.set id (.row sz n true mv es) := by
          cases fz with
          | true => rw [← hM', set_same hM]; rfl
          | false => exact hM'.symm
        subst hM2
        refine ⟨C', ⟨h1, h2 _, fun i _ hm => mvs_set hM (hm.elim (fun h => h) False.elim)⟩, ?_, by simp⟩
        unfold RV at hu
        obtain ⟨L, hL, hr, hle, a, c, rfl, hnc, ha⟩ := hu
        obtain ⟨_, e1, e2, e3, e4, e5, _⟩ := hst.ent id L _ hL hM
        subst e2 e1
        unfold RD
        refine ⟨a, c, rfl, hnc, (fun h => by cases h), by simp; omega, fun c' hc' => e5 c' (List.drop_subset _ _ (List.take_subset _ _ hc')), ?_⟩
        rcases ha with h0 | ⟨hc0, rfl⟩
        · exact .inl (by omega)
        · rcases h3 L hL with h0 | ⟨hc, hre⟩
          · exact .inl (by omega)
          · refine .inr ⟨_, _, rfl, ?_, ?_⟩
            · have : (off + n') * L.sz ≤ L.n * L.sz := Nat.mul_le_mul_right _ hle
              rw [Nat.add_mul] at this; omega
            · exact REs.take _ (REs.drop off e5 (by omega) hre)
  | _ => simp [freeze1] at hf

theorem Go1.rvs {C : Com} {ι : Locs} {M : Mem} {w : World} {C' : Com} {ι' : Locs} {M' : Mem} {w' : World} (h : Go1 C ι M w C' ι' M' w' (fun _ => False)) {us : List Value} {xs : List V} (hv : RVs w C ι us xs) : RVs w' C' ι' us xs :=
  RVs.mono h.stp.keeps (fun i L hi => h.stp.same i L hi id) xs hv
theorem Go1.rv {C : Com} {ι : Locs} {M : Mem} {w : World} {C' : Com} {ι' : Locs} {M' : Mem} {w' : World} (h : Go1 C ι M w C' ι' M' w' (fun _ => False)) {u : Value} {x : V} (hv : RV w C ι u x) : RV w' C' ι' u x :=
  RV.mono h.stp.keeps (fun i L hi => h.stp.same i L hi id) x hv

theorem freezeL_ok : ∀ {vs : List V} {M : Mem} {xs : List D} {M' : Mem} (_ : freezeL M vs = some (xs, M')) {C : Com} {ι : Locs} {w : World} (_ : St C ι M w) {us : List Value} (_ : RVs w C ι us vs),
    ∃ C', Go1 C ι M w C' ι M' w (fun _ => False) ∧ RVs w C' ι us (toVs xs) ∧ M'.length = M.length ∧ xs.length = vs.length
  | [], M, xs, M', hf, C, ι, w, hst, us, hu => by
    simp [freezeL] at hf; obtain ⟨rfl, rfl⟩ := hf
    exact ⟨C, Go1.refl hst, hu, rfl, rfl⟩
  | v :: vs, M, xs, M', hf, C, ι, w, hst, [], hu => by simp [RVs] at hu
  | v :: vs, M, xs, M', hf, C, ι, w, hst, u :: us, hu => by
    unfold RVs at hu
    simp only [freezeL] at hf
    cases h1 : freeze1 M v with
    | none => rw [h1] at hf; cases hf
    | some p =>
      obtain ⟨x, M1⟩ := p
      rw [h1] at hf; simp only at hf
      cases h2 : freezeL M1 vs with
      | none => rw [h2] at hf; cases hf
      | some q =>
        obtain ⟨ys, M2⟩ := q
        rw [h2] at hf; simp at hf; obtain ⟨rfl, rfl⟩ := hf
        obtain ⟨C1, g1, r1, l1⟩ := freeze1_ok h1 hst hu.1
        obtain ⟨C2, g2, r2, l2, l3⟩ := freezeL_ok h2 g1.st (g1.rvs hu.2)
        refine ⟨C2, g1.trans hst g2 (fun i => by simp), ?_, l2.trans l1, by simp [l3]⟩
        simp only [toVs]; unfold RVs
        exact ⟨by unfold RV; exact r1.mono g2.stp.keeps, r2⟩

theorem freezeV_ok {M : Mem} {v : V} {x : V} {M' : Mem} (hf : freezeV M v = some (x, M')) {C : Com} {ι : Locs} {w : World} (hst : St C ι M w) {u : Value} (hu : RV w C ι u v) :
    ∃ C', Go1 C ι M w C' ι M' w (fun _ => False) ∧ RV w C' ι u x ∧ M'.length = M.length := by
  have base : ∀ v, (match freeze1 M v with | some (x, M) => some (V.d x, M) | none => none) = some (x, M') → RV w C ι u v → ∃ C', Go1 C ι M w C' ι M' w (fun _ => False) ∧ RV w C' ι u x ∧ M'.length = M.length := by
    intro v hf hu
    cases h1 : freeze1 M v with
    | none => rw [h1] at hf; cases hf
    | some p =>
      obtain ⟨y, M1⟩ := p
      rw [h1] at hf; simp at hf; obtain ⟨rfl, rfl⟩ := hf
      obtain ⟨C1, g1, r1, l1⟩ := freeze1_ok h1 hst hu
      exact ⟨C1, g1, by unfold RV; exact r1, l1⟩
  cases v with
  | agg vs =>
    simp only [freezeV] at hf
    cases h1 : freezeL M vs with
    | none => rw [h1] at hf; cases hf
    | some p =>
      obtain ⟨ys, M1⟩ := p
      rw [h1] at hf; simp at hf; obtain ⟨rfl, rfl⟩ := hf
      unfold RV at hu
      obtain ⟨cs, rfl, hr⟩ := hu
      obtain ⟨C1, g1, r1, l1, _⟩ := freezeL_ok h1 hst hr
      exact ⟨C1, g1, by unfold RV; exact ⟨cs, rfl, r1⟩, l1⟩
  | fn f cs => simp [freezeV] at hf; obtain ⟨rfl, rfl⟩ := hf; exact ⟨C, Go1.refl hst, hu, rfl⟩
  | _ => exact base _ (by unfold freezeV at hf; exact hf) hu
theorem freezeVs_ok : ∀ {vs : List V} {M : Mem} {xs : List V} {M' : Mem} (_ : freezeVs M vs = some (xs, M')) {C : Com} {ι : Locs} {w : World} (_ : St C ι M w) {us : List Value} (_ : RVs w C ι us vs),
    ∃ C', Go1 C ι M w C' ι M' w (fun _ => False) ∧ RVs w C' ι us xs ∧ M'.length = M.length
  | [], M, xs, M', hf, C, ι, w, hst, us, hu => by
    simp [freezeVs] at hf; obtain ⟨rfl, rfl⟩ := hf
    exact ⟨C, Go1.refl hst, hu, rfl⟩
  | v :: vs, M, xs, M', hf, C, ι, w, hst, [], hu => by simp [RVs] at hu
  | v :: vs, M, xs, M', hf, C, ι, w, hst, u :: us, hu => by
    unfold RVs at hu
    simp only [freezeVs] at hf
    cases h1 : freezeV M v with
    | none => rw [h1] at hf; cases hf
    | some p =>
      obtain ⟨x, M1⟩ := p
      rw [h1] at hf; simp only at hf
      cases h2 : freezeVs M1 vs with
      | none => rw [h2] at hf; cases hf
      | some q =>
        obtain ⟨ys, M2⟩ := q
        rw [h2] at hf; simp at hf; obtain ⟨rfl, rfl⟩ := hf
        obtain ⟨C1, g1, r1, l1⟩ := freezeV_ok h1 hst hu.1
        obtain ⟨C2, g2, r2, l2⟩ := freezeVs_ok h2 g1.st (g1.rvs hu.2)
        exact ⟨C2, g1.trans hst g2 (fun i => by simp), by unfold RVs; exact ⟨g2.rv r1, r2⟩, l2.trans l1⟩

/-! reads -/
theorem drop_headD {us : List Value} {xs : List V} {w C ι} (h : RVs w C ι us xs) {v : V} {vs : List V} (e : xs = v :: vs) : RV w C ι (us.headD undef) v := by
  subst e
  cases us with
  | nil => simp [RVs] at h
  | cons u us => unfold RVs at h; exact h.1

theorem evLoad_ok {R : Type} {P : Program} {t : TypeId} {T : TI} (hT : TIok P t T) {C : Com} {ι : Locs} {M : Mem} {w : World} (hst : St C ι M w) {a : V} {k : V → Option R} {r : R} (h : evLoad T M a k = some r) {x : Value} (hx : RV w C ι x a) :
    ∃ u v, (Instr.loadAt t x).run P w = .ok u w ∧ RV w C ι u v ∧ k v = some r := by
  have fin : ∀ (us : List Value) (xs : List V) (b o : Nat), us.length = T.size → (∀ j v, us[j]? = some v → w.cell? ⟨b, o + j, none⟩ = some v) → RVs w C ι us xs → x = .pointer (some ⟨b, o, none⟩) →
      (bif T.agg then k (.agg xs) else match xs with | v :: _ => k v | [] => none) = some r → ∃ u v, (Instr.loadAt t x).run P w = .ok u w ∧ RV w C ι u v ∧ k v = some r := by
    intro us xs b o hl hc hv e hk
    subst e
    have hrun : (Instr.loadAt t (.pointer (some ⟨b, o, none⟩))).run P w = .ok (bif T.agg then .agg us.toArray else us.headD undef) w := by
      unfold Instr.loadAt Instr.sureAddr
      simp only [Sem.run_bind, Sem.run_pure, Result.andThen_ok]
      exact run_loadVar' hT hl hc
    cases hA : T.agg with
    | true =>
      rw [hA] at hrun hk
      exact ⟨_, .agg xs, hrun, by unfold RV; exact ⟨_, rfl, hv⟩, hk⟩
    | false =>
      rw [hA] at hrun hk
      simp only [cond_false] at hk
      cases xs with
      | nil => cases hk
      | cons v vs => exact ⟨_, v, hrun, drop_headD hv rfl, hk⟩
  cases a with
  | ptr id off =>
    simp only [evLoad, getM] at h
    cases hM : M[id]? with
    | none => rw [hM] at h; cases h
    | some e =>
      rw [hM] at h
      cases e with
      | row => cases h
      | lrow => cases h
      | hole => cases h
      | box cs =>
        simp only at h
        obtain ⟨hle, h⟩ := bif_some h
        have hle := Nat.le_of_ble_eq_true hle
        have hx' := hx
        unfold RV at hx'
        obtain ⟨L, hL, hrow, rfl⟩ := hx'
        obtain ⟨_, _, us, T', fr, hh, _, hv⟩ := hst.ent id L _ hL hM
        have hlen := hv.length
        refine fin ((us.toList.drop off).take T.size) ((cs.drop off).take T.size) L.b off (by simp at hlen ⊢; omega) ?_ ((hv.drop off).take _) rfl ?_
        · intro j v hj
          rw [List.getElem?_take] at hj
          split at hj
          · simp only [World.cell?, hh]; simpa using hj
          · cases hj
        · cases hA : T.agg with
          | true => simpa [hA] using h
          | false =>
            have hp := hT.pos
            obtain ⟨m, hm⟩ : ∃ m, T.size = m + 1 := ⟨T.size - 1, by omega⟩
            rw [hA] at h
            simp only [cond_false] at h ⊢
            cases hd : cs.drop off with
            | nil => rw [hd] at h; cases h
            | cons v vs => rw [hd] at h; rw [hm]; simpa using h
  | ep id i j =>
    simp only [evLoad, getM] at h
    cases hM : M[id]? with
    | none => rw [hM] at h; cases h
    | some e =>
      rw [hM] at h
      cases e with
      | box => cases h
      | hole => cases h
      | lrow sz n mv es =>
        simp only at h
        obtain ⟨hle, hq⟩ := bif_some h
        clear h
        simp only [Bool.and_eq_true] at hle
        obtain ⟨hle, haf⟩ := hle
        have hle := Nat.le_of_ble_eq_true hle
        obtain ⟨t, hdt, hq⟩ := ocells_some hq
        have hx' := hx
        unfold RV at hx'
        obtain ⟨L, hL, hrow, hi, rfl⟩ := hx'
        obtain ⟨_, e1, e2, e3, e4, e5, e6⟩ := hst.ent id L _ hL hM
        subst e1 e2
        rcases e6 with e6 | ⟨us, T', fr, F, hh, _, hz, _, _, _, hre⟩
        · omega
        obtain ⟨F1, F2, F3, _, _, hc, _⟩ := LEs.split (i := i) e5 (by omega) hre
        have hcl : (es.getD i []).length = L.sz := by
          apply e5; rw [List.getD_eq_getElem?_getD, List.getElem?_eq_getElem (by omega)]; exact List.getElem_mem _
        obtain ⟨G1, G2, G3, _, _, hc, _⟩ := LCs.split (j := j) (m := T.size) (by omega) hc
        obtain ⟨_, us1, hl1, hg1, hv1⟩ := LCs.flat (C := C) (ι := ι) haf hdt hc
        rw [decD_eq] at hdt
        refine fin us1 (LS.encs T.sh t) L.b (L.base + i * L.sz + j) (by rw [hl1]; simp [-List.getD_eq_getElem?_getD]; omega) ?_ (LS.decs_ok T.sh hdt hv1) rfl ?_
        · intro q v hq
          have := hg1 q v hq
          simp only [World.cell?, hh]; simpa using this
        · exact hq
      | row sz n fz mv es =>
        simp only at h
        obtain ⟨hle, hq⟩ := bif_some h
        clear h
        have hle := Nat.le_of_ble_eq_true hle
        obtain ⟨t, hdt, hq⟩ := ocells_some hq
        rw [decD_eq] at hdt
        have hx' := hx
        unfold RV at hx'
        obtain ⟨L, hL, hrow, hi, rfl⟩ := hx'
        obtain ⟨_, e1, e2, e3, e4, e5, e6⟩ := hst.ent id L _ hL hM
        subst e1 e2
        rcases e6 with e6 | ⟨us, T', fr, hh, _, hz, _, hre⟩
        · omega
        obtain ⟨hc, hcl⟩ := REs.at i e5 (by omega) hre
        obtain ⟨us1, hl1, hg1, hv1⟩ := RVs.of_RCs (ι := ι) (RCs.take T.size (RCs.drop j hc))
        refine fin us1 (LS.encs T.sh t) L.b (L.base + i * L.sz + j) (by rw [hl1]; simp [-List.getD_eq_getElem?_getD]; omega) ?_ (LS.decs_ok T.sh hdt hv1) rfl ?_
        · intro q v hq
          have := hg1 q v hq
          simp only [World.cell?, hh]; simpa using this
        · exact hq
  | rp c j =>
    simp only [evLoad] at h
    obtain ⟨hle, h⟩ := bif_some h
    have hle := Nat.le_of_ble_eq_true hle
    have hx' := hx
    unfold RV at hx'
    obtain ⟨b, off, rfl, _, hc⟩ := hx'
    obtain ⟨us1, hl1, hg1, hv1⟩ := RVs.of_RCs (ι := ι) (RCs.take T.size (RCs.drop j hc))
    refine fin us1 (toVs ((c.drop j).take T.size)) b (off + j) (by rw [hl1]; simp; omega) (fun q v hq => hg1 q v hq) hv1 rfl ?_
    cases hA : T.agg with
    | true => simpa [hA] using h
    | false =>
      have hp := hT.pos
      obtain ⟨m, hm⟩ : ∃ m, T.size = m + 1 := ⟨T.size - 1, by omega⟩
      rw [hA] at h
      simp only [cond_false] at h ⊢
      cases hd : c.drop j with
      | nil => rw [hd] at h; cases h
      | cons v vs => rw [hd] at h; rw [hm]; simpa [toVs] using h
  | _ => simp [evLoad] at h
end Go.Ev
