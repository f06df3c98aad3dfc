import Derived.Test.YtkgabahlbmonfaaDoorEvTab
set_option linter.unusedVariables false
set_option linter.unusedSimpArgs false
/-
  The evaluator's operations are the machine's.
-/
namespace Go.Ev
open Go

/-- What is asked of the translation: its types, its functions. -/
structure CxOk0 (P : Program) (cx : Cx) : Prop extends TyOk P cx where
  fn : ∀ f F, find cx.fns f = some F → ∀ (args : Array Value) (w : World), (callFunc f args).run P w = .ok (.enter f args) w

/-- A callee does what the evaluator says. -/
def CallOk (P : Program) (tl : List String) (call : CallF) : Prop := ∀ f args M v M', call f args M = some (v, M') → ∀ (C : Com) (ι : Locs) (w : World) (vals : List Value), St C ι M w → Tabs P tl C ι w → (∀ i, ¬ mvs M i) → RVs w C ι vals args →
  Calls P f vals.toArray w fun e w' => ∃ u C' ι', e = .returned u ∧ Go1 C ι M w C' ι' M' w' (mvs M') ∧ RV w' C' ι' u v

section
variable {R : Type} {P : Program} {C : Com} {ι : Locs} {M : Mem} {w : World}

theorem own_cell (hst : St C ι M w) {i c sz szz : Nat} {cs : List V} {es : List (List D)} (hM : M[i]? = some (.box cs)) (hc : cs[c]? = some (.d (.sl true szz 0 es))) :
    ∃ ι', Go1 C ι M w C ι' (M.set i (.box (cs.set c (.own M.length))) ++ [nilEnt sz]) w (fun _ => False) := by
  obtain ⟨s1, s2⟩ := hst.nilEnt sz
  have hi := lt_of_get hM
  have hM1 : (M ++ [nilEnt sz])[i]? = some (.box cs) := by rw [List.getElem?_append_left hi]; exact hM
  obtain ⟨L, hL, hE⟩ := s1.get hM1
  obtain ⟨hr, hC0, us, T, fr, hh, hs, hv⟩ := hE
  have u : Upd C (ι ++ [⟨true, nilSz sz, 0, 0, 0, 0⟩]) w i L L C w := ⟨rfl, s1.own, rfl, rfl, rfl, Nat.le_refl _, hL, .refl _ _, fun _ _ _ => ⟨rfl, rfl⟩, fun hl => .inl ⟨hl, rfl⟩, rfl, rfl, hst.com⟩
  obtain ⟨v, hv1, hv2⟩ := hv.get hc
  have hv' : RVs w C (ι ++ [⟨true, nilSz sz, 0, 0, 0, 0⟩]) us.toList (cs.set c (.own M.length)) := by
    have hv3 : RV w C (ι ++ [⟨true, nilSz sz, 0, 0, 0, 0⟩]) v (.own M.length) := by
      unfold RV RD at hv2
      obtain ⟨a, cap, rfl, _, hf, _⟩ := hv2
      have := hf rfl; subst this
      unfold RV
      exact ⟨⟨true, nilSz sz, 0, 0, 0, 0⟩, by rw [← hst.len]; simp, rfl, a, rfl, .inl rfl⟩
    have := hv.set c hv3
    rw [set_same hv1] at this
    exact this
  have st := u.st0 s1 (.box (cs.set c (.own M.length))) ⟨hr.len (by simp), hC0, us, T, fr, hh, hs, hv'⟩
  have e : (M ++ [nilEnt sz]).set i (.box (cs.set c (.own M.length))) = M.set i (.box (cs.set c (.own M.length))) ++ [nilEnt sz] := by
    rw [List.set_append_left _ _ hi]
  rw [e] at st
  refine ⟨_, st, s2 _, fun j hj hm => ?_⟩
  rcases hm with hm | hm
  · exact mvs_more (mvs_setE (e' := .box (cs.set c (.own M.length))) hM (fun h => h) hm)
  · exact hm.elim

theorem ownCells_ok : ∀ (l : List (Nat × Nat × Nat)) {M : Mem} {ι : Locs}, St C ι M w → ∃ ι', Go1 C ι M w C ι' (ownCells l M) w (fun _ => False)
  | [], M, ι, hst => ⟨ι, Go1.refl hst⟩
  | (i, c, sz) :: r, M, ι, hst => by
    unfold ownCells
    split
    · rename_i cs hM
      split
      · rename_i es hc
        obtain ⟨ι1, g1⟩ := own_cell (sz := sz) hst hM hc
        obtain ⟨ι2, g2⟩ := ownCells_ok r g1.st
        exact ⟨ι2, g1.trans hst g2 (fun i => by simp)⟩
      · exact ownCells_ok r hst
    · exact ownCells_ok r hst

/-- A nil list is an empty row. -/
theorem nil_own (hst : St C ι M w) (sz : Nat) {u : Value} {szz : Nat} {es : List (List D)} (hu : RV w C ι u (.d (.sl true szz 0 es))) :
    Go1 C ι M w C (ι ++ [⟨true, nilSz sz, 0, 0, 0, 0⟩]) (M ++ [nilEnt sz]) w (fun _ => False) ∧ RV w C (ι ++ [⟨true, nilSz sz, 0, 0, 0, 0⟩]) u (.own M.length) := by
  obtain ⟨s1, s2⟩ := hst.nilEnt sz
  refine ⟨⟨s1, s2 _, fun i _ hm => mvs_more (hm.elim (fun h => h) False.elim)⟩, ?_⟩
  unfold RV RD at hu
  obtain ⟨ad, cap, e1, _, hf, _⟩ := hu
  have := hf rfl; subst this
  rw [e1]
  unfold RV
  exact ⟨⟨true, nilSz sz, 0, 0, 0, 0⟩, by rw [← hst.len]; simp, rfl, ad, rfl, .inl rfl⟩

theorem ownVals_ok {us : List Value} : ∀ (l : List (Nat × Nat × Nat)) {vs : List V} {M : Mem} {ι : Locs}, St C ι M w → RVs w C ι us vs → ∃ ι', Go1 C ι M w C ι' (ownVals l vs M).2 w (fun _ => False) ∧ RVs w C ι' us (ownVals l vs M).1
  | [], vs, M, ι, hst, hu => ⟨ι, Go1.refl hst, hu⟩
  | (i, c, sz) :: r, vs, M, ι, hst, hu => by
    unfold ownVals
    split
    · rename_i szz es hi
      obtain ⟨v, hv1, hv2⟩ := hu.get hi
      obtain ⟨g1, hv3⟩ := nil_own hst sz hv2
      have hs := (g1.rvs hu).set i hv3
      rw [set_same hv1] at hs
      obtain ⟨ι2, g2, h2⟩ := ownVals_ok r g1.st hs
      exact ⟨ι2, g1.trans hst g2 (fun i => by simp), h2⟩
    · rename_i cs hi
      split
      · rename_i szz es hc
        obtain ⟨v, hv1, hv2⟩ := hu.get hi
        have hv2' := hv2
        unfold RV at hv2'
        obtain ⟨ws, e, hws⟩ := hv2'
        obtain ⟨x, hx1, hx2⟩ := hws.get hc
        obtain ⟨g1, hv3⟩ := nil_own hst sz hx2
        have hs1 := (g1.rvs hws).set c hv3
        rw [set_same hx1] at hs1
        have hs := (g1.rvs hu).set i (u := v) (x := .agg (cs.set c (.own M.length))) (by unfold RV; exact ⟨ws, e, hs1⟩)
        rw [set_same hv1] at hs
        obtain ⟨ι2, g2, h2⟩ := ownVals_ok r g1.st hs
        exact ⟨ι2, g1.trans hst g2 (fun i => by simp), h2⟩
      · exact ownVals_ok r hst hu
    · exact ownVals_ok r hst hu

theorem modeArgs_ok : ∀ {ms : List Bool} {vs : List V} {M : Mem} {xs : List V} {M' : Mem} {C : Com} (_ : modeArgs M ms vs = some (xs, M')) (_ : St C ι M w) {us : List Value} (_ : RVs w C ι us vs),
    ∃ C', Go1 C ι M w C' ι M' w (fun _ => False) ∧ RVs w C' ι us xs
  | ms, [], M, xs, M', C, h, hst, us, hu => by
    cases ms <;> simp [modeArgs] at h <;> (obtain ⟨rfl, rfl⟩ := h; exact ⟨C, Go1.refl hst, hu⟩)
  | ms, v :: vs, M, xs, M', C, h, hst, [], hu => by simp [RVs] at hu
  | ms, v :: vs, M, xs, M', C, h, hst, u :: us, hu => by
    unfold RVs at hu
    have val : ∀ ms', (match freezeV M v with | some (x, M) => (match modeArgs M ms' vs with | some (xs, M) => some (x :: xs, M) | none => none) | none => none) = some (xs, M') → ∃ C', Go1 C ι M w C' ι M' w (fun _ => False) ∧ RVs w C' ι (u :: us) xs := by
      intro ms' h
      cases h1 : freezeV M v with
      | none => rw [h1] at h; cases h
      | some p =>
        obtain ⟨x, M1⟩ := p
        rw [h1] at h; simp only at h
        cases h2 : modeArgs M1 ms' vs with
        | none => rw [h2] at h; cases h
        | some q =>
          obtain ⟨ys, M2⟩ := q
          rw [h2] at h; simp at h; obtain ⟨rfl, rfl⟩ := h
          obtain ⟨C1, g1, r1, _⟩ := freezeV_ok h1 hst hu.1
          obtain ⟨C2, g2, r2⟩ := modeArgs_ok h2 g1.st (g1.rvs hu.2)
          exact ⟨C2, g1.trans hst g2 (fun i => by simp), by unfold RVs; exact ⟨g2.rv r1, r2⟩⟩
    cases ms with
    | nil => simp only [modeArgs] at h; exact val [] h
    | cons b ms =>
      cases b with
      | false => simp only [modeArgs] at h; exact val ms h
      | true =>
        simp only [modeArgs] at h
        cases h2 : modeArgs M ms vs with
        | none => rw [h2] at h; cases h
        | some q =>
          obtain ⟨ys, M2⟩ := q
          rw [h2] at h; simp at h; obtain ⟨rfl, rfl⟩ := h
          obtain ⟨C2, g2, r2⟩ := modeArgs_ok h2 hst hu.2
          exact ⟨C2, g2, by unfold RVs; exact ⟨g2.rv hu.1, r2⟩⟩

theorem msOf_box {ms : List ES} : ∀ {S : Mem} {i j : Nat} {l : List LS} {e : Ent}, (msOf ms i S)[j]? = some (.box l) → S[j]? = some e → ∃ cs0, e = .box cs0
  | [], i, j, l, e, _, h => by simp at h
  | e0 :: S, i, 0, l, e, h, he => by
    simp at he; subst he
    simp only [msOf, List.getElem?_cons_zero, Option.some.injEq] at h
    cases e0 with
    | box cs => exact ⟨cs, rfl⟩
    | row sz n fz mv es =>
      simp only at h
      split at h <;> cases h
    | lrow sz n mv es =>
      simp only at h
      split at h <;> cases h
    | hole sz n mv es a b v => cases h
  | e0 :: S, i, j + 1, l, e, h, he => by
    simp only [msOf, List.getElem?_cons_succ] at h he
    exact msOf_box h he
theorem msOf_len {ms : List ES} : ∀ {S : Mem} {i : Nat}, (msOf ms i S).length = S.length
  | [], i => rfl
  | e :: S, i => by simp [msOf, msOf_len]
theorem encs_box : ∀ {l : List ES} {u : ES.Ts l} {j : Nat} {cs : List V}, (ES.encs l u)[j]? = some (.box cs) → ∃ ls, l[j]? = some (.box ls)
  | [], u, j, cs, h => by simp [ES.encs] at h
  | s :: l, u, 0, cs, h => by
    simp only [ES.encs, List.getElem?_cons_zero, Option.some.injEq] at h
    cases s with
    | box ls => exact ⟨ls, rfl⟩
    | row sz fz mv => cases h
    | lrow sz mv => cases h
  | s :: l, u, j + 1, cs, h => by
    simp only [ES.encs, List.getElem?_cons_succ] at h ⊢
    exact encs_box h
theorem effMs_box {F : FnI} {S : Mem} (u : ES.Ts (effMs F S)) (j : Nat) (cs : List V) (e : Ent) (h : (ES.encs (effMs F S) u)[j]? = some (.box cs)) (he : S[j]? = some e) : ∃ cs0, e = .box cs0 := by
  obtain ⟨ls, hl⟩ := encs_box h
  unfold effMs at hl
  rw [List.getElem?_append_left (by rw [msOf_len]; exact lt_of_get he)] at hl
  exact msOf_box hl he

theorem evCall_ok {tl : List String} {cx : Cx} {call : CallF} (hcall : CallOk P tl call) (htab : Tabs P tl C ι w) {f : FuncId} {args : List V} {k : V → Mem → List Nat → Option R} {r : R} (h : evCall cx call f args M k = some r) (hst : St C ι M w) {vals : List Value} (hv : RVs w C ι vals args) {Nx : Value → World → Prop} (hn : Nxt C ι M w k r Nx) :
    (∃ F, find cx.fns f = some F) ∧ Calls P f vals.toArray w fun e w' => ∃ u, e = .returned u ∧ Nx u w' := by
  unfold evCall at h
  cases hF : find cx.fns f with
  | none => rw [hF] at h; cases h
  | some F =>
    refine ⟨⟨F, rfl⟩, ?_⟩
    rw [hF] at h; simp only at h
    obtain ⟨ι0, g0, r0⟩ := ownVals_ok F.aown hst hv
    cases hm : modeArgs (ownVals F.aown args M).2 F.raw (ownVals F.aown args M).1 with
    | none => rw [hm] at h; cases h
    | some p =>
      obtain ⟨xs, M1⟩ := p
      rw [hm] at h; simp only at h
      obtain ⟨C1, g1, r1⟩ := modeArgs_ok hm g0.st r0
      have g1 := g0.trans hst g1 (k := fun _ => False) (fun i => by simp)
      obtain ⟨ι2, g2⟩ := ownCells_ok (nilBoxes M1 (reach M1 3 (dedup [] (ids.go xs)))) g1.st
      generalize hM2 : ownCells (nilBoxes M1 (reach M1 3 (dedup [] (ids.go xs)))) M1 = M2 at h g2
      generalize hkeep : reach M2 3 (dedup [] (ids.go xs)) = keep at h
      have g12 := g1.trans hst g2 (k := fun _ => False) (fun i => by simp)
      have r2 := g2.rvs r1
      obtain ⟨hd, h⟩ := bif_some h
      cases hS : subM M2 keep keep with
      | none => rw [hS] at h; cases h
      | some S =>
        rw [hS] at h; simp only [fVs_eq, fM_eq] at h
        obtain ⟨v, Mc0, t, um, hc, hdv, hdm, h⟩ := ocall_some h
        obtain ⟨sst, hidx, _⟩ := g2.st.sub hd hS
        refine (hcall f _ S v Mc0 hc C1 (subL ι2 keep) w vals sst ((htab.go g12).subL keep) (subM_mv hS) (RVs.ren (.refl _ _) hidx _ r2)).mono ?_
        rintro e w' ⟨u, C3, ι3, rfl, g3', hu⟩
        obtain ⟨hst3, hmv3⟩ := ES.decs_ok (effMs F S) hdm g3'.st
        have g3 : Go1 C1 (subL ι2 keep) S w C3 ι3 (ES.encs (effMs F S) um) w' (mvs (ES.encs (effMs F S) um)) := ⟨hst3, g3'.stp.weaken hmv3, fun i hi hm => hm.elim (fun h => hmv3 i (g3'.mv i hi (.inl h))) id⟩
        refine ⟨u, rfl, ?_⟩
        obtain ⟨ι4, g4, hg⟩ := back_ok g2.st hd hS g3 (effMs_box um)
        exact hn u _ _ _ _ _ _ h (g12.trans hst g4 (fun i => by simp)) (RV.ren (.refl _ _) hg _ (Sh.dec_ok _ hdv hu))

theorem evCallL_ok {tl : List String} {cx : Cx} {call : CallF} (hcall : CallOk P tl call) (htab : Tabs P tl C ι w) {f : FuncId} {args : List V} {k : V → Mem → Option R} {r : R} (h : evCallL cx call f args M k = some r) (hst : St C ι M w) {vals : List Value} (hv : RVs w C ι vals args) {Nx : Value → World → Prop} (hn : ∀ u v M' C' ι' w', k v M' = some r → Go1 C ι M w C' ι' M' w' (fun _ => False) → RV w' C' ι' u v → Nx u w') :
    (∃ F, find cx.fns f = some F) ∧ Calls P f vals.toArray w fun e w' => ∃ u, e = .returned u ∧ Nx u w' := by
  unfold evCallL at h
  cases hF : find cx.fns f with
  | none => rw [hF] at h; cases h
  | some F =>
    refine ⟨⟨F, rfl⟩, ?_⟩
    rw [hF] at h; simp only at h
    cases hl : lendVs M args with
    | none => rw [hl] at h; cases h
    | some xs =>
      rw [hl] at h; simp only [fVs_eq] at h
      obtain ⟨v, Mc0, t, um, hc, hdv, hdm, h⟩ := ocall_some h
      obtain ⟨hcl, h⟩ := bif_some h
      obtain ⟨h, hce⟩ := cleanM_some h
      refine (hcall f _ [] v Mc0 hc (allC w) [] w vals (st_all w) htab.all (fun i => by rintro ⟨_, h, _⟩; simp at h) (lendVs_ok hst hl hv)).mono ?_
      rintro e w' ⟨u, C3, ι3, rfl, g3', hu⟩
      obtain ⟨hst3, hmv3⟩ := ES.decs_ok (effMs F []) hdm g3'.st
      have g3 : Go1 (allC w) [] [] w C3 ι3 (ES.encs (effMs F []) um) w' (mvs (ES.encs (effMs F []) um)) := ⟨hst3, g3'.stp.weaken hmv3, fun i hi hm => hm.elim (fun h => hmv3 i (g3'.mv i hi (.inl h))) id⟩
      refine ⟨u, rfl, ?_⟩
      obtain ⟨C4, ι4, g4, hg⟩ := lend_back hst g3 hce
      exact hn u _ _ C4 ι4 _ h g4 (RV.clean hg _ hcl (Sh.dec_ok _ hdv hu))

theorem zip_fst {ρ : Operand → Value} {rd : Operand → V} : ∀ l : List (Nat × Operand), (l.map fun p => (p.1, ρ p.2)).map (·.1) = (l.map fun p => (p.1, rd p.2)).map (·.1)
  | [] => rfl
  | x :: l => by simp

theorem evOpR_ok {cx : Cx} (hcx : CxOk0 P cx) {o : Oper} {ρ : Operand → Value} {rd : Operand → V} (hst : St C ι M w) (hrd : ∀ x, RV w C ι (ρ x) (rd x)) (hcst : ∀ v, ρ (.const v) = v) {k : V → Option R} {r : R} (h : evOpR cx o.type o.op rd M k = some r) {Nx : Value → World → Prop} (sm : ∀ {u : Value} {v : V}, k v = some r → RV w C ι u v → Nx u w) :
    After P Nx ((execOp ρ o).run P w) := by
  obtain ⟨dst, op, type, pos, after, guard⟩ := o
  simp only at h
  unfold execOp
  simp only
  have V1 : ∀ {s : Sem Value} {u : Value} {w' : World}, s.run P w = .ok u w' → Nx u w' → After P Nx ((do pure (Next.value (← s)) : Sem Next).run P w) := by
    intro s u w' h1 h2; rw [run_v h1]; exact h2
  cases op with
  | move x => simp only [evOpR] at h; exact sm h (fixNil_ok (hrd x))
  | assign x => simp only [evOpR] at h; exact sm h (fixNil_ok (hrd x))
  | pick c a b =>
    simp only [evOpR] at h
    have hc := hrd c
    split at h
    · rename_i t hrc
      rw [hrc] at hc; unfold RV at hc
      simp only [hc, asBool, Sem.run_bind, Sem.run_pure, Result.andThen_ok]
      cases t
      · exact sm h (hrd b)
      · exact sm h (hrd a)
    · rename_i t hrc
      rw [hrc] at hc; unfold RV RD at hc
      rw [oite_eq] at h
      simp only [hc, asBool, Sem.run_bind, Sem.run_pure, Result.andThen_ok]
      cases t
      · exact sm h (hrd b)
      · exact sm h (hrd a)
    · cases h
  | build t parts =>
    simp only [evOpR] at h
    split at h
    · rename_i T hT
      split at h
      · rename_i fs hk
        split at h
        · rename_i cs hp
          have hTi := hcx.ty _ _ hT
          have hkk := hTi.kind
          rw [hk] at hkk
          obtain ⟨fields, hu, hfs, hsz⟩ := hkk
          obtain ⟨z, hz, _, hzr⟩ := hTi.zero
          obtain ⟨places, hpl, hpg⟩ := places_ok (P := P) fields.toList hsz
          obtain ⟨us', e1, e2⟩ := parts_ok (w := w) (C := C) (ι := ι) hcx.toTyOk hfs hpg (vals := parts.toList.map fun p => (p.1, ρ p.2)) hp (by rw [fixParts_fst]; exact zip_fst _) (fixParts_ok (by
            have := RVs.map_parts hrd parts.toList
            simpa [List.map_map, Function.comp_def] using this)) (us := z.cells) (hzr w C ι)
          refine V1 (u := .agg us') (w' := w) ?_ (sm h (by unfold RV; exact ⟨us', rfl, e2⟩))
          unfold Instr.build
          simp only [Sem.run_bind, hz, Result.andThen_ok, hu]
          have hm : (fields.mapM fun f => do pure (f.offset, ← sizeOf f.type) : Sem (Array (Nat × Nat))).run P w = .ok places.toArray w := by
            rw [Array.mapM_eq_mapM_toList]
            have := hpl w
            simp only [map_eq_pure_bind] at this ⊢
            simp only [Sem.run_bind, this, Result.andThen_ok, Sem.run_pure]
          simp only [Sem.run_bind, hm, Result.andThen_ok]
          have e1' : Instr.fill (fun x => places.toArray[x]?) z.cells (parts.map fun (i, x) => (i, ρ x)).toList = some us' := by
            have : (parts.map fun (i, x) => (i, ρ x)).toList = parts.toList.map fun p => (p.1, ρ p.2) := by simp
            rw [this]; exact e1
          rw [e1']
          rfl
        · cases h
      · cases h
    · cases h
  | load t a =>
    simp only [evOpR] at h
    split at h
    · rename_i T hT
      obtain ⟨u, v, h1, h2, h3⟩ := evLoad_ok (hcx.ty _ _ hT) hst h (hrd a)
      exact V1 h1 (sm h3 h2)
    · cases h
  | nilCheck x =>
    simp only [evOpR] at h
    dsimp only
    have hx := hrd x
    split at h
    · rename_i i o hr; rw [hr] at hx; have h0 := hx; unfold RV at h0; obtain ⟨L, _, _, e⟩ := h0; rw [e] at hx ⊢; exact sm h hx
    · rename_i i a b hr; rw [hr] at hx; have h0 := hx; unfold RV at h0; obtain ⟨L, _, _, _, e⟩ := h0; rw [e] at hx ⊢; exact sm h hx
    · rename_i c j hr; rw [hr] at hx; have h0 := hx; unfold RV at h0; obtain ⟨b, off, e, _⟩ := h0; rw [e] at hx ⊢; exact sm h hx
    · rename_i f cs hr; rw [hr] at hx; have h0 := hx; unfold RV at h0; obtain ⟨c, e, _⟩ := h0; rw [e] at hx ⊢; exact sm h hx
    · cases h
  | binOp op t x y yt =>
    simp only [evOpR] at h
    split at h
    · rename_i hy
      have ey : y = .const (.slice none 0 0) := by
        unfold isNilC at hy
        split at hy
        · rfl
        · cases hy
      have eρ : RV w C ι (ρ y) (rd y) := hrd y
      unfold evNil at h
      obtain ⟨hs, h⟩ := bif_some h
      have hu : ∃ e, (underlying t).run P w = .ok (.slice e) w := by
        unfold isSl at hs
        split at hs
        · rename_i T hT
          split at hs
          · rename_i e hk; exact ⟨e, (hcx.ty _ _ hT).sl hk w⟩
          · cases hs
        · cases hs
      obtain ⟨e, hu⟩ := hu
      split at h
      · rename_i n hn
        obtain ⟨a, c, hx, hnn⟩ : ∃ a c, ρ x = .slice a n c ∧ (n ≠ 0 → a ≠ none) := by
          have hx := hrd x
          unfold lenV at hn
          split at hn
          · rename_i f sz n' es hr
            cases hn
            rw [hr] at hx; unfold RV RD at hx
            obtain ⟨a, cap, e, _, _, _, _, h5⟩ := hx
            exact ⟨a, cap, e, fun h0 => by rcases h5 with h5 | ⟨b, off, rfl, _⟩ <;> simp_all⟩
          · rename_i id hr
            split at hn
            · rename_i sz n' fz mv es hM
              cases hn
              change M[id]? = _ at hM
              rw [hr] at hx; unfold RV at hx
              obtain ⟨L, hL, hrow, a, e, ha⟩ := hx
              obtain ⟨_, q1, q2, q3, _⟩ := hst.ent id L _ hL hM
              subst q2
              exact ⟨a, _, e, fun h0 => by rcases ha with ha | ha <;> simp_all⟩
            · rename_i hM
              cases hn
              change M[id]? = _ at hM
              rw [hr] at hx; unfold RV at hx
              obtain ⟨L, hL, hrow, a, e, ha⟩ := hx
              obtain ⟨_, q1, q2, q3, _⟩ := hst.ent id L _ hL hM
              subst q2
              exact ⟨a, _, e, fun h0 => by rcases ha with ha | ha <;> simp_all⟩
            · cases hn
          · rename_i id off n' hr
            cases hn
            rw [hr] at hx; unfold RV at hx
            obtain ⟨L, hL, hrow, hle, a, c, e, hc, ha⟩ := hx
            exact ⟨a, c, e, fun h0 => by rcases ha with ha | ⟨_, ha⟩ <;> simp_all⟩
          · cases hn
        have heq : ∀ w, (underlying t).run P w = .ok (.slice e) w → (Op.equal t (.slice a n c) (.slice none 0 0)).run P w = .ok a.isNone w := by
          intro w hu
          show (Op.equalIn (9999 + 1) t _ _).run P w = _
          unfold Op.equalIn
          simp only [Sem.run_bind, hu, Result.andThen_ok]
          cases a <;> rfl
        have hy0 : ρ y = .slice none 0 0 := by rw [ey]; exact hcst _
        dsimp only
        rw [hx, hy0]
        have run : ∀ b, (op = .eql ∧ b = a.isNone) ∨ (op = .neq ∧ b = !a.isNone) → (do eqGuard op t x y (.slice a n c) (.slice none 0 0); binOp op t (.slice a n c) (.slice none 0 0) : Sem Value).run P w = .ok (.bool b) w := by
          intro b hb
          rw [Sem.run_bind, eqGuard_pure (fun _ _ h => by cases h) (fun h => by cases h)]
          rcases hb with ⟨rfl, rfl⟩ | ⟨rfl, rfl⟩ <;> simp only [Result.andThen_ok, binOp, Sem.run_bind, heq w hu, Sem.run_pure]
        split at h
        · refine V1 (u := .bool a.isNone) (w' := w) (run _ (.inl ⟨rfl, rfl⟩)) ?_
          rcases onil_some h with ⟨h0, h1, h2⟩ | ⟨h0, h2⟩
          · cases ha : a.isNone
            · exact sm h2 (by unfold RV; rfl)
            · exact sm h1 (by unfold RV; rfl)
          · have : a.isNone = false := by have := hnn h0; cases a <;> simp_all
            rw [this]; exact sm h2 (by unfold RV; rfl)
        · refine V1 (u := .bool (!a.isNone)) (w' := w) (run _ (.inr ⟨rfl, rfl⟩)) ?_
          rcases onil_some h with ⟨h0, h1, h2⟩ | ⟨h0, h2⟩
          · cases ha : a.isNone
            · exact sm h2 (by unfold RV; rfl)
            · exact sm h1 (by unfold RV; rfl)
          · have : a.isNone = false := by have := hnn h0; cases a <;> simp_all
            rw [this]; exact sm h2 (by unfold RV; rfl)
        · cases h
      · cases h
    split at h
    · rename_i a b ha hb
      obtain ⟨u, d, h1, h2, h3⟩ := evBin_ok (t := t) (P := P) (bt := isBool cx t) (fun hbt w => by
        unfold isBool at hbt
        split at hbt
        · rename_i T hT
          split at hbt
          · rename_i hk
            have := (hcx.ty _ _ hT).kind
            rw [hk] at this; exact this w
          · cases hbt
        · cases hbt) h (asD_ok ha (hrd x)) (asD_ok hb (hrd y)) x y
      exact V1 h1 (sm h3 (by unfold RV; exact h2))
    · cases h
  | unOp op t x =>
    simp only [evOpR] at h
    dsimp only
    have hx := hrd x
    split at h
    · rename_i b hr; rw [hr] at hx; unfold RV at hx; rw [hx]
      exact V1 (u := .bool !b) (w' := w) rfl (sm h (by unfold RV; rfl))
    · rename_i b hr; rw [hr] at hx; unfold RV RD at hx; rw [hx]
      exact V1 (u := .bool !b) (w' := w) rfl (sm h (by unfold RV RD; rfl))
    · rename_i ik n hr; rw [hr] at hx; unfold RV RD at hx; rw [hx]
      exact V1 (u := .int ik (ik.wrap (0 - n))) (w' := w) rfl (sm h (by unfold RV RD; rfl))
    · cases h
  | makeFunc fn first caps =>
    cases fn with
    | func f =>
      simp only [evOpR] at h
      split at h
      · rename_i hf
        have hf' : first = #[] := by simpa using hf
        subst hf'
        refine V1 (u := .func (.func f) #[] (caps.map ρ)) (w' := w) (by unfold Instr.makeFunc; simp) (sm h ?_)
        unfold RV
        refine ⟨_, rfl, ?_⟩
        have := RVs.map_of hrd caps.toList
        simpa using this
      · cases h
    | _ => simp [evOpR] at h
  | slice t x lo hi mx =>
    cases mx with
    | some m => simp [evOpR] at h
    | none =>
      simp only [evOpR] at h
      split at h
      · obtain ⟨u, y, h1, h2, h3⟩ := evSlice_ok hcx.toTyOk hst h (hrd x) (lv := none) (hv := none) (fun _ h => by cases h) (fun _ => rfl) (fun _ h => by cases h) (fun _ => rfl)
        exact V1 h1 (sm h3 h2)
      · rename_i a
        split at h
        · rename_i n ha
          obtain ⟨ik, e⟩ := asI_ok ha (hrd a)
          obtain ⟨u, y, h1, h2, h3⟩ := evSlice_ok hcx.toTyOk hst h (hrd x) (lv := some (ρ a)) (hv := none) (fun _ h => by cases h; exact ⟨ik, by rw [e]⟩) (fun h => by cases h) (fun _ h => by cases h) (fun _ => rfl)
          exact V1 h1 (sm h3 h2)
        · cases h
      · rename_i b
        split at h
        · rename_i n hb
          obtain ⟨ik, e⟩ := asI_ok hb (hrd b)
          obtain ⟨u, y, h1, h2, h3⟩ := evSlice_ok hcx.toTyOk hst h (hrd x) (lv := none) (hv := some (ρ b)) (fun _ h => by cases h) (fun _ => rfl) (fun _ h => by cases h; exact ⟨ik, by rw [e]⟩) (fun h => by cases h)
          exact V1 h1 (sm h3 h2)
        · cases h
      · rename_i a b
        split at h
        · rename_i n m ha hb
          obtain ⟨ik, e⟩ := asI_ok ha (hrd a)
          obtain ⟨ik', e'⟩ := asI_ok hb (hrd b)
          obtain ⟨u, y, h1, h2, h3⟩ := evSlice_ok hcx.toTyOk hst h (hrd x) (lv := some (ρ a)) (hv := some (ρ b)) (fun _ h => by cases h; exact ⟨ik, by rw [e]⟩) (fun h => by cases h) (fun _ h => by cases h; exact ⟨ik', by rw [e']⟩) (fun h => by cases h)
          exact V1 h1 (sm h3 h2)
        · cases h
  | fieldAddr t x f =>
    simp only [evOpR] at h
    dsimp only
    split at h
    · rename_i T hT
      split at h
      · rename_i fs hk
        split at h
        · rename_i off u hf
          split at h
          · rename_i U hU
            obtain ⟨hpos, h⟩ := bif_some h
            have hpos := Nat.le_of_ble_eq_true hpos
            have hkk := (hcx.ty _ _ hT).kind
            rw [hk] at hkk
            obtain ⟨fields, hu, hfs, _⟩ := hkk
            have hUs := (hcx.ty _ _ hU).size
            have hx := hrd x
            have run : ∀ (b o : Nat), ρ x = .pointer (some ⟨b, o, none⟩) → (Instr.fieldAt t (ρ x) f).run P w = .ok (.pointer (some ⟨b, o + off, none⟩)) w := by
              intro b o e
              have hf' := hf
              rw [← hfs] at hf'
              simp only [List.getElem?_map, Option.map_eq_some_iff] at hf'
              obtain ⟨fd, hfd, e2⟩ := hf'
              cases e2
              have hfa : fields[f]? = some fd := by simpa using hfd
              unfold Instr.fieldAt Instr.sureAddr fieldPlace
              rw [e]
              simp only [Sem.run_bind, hu, Result.andThen_ok, hfa, Sem.run_pure, hUs]
              rw [if_neg (by omega)]
              simp only [Sem.run_pure, Result.andThen_ok, add_at]
            split at h
            · rename_i i o hr; rw [hr] at hx; have h0 := hx; unfold RV at h0; obtain ⟨L, hL, hrow, e⟩ := h0
              exact V1 (run _ _ e) (sm h (by unfold RV; exact ⟨L, hL, hrow, rfl⟩))
            · rename_i i a b hr; rw [hr] at hx; have h0 := hx; unfold RV at h0; obtain ⟨L, hL, hrow, hi, e⟩ := h0
              exact V1 (run _ _ e) (sm h (by unfold RV; exact ⟨L, hL, hrow, hi, by rw [Nat.add_assoc]⟩))
            · rename_i c j hr; rw [hr] at hx; have h0 := hx; unfold RV at h0; obtain ⟨b, o, e, hc, hrc⟩ := h0
              obtain ⟨hle, h⟩ := bif_some h
              have hle := Nat.le_of_ble_eq_true hle
              refine V1 (run _ _ e) (sm h ?_)
              have hl : ((c.drop (j + off)).take U.size).length ≤ c.length - (j + off) := by simp; omega
              unfold RV
              exact ⟨b, o + (j + off), by rw [Nat.add_zero, Nat.add_assoc], by omega, RCs.take _ (RCs.drop (j + off) hrc)⟩
            · cases h
          · cases h
        · cases h
      · cases h
    · cases h
  | field t x f =>
    simp only [evOpR] at h
    dsimp only
    split at h
    · rename_i T hT
      split at h
      · rename_i fs hk
        split at h
        · rename_i off u hf
          split at h
          · rename_i U hU
            split at h
            · rename_i vs hr
              have hx := hrd x
              rw [hr] at hx; unfold RV at hx
              obtain ⟨cs, e, hv⟩ := hx
              have hkk := (hcx.ty _ _ hT).kind
              rw [hk] at hkk
              obtain ⟨fields, hu, hfs, _⟩ := hkk
              rw [← hfs] at hf
              simp only [List.getElem?_map, Option.map_eq_some_iff] at hf
              obtain ⟨fd, hfd, e2⟩ := hf
              cases e2
              have hfa : fields[f]? = some fd := by simpa using hfd
              obtain ⟨u', v', h1, h2, h3⟩ := sub_agg (P := P) (hcx.ty _ _ hU) (k := k) h hv
              refine V1 (u := u') (w' := w) ?_ (sm h3 h2)
              unfold Instr.field
              rw [e]
              simp only [Sem.run_bind, hu, Result.andThen_ok, hfa, asAgg, Sem.run_pure]
              exact h1
            · cases h
          · cases h
        · cases h
      · cases h
    · cases h
  | indexAddr t x i =>
    simp only [evOpR] at h
    dsimp only
    split at h
    · rename_i n E hn' hE
      obtain ⟨T, e, hT, hk, hE'⟩ := find_elem hE
      obtain ⟨ik, hi⟩ := asI_ok hn' (hrd i)
      obtain ⟨u, y, h1, h2, h3⟩ := evIndexAddr_ok (ik := ik) (hcx.ty _ _ hT) hk (hcx.ty _ _ hE') hst h (hrd x)
      rw [hi]
      exact V1 h1 (sm h3 h2)
    · cases h
  | index t x i =>
    simp only [evOpR] at h
    dsimp only
    split at h
    · rename_i T hT
      split at h
      · rename_i b n hk hr hi
        obtain ⟨hg, h⟩ := oguard_some h
        have hg := of_decide_eq_true hg
        obtain ⟨ik, e⟩ := asI_ok hi (hrd i)
        have hx := hrd x
        rw [hr] at hx; unfold RV RD at hx
        refine V1 (u := .int .u8 (b.data.toList.getD n.toNat 0).toNat) (w' := w) ?_ (sm h (by unfold RV RD; rfl))
        rw [hx, e]
        unfold Instr.index asIntOf
        simp only [Sem.run_bind, Sem.run_pure, Result.andThen_ok, (hcx.ty _ _ hT).str hk]
        have hlt : n.toNat < b.size := by omega
        have hb : b[n.toNat]? = some (b.data.toList.getD n.toNat 0) := by
          have h1 : n.toNat < b.data.toList.length := by simpa using hlt
          rw [getElem?_pos b n.toNat hlt]
          have h2 : b.data.toList.getD n.toNat 0 = b.data.toList[n.toNat] := by rw [List.getD_eq_getElem?_getD, List.getElem?_eq_getElem h1]; rfl
          rw [h2]; rfl
        rw [if_pos hg.1, hb]
        rfl
      · cases h
    · cases h
  | extract x i =>
    simp only [evOpR] at h
    dsimp only
    have hx := hrd x
    split at h
    · rename_i vs hr
      rw [hr] at hx; unfold RV at hx
      obtain ⟨cs, e, hv⟩ := hx
      split at h
      · rename_i v hv'
        obtain ⟨u, h1, h2⟩ := hv.get hv'
        have h1' : cs[i]? = some u := by simpa using h1
        refine V1 (u := u) (w' := w) ?_ (sm h h2)
        rw [e]
        unfold Instr.extract
        simp only [h1']
        rfl
      · cases h
    · cases h
  | convert s t x =>
    simp only [evOpR] at h
    dsimp only
    split at h
    · rename_i S T hS hT
      have hSi := hcx.ty _ _ hS
      have hTi := hcx.ty _ _ hT
      have hx := hrd x
      split at h
      · rename_i k1 k2 k3 n hk1 hk2 hr
        rw [hr] at hx; unfold RV RD at hx
        have hs := hSi.kind; rw [hk1] at hs
        have ht := hTi.kind; rw [hk2] at ht
        refine V1 (u := .int k2 (k2.wrap n)) (w' := w) ?_ (sm h (by unfold RV RD; rfl))
        unfold convert
        rw [hx]
        simp only [Sem.run_bind, hs, ht, Result.andThen_ok]
        rfl
      · rename_i b hk1 hk2 hr
        rw [hr] at hx; unfold RV RD at hx
        have hs := hSi.str hk1
        have ht := hTi.str hk2
        refine V1 (u := .string b) (w' := w) ?_ (sm h (by unfold RV RD; rfl))
        unfold convert
        rw [hx]
        simp only [Sem.run_bind, hs, ht, Result.andThen_ok]
        rfl
      · rename_i e xv hk1 hk2
        split at h
        · rename_i E hE
          split at h
          · rename_i hk3
            obtain ⟨s0, h1, h2⟩ := evBytes_ok (P := P) hst h hx
            have hs := hSi.sl hk1
            have ht := hTi.str hk2
            have he := (hcx.ty _ _ hE).kind
            rw [hk3] at he
            refine V1 (u := .string s0) (w' := w) ?_ (sm h2 (by unfold RV RD; rfl))
            obtain ⟨a, m, c, hxs⟩ : ∃ a m c, ρ x = .slice a m c := by
              unfold Conv.bytesToString at h1
              cases hρ : ρ x with
              | slice a m c => exact ⟨a, m, c, rfl⟩
              | _ => rw [hρ] at h1; simp [stuck] at h1
            unfold convert
            rw [hxs] at h1 ⊢
            simp only [Sem.run_bind, hs, ht, he, Result.andThen_ok]
            exact h1
          · cases h
        · cases h
      · cases h
    · cases h
  | call c =>
    obtain ⟨callee, args, argTypes⟩ := c
    simp only [evOpR] at h
    split at h
    · rename_i b
      have e2 : (resolve ρ ⟨.builtin b, args, argTypes⟩ type >>= fun d => invoke d.target d.args : Sem Next) = builtin b argTypes type (args.map fun | .const _ => true | _ => false) (args.map ρ) := rfl
      show After P Nx (Sem.run P (resolve ρ ⟨.builtin b, args, argTypes⟩ type >>= fun d => invoke d.target d.args) w)
      rw [e2]
      split at h
      · rename_i x hl
        have ha : args = #[x] := by apply Array.ext'; simpa using hl
        subst ha
        split at h
        · rename_i t ht
          split at h
          · rename_i T hT
            obtain ⟨n, h1, h2⟩ := evLen_ok (hcx.ty _ _ hT) hst h (hrd x) argTypes type ht
            unfold builtin
            have : (#[x].map ρ) = #[ρ x] := by simp
            rw [this]
            exact V1 h1 (sm h2 (by unfold RV RD; rfl))
          · cases h
        · cases h
      · rename_i x hl
        have ha : args = #[x] := by apply Array.ext'; simpa using hl
        subst ha
        split at h
        · rename_i t ht
          split at h
          · rename_i T hT
            split at h
            · rename_i e sz n es hk hr
              have hx := hrd x
              rw [hr] at hx
              unfold RV RD at hx
              obtain ⟨ad, cap, e1, _, hf, _⟩ := hx
              have := hf rfl
              subst this
              unfold builtin
              have : (#[x].map ρ) = #[ρ x] := by simp
              rw [this, e1]
              refine V1 (u := .int .i64 cap) (w' := w) ?_ (sm h (by unfold RV RD; rfl))
              unfold Builtin.cap_
              simp only [ht, List.getElem?_toArray, List.getElem?_cons_zero, Sem.run_bind, (hcx.ty _ _ hT).sl hk, Result.andThen_ok]
              rfl
            · cases h
          · cases h
        · cases h
      · rename_i x y hl
        have ha : args = #[x, y] := by apply Array.ext'; simpa using hl
        subst ha
        split at h
        · rename_i kx a ky b hx hy
          have hx' := hrd x
          have hy' := hrd y
          rw [hx] at hx'; rw [hy] at hy'
          unfold RV RD at hx' hy'
          unfold builtin
          have : (#[x, y].map ρ) = #[.int kx a, .int ky b] := by simp [hx', hy']
          rw [this]
          refine V1 (u := .int kx (min a b)) (w' := w) ?_ (sm h (by unfold RV RD; rfl))
          simp only [Builtin.min_, List.foldlM, Builtin.min2]
          rw [show min a b = if b < a then b else a by rw [Int.min_def]; split <;> split <;> omega]
          rfl
        · cases h
      · rename_i x y hl
        have ha : args = #[x, y] := by apply Array.ext'; simpa using hl
        subst ha
        split at h
        · rename_i kx a ky b hx hy
          have hx' := hrd x
          have hy' := hrd y
          rw [hx] at hx'; rw [hy] at hy'
          unfold RV RD at hx' hy'
          unfold builtin
          have : (#[x, y].map ρ) = #[.int kx a, .int ky b] := by simp [hx', hy']
          rw [this]
          refine V1 (u := .int kx (max a b)) (w' := w) ?_ (sm h (by unfold RV RD; rfl))
          simp only [Builtin.max_, List.foldlM, Builtin.max2]
          rw [show max a b = if b > a then b else a by rw [Int.max_def]; split <;> split <;> omega]
          rfl
        · cases h
      · cases h
    · cases h
  | _ => simp [evOpR] at h

/-- A literal: told as data, or as a row of its own. -/
theorem lit_run {cx : Cx} (hcx : CxOk0 P cx) {ρ : Operand → Value} {rd : Operand → V} (hst : St C ι M w) (hrd : ∀ x, RV w C ι (ρ x) (rd x)) {t e : TypeId} {T E : TI} (hT : find cx.ty t = some T) (hk : T.kind = .sl e) (hE : find cx.ty e = some E) {len : Nat} {parts : Array (Nat × Operand)} (hl : parts.size = len) (hle : len * E.size ≤ 10000) {es : List (List D)} {M1 : Mem} (hlit : litEs E.size 0 M (parts.toList.map fun p => (p.1, fixNil cx e (rd p.2))) = some (es, M1)) :
    ∃ w' C1 C2 ι2, (Instr.buildSlice t len (parts.map fun (i, x) => (i, ρ x))).run P w = .ok (.slice (some ⟨w.heap.size, 0, none⟩) len len) w' ∧
      Go1 C ι M w C1 ι M1 w' (fun _ => False) ∧ RV w' C1 ι (.slice (some ⟨w.heap.size, 0, none⟩) len len) (.d (.sl true E.size len es)) ∧
      Go1 C ι M w C2 ι2 (M1 ++ [.row E.size len false false es]) w' (fun _ => False) ∧ RV w' C2 ι2 (.slice (some ⟨w.heap.size, 0, none⟩) len len) (.own M1.length) := by
  have hTi := hcx.ty _ _ hT
  have hEi := hcx.ty _ _ hE
  obtain ⟨z, hz, hzs, _⟩ := hEi.zero
  let us : Array Value := if len * E.size = 0 then #[] else (Array.range (len * E.size)).map (z.cells[· % z.cells.size]!)
  have hus : us.size = len * E.size := by
    simp only [us]; split
    · rename_i h0; rw [h0]; rfl
    · simp
  obtain ⟨us', C1, e1, g1, e2, e3, e4, e5, _⟩ := lit_ok (w := w) (ι := ι) (vals := parts.toList.map fun p => (p.1, ρ p.2)) (us := us) (done := []) hlit (by simp) hst (by
      have fx : ∀ (l : List (Nat × Operand)), RVs w C ι ((l.map fun p => (p.1, ρ p.2)).map (·.2)) ((l.map fun p => (p.1, fixNil cx e (rd p.2))).map (·.2)) := by
        intro l; induction l with
        | nil => simp [RVs]
        | cons x l ih => simp only [List.map_cons]; unfold RVs; exact ⟨fixNil_ok (hrd x.2), ih⟩
      exact fx _) (by rw [hus]; simp [hl]) (by simp [toVs, RVs])
  have hlen : es.length = len := by rw [e4]; simp [hl]
  have e3' := e3
  simp only [List.nil_append] at e3'
  have g2 := Go1.fixed g1.st us' e (0, 0)
  have g3 := Go1.more g1.st us' e (0, 0) ⟨true, E.size, len, w.heap.size, 0, len⟩ (.row E.size len false false es) (fun _ => rfl)
    (by
      have := EntOk.fresh (vs := us'.toList) (rest := []) (ι' := ι ++ [⟨true, E.size, len, w.heap.size, 0, len⟩]) (es := es) (sz := E.size) (n := len) (cap := len) (fz := false) (mv := false) g1.st e3' e5 hlen (Nat.le_refl _) (by simp [e2, hus]) e (fr := (0, 0)) (soft0 _) (w1 := w) rfl
      simpa using this)
  refine ⟨World.more w (.cells us' e (0, 0)), _, _, _, ?_, g1.trans hst g2 (fun i => by simp), ?_, g1.trans hst g3 (fun i => by simp), ?_⟩
  · unfold Instr.buildSlice
    simp only [Sem.run_bind, hTi.sl hk, Result.andThen_ok, hEi.size]
    rw [if_neg (by omega)]
    have hmap : (parts.map fun (i, x) => (i, ρ x)).toList = parts.toList.map fun p => (p.1, ρ p.2) := by simp
    by_cases h0 : len * E.size = 0
    · have hu0 : us = #[] := by simp only [us]; rw [if_pos h0]
      rw [hu0] at e1
      rw [if_pos h0, h0]
      simp only [Sem.run_bind, Sem.run_pure, Result.andThen_ok]
      have hr0 : ((Array.range 0).map fun x => (#[] : Array Value)[x % (#[] : Array Value).size]!) = #[] := by simp
      rw [hr0, hmap, e1]
      rfl
    · have hu0 : us = (Array.range (len * E.size)).map (z.cells[· % z.cells.size]!) := by simp only [us]; rw [if_neg h0]
      rw [hu0] at e1
      rw [if_neg h0]
      simp only [Sem.run_bind, hz, Sem.run_pure, Result.andThen_ok]
      rw [hmap, e1]
      rfl
  · unfold RV RD
    refine ⟨_, _, rfl, Nat.le_refl _, fun _ => rfl, hlen, e5, .inr ⟨_, _, rfl, ?_, ?_⟩⟩
    · simp [e2, hus]
    · have e3'' := g2.rvs e3'
      refine REs.of_flat (RCs.of_RVs (ι := ι) e3'' (fun j u hj => ?_))
      have := more_new (w := w) (o := .cells us' e (0, 0))
      simp only [Nat.zero_add, World.cell?, this]
      simpa using hj
  · unfold RV
    rw [← g1.st.len]
    exact ⟨⟨true, E.size, len, w.heap.size, 0, len⟩, by simp, rfl, _, rfl, .inr rfl⟩

theorem litL_run {cx : Cx} (hcx : CxOk0 P cx) {ρ : Operand → Value} {rd : Operand → V} (hst : St C ι M w) (hrd : ∀ x, RV w C ι (ρ x) (rd x)) {t e : TypeId} {T E : TI} (hT : find cx.ty t = some T) (hk : T.kind = .sl e) (hE : find cx.ty e = some E) {len : Nat} {parts : Array (Nat × Operand)} (hl : parts.size = len) (hle : len * E.size ≤ 10000) {es : List (List D)} {M1 : Mem} {ks : List Nat} (hlit : litEsL E.size M M.length 0 [] (parts.toList.map fun p => (p.1, fixNil cx e (rd p.2))) = some (es, M1, ks)) :
    ∃ w' C2 ι2, (Instr.buildSlice t len (parts.map fun (i, x) => (i, ρ x))).run P w = .ok (.slice (some ⟨w.heap.size, 0, none⟩) len len) w' ∧
      Go1 C ι M w C2 ι2 (M1 ++ [.lrow E.size len false es]) w' (· ∈ ks) ∧ RV w' C2 ι2 (.slice (some ⟨w.heap.size, 0, none⟩) len len) (.own M1.length) := by
  have hTi := hcx.ty _ _ hT
  have hEi := hcx.ty _ _ hE
  obtain ⟨z, hz, hzs, _⟩ := hEi.zero
  let us : Array Value := if len * E.size = 0 then #[] else (Array.range (len * E.size)).map (z.cells[· % z.cells.size]!)
  have hus : us.size = len * E.size := by
    simp only [us]; split
    · rename_i h0; rw [h0]; rfl
    · simp
  obtain ⟨us', C1, ι1, F1, e1, g1, e2, e3, pd, e4, e5, e6⟩ := litEsL_ok (w := w) hst (vals := parts.toList.map fun p => (p.1, ρ p.2)) (us := us) (done := []) (Fd := []) hlit (by simp) hst (Go1.refl' hst) (by
      have fx : ∀ (l : List (Nat × Operand)), RVs w C ι ((l.map fun p => (p.1, ρ p.2)).map (·.2)) ((l.map fun p => (p.1, fixNil cx e (rd p.2))).map (·.2)) := by
        intro l; induction l with
        | nil => simp [RVs]
        | cons x l ih => simp only [List.map_cons]; unfold RVs; exact ⟨fixNil_ok (hrd x.2), ih⟩
      exact fx _) (by rw [hus]; simp [hl]) (by simp [LVs]) Pd.nil (fun k hk => by simp at hk)
  have hlen : es.length = len := by rw [e4]; simp [hl]
  simp only [List.nil_append] at e3
  have hent := EntOk.freshL (ι' := ι1 ++ [⟨true, E.size, len, w.heap.size, 0, len⟩]) (mv := false) (rest := []) (cap := len) g1.st pd (fun b hb => hb) pd.nd e3 e5 hlen (Nat.le_refl _) (by simp [e2, hus]) e (w1 := w) rfl
  simp only [List.append_nil] at hent
  obtain ⟨s1, s2⟩ := g1.st.moreL pd (fun b hb => hb) (w1 := w) rfl rfl rfl rfl us' e (0, 0) ⟨true, E.size, len, w.heap.size, 0, len⟩ rfl _ (by simpa using hent)
  have g2 : Go1 C1 ι1 M1 w _ _ _ _ (fun _ => False) := ⟨s1, s2 _, fun i _ hm => mvs_more (hm.elim (fun h => h) False.elim)⟩
  refine ⟨World.more w (.cells us' e (0, 0)), _, _, ?_, g1.trans hst g2 (fun i => by simp), ?_⟩
  · unfold Instr.buildSlice
    simp only [Sem.run_bind, hTi.sl hk, Result.andThen_ok, hEi.size]
    rw [if_neg (by omega)]
    have hmap : (parts.map fun (i, x) => (i, ρ x)).toList = parts.toList.map fun p => (p.1, ρ p.2) := by simp
    by_cases h0 : len * E.size = 0
    · have hu0 : us = #[] := by simp only [us]; rw [if_pos h0]
      rw [hu0] at e1
      rw [if_pos h0, h0]
      simp only [Sem.run_bind, Sem.run_pure, Result.andThen_ok]
      have hr0 : ((Array.range 0).map fun x => (#[] : Array Value)[x % (#[] : Array Value).size]!) = #[] := by simp
      rw [hr0, hmap, e1]
      rfl
    · have hu0 : us = (Array.range (len * E.size)).map (z.cells[· % z.cells.size]!) := by simp only [us]; rw [if_neg h0]
      rw [hu0] at e1
      rw [if_neg h0]
      simp only [Sem.run_bind, hz, Sem.run_pure, Result.andThen_ok]
      rw [hmap, e1]
      rfl
  · unfold RV
    rw [← g1.st.len]
    exact ⟨⟨true, E.size, len, w.heap.size, 0, len⟩, by simp, rfl, _, rfl, .inr rfl⟩

theorem evOp_ok {tl : List String} {cx : Cx} (hcx : CxOk0 P cx) {call : CallF} (hcall : CallOk P tl call) (htab : Tabs P tl C ι w) {o : Oper} {ρ : Operand → Value} {rd : Operand → V} (hst : St C ι M w) (hrd : ∀ x, RV w C ι (ρ x) (rd x)) (hcst : ∀ v, ρ (.const v) = v) {k : V → Mem → List Nat → Option R} {r : R} (h : evOp cx call o.type o.op rd M k = some r) {Nx : Value → World → Prop} (hn : Nxt C ι M w k r Nx) :
    After P Nx ((execOp ρ o).run P w) := by
  obtain ⟨dst, op, type, pos, after, guard⟩ := o
  simp only at h
  unfold execOp
  simp only
  have V1 : ∀ {s : Sem Value} {u : Value} {w' : World}, s.run P w = .ok u w' → Nx u w' → After P Nx ((do pure (Next.value (← s)) : Sem Next).run P w) := by
    intro s u w' h1 h2; rw [run_v h1]; exact h2
  have U1 : ∀ {s : Sem Unit} {w' : World}, s.run P w = .ok () w' → Nx undef w' → After P Nx ((do s; pure Next.skip : Sem Next).run P w) := by
    intro s w' h1 h2; rw [run_u h1]; exact h2
  have RR : evOpR cx type op rd M (fun v => k v M []) = some r → After P Nx ((execOp ρ ⟨dst, op, type, pos, after, guard⟩).run P w) := fun h => evOpR_ok hcx (o := ⟨dst, op, type, pos, after, guard⟩) hst hrd hcst h (fun h1 h2 => hn.same hst h1 h2)
  have sm : ∀ {u : Value} {v : V}, k v M [] = some r → RV w C ι u v → Nx u w := fun h1 h2 => hn.same hst h1 h2
  cases op with
  | alloc t =>
    simp only [evOp] at h
    split at h
    · rename_i T hT
      obtain ⟨z, hz, _, hzr⟩ := (hcx.ty _ _ hT).zero
      refine V1 (s := Instr.alloc t true (.tuple #[])) ?_ (alloc_ok (t := t) z.cells hst (hzr w C ι) h hn)
      unfold Instr.alloc
      simp only [Sem.run_bind, hz, Result.andThen_ok]
      rfl
    · cases h
  | box t x =>
    simp only [evOp] at h
    obtain ⟨hs, h⟩ := bif_some h
    exact V1 (s := Instr.box t (ρ x)) rfl (alloc_ok (t := t) (ρ x).cells hst ((fixNil_ok (hrd x)).cells hs) h hn)
  | buildSlice t len parts =>
    simp only [evOp] at h
    split at h
    · rename_i T hT
      split at h
      · rename_i e hk
        split at h
        · rename_i E hE
          obtain ⟨hc, h'⟩ := bif_some h; clear h; have h := h'; clear h'
          simp only [Bool.and_eq_true] at hc
          obtain ⟨hl, hle⟩ := hc
          cases hlin : cx.lin with
          | true =>
            rw [hlin] at h
            simp only [cond_true] at h
            split at h
            · rename_i es M1 ks hlit
              obtain ⟨w', C2, ι2, hrun, g2, hu2⟩ := litL_run hcx hst hrd hT hk hE (Nat.eq_of_beq_eq_true hl) (Nat.le_of_ble_eq_true hle) hlit
              exact V1 hrun (hn _ _ _ _ _ _ _ h g2 hu2)
            · cases h
          | false =>
          rw [hlin] at h
          simp only [cond_false] at h
          split at h
          · rename_i es M1 hlit
            obtain ⟨w', C1, C2, ι2, hrun, g1, hu1, g2, hu2⟩ := lit_run hcx hst hrd hT hk hE (Nat.eq_of_beq_eq_true hl) (Nat.le_of_ble_eq_true hle) hlit
            refine V1 hrun ?_
            cases hol : ownLit E len with
            | true => rw [hol] at h; simp only [cond_true] at h; exact hn.go h g2 hu2
            | false => rw [hol] at h; simp only [cond_false] at h; exact hn.go h g1 hu1
          · cases h
        · cases h
      · cases h
    · cases h
  | store t a x =>
    simp only [evOp] at h
    split at h
    · rename_i T hT
      cases hlep : isLep M (rd a) with
      | true =>
        rw [hlep] at h
        simp only [cond_true] at h
        obtain ⟨M', ks, C', ι', w', h1, h2, h3⟩ := evStoreL_ok (hcx.ty _ _ hT) hst h (hrd a) (fixNil_ok (hrd x))
        exact U1 h1 (hn _ _ _ _ _ _ _ h3 h2 (by simp [RV]))
      | false =>
        rw [hlep] at h
        simp only [cond_false] at h
        obtain ⟨M', C', w', h1, h2, h3⟩ := evStore_ok (hcx.ty _ _ hT) hst h (hrd a) (fixNil_ok (hrd x))
        exact U1 h1 (hn.go h3 h2 (by simp [RV]))
    · cases h
  | load t a =>
    simp only [evOp] at h
    split at h
    · rename_i T hT
      obtain ⟨hc, h⟩ | ⟨hc, h⟩ : (_ = true ∧ evOpen T M (rd a) (fun v M => k v M []) = some r) ∨ (_ = false ∧ evOpR cx type (.load t a) rd M (fun v => k v M []) = some r) := by
        cases hb : (cx.lin && (isLep M (rd a) && T.kind.isSl)) with
        | true => rw [hb] at h; exact .inl ⟨hb, h⟩
        | false => rw [hb] at h; exact .inr ⟨hb, h⟩
      · obtain ⟨u, v, M', C', ι', h1, h2, h3, h4⟩ := evOpen_ok (hcx.ty _ _ hT) hst h (hrd a)
        exact V1 h1 (hn.go h4 h2 h3)
      · exact RR h
    · cases h
  | makeSlice t l c =>
    simp only [evOp] at h
    dsimp only
    split at h
    · rename_i T hT
      split at h
      · rename_i e hk
        split at h
        · rename_i E n m hE hl hc
          obtain ⟨hg, h'⟩ := oguard_some h; clear h; have h := h'; clear h'
          have hg := of_decide_eq_true hg
          obtain ⟨g1, g2, g3⟩ := hg
          subst g2
          split at h
          · rename_i z M' hz
            rw [olet_eq] at h
            have h1 := hrd l
            have h2 := hrd c
            rw [hl] at h1; rw [hc] at h2
            unfold RV RD at h1 h2
            rw [h1, h2]
            cases hlin : cx.lin with
            | true =>
              rw [hlin] at h
              simp only [cond_true] at h
              obtain ⟨hz0, h⟩ := bif_some h
              obtain ⟨u, w', r1, r2⟩ := make_lrow (P := P) (hcx.ty _ _ hT) hk (hcx.ty _ _ hE) hst g1 g3 hz hz0 h hn
              exact V1 r1 r2
            | false =>
              rw [hlin] at h
              simp only [cond_false] at h
              obtain ⟨u, w', r1, r2⟩ := make_row (P := P) (hcx.ty _ _ hT) hk (hcx.ty _ _ hE) hst g1 g3 hz h hn
              exact V1 r1 r2
          · cases h
        · cases h
      · cases h
    · cases h
  | convert s t x =>
    simp only [evOp] at h
    split at h
    · rename_i S T hS hT
      have hSi := hcx.ty _ _ hS
      have hTi := hcx.ty _ _ hT
      have hx := hrd x
      split at h
      · rename_i e hk1 hk2
        have hs := hSi.str hk1
        have ht := hTi.sl hk2
        split at h
        · rename_i b E hr hE
          rw [hr] at hx; unfold RV RD at hx
          split at h
          · rename_i hke
            have he := (hcx.ty _ _ hE).kind; rw [hke] at he
            obtain ⟨u, w', h1, h2⟩ := bytes_row (P := P) hst (e := e) b h hn
            refine V1 (s := convert s t (ρ x)) (u := u) (w' := w') ?_ h2
            unfold convert
            rw [hx]
            simp only [Sem.run_bind, hs, ht, he, Result.andThen_ok]
            exact h1
          · cases h
        · cases h
      · rename_i e1 e hk1 hk2
        unfold evSame at h
        obtain ⟨hst', h'⟩ := bif_some h; clear h; have h := h'; clear h'
        have hst' := Nat.eq_of_beq_eq_true hst'
        subst hst'
        split at h
        · rename_i E id hE hr
          split at h
          · rename_i sz n fz mv es hke hM
            have hs := hSi.sl hk1
            have ht := hTi.sl hk2
            have hee : e1 = e := by
              have := (hs w).symm.trans (ht w)
              cases this; rfl
            subst hee
            have he := (hcx.ty _ _ hE).kind; rw [hke] at he
            rw [hr] at hx
            obtain ⟨w', ha, h1, g⟩ := mark_row (P := P) hst hM hx
            obtain ⟨a, m, c, hρ⟩ := ha
            refine V1 (s := convert s s (ρ x)) (u := ρ x) (w' := w') ?_ (hn.go h g (g.rv hx))
            unfold convert
            rw [hρ] at h1 ⊢
            simp only [Sem.run_bind, hs, ht, Result.andThen_ok, beq_self_eq_true, he]
            rw [h1]
            rfl
          · cases h
        · cases h
      · exact RR h
    · cases h
  | call c =>
    obtain ⟨callee, args, argTypes⟩ := c
    simp only [evOp] at h
    have CALL : ∀ {f : FuncId} {as : List V} {vals : List Value}, (bif lendF cx f then evCallL cx call f as M (fun v M => k v M []) else bif cx.lin then evCall cx call f as M (fun v M ks => closeK M v ks k) else evCall cx call f as M k) = some r → RVs w C ι vals as → After P Nx ((callFunc f vals.toArray).run P w) := by
      intro f as vals h1 h2
      cases hle : lendF cx f with
      | true =>
        rw [hle] at h1
        simp only [cond_true] at h1
        obtain ⟨⟨F, hF⟩, hc⟩ := evCallL_ok hcall htab h1 hst h2 (Nx := Nx) (fun u v M' C' ι' w' hk g hu => hn.go hk g hu)
        rw [hcx.fn f F hF]
        exact hc
      | false =>
        rw [hle] at h1
        simp only [cond_false] at h1
        cases hlin : cx.lin with
        | true =>
          rw [hlin] at h1
          simp only [cond_true] at h1
          obtain ⟨⟨F, hF⟩, hc⟩ := evCall_ok hcall htab h1 hst h2 (closeK_ok hst hn)
          rw [hcx.fn f F hF]
          exact hc
        | false =>
          rw [hlin] at h1
          simp only [cond_false] at h1
          obtain ⟨⟨F, hF⟩, hc⟩ := evCall_ok hcall htab h1 hst h2 hn
          rw [hcx.fn f F hF]
          exact hc
    split at h
    · rename_i x
      have hx := hrd x
      split at h
      · rename_i f caps hr
        rw [hr] at hx; unfold RV at hx
        obtain ⟨cs, e, hv⟩ := hx
        have hc := CALL h (RVs.append (fixNils_ok (RVs.map_of hrd args.toList)) hv)
        have e2 : (resolve ρ ⟨.value x, args, argTypes⟩ type >>= fun d => invoke d.target d.args : Sem Next) = callFunc f ((args.map ρ) ++ cs) := by
          unfold resolve
          simp only [e, Deferred.ofValue]
          show invoke (.fn (.func f) cs) (#[] ++ args.map ρ) = _
          simp [invoke]
        show After P Nx (Sem.run P (resolve ρ ⟨.value x, args, argTypes⟩ type >>= fun d => invoke d.target d.args) w)
        rw [e2]
        have e3 : (args.toList.map ρ ++ cs.toList).toArray = args.map ρ ++ cs := by apply Array.ext'; simp
        rwa [e3] at hc
      · cases h
    · rename_i b
      have e2 : (resolve ρ ⟨.builtin b, args, argTypes⟩ type >>= fun d => invoke d.target d.args : Sem Next) = builtin b argTypes type (args.map fun | .const _ => true | _ => false) (args.map ρ) := rfl
      show After P Nx (Sem.run P (resolve ρ ⟨.builtin b, args, argTypes⟩ type >>= fun d => invoke d.target d.args) w)
      rw [e2]
      split at h
      · rename_i s x hl
        have ha : args = #[s, x] := by apply Array.ext'; simpa using hl
        subst ha
        split at h
        · rename_i t u ht hu
          split at h
          · rename_i E U hE hU
            obtain ⟨T, e, hT, hk, hE'⟩ := find_elem hE
            have go : (∃ u d, argTypes[1]? = some u ∧ (∀ w, (underlying u).run P w = .ok d w) ∧ ∀ k, d ≠ .int k) → (bif cx.lin then evAppendL E M (fixNil cx t (rd s)) (fixNil cx t (rd x)) k else evAppend E M (fixNil cx t (rd s)) (fixNil cx t (rd x)) k) = some r → After P Nx (Sem.run P (builtin .append argTypes type (#[s, x].map fun | .const _ => true | _ => false) (#[s, x].map ρ)) w) := by
              intro hz h
              cases hlin : cx.lin with
              | true =>
                rw [hlin] at h
                simp only [cond_true] at h
                obtain ⟨u', v', M', ks, C', ι', w', h1, h2, h3, h4⟩ := evAppendL_ok (hcx.ty _ _ hT) hk (hcx.ty _ _ hE') (ty := type) ht hz hst h (fixNil_ok (hrd s)) (fixNil_ok (hrd x))
                unfold builtin
                have : (#[s, x].map ρ) = #[ρ s, ρ x] := by simp
                rw [this]
                exact V1 h1 (hn _ _ _ _ _ _ _ h4 h2 h3)
              | false =>
              rw [hlin] at h
              simp only [cond_false] at h
              obtain ⟨u', v', M', ks, ι', w', h1, h2, h3, h4⟩ := evAppend_ok (hcx.ty _ _ hT) hk (hcx.ty _ _ hE') (ty := type) ht hz hst h (fixNil_ok (hrd s)) (fixNil_ok (hrd x))
              unfold builtin
              have : (#[s, x].map ρ) = #[ρ s, ρ x] := by simp
              rw [this]
              exact V1 h1 (hn _ _ _ _ _ _ _ h4 h2 h3)
            split at h
            · rename_i e' hk'
              exact go ⟨u, _, hu, fun w => (hcx.ty _ _ hU).sl hk' w, fun k h => by cases h⟩ h
            · rename_i hk'
              exact go ⟨u, _, hu, fun w => (hcx.ty _ _ hU).str hk' w, fun k h => by cases h⟩ h
            · rename_i hk'
              obtain ⟨u', w', h1, h2⟩ := zeros_row (hcx.ty _ _ hT) hk (hcx.ty _ _ hE') (ty := type) ht hu (fun w => by have := (hcx.ty _ _ hU).kind; rw [hk'] at this; exact this w) hst h (fixNil_ok (hrd s)) (hrd x) hn
              unfold builtin
              have : (#[s, x].map ρ) = #[ρ s, ρ x] := by simp
              rw [this]
              exact V1 h1 h2
            · cases h
          · cases h
        · cases h
      · rename_i x hl
        have ha : args = #[x] := by apply Array.ext'; simpa using hl
        subst ha
        split at h
        · rename_i t ht
          split at h
          · rename_i E hE
            split at h
            · rename_i z M0 hz
              obtain ⟨T, e, hT, hk, hE'⟩ := find_elem hE
              obtain ⟨M', w', h1, h2, h3⟩ := evClear_ok (hcx.ty _ _ hT) hk (hcx.ty _ _ hE') (ty := type) ht hst hz h (hrd x)
              unfold builtin
              have : (#[x].map ρ) = #[ρ x] := by simp
              rw [this]
              exact V1 h1 (hn _ _ _ _ _ _ _ h3 ⟨h2.st, h2.stp.weaken (fun _ h => h.elim), fun i hi hm => h2.mv i hi (hm.imp id (fun h => by simp at h))⟩ (by unfold RV; exact ⟨#[], rfl, by simp [RVs]⟩))
            · cases h
          · cases h
        · cases h
      · rw [← e2]; exact RR h
    · cases h
  | _ => exact RR (by simpa only [evOp] using h)
end
end Go.Ev
