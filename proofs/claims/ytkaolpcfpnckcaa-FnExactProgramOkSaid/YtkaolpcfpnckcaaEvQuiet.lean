/-
  Operations that leave the store as it is, in whatever world they run.
-/
import Derived.Test.YtkaolpcfpnckcaaEvPar
set_option linter.unusedVariables false
set_option linter.unusedSimpArgs false
namespace Go.Ev
open Go

section
variable {R : Type} {P : Program} {C : Com} {ι : Locs} {M : Mem} {w : World}

theorem freezeQ1_eq {v : V} {x : D} (h : freezeQ1 M v = some x) : freeze1 M v = some (x, M) := by
  unfold freezeQ1 at h
  split at h
  · cases h; rfl
  · cases h; rfl
  · split at h
    · rename_i hM; cases h; simp [freeze1, hM]
    · cases h
  · split at h
    · rename_i hM; cases h; simp [freeze1, hM]
    · cases h
  · cases h
theorem freezeQL_ok : ∀ {vs : List V} {xs : List D} (_ : freezeQL M vs = some xs) {C : Com} (_ : St C ι M w) {us : List Value} (_ : RVs w C ι us vs), ∃ C', Go1 C ι M w C' ι M w (fun _ => False) ∧ RVs w C' ι us (toVs xs)
  | [], xs, h, C, hst, us, hu => by simp [freezeQL] at h; subst h; exact ⟨C, Go1.refl hst, hu⟩
  | v :: vs, xs, h, C, hst, [], hu => by simp [RVs] at hu
  | v :: vs, xs, h, C, hst, u :: us, hu => by
    unfold RVs at hu
    simp only [freezeQL] at h
    cases h1 : freezeQ1 M v with
    | none => rw [h1] at h; cases h
    | some x =>
      cases h2 : freezeQL M vs with
      | none => rw [h1, h2] at h; cases h
      | some ys =>
        rw [h1, h2] at h; simp at h; subst h
        obtain ⟨C1, g1, r1, _⟩ := freeze1_ok (freezeQ1_eq h1) hst hu.1
        obtain ⟨C2, g2, r2⟩ := freezeQL_ok h2 g1.st (g1.rvs hu.2)
        refine ⟨C2, g1.trans hst g2 (fun i => by simp), ?_⟩
        simp only [toVs]; unfold RVs
        exact ⟨by unfold RV; exact r1.mono g2.stp.keeps, r2⟩

theorem RVs.data {ι' : Locs} : ∀ {xs : List D} {us : List Value}, RVs w C ι us (toVs xs) → RVs w C ι' us (toVs xs)
  | [], [], _ => by simp [toVs, RVs]
  | [], _ :: _, h => by simp [toVs, RVs] at h
  | _ :: _, [], h => by simp [toVs, RVs] at h
  | x :: xs, u :: us, h => by
    simp only [toVs] at h ⊢
    unfold RVs at h ⊢
    exact ⟨by have := h.1; unfold RV at this ⊢; exact this, RVs.data h.2⟩

theorem freezeQ_ok {v x : V} (h : freezeQ M v = some x) (hst : St C ι M w) {u : Value} (hu : RV w C ι u v) : ∃ C', Go1 C ι M w C' ι M w (fun _ => False) ∧ ∀ {w' : World} {C'' : Com}, Keeps w C' w' C'' → ∀ ι', RV w' C'' ι' u x := by
  have base : ∀ v, (match freezeQ1 M v with | some x => some (V.d x) | none => none) = some x → RV w C ι u v → ∃ C', Go1 C ι M w C' ι M w (fun _ => False) ∧ ∀ {w' : World} {C'' : Com}, Keeps w C' w' C'' → ∀ ι', RV w' C'' ι' u x := by
    intro v h hu
    cases h1 : freezeQ1 M v with
    | none => rw [h1] at h; cases h
    | some y =>
      rw [h1] at h; simp at h; subst h
      obtain ⟨C1, g1, r1, _⟩ := freeze1_ok (freezeQ1_eq h1) hst hu
      exact ⟨C1, g1, fun hk ι' => by unfold RV; exact r1.mono hk⟩
  cases v with
  | agg vs =>
    simp only [freezeQ] at h
    cases h1 : freezeQL M vs with
    | none => rw [h1] at h; cases h
    | some ys =>
      rw [h1] at h; simp at h; subst h
      unfold RV at hu
      obtain ⟨cs, rfl, hr⟩ := hu
      obtain ⟨C1, g1, r1⟩ := freezeQL_ok h1 hst hr
      exact ⟨C1, g1, fun hk ι' => by unfold RV; exact ⟨cs, rfl, RVs.data (RVs.mono hk (fun _ _ h => h) _ r1)⟩⟩
  | fn f cs =>
    cases cs with
    | nil =>
      simp [freezeQ] at h; subst h
      unfold RV at hu
      obtain ⟨c, rfl, hr⟩ := hu
      have hl := hr.length
      exact ⟨C, Go1.refl hst, fun hk ι' => by
        unfold RV
        refine ⟨c, rfl, ?_⟩
        have : c.toList = [] := List.eq_nil_of_length_eq_zero (by simpa using hl)
        rw [this]; simp [RVs]⟩
    | cons a r => simp [freezeQ, freezeQ1] at h
  | rp c j =>
    simp only [freezeQ] at h; cases h
    unfold RV at hu
    obtain ⟨b, off, e, hc, hr⟩ := hu
    refine ⟨C, Go1.refl hst, fun {w' C''} hk ι' => ?_⟩
    unfold RV
    exact ⟨b, off, e, Nat.le_trans hc (hk.le b), RCs.mono hk c (N := off + c.length) (fun o _ ho u hu => by show w'.cell? _ = _; rw [hk.cell b o (by omega)]; exact hu) (Nat.le_refl _) hr⟩
  | _ => exact base _ (by unfold freezeQ at h; exact h) hu

theorem quietArgs_ok : ∀ {vs xs : List V} (_ : quietArgs M vs = some xs) {C : Com} (_ : St C ι M w) {us : List Value} (_ : RVs w C ι us vs), ∃ C', Go1 C ι M w C' ι M w (fun _ => False) ∧ ∀ {w' : World} {C'' : Com}, Keeps w C' w' C'' → ∀ ι', RVs w' C'' ι' us xs
  | [], xs, h, C, hst, us, hu => by
    simp [quietArgs] at h; subst h
    cases us with
    | nil => exact ⟨C, Go1.refl hst, fun _ _ => by simp [RVs]⟩
    | cons u us => simp [RVs] at hu
  | v :: vs, xs, h, C, hst, [], hu => by simp [RVs] at hu
  | v :: vs, xs, h, C, hst, u :: us, hu => by
    unfold RVs at hu
    simp only [quietArgs] at h
    cases h1 : freezeQ M v with
    | none => rw [h1] at h; cases h
    | some x =>
      cases h2 : quietArgs M vs with
      | none => rw [h1, h2] at h; cases h
      | some ys =>
        rw [h1, h2] at h; simp at h; subst h
        obtain ⟨C1, g1, r1⟩ := freezeQ_ok h1 hst hu.1
        obtain ⟨C2, g2, r2⟩ := quietArgs_ok h2 g1.st (g1.rvs hu.2)
        exact ⟨C2, g1.trans hst g2 (fun i => by simp), fun hk ι' => by unfold RVs; exact ⟨r1 (g2.stp.keeps.trans hk) ι', r2 hk ι'⟩⟩

theorem Go1.frame {C3 : Com} {ι3 : Locs} {Mc : Mem} {w' : World} {ks : Nat → Prop} (g : Go1 C [] [] w C3 ι3 Mc w' ks) (hst : St C ι M w) : Go1 C ι M w C3 ι M w' (fun _ => False) := by
  have out : ∀ b, b < w.heap.size → w'.heap[b]? = w.heap[b]? ∧ C3 b = C b := fun b hb => g.stp.out b hb (fun i L h => by simp at h)
  refine ⟨⟨hst.len, fun i L e hi he => (hst.ent i L e hi he).mono g.stp.keeps (fun _ _ h => h) (fun hl => out _ (hst.blt hi hl)), hst.inj, g.st.com⟩, ⟨g.stp.os, g.stp.tape, g.stp.output, g.stp.size, fun b hb _ => out b hb, g.stp.keeps, fun _ _ h _ => h, fun i L h _ => ⟨L, h, rfl, rfl, fun hl => .inl ⟨hl, rfl⟩⟩, fun i L hge h _ => ?_⟩, fun i _ hm => hm.elim (fun h => h) False.elim⟩
  rw [List.getElem?_eq_none hge] at h; cases h

theorem freezeQL_eq : ∀ {vs : List V} {xs : List D}, freezeQL M vs = some xs → freezeL M vs = some (xs, M)
  | [], xs, h => by simp only [freezeQL] at h; cases h; rfl
  | v :: vs, xs, h => by
    simp only [freezeQL] at h
    split at h
    · rename_i x ys h1 h2
      cases h
      simp only [freezeL, freezeQ1_eq h1, freezeQL_eq h2]
    · cases h
theorem litQ_eq {sz : Nat} : ∀ {ps : List (Nat × V)} {i : Nat} {es : List (List D)}, litQ sz M i ps = some es → litEs sz i M ps = some (es, M)
  | [], i, es, h => by simp only [litQ] at h; cases h; rfl
  | (j, v) :: r, i, es, h => by
    simp only [litQ] at h
    obtain ⟨h1, h⟩ := bif_some h
    split at h
    · rename_i c fs h2 h3
      cases h
      simp only [litEs, h1, cond_true, freezeQL_eq h2, litQ_eq h3]
    · cases h
/-- Where no entry is added, the entries stand where they stood. -/
theorem Go1.same_ι {C' : Com} {ι' : Locs} {w' : World} (hst : St C ι M w) (g : Go1 C ι M w C' ι' M w' (· ∈ ([] : List Nat))) : ι' = ι := by
  apply List.ext_getElem?
  intro i
  rcases Nat.lt_or_ge i ι.length with h | h
  · have h1 : ι[i]? = some ι[i] := by simp [h]
    rw [h1]
    exact g.stp.same i _ h1 (by simp)
  · rw [List.getElem?_eq_none h, List.getElem?_eq_none (by rw [g.st.len, ← hst.len]; exact h)]

theorem evOpQ_ok {cx : Cx} (hcx : CxOk0 P cx) {call : CallF} (hcall : CallOk P call) {o : Oper} {ρ : Operand → Value} {rd : Operand → V} (hst : St C ι M w) (hrd : ∀ x, RV w C ι (ρ x) (rd x)) (hcst : ∀ v, ρ (.const v) = v) {k : V → Option R} {r : R} (h : evOpQ cx call o.type o.op rd M k = some r) {Nx : Value → World → Prop}
    (hn : ∀ {u : Value} {v : V} {C' : Com} {w' : World}, k v = some r → Go1 C ι M w C' ι M w' (fun _ => False) → RV w' C' ι u v → Nx u w') :
    After P Nx ((execOp ρ o).run P w) := by
  have RR : evOpR cx o.type o.op rd M k = some r → After P Nx ((execOp ρ o).run P w) := fun h => evOpR_ok hcx hst hrd hcst h (fun h1 h2 => hn h1 (Go1.refl hst) h2)
  unfold evOpQ at h
  split at h
  · rename_i c hop
    split at h
    · rename_i x hcal
      have hx := hrd x
      split at h
      · rename_i f caps hr
        rw [hr] at hx; unfold RV at hx
        obtain ⟨cs, e, hv⟩ := hx
        have hvs := RVs.append (fixNils_ok (cx := cx) (ts := c.argTypes.toList) (RVs.map_of hrd c.args.toList)) hv
        unfold evCallQ at h
        split at h
        · cases h
        · rename_i F hF
          split at h
          · cases h
          · rename_i args hq
            rw [fVs_eq] at h
            obtain ⟨v, Mc, t, um, hp, hdv, _, hk⟩ := ocall_some h
            obtain ⟨C1, g1, r1⟩ := quietArgs_ok hq hst hvs
            have hst0 : St C1 [] [] w := ⟨rfl, fun i L e h => by simp at h, fun i j L L' h => by simp at h, g1.st.com⟩
            have hc := hcall f args [] v Mc hp C1 [] w _ hst0 (fun i => by rintro ⟨_, _, _, _, h⟩; simp at h) (r1 (.refl _ _) [])
            have e2 : execOp ρ o = callFunc f ((c.args.map ρ) ++ cs) := by
              unfold execOp
              rw [hop]
              show (resolve ρ c o.type >>= fun d => invoke d.target d.args : Sem Next) = _
              unfold resolve
              simp only [hcal, e, Deferred.ofValue]
              show invoke (.fn (.func f) cs) (#[] ++ c.args.map ρ) = _
              simp [invoke]
            rw [e2, hcx.fn f F hF]
            have e3 : (c.args.toList.map ρ ++ cs.toList).toArray = c.args.map ρ ++ cs := by apply Array.ext'; simp
            rw [e3] at hc
            refine Calls.mono hc ?_
            rintro en w' ⟨u, C3, ι3, rfl, g3, hu⟩
            exact ⟨u, rfl, hn hk (g1.trans hst (g3.frame g1.st) (fun i => by simp)) (RV.ren (.refl _ _) (fun i j L h => by cases h) _ (Sh.dec_ok _ hdv hu))⟩
      · cases h
    · exact RR h
  · rename_i t len parts hop
    split at h
    · rename_i T hT
      split at h
      · rename_i e hk
        split at h
        · rename_i E hE
          obtain ⟨h1, h2⟩ := bif_some h
          simp only [Bool.and_eq_true] at h1
          split at h2
          · rename_i es hl
            obtain ⟨w', C1, C2, ι2, hrun, g1, hu1, _, _⟩ := lit_run hcx hst hrd hT hk hE (Nat.eq_of_beq_eq_true h1.1) (Nat.le_of_ble_eq_true h1.2) (litQ_eq hl)
            have hx : (execOp ρ o).run P w = .ok (.value (.slice (some ⟨w.heap.size, 0, none⟩) len len)) w' := by
              unfold execOp
              rw [hop]
              exact run_v hrun
            rw [hx]
            exact hn h2 g1 hu1
          · cases h2
        · cases h
      · cases h
    · cases h
  · cases hno : nilOp o.op with
    | true => rw [hno] at h; cases h
    | false => rw [hno] at h; exact RR h

theorem map_parts_congr {rd rd' : Operand → V} {ps : Array (Nat × Operand)} (h : ∀ x ∈ (ps.toList.map (·.2)), rd x = rd' x) : (ps.toList.map fun p => (p.1, rd p.2)) = ps.toList.map fun p => (p.1, rd' p.2) :=
  List.map_congr_left fun p hp => by rw [h p.2 (List.mem_map_of_mem hp)]

theorem evOpQ_congr {cx : Cx} {call : CallF} {ty : TypeId} {o : Op} {rd rd' : Operand → V} {k : V → Option R} (h : ∀ x ∈ o.operands, rd x = rd' x) : evOpQ cx call ty o rd M k = evOpQ cx call ty o rd' M k := by
  cases o with
  | build t ps =>
    have := map_parts_congr (ps := ps) (rd := rd) (rd' := rd') (fun x hx => h x (by simpa [Op.operands] using hx))
    simp only [evOpQ, evOpR, this]
  | buildSlice t n ps =>
    have : ∀ e, (ps.toList.map fun p => (p.1, fixNil cx e (rd p.2))) = ps.toList.map fun p => (p.1, fixNil cx e (rd' p.2)) := fun e =>
      List.map_congr_left fun p hp => by rw [h p.2 (by simp only [Op.operands]; simpa using ⟨p.1, by simpa using hp⟩)]
    simp only [evOpQ, this]
  | makeFunc fn first caps =>
    cases fn with
    | func f =>
      have h1 : caps.toList.map rd = caps.toList.map rd' := List.map_congr_left fun x hx => h x (by simp [Op.operands]; exact .inr (by simpa using hx))
      simp only [evOpQ, evOpR, h1]
    | _ => rfl
  | slice t x lo hi mx =>
    cases mx with
    | some m => rfl
    | none =>
      have hx := h x (by simp [Op.operands])
      cases lo <;> cases hi <;> simp only [evOpQ, evOpR, hx]
      · rename_i b; have := h b (by simp [Op.operands]); simp only [this]
      · rename_i a; have := h a (by simp [Op.operands]); simp only [this]
      · rename_i a b; have h1 := h a (by simp [Op.operands]); have h2 := h b (by simp [Op.operands]); simp only [h1, h2]
  | call c =>
    obtain ⟨callee, args, ats⟩ := c
    have h1 : args.toList.map rd = args.toList.map rd' := List.map_congr_left fun x hx => h x (by simp [Op.operands, Call.operands]; exact .inr (by simpa using hx))
    cases callee with
    | value f =>
      have hf := h f (by simp [Op.operands, Call.operands])
      simp only [evOpQ, hf, h1]
    | invoke r m => rfl
    | builtin b =>
      simp only [evOpQ, evOpR]
      split
      · rename_i x hx
        have : rd x = rd' x := h x (by simp [Op.operands, Call.operands]; have : args = #[x] := by apply Array.ext'; simpa using hx
                                       simp [this])
        simp only [this]
      · rename_i x hx
        have : rd x = rd' x := h x (by simp [Op.operands, Call.operands]; have : args = #[x] := by apply Array.ext'; simpa using hx
                                       simp [this])
        simp only [this]
      · rename_i x y hx
        have e : args = #[x, y] := by apply Array.ext'; simpa using hx
        have h1 : rd x = rd' x := h x (by simp [Op.operands, Call.operands, e])
        have h2 : rd y = rd' y := h y (by simp [Op.operands, Call.operands, e])
        simp only [h1, h2]
      · rename_i x y hx
        have e : args = #[x, y] := by apply Array.ext'; simpa using hx
        have h1 : rd x = rd' x := h x (by simp [Op.operands, Call.operands, e])
        have h2 : rd y = rd' y := h y (by simp [Op.operands, Call.operands, e])
        simp only [h1, h2]
      · rfl
  | convert s t x => have hx := h x (by simp [Op.operands]); simp only [evOpQ, evOpR, hx]
  | unOp op t x => have hx := h x (by simp [Op.operands]); simp only [evOpQ, evOpR, hx]
  | move x => have hx := h x (by simp [Op.operands]); simp only [evOpQ, evOpR, hx]
  | assign x => have hx := h x (by simp [Op.operands]); simp only [evOpQ, evOpR, hx]
  | nilCheck x => have hx := h x (by simp [Op.operands]); simp only [evOpQ, evOpR, hx]
  | load t x => have hx := h x (by simp [Op.operands]); simp only [evOpQ, evOpR, hx]
  | fieldAddr t x f => have hx := h x (by simp [Op.operands]); simp only [evOpQ, evOpR, hx]
  | field t x f => have hx := h x (by simp [Op.operands]); simp only [evOpQ, evOpR, hx]
  | extract x i => have hx := h x (by simp [Op.operands]); simp only [evOpQ, evOpR, hx]
  | pick c a b => have h1 := h c (by simp [Op.operands]); have h2 := h a (by simp [Op.operands]); have h3 := h b (by simp [Op.operands]); simp only [evOpQ, evOpR, h1, h2, h3]
  | binOp op t x y yt => have h1 := h x (by simp [Op.operands]); have h2 := h y (by simp [Op.operands]); simp only [evOpQ, evOpR, h1, h2]
  | indexAddr t x y => have h1 := h x (by simp [Op.operands]); have h2 := h y (by simp [Op.operands]); simp only [evOpQ, evOpR, h1, h2]
  | index t x y => have h1 := h x (by simp [Op.operands]); have h2 := h y (by simp [Op.operands]); simp only [evOpQ, evOpR, h1, h2]
  | _ => rfl
end
end Go.Ev
