import Derived.Test.YtkgabahlbmonfaaDoorEvMg
set_option linter.unusedVariables false
set_option linter.unusedSimpArgs false
/-
  Operations in a region that draws its order: more entries change nothing of what they come to; those that add entries.
-/
namespace Go.Ev
open Go

section
variable {R : Type} {P : Program} {C : Com} {ι : Locs} {M : Mem} {w : World}

theorem getM_ext {X : Mem} {i : Nat} {e : Ent} (h : getM M i = some e) : getM (M ++ X) i = some e := by
  unfold getM at h ⊢
  rw [List.getElem?_append_left (lt_of_get h)]; exact h
theorem freezeQ1_ext {X : Mem} {v : V} {x : D} (h : freezeQ1 M v = some x) : freezeQ1 (M ++ X) v = some x := by
  unfold freezeQ1 at h ⊢
  split at h
  · exact h
  · exact h
  · split at h
    · rename_i hM; rw [getM_ext hM]; exact h
    · cases h
  · split at h
    · rename_i hM; rw [getM_ext hM]; exact h
    · cases h
  · cases h
theorem freezeQL_ext {X : Mem} : ∀ {vs : List V} {xs : List D}, freezeQL M vs = some xs → freezeQL (M ++ X) vs = some xs
  | [], xs, h => h
  | v :: vs, xs, h => by
    simp only [freezeQL] at h ⊢
    split at h
    · rename_i x ys h1 h2
      rw [freezeQ1_ext h1, freezeQL_ext h2]; exact h
    · cases h
theorem freezeQ_ext {X : Mem} {v x : V} (h : freezeQ M v = some x) : freezeQ (M ++ X) v = some x := by
  cases v with
  | agg vs =>
    simp only [freezeQ] at h ⊢
    split at h
    · rename_i xs h1; rw [freezeQL_ext h1]; exact h
    · cases h
  | fn f vs =>
    cases vs with
    | nil => exact h
    | cons a as => simp [freezeQ, freezeQ1] at h
  | rp c j => exact h
  | _ =>
    simp only [freezeQ] at h ⊢
    split at h
    · rename_i y h1; rw [freezeQ1_ext h1]; exact h
    · cases h
theorem quietArgs_ext {X : Mem} : ∀ {vs xs : List V}, quietArgs M vs = some xs → quietArgs (M ++ X) vs = some xs
  | [], xs, h => h
  | v :: vs, xs, h => by
    simp only [quietArgs] at h ⊢
    split at h
    · rename_i x ys h1 h2
      rw [freezeQ_ext h1, quietArgs_ext h2]; exact h
    · cases h
theorem litQ_ext {sz : Nat} {X : Mem} : ∀ {ps : List (Nat × V)} {i : Nat} {es : List (List D)}, litQ sz M i ps = some es → litQ sz (M ++ X) i ps = some es
  | [], i, es, h => h
  | (j, v) :: r, i, es, h => by
    simp only [litQ] at h ⊢
    obtain ⟨h1, h⟩ := bif_some h
    rw [h1, cond_true]
    split at h
    · rename_i c fs h2 h3
      rw [freezeQL_ext h2, litQ_ext h3]; exact h
    · cases h
theorem bif_none {R : Type} {b : Bool} {x : Option R} {r : R} (h : (bif b then none else x) = some r) : b = false ∧ x = some r := by
  cases b <;> simp at h ⊢; exact h
theorem evLoad_ext {X : Mem} {T : TI} {a : V} {k : V → Option R} {q : R} (h : evLoad T M a k = some q) : evLoad T (M ++ X) a k = some q := by
  unfold evLoad at h ⊢
  split at h
  · split at h
    · rename_i hM; rw [getM_ext hM]; exact h
    · cases h
  · split at h
    · rename_i hM; rw [getM_ext hM]; exact h
    · rename_i hM; rw [getM_ext hM]; exact h
    · cases h
  · exact h
  · cases h
theorem evLen_ext {X : Mem} {T : TI} {v : V} {k : Int → Option R} {q : R} (h : evLen T M v k = some q) : evLen T (M ++ X) v k = some q := by
  unfold evLen at h ⊢
  split at h
  · exact h
  · exact h
  · split at h
    · rename_i hM; rw [getM_ext hM]; exact h
    · rename_i hM; rw [getM_ext hM]; exact h
    · cases h
  · exact h
  · cases h
theorem evSlice_ext {X : Mem} {E : Option TI} {x : V} {lo hi : Option Int} {k : V → Option R} {q : R} (h : evSlice E M x lo hi k = some q) : evSlice E (M ++ X) x lo hi k = some q := by
  unfold evSlice at h ⊢
  split at h
  · exact h
  · split at h
    · rename_i hM; rw [getM_ext hM]; exact h
    · cases h
  · split at h
    · rename_i hM; rw [getM_ext hM]; exact h
    · cases h
  · cases h
theorem evIndexAddr_ext {X : Mem} {E : TI} {x : V} {i : Int} {k : V → Option R} {q : R} (h : evIndexAddr E M x i k = some q) : evIndexAddr E (M ++ X) x i k = some q := by
  unfold evIndexAddr at h ⊢
  split at h
  · exact h
  · split at h
    · rename_i hM; rw [getM_ext hM]; exact h
    · rename_i hM; rw [getM_ext hM]; exact h
    · cases h
  · split at h
    · rename_i hM; rw [getM_ext hM]; exact h
    · cases h
  · cases h
theorem evSrc_ext {X : Mem} {v : V} {r : Nat × Nat × List (List D)} (h : evSrc M v = some r) : evSrc (M ++ X) v = some r := by
  unfold evSrc at h ⊢
  split at h
  · exact h
  · exact h
  · split at h
    · rename_i hM; rw [getM_ext hM]; exact h
    · cases h
  · split at h
    · rename_i hM; rw [getM_ext hM]; exact h
    · cases h
  · cases h
theorem evBytes_ext {X : Mem} {x : V} {k : V → Option R} {q : R} (h : evBytes M x k = some q) : evBytes (M ++ X) x k = some q := by
  unfold evBytes at h ⊢
  split at h
  · cases h
  · split at h
    · rename_i hs; rw [evSrc_ext hs]; exact h
    · cases h
theorem evOpR_ext {X : Mem} {cx : Cx} {ty : TypeId} {o : Op} (hno : nilOp o = false) {rd : Operand → V} {k : V → Option R} {q : R} (h : evOpR cx ty o rd M k = some q) : evOpR cx ty o rd (M ++ X) k = some q := by
  cases o with
  | load t a =>
    simp only [evOpR] at h ⊢
    split at h
    · exact evLoad_ext h
    · cases h
  | binOp op t x y yt =>
    simp only [nilOp] at hno
    simp only [evOpR, hno] at h ⊢
    exact h
  | slice t x lo hi mx =>
    cases mx with
    | some m => simp [evOpR] at h
    | none =>
      cases lo <;> cases hi <;> simp only [evOpR] at h ⊢
      · exact evSlice_ext h
      · split at h
        · exact evSlice_ext h
        · cases h
      · split at h
        · exact evSlice_ext h
        · cases h
      · split at h
        · exact evSlice_ext h
        · cases h
  | indexAddr t x i =>
    simp only [evOpR] at h ⊢
    split at h
    · exact evIndexAddr_ext h
    · cases h
  | convert s t x =>
    simp only [evOpR] at h ⊢
    split at h
    · split at h
      · exact h
      · exact h
      · split at h
        · split at h
          · exact evBytes_ext h
          · cases h
        · cases h
      · cases h
    · cases h
  | call c =>
    simp only [evOpR] at h ⊢
    split at h
    · split at h
      · split at h
        · split at h
          · exact evLen_ext h
          · cases h
        · cases h
      · exact h
      · exact h
      · exact h
      · cases h
    · cases h
  | makeFunc fn first caps =>
    cases fn with
    | func f => simpa only [evOpR] using h
    | _ => simp [evOpR] at h
  | _ => simpa only [evOpR] using h
theorem evCallQ_ext {X : Mem} {cx : Cx} {call : CallF} {f : FuncId} {args : List V} {k : V → Option R} {q : R} (h : evCallQ cx call f args M k = some q) : evCallQ cx call f args (M ++ X) k = some q := by
  unfold evCallQ at h ⊢
  split at h
  · cases h
  · split at h
    · cases h
    · rename_i h1; rw [quietArgs_ext h1]; exact h
theorem lend1_ext {X : Mem} {v : V} {x : D} (h : lend1 M v = some x) : lend1 (M ++ X) v = some x := by
  unfold lend1 at h ⊢
  split at h
  · exact h
  · exact h
  · split at h
    · rename_i hM; rw [getM_ext hM]; exact h
    · rename_i hM; rw [getM_ext hM]; exact h
    · cases h
  · cases h
theorem lendL_ext {X : Mem} : ∀ {vs : List V} {xs : List D}, lendL M vs = some xs → lendL (M ++ X) vs = some xs
  | [], xs, h => h
  | v :: vs, xs, h => by
    simp only [lendL] at h ⊢
    split at h
    · rename_i x ys h1 h2
      rw [lend1_ext h1, lendL_ext h2]; exact h
    · cases h
theorem lendV_ext {X : Mem} {v x : V} (h : lendV M v = some x) : lendV (M ++ X) v = some x := by
  cases v with
  | agg vs =>
    simp only [lendV] at h ⊢
    cases h1 : lendL M vs with
    | none => rw [h1] at h; cases h
    | some ys => rw [h1] at h; rw [lendL_ext h1]; exact h
  | fn f cs =>
    cases cs with
    | nil => simpa only [lendV] using h
    | cons a r => simp [lendV, lend1] at h
  | _ =>
    simp only [lendV] at h ⊢
    split at h
    · rename_i h1; rw [lend1_ext h1]; exact h
    · cases h
theorem lendVs_ext {X : Mem} : ∀ {vs xs : List V}, lendVs M vs = some xs → lendVs (M ++ X) vs = some xs
  | [], xs, h => h
  | v :: vs, xs, h => by
    simp only [lendVs] at h ⊢
    split at h
    · rename_i x ys h1 h2
      rw [lendV_ext h1, lendVs_ext h2]; exact h
    · cases h
theorem evCallQL_ext {X : Mem} {cx : Cx} {call : CallF} {f : FuncId} {args : List V} {k : V → Option R} {q : R} (h : evCallQL cx call f args M k = some q) : evCallQL cx call f args (M ++ X) k = some q := by
  unfold evCallQL at h ⊢
  split at h
  · cases h
  · split at h
    · rename_i h0 h1; rw [h0, lendVs_ext h1]; exact h
    · cases h
theorem evOpQ_ext {X : Mem} {cx : Cx} {call : CallF} {ty : TypeId} {o : Op} {rd : Operand → V} {k : V → Option R} {q : R} (h : evOpQ cx call ty o rd M k = some q) : evOpQ cx call ty o rd (M ++ X) k = some q := by
  unfold evOpQ at h ⊢
  split at h
  · split at h
    · split at h
      · rename_i f caps hr
        cases hl : lendF cx f with
        | true => rw [hl, cond_true] at h; rw [cond_true]; exact evCallQL_ext h
        | false => rw [hl, cond_false] at h; rw [cond_false]; exact evCallQ_ext h
      · cases h
    · exact evOpR_ext rfl h
  · split at h
    · split at h
      · split at h
        · obtain ⟨h1, h⟩ := bif_some h
          rw [h1, cond_true]
          split at h
          · rename_i h2; rw [litQ_ext h2]; exact h
          · cases h
        · cases h
      · cases h
    · cases h
  · cases hno : nilOp o with
    | true => rw [hno] at h; cases h
    | false => rw [hno] at h; exact evOpR_ext hno h

/-! Operations that add entries -/
theorem evAppendG_par {E : TI} {s x : V} {k : V → Mem → Option R} {q : R} (h : evAppendG E M s x k = some q) : ∃ v X, evAppendG E M s x (fun v X => some (v, X)) = some (v, X) ∧ evAppend E M s x (fun v M ks => some (v, M, ks)) = some (v, M ++ X, []) ∧ k v X = some q := by
  unfold evAppendG at h
  split at h
  · cases h
  · rename_i sx m xs hsrc
    obtain ⟨h1, h⟩ := bif_some h
    split at h
    · obtain ⟨h2, h⟩ := oguard_some h
      exact ⟨_, _, by simp only [evAppendG, hsrc, h1, cond_true, oguard_t h2], by simp only [evAppend, hsrc, h1, cond_true, oguard_t h2], h⟩
    · split at h
      · cases h
      · obtain ⟨h3, h⟩ := bif_some h
        obtain ⟨h2, h⟩ := oguard_some h
        rw [olet_eq] at h
        exact ⟨_, _, by simp only [evAppendG, hsrc, h1, h3, cond_true, oguard_t h2, olet_eq], by simp only [evAppend, hsrc, h1, h3, cond_true, oguard_t h2, olet_eq], h⟩
    · cases h

theorem evCall_pt {cx : Cx} {call : CallF} {f : FuncId} {args : List V} {M : Mem} {k : V → Mem → List Nat → Option R} {r : R} (h : evCall cx call f args M k = some r) :
    ∃ as S v Mc pv pM pk, call f as S = some (v, Mc) ∧ k pv pM pk = some r ∧ ∀ {R' : Type} (call' : CallF) (k' : V → Mem → List Nat → Option R') r', call' f as S = some (v, Mc) → k' pv pM pk = some r' → evCall cx call' f args M k' = some r' := by
  unfold evCall at h
  cases hF : find cx.fns f with
  | none => rw [hF] at h; cases h
  | some F =>
    rw [hF] at h; simp only at h
    cases hm : modeArgs (ownVals F.aown args M).2 F.raw (ownVals F.aown args M).1 with
    | none => rw [hm] at h; cases h
    | some p =>
      obtain ⟨xs, M1⟩ := p
      rw [hm] at h; simp only at h
      obtain ⟨hd, h⟩ := bif_some h
      split at h
      · cases h
      · rename_i S hS
        simp only [fVs_eq, fM_eq] at h
        obtain ⟨v, Mc, t, u, hc, hdv, hdm, h⟩ := ocall_some h
        refine ⟨_, S, v, Mc, _, _, _, hc, h, fun {R'} call' k' r' h1 h2 => ?_⟩
        unfold evCall
        rw [hF]; simp only [hm, hd, cond_true, hS, fVs_eq, fM_eq]
        rw [ocall_t h1 hdv hdm]
        exact h2

theorem osame_some {α : Type} {a b : α} {x : Option R} {r : R} (h : osame a b x = some r) : a = b ∧ x = some r := by
  unfold osame at h
  split at h
  · exact ⟨by assumption, h⟩
  · cases h
theorem osame_t {α : Type} {a : α} {x : Option R} : osame a a x = x := by unfold osame; rw [if_pos rfl]
theorem osames_t : ∀ {M X : Mem} {k : Mem → Option R}, osames M (M ++ X) k = k X
  | [], X, k => by unfold osames; rfl
  | .box a :: M, X, k => by rw [List.cons_append, osames, osame_t, osames_t]
  | .row sz n fr al es :: M, X, k => by
    rw [List.cons_append, osames, osame_t, osames_t]
    simp
  | .lrow sz n mv es :: M, X, k => by rw [List.cons_append, osames, osame_t, osames_t]
  | .hole sz n mv es i j v :: M, X, k => by rw [List.cons_append, osames, osame_t, osames_t]
theorem osames_some : ∀ {M M' : Mem} {k : Mem → Option R} {r : R}, osames M M' k = some r → ∃ X, M' = M ++ X ∧ k X = some r
  | [], X, k, r, h => ⟨X, rfl, by unfold osames at h; exact h⟩
  | .box a :: M, .box b :: M', k, r, h => by
    rw [osames] at h
    obtain ⟨e, h⟩ := osame_some h
    obtain ⟨X, e2, h⟩ := osames_some h
    exact ⟨X, by rw [e, e2]; rfl, h⟩
  | .row sz n fr al es :: M, .row sz' n' fr' al' es' :: M', k, r, h => by
    rw [osames] at h
    obtain ⟨h0, h4⟩ := bif_some h
    obtain ⟨e, h5⟩ := osame_some h4
    obtain ⟨X, e2, h6⟩ := osames_some h5
    simp only [Bool.and_eq_true, beq_iff_eq] at h0
    obtain ⟨h1, h2, h3⟩ := h0
    have h1 := Nat.eq_of_beq_eq_true h1
    refine ⟨X, ?_, h6⟩
    cases e; subst h1; subst h2; subst h3
    rw [e2]; rfl
  | .lrow sz n mv es :: M, .lrow sz' n' mv' es' :: M', k, r, h => by
    rw [osames] at h
    obtain ⟨e, h⟩ := osame_some h
    obtain ⟨X, e2, h⟩ := osames_some h
    exact ⟨X, by rw [e, e2]; rfl, h⟩
  | .hole sz n mv es i j v :: M, .hole sz' n' mv' es' i' j' v' :: M', k, r, h => by
    rw [osames] at h
    obtain ⟨e, h⟩ := osame_some h
    obtain ⟨X, e2, h⟩ := osames_some h
    exact ⟨X, by rw [e, e2]; rfl, h⟩
  | .box _ :: _, [], _, _, h => by simp [osames] at h
  | .row .. :: _, [], _, _, h => by simp [osames] at h
  | .lrow .. :: _, [], _, _, h => by simp [osames] at h
  | .hole .. :: _, [], _, _, h => by simp [osames] at h
  | .box _ :: _, .row .. :: _, _, _, h => by simp [osames] at h
  | .box _ :: _, .lrow .. :: _, _, _, h => by simp [osames] at h
  | .box _ :: _, .hole .. :: _, _, _, h => by simp [osames] at h
  | .row .. :: _, .box _ :: _, _, _, h => by simp [osames] at h
  | .row .. :: _, .lrow .. :: _, _, _, h => by simp [osames] at h
  | .row .. :: _, .hole .. :: _, _, _, h => by simp [osames] at h
  | .lrow .. :: _, .box _ :: _, _, _, h => by simp [osames] at h
  | .lrow .. :: _, .row .. :: _, _, _, h => by simp [osames] at h
  | .lrow .. :: _, .hole .. :: _, _, _, h => by simp [osames] at h
  | .hole .. :: _, .box _ :: _, _, _, h => by simp [osames] at h
  | .hole .. :: _, .row .. :: _, _, _, h => by simp [osames] at h
  | .hole .. :: _, .lrow .. :: _, _, _, h => by simp [osames] at h

theorem evOpG_par {cx : Cx} {call : CallF} {ty : TypeId} {o : Op} {rd : Operand → V} {k : V → Mem → Option R} {q : R} (h : evOpG cx call o rd M k = some q) : ∃ v X, evOpG cx call o rd M (fun v X => some (v, X)) = some (v, X) ∧ k v X = some q := by
  unfold evOpG at h ⊢
  split at h
  · split at h
    · exact ⟨_, _, rfl, h⟩
    · cases h
  · obtain ⟨h1, h⟩ := bif_some h
    exact ⟨_, _, by simp only [h1, cond_true], h⟩
  · obtain ⟨hl, h⟩ := bif_some h
    simp only [hl, cond_true]
    split at h
    · split at h
      · split at h
        · obtain ⟨h1, h⟩ := bif_some h
          exact ⟨_, _, by simp only [h1, cond_true], h⟩
        · cases h
      · cases h
    · cases h
  · obtain ⟨hlin, h⟩ := bif_none h
    simp only [hlin, cond_false]
    split at h
    · split at h
      · split at h
        · obtain ⟨h1, h⟩ := oguard_some h
          split at h
          · rw [olet_eq] at h
            exact ⟨_, _, by simp only [oguard_t h1, olet_eq], h⟩
          · cases h
        · cases h
      · cases h
    · cases h
  · split at h
    · split at h
      · unfold evCallG at h ⊢
        split at h
        · cases h
        · split at h
          · obtain ⟨hll, h⟩ := bif_none h
            simp only [hll, cond_false]
            obtain ⟨as, S, v, Mc, pv, pM, pk, hc, h, hall⟩ := evCall_pt h
            obtain ⟨h0, h⟩ := bif_some h
            obtain ⟨X, e, hk⟩ := osames_some h
            exact ⟨pv, X, hall call (fun v M' ks => bif ks.isEmpty then osames M M' fun X => some (v, X) else none) _ hc (by simp only [h0, cond_true]; rw [e, osames_t]), hk⟩
          · rw [fVs_eq] at h
            obtain ⟨v, M', t, u, h1, h2, h3, hk⟩ := ocall_some h
            exact ⟨_, _, by rw [fVs_eq, ocall_t h1 h2 h3], hk⟩
      · cases h
    · split at h
      · obtain ⟨hlin, h⟩ := bif_none h
        simp only [hlin, cond_false]
        split at h
        · split at h
          · split at h
            · obtain ⟨v, X, h1, _, h2⟩ := evAppendG_par h; exact ⟨v, X, h1, h2⟩
            · obtain ⟨v, X, h1, _, h2⟩ := evAppendG_par h; exact ⟨v, X, h1, h2⟩
            · cases h
          · cases h
        · cases h
      · cases h
    · cases h
  · cases h

theorem putW_mid : ∀ {vs b a : List Value}, vs.length = b.length → putW (a ++ b) a.length vs = a ++ vs
  | [], [], a, _ => by simp [putW]
  | [], _ :: _, _, h => by simp at h
  | _ :: _, [], _, h => by simp at h
  | v :: vs, x :: b, a, h => by
    have := putW_mid (vs := vs) (b := b) (a := a ++ [v]) (by simpa using h)
    simp only [putW]
    have e : (a ++ x :: b).set a.length v = (a ++ [v]) ++ b := by
      rw [List.set_append_right _ _ (Nat.le_refl _)]; simp
    rw [e, show a.length + 1 = (a ++ [v]).length by simp, this]
    simp
theorem putW_all {vs b : List Value} (h : b.length = vs.length) : putW b 0 vs = vs := by
  have := putW_mid (vs := vs) (b := b) (a := []) h.symm
  simpa using this
theorem one_run {cx : Cx} (hcx : CxOk0 P cx) {t e : TypeId} {T E : TI} (hT : find cx.ty t = some T) (hk : T.kind = .sl e) (hE : find cx.ty e = some E) {len : Nat} (hl : len = 1) {parts : Array (Nat × Operand)} {p : Nat × Operand} (hp : parts.toList = [p]) (hp0 : p.1 = 0) {ρ : Operand → Value} (hz : (ρ p.2).cells.size = E.size) (h0 : 0 < E.size) (h1 : E.size ≤ 10000) (w : World) :
    (Instr.buildSlice t len (parts.map fun (i, x) => (i, ρ x))).run P w = .ok (.slice (some ⟨w.heap.size, 0, none⟩) len len) (World.more w (.cells (ρ p.2).cells e (0, 0))) := by
  have hTi := hcx.ty _ _ hT
  have hEi := hcx.ty _ _ hE
  obtain ⟨z, hzv, hzs, _⟩ := hEi.zero
  subst hl
  have hmap : (parts.map fun (i, x) => (i, ρ x)).toList = [(0, ρ p.2)] := by
    rw [Array.toList_map, hp]; simp [hp0]
  unfold Instr.buildSlice
  simp only [Sem.run_bind, hTi.sl hk, Result.andThen_ok, hEi.size]
  rw [if_neg (by omega), if_neg (by omega)]
  simp only [Sem.run_bind, hzv, Sem.run_pure, Result.andThen_ok, hmap]
  have hus : (Array.map (fun x => z.cells[x % z.cells.size]!) (Array.range (1 * E.size))).size = E.size := by simp
  generalize Array.map (fun x => z.cells[x % z.cells.size]!) (Array.range (1 * E.size)) = us at hus
  have hfill : Instr.fill (fun i => some (i * E.size, E.size)) us [(0, ρ p.2)] = some (ρ p.2).cells := by
    simp only [Instr.fill]
    rw [if_neg (by simp [hz, hus])]
    have := fill_cells (ρ p.2).cells (0 * E.size) us
    rw [Nat.zero_mul] at this ⊢
    congr 1
    apply Array.ext'
    rw [this]
    exact putW_all (by simp [hz, hus])
  rw [hfill]
  rfl

theorem evOpG_ok {tl : List String} {cx : Cx} (hcx : CxOk0 P cx) {call : CallF} (hcall : CallOk P tl call) (htab : Tabs P tl C ι w) {o : Oper} {ρ : Operand → Value} {rd : Operand → V} (hst : St C ι M w) (hrd : ∀ x, RV w C ι (ρ x) (rd x)) (hcst : ∀ v, ρ (.const v) = v) {v : V} {X : Mem} (h : evOpG cx call o.op rd M (fun v X => some (v, X)) = some (v, X)) {Nx : Value → World → Prop}
    (hn : ∀ {u : Value} {C' : Com} {ι' : Locs} {w' : World}, Go1 C ι M w C' ι' (M ++ X) w' (fun _ => False) → RV w' C' ι' u v → Nx u w') :
    After P Nx ((execOp ρ o).run P w) := by
  have EV : evOp cx call o.type o.op rd M (fun v M ks => some (v, M, ks)) = some (v, M ++ X, []) → After P Nx ((execOp ρ o).run P w) := fun he => by
    refine evOp_ok hcx hcall htab hst hrd hcst he (fun u v' M' ks C' ι' w' h1 g hu => ?_)
    cases h1
    exact hn ⟨g.st, g.stp.weaken (fun i hi => by simp at hi), fun i hi hm => g.mv i hi (hm.imp id (fun h => h.elim))⟩ hu
  unfold evOpG at h
  split at h
  · rename_i t hop
    split at h
    · rename_i T hT
      cases h
      exact EV (by rw [hop]; simp only [evOp, hT])
    · cases h
  · rename_i t x hop
    obtain ⟨h1, h⟩ := bif_some h
    cases h
    exact EV (by rw [hop]; simp only [evOp, h1, cond_true])
  · rename_i t len parts hop
    obtain ⟨hl, h⟩ := bif_some h
    rw [Bool.and_eq_true] at hl
    have hlen := Nat.eq_of_beq_eq_true hl.2
    split at h
    · rename_i T hT
      split at h
      · rename_i e hk
        split at h
        · rename_i E p hE hp
          obtain ⟨h1, h⟩ := bif_some h
          cases h
          simp only [Bool.and_eq_true] at h1
          obtain ⟨⟨hp0, hE0, hE1⟩, hs, hcl⟩ := h1
          have hE1 := Nat.le_of_ble_eq_true hE1
          have hp0 := Nat.eq_of_beq_eq_true hp0
          have hE0 := Nat.le_of_ble_eq_true hE0
          have hcl := Nat.eq_of_beq_eq_true hcl
          have hv := (fixNil_ok (cx := cx) (t := e) (hrd p.2)).cells hs
          have hz : (ρ p.2).cells.size = E.size := by have := hv.length; simp at this; omega
          have hrun := one_run (P := P) hcx hT hk hE hlen hp hp0 (ρ := ρ) hz hE0 hE1 w
          have g := Go1.more hst (ρ p.2).cells e (0, 0) ⟨true, E.size, 1, w.heap.size, 0, 1⟩ (.box (fixNil cx e (rd p.2)).cells) (fun _ => rfl) ⟨.inr ⟨rfl, hcl.symm, rfl, rfl, rfl, fun b hb => absurd (hst.own b _ hb).1 (Nat.lt_irrefl _)⟩, hst.czero (Nat.le_refl _), _, e, (0, 0), more_new, soft0 _, RVs.mono (hst.keeps_more _) (fun _ _ h => grow_get h) _ hv⟩
          obtain ⟨dst, op, type, pos, after, guard⟩ := o
          simp only at hop
          subst hop
          unfold execOp
          simp only
          rw [run_v hrun]
          refine hn g ?_
          unfold RV
          rw [← hst.len]
          exact ⟨⟨true, E.size, 1, w.heap.size, 0, 1⟩, by simp, rfl, _, by rw [hlen], .inr rfl⟩
        · cases h
      · cases h
    · cases h
  · rename_i t l c hop
    obtain ⟨hlin, h⟩ := bif_none h
    split at h
    · split at h
      · split at h
        · obtain ⟨h1, h⟩ := oguard_some h
          split at h
          · rw [olet_eq] at h
            cases h
            refine EV ?_
            rw [hop]
            simp only [evOp, *, oguard_t h1, olet_eq, cond_false]
            first | rfl | (simp only [oguard_t rfl])
          · cases h
        · cases h
      · cases h
    · cases h
  · rename_i c hop
    split at h
    · rename_i x hcal
      have hx := hrd x
      split at h
      · rename_i f caps hr
        rw [hr] at hx; unfold RV at hx
        obtain ⟨cs, e, hv⟩ := hx
        have hvs := RVs.append (fixNils_ok (cx := cx) (ts := c.argTypes.toList) (RVs.map_of hrd c.args.toList)) hv
        unfold evCallG at h
        split at h
        · cases h
        · rename_i F hF
          split at h
          · obtain ⟨hll, h⟩ := bif_none h
            simp only [Bool.or_eq_false_iff] at hll
            obtain ⟨hlend, hlin⟩ := hll
            obtain ⟨as, S, v', Mc, pv, pM, pk, hc, h, hall⟩ := evCall_pt h
            obtain ⟨h0, h⟩ := bif_some h
            obtain ⟨X', e, hk⟩ := osames_some h
            cases hk
            have hks : pk = [] := by simpa using h0
            subst hks
            refine EV ?_
            rw [hop]
            simp only [evOp, hcal, hr, hlend, hlin, cond_false]
            exact hall call _ _ hc (by rw [e])
          · rename_i args hq
            rw [fVs_eq] at h
            obtain ⟨v0, Mc0, t, um, hp, hdv, hdm, hk⟩ := ocall_some h
            cases hk
            obtain ⟨C1, g1, r1⟩ := quietArgs_ok hq hst hvs
            have hst0 : St C1 [] [] w := ⟨rfl, fun i L e h => by simp at h, fun i j L L' h => by simp at h, g1.st.com, fun b m h => by have := g1.st.own b m h; exact ⟨this.1, this.2.1, this.2.2.1, this.2.2.2.1, fun i L h => by simp at h⟩⟩
            have hc := hcall f args [] v0 Mc0 hp C1 [] w _ hst0 (htab.go g1).nil (fun i => by rintro ⟨_, h, _⟩; simp at h) (r1 (.refl _ _) [])
            have e2 : execOp ρ o = callFunc f ((c.args.map ρ) ++ cs) := by
              unfold execOp
              rw [hop]
              show (resolve ρ c o.type >>= fun d => invoke d.target d.args : Sem Next) = _
              unfold resolve
              simp only [hcal, e, Deferred.ofValue]
              show invoke (.fn (.func f) cs) (#[] ++ c.args.map ρ) = _
              simp [invoke]
            rw [e2, hcx.fn f F hF]
            have e3 : (c.args.toList.map ρ ++ cs.toList).toArray = c.args.map ρ ++ cs := by apply Array.ext'; simp
            rw [e3] at hc
            refine Calls.mono hc ?_
            rintro en w' ⟨u, C3, ι3, rfl, g3', hu⟩
            obtain ⟨hst3, hmv3⟩ := ES.decs_ok (effMs F []) hdm g3'.st
            have g3 : Go1 C1 (subL ι []) [] w C3 ι3 (ES.encs (effMs F []) um) w' (mvs (ES.encs (effMs F []) um)) := ⟨hst3, g3'.stp.weaken hmv3, fun i hi hm => by simp at hi⟩
            obtain ⟨ι4, g4, hg⟩ := back_ok (keep := []) (S := []) g1.st rfl rfl g3 (fun j cs e _ h => by simp at h)
            have wb : ∀ (i0 : Nat) (N : Mem), writeBack (backN [] M.length) [] (ES.encs (effMs F []) um) i0 N = N := by
              intro i0 N
              induction N generalizing i0 with
              | nil => rfl
              | cons e N ih => simp only [writeBack, idx, ih]
            have hM : writeBack (backN [] M.length) [] (ES.encs (effMs F []) um) 0 (killM (movedOf [] (ES.encs (effMs F []) um)) M) ++ ((ES.encs (effMs F []) um).drop ([] : List Nat).length).map (Ent.ren (backN [] M.length)) = M ++ (ES.encs (effMs F []) um).map (Ent.ren (backN [] M.length)) := by
              rw [wb]
              simp [movedOf, killM]
            have g4' := g4
            rw [hM] at g4'
            have g5 : Go1 C1 ι M w C3 ι4 (M ++ (ES.encs (effMs F []) um).map (Ent.ren (backN [] M.length))) w' (fun _ => False) :=
              ⟨g4'.st, g4'.stp.weaken (fun i hi => by simp [movedOf] at hi), fun i hi hm => g4'.mv i hi (hm.imp id (fun h => h.elim))⟩
            exact ⟨u, rfl, hn (g1.trans hst g5 (fun i => by simp)) (RV.ren (.refl _ _) hg _ (Sh.dec_ok _ hdv hu))⟩
      · cases h
    · rename_i b hcal
      split at h
      · rename_i s x hl
        obtain ⟨hlin, h⟩ := bif_none h
        split at h
        · rename_i t u ht hu
          split at h
          · rename_i E U hE hU
            split at h
            · obtain ⟨v', X', h1, h2, h3⟩ := evAppendG_par h
              cases h3
              refine EV ?_
              rw [hop]
              simp only [evOp, hcal, hl, ht, hu, hE, hU, cond_false, *]
            · obtain ⟨v', X', h1, h2, h3⟩ := evAppendG_par h
              cases h3
              refine EV ?_
              rw [hop]
              simp only [evOp, hcal, hl, ht, hu, hE, hU, cond_false, *]
            · cases h
          · cases h
        · cases h
      · cases h
    · cases h
  · cases h

theorem evOpG_congr {cx : Cx} {call : CallF} {o : Op} {rd rd' : Operand → V} {k : V → Mem → Option R} (h : ∀ x ∈ o.operands, rd x = rd' x) : evOpG cx call o rd M k = evOpG cx call o rd' M k := by
  cases o with
  | box t x => have hx := h x (by simp [Op.operands]); simp only [evOpG, hx]
  | makeSlice t l c => have h1 := h l (by simp [Op.operands]); have h2 := h c (by simp [Op.operands]); simp only [evOpG, h1, h2]
  | buildSlice t n ps =>
    have hps : ∀ p ∈ ps.toList, rd p.2 = rd' p.2 := fun p hp => h p.2 (by simp only [Op.operands]; simpa using ⟨p.1, by simpa using hp⟩)
    simp only [evOpG]
    generalize ps.toList = l at hps ⊢
    cases hb : (cx.lin && Nat.beq n 1) with
    | false => rfl
    | true =>
      simp only [cond_true]
      cases hT : find cx.ty t with
      | none => rfl
      | some T =>
        simp only
        cases hk : T.kind with
        | sl e =>
          simp only
          cases hE : find cx.ty e with
          | none => rfl
          | some E =>
            match l, hps with
            | [p], hps => simp only [hps p (by simp)]
            | [], _ => rfl
            | _ :: _ :: _, _ => rfl
        | _ => rfl
  | call c =>
    obtain ⟨callee, args, ats⟩ := c
    have h1 : args.toList.map rd = args.toList.map rd' := List.map_congr_left fun x hx => h x (by simp [Op.operands, Call.operands]; exact .inr (by simpa using hx))
    cases callee with
    | value f =>
      have hf := h f (by simp [Op.operands, Call.operands])
      simp only [evOpG, hf, h1]
    | invoke r m => rfl
    | builtin b =>
      simp only [evOpG]
      split
      · rename_i s x hx
        have e : args = #[s, x] := by apply Array.ext'; simpa using hx
        have h1 : rd s = rd' s := h s (by simp [Op.operands, Call.operands, e])
        have h2 : rd x = rd' x := h x (by simp [Op.operands, Call.operands, e])
        simp only [h1, h2]
      · rfl
  | _ => rfl
end
end Go.Ev
