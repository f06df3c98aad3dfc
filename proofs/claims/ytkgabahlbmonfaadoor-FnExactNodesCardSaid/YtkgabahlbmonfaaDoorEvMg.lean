import Derived.Test.YtkgabahlbmonfaaDoorEvOp14
set_option linter.unusedVariables false
set_option linter.unusedSimpArgs false
/-
  The evaluator's regions are the machine's: in the text's order.
-/
namespace Go.Ev
open Go

/-- The slots. -/
def ER (w : World) (C : Com) (ι : Locs) (a : Act) (e : Env) : Prop := ∀ t, RV w C ι (a.tmps.getD t undef) (getE e t)

/-- What holds all the way through a call: of what it was at the beginning. -/
structure Inv (C0 : Com) (ι0 : Locs) (w0 : World) (C : Com) (ι : Locs) (M : Mem) (w : World) : Prop where
  st : St C ι M w
  stp : Stp C0 ι0 w0 C ι w (mvs M)

section
variable {R : Type} {P : Program} {C0 : Com} {ι0 : Locs} {w0 : World}

theorem Inv.go {C : Com} {ι : Locs} {M : Mem} {w : World} {C' : Com} {ι' : Locs} {M' : Mem} {w' : World} {ks : Nat → Prop} (h : Inv C0 ι0 w0 C ι M w) (g : Go1 C ι M w C' ι' M' w' ks) : Inv C0 ι0 w0 C' ι' M' w' := by
  have hg := h.stp.grow
  have hl := h.st.len
  exact ⟨g.st, h.stp.trans g.stp (fun i hi hm => g.mv i (by omega) (.inl hm)) (fun i hi hm => g.mv i (by omega) (.inr hm))⟩

theorem ER.rd {w : World} {C : Com} {ι : Locs} {a : Act} {e : Env} (h : ER w C ι a e) (x : Operand) : RV w C ι (a.eval x) (rdE e x) := by
  unfold rdE
  split
  · exact h _
  · unfold RV RD; rfl
  · unfold RV; rfl
  · unfold RV RD; rfl
  · unfold RV RD; exact ⟨none, 0, rfl, Nat.le_refl _, fun _ => rfl, rfl, fun c hc => by simp at hc, .inl rfl⟩
  · unfold RV; exact ⟨#[], rfl, by simp [RVs]⟩
  · simp [RV]

theorem getE_put {d t : Nat} {v : V} {e : Env} : getE (putE (some d) v e) t = if d = t then v else getE e t := by
  unfold putE getE
  simp only [find]
  by_cases h : d = t
  · subst h; simp
  · have hb : Nat.beq d t = false := by rw [Bool.eq_false_iff]; intro e'; exact h (Nat.eq_of_beq_eq_true e')
    simp [h, hb]

theorem ER.put {w : World} {C : Com} {ι : Locs} {a : Act} {e : Env} {nt : Nat} (h : ER w C ι a e) (hn : a.tmps.size = nt) {dst : Option Nat} (hd : dstOk nt dst = true) {u : Value} {v : V} (hv : RV w C ι u v) : ER w C ι (a.put dst u) (putE dst v e) := by
  intro t
  cases dst with
  | none => exact h t
  | some d =>
    have hlt : d < a.tmps.size := by rw [hn]; simpa [dstOk, Nat.blt_eq] using hd
    rw [getE_put]
    by_cases e' : d = t
    · subst e'; simp only [if_true, Act.put]; simpa [hlt] using hv
    · simp only [if_neg e', Act.put]
      have := h t
      simpa [Array.getElem?_setIfInBounds_ne e'] using this

theorem getE_map {g : Nat → Option Nat} {t : Nat} : ∀ (e : Env), getE (e.map fun p => (p.1, p.2.ren g)) t = (getE e t).ren g
  | [] => by simp [getE, find, V.ren]
  | (d, v) :: e => by
    have ih := getE_map (g := g) (t := t) e
    unfold getE at ih ⊢
    simp only [List.map_cons, find]
    cases h' : Nat.beq d t with
    | true => simp
    | false => simpa using ih

theorem ER.mono {w : World} {C : Com} {ι : Locs} {M : Mem} {w' : World} {C' : Com} {ι' : Locs} {M' : Mem} {a : Act} {e : Env} {ks : List Nat} (h : ER w C ι a e) (g : Go1 C ι M w C' ι' M' w' (· ∈ ks)) : ER w' C' ι' a (killE ks e) := by
  intro t
  cases ks with
  | nil =>
    simp only [killE]
    exact RV.mono g.stp.keeps (fun i L hi => g.stp.same i L hi (by simp)) _ (h t)
  | cons k ks =>
    have hf : getE (killE (k :: ks) e) t = (getE e t).ren (notIn (k :: ks)) := getE_map e
    rw [hf]
    refine RV.ren g.stp.keeps (fun i j L hi hL => ?_) _ (h t)
    by_cases hm : i ∈ k :: ks
    · rw [notIn_none hm] at hi; cases hi
    · rw [notIn_some hm] at hi; cases hi
      exact g.stp.same i L hL hm

theorem upon_of_after {o : Oper} {a : Act} {next : Act → World → Prop} {Q : Exit → Act → World → Prop} {Nx : Value → World → Prop} {r : Result Next} (h : After P Nx r) (hn : ∀ u w', Nx u w' → next (a.put o.dst u) w') : o.upon P a next Q r := by
  cases r with
  | halt x w => exact h.elim
  | ok x w =>
    cases x with
    | value u => exact hn _ _ h
    | skip => exact hn _ _ h
    | enter f args => exact Calls.mono h (fun e w' ⟨u, e1, e2⟩ => by subst e1; exact hn _ _ e2)
    | _ => exact h.elim

theorem put_size {a : Act} {d : Option Nat} {u : Value} : (a.put d u).tmps.size = a.tmps.size := by
  cases d <;> simp [Act.put]
theorem put_defers {a : Act} {d : Option Nat} {u : Value} : (a.put d u).defers = a.defers := by
  cases d <;> rfl

theorem yielded_of {ops : Array Oper} {all : List Oper} (ha : all = ops.toList) {j : Nat} {g : Oper} (hj : all[j]? = some g) {t : Nat} (hd : g.dst = some t) {a : Act} {b : Bool} (hb : a.tmps.getD t undef = .bool b) : yielded ops a.tmps j = some b := by
  subst ha
  have : ops[j]? = some g := by simpa using hj
  unfold yielded
  rw [this]
  simp only [Option.bind_some, hd]
  have h2 : a.tmps[t]? = some (.bool b) := by
    cases h : a.tmps[t]? with
    | none => simp [h, undef] at hb
    | some v => simp [h] at hb; rw [hb]
  simp [h2]

theorem yielded_tup {ops : Array Oper} {all : List Oper} (ha : all = ops.toList) {j : Nat} {g : Oper} (hj : all[j]? = some g) {t : Nat} (hd : g.dst = some t) {a : Act} {cs : Array Value} (hb : a.tmps.getD t undef = .tuple cs) : yielded ops a.tmps j = none := by
  subst ha
  have : ops[j]? = some g := by simpa using hj
  unfold yielded
  rw [this]
  simp only [Option.bind_some, hd]
  cases h : a.tmps[t]? with
  | none => rfl
  | some v => simp [h] at hb; rw [hb]

/-- Behind one operation. -/
def Then (C0 : Com) (ι0 : Locs) (w0 : World) (nt : Nat) (d : List Deferred) (k : Env → Mem → Option R) (q : R) (K : Act → World → Prop) : Prop :=
  ∀ a' e' M' C' ι' w', k e' M' = some q → a'.tmps.size = nt → a'.defers = d → Inv C0 ι0 w0 C' ι' M' w' → ER w' C' ι' a' e' → K a' w'

theorem evOps_step {tl : List String} {cx : Cx} (hcx : CxOk0 P cx) {call : CallF} (hcall : CallOk P tl call) (htab : Tabs P tl C0 ι0 w0) {nt : Nat} {ops : Array Oper} {all : List Oper} (ha : all = ops.toList) {Q : Exit → Act → World → Prop} {d : List Deferred} {o : Oper} {r : List Oper} {e : Env} {M : Mem} {k : Env → Mem → Option R} {q : R}
    (h : evOps cx call nt all (o :: r) e M k = some q) {a : Act} {C : Com} {ι : Locs} {w : World} (hn : a.tmps.size = nt) (hdf : a.defers = d) (hi : Inv C0 ι0 w0 C ι M w) (he : ER w C ι a e) {K : Act → World → Prop}
    (ht : ∀ a' e' M' C' ι' w', evOps cx call nt all r e' M' k = some q → a'.tmps.size = nt → a'.defers = d → Inv C0 ι0 w0 C' ι' M' w' → ER w' C' ι' a' e' → K a' w') :
    if Region.wanted o (yielded ops a.tmps) then o.wp P a w K Q ∨ (o.asks P a w ∧ LetsOut Q) else K (a.put o.dst undef) w := by
  simp only [evOps, fV_eq, fM_eq] at h
  obtain ⟨hd, h'⟩ := bif_some h; clear h; have h := h'; clear h'
  have run : ∀ {e1 : Env}, ER w C ι a e1 → (evOp cx call o.type o.op (rdE e1) M fun v M ks => evOps cx call nt all r (putE o.dst v (killE ks e1)) M k) = some q → o.wp P a w K Q := by
    intro e1 he1 h
    refine upon_of_after (evOp_ok hcx hcall (htab.stp hi.stp) (o := o) (ρ := a.eval) (rd := rdE e1) hi.st he1.rd (fun _ => rfl) h (Nx := fun u w' => K (a.put o.dst u) w') ?_) (fun u w' h => h)
    intro u v M' ks C' ι' w' hk g hv
    exact ht _ _ _ _ _ _ hk (put_size.trans hn) (put_defers.trans hdf) (hi.go g) (ER.put (he1.mono g) hn hd hv)
  have skip : ∀ {e1 : Env}, ER w C ι a e1 → evOps cx call nt all r (putE o.dst (.tup []) e1) M k = some q → K (a.put o.dst undef) w := by
    intro e1 he1 h
    exact ht _ _ _ _ _ _ h (put_size.trans hn) (put_defers.trans hdf) hi (ER.put he1 hn hd (by unfold RV; exact ⟨#[], rfl, by simp [RVs]⟩))
  cases hg : o.guard with
  | none =>
    rw [hg] at h
    rw [if_pos (by simp [Region.wanted, hg])]
    exact .inl (run he h)
  | some jw =>
    obtain ⟨j, want⟩ := jw
    rw [hg] at h; simp only at h
    cases hj : all[j]? with
    | none => rw [hj] at h; cases h
    | some g =>
      rw [hj] at h; simp only at h
      cases hgd : g.dst with
      | none => rw [hgd] at h; cases h
      | some t =>
        rw [hgd] at h; simp only at h
        have hrt := he t
        have wd : ∀ b, a.tmps.getD t undef = .bool b → Region.wanted o (yielded ops a.tmps) = (b == want) := by
          intro b hb
          simp only [Region.wanted, hg, yielded_of ha hj hgd hb]
          cases b <;> cases want <;> rfl
        cases hv : getE e t with
        | kb b =>
          rw [hv] at h hrt
          unfold RV at hrt
          rw [wd b hrt]
          simp only at h
          cases hbw : (b == want) with
          | true => rw [hbw] at h; simp only [cond_true] at h; rw [if_pos rfl]; exact .inl (run he h)
          | false => rw [hbw] at h; simp only [cond_false] at h; rw [if_neg (by simp)]; exact skip he h
        | d x =>
          rw [hv] at h hrt
          cases x with
          | bool b =>
            unfold RV RD at hrt
            rw [wd b hrt]
            simp only [oite_eq] at h
            have hek : ER w C ι a ((t, .kb b) :: e) := by
              intro t'
              have : getE ((t, V.kb b) :: e) t' = if t = t' then .kb b else getE e t' := getE_put (d := t) (v := .kb b)
              rw [this]
              by_cases e' : t = t'
              · subst e'; rw [if_pos rfl, hrt]; unfold RV; rfl
              · rw [if_neg e']; exact he t'
            cases b <;> cases want <;> simp only [cond_true, cond_false] at h
            · rw [if_pos (by decide)]; exact .inl (run hek h)
            · rw [if_neg (by decide)]; exact skip hek h
            · rw [if_neg (by decide)]; exact skip hek h
            · rw [if_pos (by decide)]; exact .inl (run hek h)
          | _ => cases h
        | tup vs =>
          rw [hv] at h hrt
          unfold RV at hrt
          obtain ⟨cs, hc, _⟩ := hrt
          have wf : Region.wanted o (yielded ops a.tmps) = false := by
            simp only [Region.wanted, hg, yielded_tup ha hj hgd hc]
            cases want <;> rfl
          rw [wf, if_neg (by simp)]
          exact skip he h
        | _ => rw [hv] at h; cases h

theorem evOps_ok {tl : List String} {cx : Cx} (hcx : CxOk0 P cx) {call : CallF} (hcall : CallOk P tl call) (htab : Tabs P tl C0 ι0 w0) {nt : Nat} {ops : Array Oper} {all : List Oper} (ha : all = ops.toList) {Q : Exit → Act → World → Prop} {d : List Deferred} :
    ∀ {r : List Oper} {e : Env} {M : Mem} {k : Env → Mem → Option R} {q : R}, evOps cx call nt all r e M k = some q → ∀ {a : Act} {C : Com} {ι : Locs} {w : World}, a.tmps.size = nt → a.defers = d → Inv C0 ι0 w0 C ι M w → ER w C ι a e → Then C0 ι0 w0 nt d k q (Q .normal) → wpList P ops Q r a w
  | [], e, M, k, q, h, a, C, ι, w, hn, hdf, hi, he, ht => by
    simp only [evOps] at h
    exact ht a e M C ι w h hn hdf hi he
  | o :: r, e, M, k, q, h, a, C, ι, w, hn, hdf, hi, he, ht => by
    unfold wpList
    exact evOps_step hcx hcall htab ha h hn hdf hi he (fun a' e' M' C' ι' w' h1 h2 h3 h4 h5 => evOps_ok hcx hcall htab ha h1 h2 h3 h4 h5 ht)
end
end Go.Ev

/-
  What an operation that writes nothing comes to does not hang on what goes on behind it, nor on slots that it does not name.
-/
namespace Go.Ev
open Go

section
variable {R : Type} {k : V → Option R} {q : R}

theorem evLoad_par {T : TI} {M : Mem} {a : V} (h : evLoad T M a k = some q) : ∃ v, evLoad T M a some = some v ∧ k v = some q := by
  unfold evLoad at h ⊢
  split at h
  · split at h
    · obtain ⟨h1, h2⟩ := bif_some h
      rw [h1] at *
      simp only [cond_true] at *
      cases hA : T.agg <;> rw [hA] at h2 <;> simp only [cond_true, cond_false] at h2 ⊢
      · split at h2
        · exact ⟨_, rfl, h2⟩
        · cases h2
      · exact ⟨_, rfl, h2⟩
    · cases h
  · split at h
    · obtain ⟨h1, h2⟩ := bif_some h
      obtain ⟨t, h3, h4⟩ := ocells_some h2
      rw [h1]
      simp only [cond_true]
      rw [ocells_t h3]
      cases hA : T.agg <;> rw [hA] at h4 <;> simp only [cond_true, cond_false] at h4 ⊢
      · split at h4
        · exact ⟨_, rfl, h4⟩
        · cases h4
      · exact ⟨_, rfl, h4⟩
    · obtain ⟨h1, h2⟩ := bif_some h
      obtain ⟨t, h3, h4⟩ := ocells_some h2
      rw [h1]
      simp only [cond_true]
      rw [ocells_t h3]
      cases hA : T.agg <;> rw [hA] at h4 <;> simp only [cond_true, cond_false] at h4 ⊢
      · split at h4
        · exact ⟨_, rfl, h4⟩
        · cases h4
      · exact ⟨_, rfl, h4⟩
    · cases h
  · obtain ⟨h1, h2⟩ := bif_some h
    rw [h1] at *
    simp only [cond_true] at *
    cases hA : T.agg <;> rw [hA] at h2 <;> simp only [cond_true, cond_false] at h2 ⊢
    · split at h2
      · exact ⟨_, rfl, h2⟩
      · cases h2
    · exact ⟨_, rfl, h2⟩
  · cases h

theorem evBin_par {bt : Bool} {op : BinOp} {x y : D} {f : D → V} (h : evBin bt op x y (fun d => k (f d)) = some q) : ∃ v, evBin bt op x y (fun d => some (f d)) = some v ∧ k v = some q := by
  cases x with
  | int ka na =>
    cases y with
    | int kb nb =>
      by_cases hkk : ka = kb
      · subst hkk
        cases op <;> simp only [evBin, if_true, intCmp] at h ⊢ <;> first
          | exact ⟨_, rfl, h⟩
          | (obtain ⟨h1, h2⟩ := oguard_some h; rw [oguard_t h1]; exact ⟨_, rfl, h2⟩)
          | cases h
      · cases op <;> simp only [evBin, if_neg hkk] at h ⊢ <;> first
          | (obtain ⟨h1, h2⟩ := oguard_some h; rw [oguard_t h1]; exact ⟨_, rfl, h2⟩)
          | cases h
    | _ => simp [evBin] at h
  | bool pa =>
    cases y with
    | bool pb =>
      simp only [evBin] at h ⊢
      obtain ⟨hb, h⟩ := bif_some h
      rw [hb]
      cases op <;> simp only [cond_true] at h ⊢ <;> first
        | exact ⟨_, rfl, h⟩
        | cases h
    | _ => simp [evBin] at h
  | str sa =>
    cases y with
    | str sb =>
      simp only [evBin] at h ⊢
      cases op <;> simp only at h ⊢ <;> first
        | exact ⟨_, rfl, h⟩
        | (obtain ⟨h1, h2⟩ := oguard_some h; rw [oguard_t h1]; exact ⟨_, rfl, h2⟩)
        | cases h
    | _ => simp [evBin] at h
  | sl f sz n es => cases y <;> simp [evBin] at h

theorem evLen_par {T : TI} {M : Mem} {v : V} {f : Int → V} (h : evLen T M v (fun n => k (f n)) = some q) : ∃ u, evLen T M v (fun n => some (f n)) = some u ∧ k u = some q := by
  unfold evLen at h ⊢
  split at h
  · exact ⟨_, rfl, h⟩
  · exact ⟨_, rfl, h⟩
  · split at h
    · exact ⟨_, rfl, h⟩
    · exact ⟨_, rfl, h⟩
    · cases h
  · exact ⟨_, rfl, h⟩
  · cases h

theorem evIndexAddr_par {E : TI} {M : Mem} {x : V} {i : Int} (h : evIndexAddr E M x i k = some q) : ∃ u, evIndexAddr E M x i some = some u ∧ k u = some q := by
  unfold evIndexAddr at h ⊢
  split at h
  · obtain ⟨h1, h2⟩ := bif_some h
    obtain ⟨h3, t, h4, h5⟩ := oat_some h2
    rw [h1, cond_true, oat_t h3 h4]
    exact ⟨_, rfl, h5⟩
  · split at h
    · obtain ⟨h1, h2⟩ := bif_some h
      obtain ⟨h3, h4⟩ := oguard_some h2
      rw [h1, cond_true, oguard_t h3]
      exact ⟨_, rfl, h4⟩
    · obtain ⟨h1, h2⟩ := bif_some h
      obtain ⟨h3, h4⟩ := oguard_some h2
      rw [h1, cond_true, oguard_t h3]
      exact ⟨_, rfl, h4⟩
    · cases h
  · split at h
    · obtain ⟨h1, h2⟩ := bif_some h
      obtain ⟨h3, h4⟩ := oguard_some h2
      rw [h1, cond_true, oguard_t h3]
      exact ⟨_, rfl, h4⟩
    · cases h
  · cases h

theorem evSlice_par {E : Option TI} {M : Mem} {x : V} {lo hi : Option Int} (h : evSlice E M x lo hi k = some q) : ∃ u, evSlice E M x lo hi some = some u ∧ k u = some q := by
  unfold evSlice at h ⊢
  split at h
  · obtain ⟨h1, h2⟩ := bif_some h
    rw [h1, cond_true]
    split at h2
    · exact ⟨_, rfl, h2⟩
    all_goals
      obtain ⟨h3, h4⟩ := oguard_some h2
      rw [olet_eq] at h4
      rw [oguard_t h3, olet_eq]
      exact ⟨_, rfl, h4⟩
  · split at h
    · obtain ⟨h1, h2⟩ := bif_some h
      rw [h1, cond_true]
      split at h2
      · exact ⟨_, rfl, h2⟩
      all_goals
        obtain ⟨h3, h4⟩ := oguard_some h2
        rw [oguard_t h3]
        exact ⟨_, rfl, h4⟩
    · cases h
  · split at h
    · obtain ⟨h1, h2⟩ := bif_some h
      rw [h1, cond_true]
      split at h2
      · exact ⟨_, rfl, h2⟩
      all_goals
        obtain ⟨h3, h4⟩ := oguard_some h2
        rw [oguard_t h3]
        exact ⟨_, rfl, h4⟩
    · cases h
  · cases h

theorem evBytes_par {M : Mem} {x : V} (h : evBytes M x k = some q) : ∃ u, evBytes M x some = some u ∧ k u = some q := by
  unfold evBytes at h ⊢
  split at h
  · cases h
  · split at h
    · obtain ⟨l, h1, h2⟩ := ostr_some h
      exact ⟨_, ostr_t h1, h2⟩
    · cases h

theorem evOpR_par {cx : Cx} {ty : TypeId} {o : Op} {rd : Operand → V} {M : Mem} (hno : nilOp o = false) (h : evOpR cx ty o rd M k = some q) : ∃ v, evOpR cx ty o rd M some = some v ∧ k v = some q := by
  unfold evOpR at h ⊢
  split at h
  · exact ⟨_, rfl, h⟩
  · exact ⟨_, rfl, h⟩
  · split at h
    · exact ⟨_, rfl, h⟩
    · rename_i t _
      rw [oite_eq] at h ⊢
      cases t <;> exact ⟨_, rfl, h⟩
    · cases h
  · split at h
    · split at h
      · split at h
        · exact ⟨_, rfl, h⟩
        · cases h
      · cases h
    · cases h
  · split at h
    · exact evLoad_par h
    · cases h
  · split at h
    all_goals first
      | exact ⟨_, rfl, h⟩
      | cases h
  · simp only [nilOp] at hno
    rw [hno] at h ⊢
    simp only at h ⊢
    split at h
    · exact evBin_par (f := V.d) h
    · cases h
  · split at h
    all_goals first
      | exact ⟨_, rfl, h⟩
      | cases h
  · split at h
    · exact ⟨_, rfl, h⟩
    · cases h
  · split at h
    · exact evSlice_par h
    · split at h
      · exact evSlice_par h
      · cases h
    · split at h
      · exact evSlice_par h
      · cases h
    · split at h
      · exact evSlice_par h
      · cases h
  · split at h
    · split at h
      · split at h
        · split at h
          · obtain ⟨h1, h2⟩ := bif_some h
            rw [h1, cond_true]
            split at h2
            all_goals first
              | exact ⟨_, rfl, h2⟩
              | (obtain ⟨h3, h4⟩ := bif_some h2; exact ⟨_, by rw [h3]; rfl, h4⟩)
              | cases h2
          · cases h
        · cases h
      · cases h
    · cases h
  · split at h
    · split at h
      · split at h
        · split at h
          · split at h
            · obtain ⟨h1, h2⟩ := bif_some h
              rw [h1, cond_true]
              rename_i U _ _ _ _
              cases hA : U.agg <;> rw [hA] at h2 <;> simp only [cond_true, cond_false] at h2 ⊢
              · split at h2
                · exact ⟨_, rfl, h2⟩
                · cases h2
              · exact ⟨_, rfl, h2⟩
            · cases h
          · cases h
        · cases h
      · cases h
    · cases h
  · split at h
    · exact evIndexAddr_par h
    · cases h
  · split at h
    · split at h
      · obtain ⟨h1, h2⟩ := oguard_some h
        rw [oguard_t h1]
        exact ⟨_, rfl, h2⟩
      · cases h
    · cases h
  · split at h
    · split at h
      · exact ⟨_, rfl, h⟩
      · cases h
    · cases h
  · split at h
    · split at h
      · exact ⟨_, rfl, h⟩
      · exact ⟨_, rfl, h⟩
      · split at h
        · split at h
          · exact evBytes_par h
          · cases h
        · cases h
      · cases h
    · cases h
  · split at h
    · split at h
      · split at h
        · split at h
          · exact evLen_par (f := fun n => .d (.int .i64 n)) h
          · cases h
        · cases h
      · split at h
        · split at h
          · split at h
            · exact ⟨_, rfl, h⟩
            · cases h
          · cases h
        · cases h
      · split at h
        · exact ⟨_, rfl, h⟩
        · cases h
      · split at h
        · exact ⟨_, rfl, h⟩
        · cases h
      · cases h
    · cases h
  · cases h

theorem evOpQ_par {cx : Cx} {call : CallF} {ty : TypeId} {o : Op} {rd : Operand → V} {M : Mem} (h : evOpQ cx call ty o rd M k = some q) : ∃ v, evOpQ cx call ty o rd M some = some v ∧ k v = some q := by
  unfold evOpQ at h ⊢
  split at h
  · split at h
    · split at h
      · rename_i f caps hr
        cases hl : lendF cx f with
        | true =>
          rw [hl, cond_true] at h
          rw [cond_true]
          unfold evCallQL at h ⊢
          split at h
          · cases h
          · split at h
            · rw [fVs_eq] at h ⊢
              obtain ⟨v, M', t, u, h1, h2, h3, hk⟩ := ocall_some h
              obtain ⟨h4, hk⟩ := bif_some hk
              rw [ocall_t h1 h2 h3, h4]; exact ⟨_, rfl, hk⟩
            · cases h
        | false =>
          rw [hl, cond_false] at h
          rw [cond_false]
          unfold evCallQ at h ⊢
          split at h
          · cases h
          · split at h
            · cases h
            · rw [fVs_eq] at h ⊢
              obtain ⟨v, M', t, u, h1, h2, h3, hk⟩ := ocall_some h
              rw [ocall_t h1 h2 h3]; exact ⟨_, rfl, hk⟩
      · cases h
    · exact evOpR_par rfl h
  · split at h
    · split at h
      · split at h
        · obtain ⟨h1, h2⟩ := bif_some h
          rw [h1, cond_true]
          split at h2
          · exact ⟨_, rfl, h2⟩
          · cases h2
        · cases h
      · cases h
    · cases h
  · cases hno : nilOp o with
    | true => rw [hno] at h; cases h
    | false => rw [hno] at h; exact evOpR_par hno h
end
end Go.Ev

/-
  Operations that leave the store as it is, in whatever world they run.
-/
namespace Go.Ev
open Go

section
variable {R : Type} {P : Program} {C : Com} {ι : Locs} {M : Mem} {w : World}

theorem freezeQ1_eq {v : V} {x : D} (h : freezeQ1 M v = some x) : freeze1 M v = some (x, M) := by
  unfold freezeQ1 at h
  split at h
  · cases h; rfl
  · cases h; rfl
  · split at h
    · rename_i hM; cases h; simp [freeze1, hM]
    · cases h
  · split at h
    · rename_i hM; cases h; simp [freeze1, hM]
    · cases h
  · cases h
theorem freezeQL_ok : ∀ {vs : List V} {xs : List D} (_ : freezeQL M vs = some xs) {C : Com} (_ : St C ι M w) {us : List Value} (_ : RVs w C ι us vs), ∃ C', Go1 C ι M w C' ι M w (fun _ => False) ∧ RVs w C' ι us (toVs xs)
  | [], xs, h, C, hst, us, hu => by simp [freezeQL] at h; subst h; exact ⟨C, Go1.refl hst, hu⟩
  | v :: vs, xs, h, C, hst, [], hu => by simp [RVs] at hu
  | v :: vs, xs, h, C, hst, u :: us, hu => by
    unfold RVs at hu
    simp only [freezeQL] at h
    cases h1 : freezeQ1 M v with
    | none => rw [h1] at h; cases h
    | some x =>
      cases h2 : freezeQL M vs with
      | none => rw [h1, h2] at h; cases h
      | some ys =>
        rw [h1, h2] at h; simp at h; subst h
        obtain ⟨C1, g1, r1, _⟩ := freeze1_ok (freezeQ1_eq h1) hst hu.1
        obtain ⟨C2, g2, r2⟩ := freezeQL_ok h2 g1.st (g1.rvs hu.2)
        refine ⟨C2, g1.trans hst g2 (fun i => by simp), ?_⟩
        simp only [toVs]; unfold RVs
        exact ⟨by unfold RV; exact r1.mono g2.stp.keeps, r2⟩

theorem RVs.data {ι' : Locs} : ∀ {xs : List D} {us : List Value}, RVs w C ι us (toVs xs) → RVs w C ι' us (toVs xs)
  | [], [], _ => by simp [toVs, RVs]
  | [], _ :: _, h => by simp [toVs, RVs] at h
  | _ :: _, [], h => by simp [toVs, RVs] at h
  | x :: xs, u :: us, h => by
    simp only [toVs] at h ⊢
    unfold RVs at h ⊢
    exact ⟨by have := h.1; unfold RV at this ⊢; exact this, RVs.data h.2⟩

theorem freezeQ_ok {v x : V} (h : freezeQ M v = some x) (hst : St C ι M w) {u : Value} (hu : RV w C ι u v) : ∃ C', Go1 C ι M w C' ι M w (fun _ => False) ∧ ∀ {w' : World} {C'' : Com}, Keeps w C' w' C'' → ∀ ι', RV w' C'' ι' u x := by
  have base : ∀ v, (match freezeQ1 M v with | some x => some (V.d x) | none => none) = some x → RV w C ι u v → ∃ C', Go1 C ι M w C' ι M w (fun _ => False) ∧ ∀ {w' : World} {C'' : Com}, Keeps w C' w' C'' → ∀ ι', RV w' C'' ι' u x := by
    intro v h hu
    cases h1 : freezeQ1 M v with
    | none => rw [h1] at h; cases h
    | some y =>
      rw [h1] at h; simp at h; subst h
      obtain ⟨C1, g1, r1, _⟩ := freeze1_ok (freezeQ1_eq h1) hst hu
      exact ⟨C1, g1, fun hk ι' => by unfold RV; exact r1.mono hk⟩
  cases v with
  | agg vs =>
    simp only [freezeQ] at h
    cases h1 : freezeQL M vs with
    | none => rw [h1] at h; cases h
    | some ys =>
      rw [h1] at h; simp at h; subst h
      unfold RV at hu
      obtain ⟨cs, rfl, hr⟩ := hu
      obtain ⟨C1, g1, r1⟩ := freezeQL_ok h1 hst hr
      exact ⟨C1, g1, fun hk ι' => by unfold RV; exact ⟨cs, rfl, RVs.data (RVs.mono hk (fun _ _ h => h) _ r1)⟩⟩
  | fn f cs =>
    cases cs with
    | nil =>
      simp [freezeQ] at h; subst h
      unfold RV at hu
      obtain ⟨c, rfl, hr⟩ := hu
      have hl := hr.length
      exact ⟨C, Go1.refl hst, fun hk ι' => by
        unfold RV
        refine ⟨c, rfl, ?_⟩
        have : c.toList = [] := List.eq_nil_of_length_eq_zero (by simpa using hl)
        rw [this]; simp [RVs]⟩
    | cons a r => simp [freezeQ, freezeQ1] at h
  | rp c j =>
    simp only [freezeQ] at h; cases h
    unfold RV at hu
    obtain ⟨b, off, e, hc, hr⟩ := hu
    refine ⟨C, Go1.refl hst, fun {w' C''} hk ι' => ?_⟩
    unfold RV
    exact ⟨b, off, e, Nat.le_trans hc (hk.le b), RCs.mono hk c (N := off + c.length) (fun o _ ho u hu => by show w'.cell? _ = _; rw [hk.cell b o (by omega)]; exact hu) (Nat.le_refl _) hr⟩
  | _ => exact base _ (by unfold freezeQ at h; exact h) hu

theorem quietArgs_ok : ∀ {vs xs : List V} (_ : quietArgs M vs = some xs) {C : Com} (_ : St C ι M w) {us : List Value} (_ : RVs w C ι us vs), ∃ C', Go1 C ι M w C' ι M w (fun _ => False) ∧ ∀ {w' : World} {C'' : Com}, Keeps w C' w' C'' → ∀ ι', RVs w' C'' ι' us xs
  | [], xs, h, C, hst, us, hu => by
    simp [quietArgs] at h; subst h
    cases us with
    | nil => exact ⟨C, Go1.refl hst, fun _ _ => by simp [RVs]⟩
    | cons u us => simp [RVs] at hu
  | v :: vs, xs, h, C, hst, [], hu => by simp [RVs] at hu
  | v :: vs, xs, h, C, hst, u :: us, hu => by
    unfold RVs at hu
    simp only [quietArgs] at h
    cases h1 : freezeQ M v with
    | none => rw [h1] at h; cases h
    | some x =>
      cases h2 : quietArgs M vs with
      | none => rw [h1, h2] at h; cases h
      | some ys =>
        rw [h1, h2] at h; simp at h; subst h
        obtain ⟨C1, g1, r1⟩ := freezeQ_ok h1 hst hu.1
        obtain ⟨C2, g2, r2⟩ := quietArgs_ok h2 g1.st (g1.rvs hu.2)
        exact ⟨C2, g1.trans hst g2 (fun i => by simp), fun hk ι' => by unfold RVs; exact ⟨r1 (g2.stp.keeps.trans hk) ι', r2 hk ι'⟩⟩

theorem Go1.frame {C3 : Com} {ι3 : Locs} {Mc : Mem} {w' : World} {ks : Nat → Prop} (g : Go1 C [] [] w C3 ι3 Mc w' ks) (hst : St C ι M w) : Go1 C ι M w C3 ι M w' (fun _ => False) := by
  have hsub : ∀ b, Has C [] b → Has C ι b := by
    rintro b (⟨i, L, hi, _⟩ | h)
    · simp at hi
    · exact .inr h
  have hnot : ∀ (i : Nat) (L : Loc), ι[i]? = some L → L.located → ¬ Has C [] L.b := by
    rintro i L hL hl (⟨j, L', hj, _⟩ | ⟨X, _, hc⟩)
    · simp at hj
    · exact (hst.own _ _ hc).2.2.2.2 i L hL hl rfl
  have hnot2 : ∀ (i : Nat) (L : Loc), ι[i]? = some L → L.located → ∀ b', C.own b' = some L.b → ¬ Has C [] b' := by
    rintro i L hL hl b' hb' (⟨j, L', hj, _⟩ | ⟨X, hX, hc⟩)
    · simp at hj
    · rw [hb'] at hc
      cases hc
      exact (hst.own _ _ hX).2.2.2.2 i L hL hl rfl
  have hstay : ∀ (i : Nat) (L : Loc), ι[i]? = some L → L.located → Stays w C w' C3 L.b := by
    intro i L hL hl
    obtain ⟨e1, e2, e3⟩ := g.stp.out L.b (hst.blt hL hl) (hnot i L hL hl)
    refine ⟨e1, e2, fun b' hb' => (g.stp.out b' (hst.own.some hb').2 (hnot2 i L hL hl b' hb')).1, fun b' => ⟨fun h => ?_, fun h => ?_⟩⟩
    · rcases g.stp.ownc b' _ h with q | q | q
      · exact q
      · have := hst.blt hL hl; omega
      · exact absurd q (hnot i L hL hl)
    · rw [(g.stp.out b' (hst.own.some h).2 (hnot2 i L hL hl b' h)).2.2]; exact h
  have hok : C3.Ok ι w'.heap.size := by
    intro b m hm
    obtain ⟨q1, q2, q3, q4, _⟩ := g.st.own b m hm
    refine ⟨q1, q2, q3, q4, fun i L hL hl e => ?_⟩
    subst e
    have := (g.stp.out L.b (hst.blt hL hl) (hnot i L hL hl)).2.2
    rw [hm] at this
    exact (hst.own _ _ this.symm).2.2.2.2 i L hL hl rfl
  refine ⟨⟨hst.len, fun i L e hi he => (hst.ent i L e hi he).mono g.stp.keeps (fun _ _ h => h) (fun hl => hstay i L hi hl), hst.inj, g.st.com, hok⟩, ⟨g.stp.os, g.stp.tape, g.stp.output, g.stp.size, hst.own, fun b hb hn => g.stp.out b hb (fun h => hn (hsub b h)), fun b m hm => (g.stp.ownc b m hm).imp (fun h => h) (fun h => h.imp (fun h => h) (hsub m)), g.stp.keeps, fun _ _ h _ => h, fun i L h _ => ⟨L, h, rfl, rfl, fun hl => .inl (.inl ⟨_, _, h, hl, .inl rfl⟩)⟩, fun i L hge h _ => ?_⟩, fun i _ hm => hm.elim (fun h => h) False.elim⟩
  rw [List.getElem?_eq_none hge] at h; cases h

theorem freezeQL_eq : ∀ {vs : List V} {xs : List D}, freezeQL M vs = some xs → freezeL M vs = some (xs, M)
  | [], xs, h => by simp only [freezeQL] at h; cases h; rfl
  | v :: vs, xs, h => by
    simp only [freezeQL] at h
    split at h
    · rename_i x ys h1 h2
      cases h
      simp only [freezeL, freezeQ1_eq h1, freezeQL_eq h2]
    · cases h
theorem litQ_eq {sz : Nat} : ∀ {ps : List (Nat × V)} {i : Nat} {es : List (List D)}, litQ sz M i ps = some es → litEs sz i M ps = some (es, M)
  | [], i, es, h => by simp only [litQ] at h; cases h; rfl
  | (j, v) :: r, i, es, h => by
    simp only [litQ] at h
    obtain ⟨h1, h⟩ := bif_some h
    split at h
    · rename_i c fs h2 h3
      cases h
      simp only [litEs, h1, cond_true, freezeQL_eq h2, litQ_eq h3]
    · cases h
/-- Where no entry is added, the entries stand where they stood. -/
theorem Go1.same_ι {C' : Com} {ι' : Locs} {w' : World} (hst : St C ι M w) (g : Go1 C ι M w C' ι' M w' (· ∈ ([] : List Nat))) : ι' = ι := by
  apply List.ext_getElem?
  intro i
  rcases Nat.lt_or_ge i ι.length with h | h
  · have h1 : ι[i]? = some ι[i] := by simp [h]
    rw [h1]
    exact g.stp.same i _ h1 (by simp)
  · rw [List.getElem?_eq_none h, List.getElem?_eq_none (by rw [g.st.len, ← hst.len]; exact h)]

theorem evOpQ_ok {tl : List String} {cx : Cx} (hcx : CxOk0 P cx) {call : CallF} (hcall : CallOk P tl call) (htab : Tabs P tl C ι w) {o : Oper} {ρ : Operand → Value} {rd : Operand → V} (hst : St C ι M w) (hrd : ∀ x, RV w C ι (ρ x) (rd x)) (hcst : ∀ v, ρ (.const v) = v) {k : V → Option R} {r : R} (h : evOpQ cx call o.type o.op rd M k = some r) {Nx : Value → World → Prop}
    (hn : ∀ {u : Value} {v : V} {C' : Com} {w' : World}, k v = some r → Go1 C ι M w C' ι M w' (fun _ => False) → RV w' C' ι u v → Nx u w') :
    After P Nx ((execOp ρ o).run P w) := by
  have RR : evOpR cx o.type o.op rd M k = some r → After P Nx ((execOp ρ o).run P w) := fun h => evOpR_ok hcx hst hrd hcst h (fun h1 h2 => hn h1 (Go1.refl hst) h2)
  unfold evOpQ at h
  split at h
  · rename_i c hop
    split at h
    · rename_i x hcal
      have hx := hrd x
      split at h
      · rename_i f caps hr
        rw [hr] at hx; unfold RV at hx
        obtain ⟨cs, e, hv⟩ := hx
        have hvs := RVs.append (fixNils_ok (cx := cx) (ts := c.argTypes.toList) (RVs.map_of hrd c.args.toList)) hv
        cases hlf : lendF cx f with
        | true =>
          rw [hlf, cond_true] at h
          unfold evCallQL at h
          split at h
          · cases h
          · rename_i F hF
            split at h
            · rename_i args hfs hq
              rw [fVs_eq] at h
              obtain ⟨v, Mc, t, um, hp, hdv, hdm, h⟩ := ocall_some h
              obtain ⟨hcl, hk⟩ := bif_some h
              have hc := hcall f args [] v Mc hp (allC w) [] w _ (st_all w) htab.all (fun i => by rintro ⟨_, h, _⟩; simp at h) (lendVs_ok hst hq hvs)
              have e2 : execOp ρ o = callFunc f ((c.args.map ρ) ++ cs) := by
                unfold execOp
                rw [hop]
                show (resolve ρ c o.type >>= fun d => invoke d.target d.args : Sem Next) = _
                unfold resolve
                simp only [hcal, e, Deferred.ofValue]
                show invoke (.fn (.func f) cs) (#[] ++ c.args.map ρ) = _
                simp [invoke]
              rw [e2, hcx.fn f F hF]
              have e3 : (c.args.toList.map ρ ++ cs.toList).toArray = c.args.map ρ ++ cs := by apply Array.ext'; simp
              rw [e3] at hc
              refine Calls.mono hc ?_
              rintro en w' ⟨u, C3, ι3, rfl, g3, hu⟩
              obtain ⟨hst3, hmv3⟩ := ES.decs_ok [] hdm g3.st
              have g3' : Go1 (allC w) [] [] w C3 ι3 [] w' (mvs []) := ⟨hst3, g3.stp.weaken hmv3, fun i hi hm => hm.elim (fun h => hmv3 i (g3.mv i hi (.inl h))) id⟩
              obtain ⟨C4, ι4, g4, hg⟩ := lend_back hst g3' (fun i e h => by simp at h)
              have g5 : Go1 C ι M w C4 ι4 M w' (fun _ => False) := by simpa using g4
              have : ι4 = ι := Go1.same_ι hst ⟨g5.st, g5.stp.weaken (fun i h => h.elim), fun i hi hm => hm.elim (fun h => g5.mv i hi (.inl h)) (fun h => by simp at h)⟩
              subst this
              exact ⟨u, rfl, hn hk g5 (RV.clean (fun i j L h => by cases h) _ hcl (Sh.dec_ok _ hdv hu))⟩
            · cases h
        | false =>
          rw [hlf, cond_false] at h
          unfold evCallQ at h
          split at h
          · cases h
          · rename_i F hF
            split at h
            · cases h
            · rename_i args hq
              rw [fVs_eq] at h
              obtain ⟨v, Mc, t, um, hp, hdv, _, hk⟩ := ocall_some h
              obtain ⟨C1, g1, r1⟩ := quietArgs_ok hq hst hvs
              have hst0 : St C1 [] [] w := ⟨rfl, fun i L e h => by simp at h, fun i j L L' h => by simp at h, g1.st.com, fun b m h => by have := g1.st.own b m h; exact ⟨this.1, this.2.1, this.2.2.1, this.2.2.2.1, fun i L h => by simp at h⟩⟩
              have hc := hcall f args [] v Mc hp C1 [] w _ hst0 (htab.go g1).nil (fun i => by rintro ⟨_, h, _⟩; simp at h) (r1 (.refl _ _) [])
              have e2 : execOp ρ o = callFunc f ((c.args.map ρ) ++ cs) := by
                unfold execOp
                rw [hop]
                show (resolve ρ c o.type >>= fun d => invoke d.target d.args : Sem Next) = _
                unfold resolve
                simp only [hcal, e, Deferred.ofValue]
                show invoke (.fn (.func f) cs) (#[] ++ c.args.map ρ) = _
                simp [invoke]
              rw [e2, hcx.fn f F hF]
              have e3 : (c.args.toList.map ρ ++ cs.toList).toArray = c.args.map ρ ++ cs := by apply Array.ext'; simp
              rw [e3] at hc
              refine Calls.mono hc ?_
              rintro en w' ⟨u, C3, ι3, rfl, g3, hu⟩
              exact ⟨u, rfl, hn hk (g1.trans hst (g3.frame g1.st) (fun i => by simp)) (RV.ren (.refl _ _) (fun i j L h => by cases h) _ (Sh.dec_ok _ hdv hu))⟩
      · cases h
    · exact RR h
  · rename_i t len parts hop
    split at h
    · rename_i T hT
      split at h
      · rename_i e hk
        split at h
        · rename_i E hE
          obtain ⟨h1, h2⟩ := bif_some h
          simp only [Bool.and_eq_true] at h1
          split at h2
          · rename_i es hl
            obtain ⟨w', C1, C2, ι2, hrun, g1, hu1, _, _⟩ := lit_run hcx hst hrd hT hk hE (Nat.eq_of_beq_eq_true h1.1) (Nat.le_of_ble_eq_true h1.2) (litQ_eq hl)
            have hx : (execOp ρ o).run P w = .ok (.value (.slice (some ⟨w.heap.size, 0, none⟩) len len)) w' := by
              unfold execOp
              rw [hop]
              exact run_v hrun
            rw [hx]
            exact hn h2 g1 hu1
          · cases h2
        · cases h
      · cases h
    · cases h
  · cases hno : nilOp o.op with
    | true => rw [hno] at h; cases h
    | false => rw [hno] at h; exact RR h

theorem map_parts_congr {rd rd' : Operand → V} {ps : Array (Nat × Operand)} (h : ∀ x ∈ (ps.toList.map (·.2)), rd x = rd' x) : (ps.toList.map fun p => (p.1, rd p.2)) = ps.toList.map fun p => (p.1, rd' p.2) :=
  List.map_congr_left fun p hp => by rw [h p.2 (List.mem_map_of_mem hp)]

theorem evOpQ_congr {cx : Cx} {call : CallF} {ty : TypeId} {o : Op} {rd rd' : Operand → V} {k : V → Option R} (h : ∀ x ∈ o.operands, rd x = rd' x) : evOpQ cx call ty o rd M k = evOpQ cx call ty o rd' M k := by
  cases o with
  | build t ps =>
    have := map_parts_congr (ps := ps) (rd := rd) (rd' := rd') (fun x hx => h x (by simpa [Op.operands] using hx))
    simp only [evOpQ, evOpR, this]
  | buildSlice t n ps =>
    have : ∀ e, (ps.toList.map fun p => (p.1, fixNil cx e (rd p.2))) = ps.toList.map fun p => (p.1, fixNil cx e (rd' p.2)) := fun e =>
      List.map_congr_left fun p hp => by rw [h p.2 (by simp only [Op.operands]; simpa using ⟨p.1, by simpa using hp⟩)]
    simp only [evOpQ, this]
  | makeFunc fn first caps =>
    cases fn with
    | func f =>
      have h1 : caps.toList.map rd = caps.toList.map rd' := List.map_congr_left fun x hx => h x (by simp [Op.operands]; exact .inr (by simpa using hx))
      simp only [evOpQ, evOpR, h1]
    | _ => rfl
  | slice t x lo hi mx =>
    cases mx with
    | some m => rfl
    | none =>
      have hx := h x (by simp [Op.operands])
      cases lo <;> cases hi <;> simp only [evOpQ, evOpR, hx]
      · rename_i b; have := h b (by simp [Op.operands]); simp only [this]
      · rename_i a; have := h a (by simp [Op.operands]); simp only [this]
      · rename_i a b; have h1 := h a (by simp [Op.operands]); have h2 := h b (by simp [Op.operands]); simp only [h1, h2]
  | call c =>
    obtain ⟨callee, args, ats⟩ := c
    have h1 : args.toList.map rd = args.toList.map rd' := List.map_congr_left fun x hx => h x (by simp [Op.operands, Call.operands]; exact .inr (by simpa using hx))
    cases callee with
    | value f =>
      have hf := h f (by simp [Op.operands, Call.operands])
      simp only [evOpQ, hf, h1]
    | invoke r m => rfl
    | builtin b =>
      simp only [evOpQ, evOpR]
      split
      · rename_i x hx
        have : rd x = rd' x := h x (by simp [Op.operands, Call.operands]; have : args = #[x] := by apply Array.ext'; simpa using hx
                                       simp [this])
        simp only [this]
      · rename_i x hx
        have : rd x = rd' x := h x (by simp [Op.operands, Call.operands]; have : args = #[x] := by apply Array.ext'; simpa using hx
                                       simp [this])
        simp only [this]
      · rename_i x y hx
        have e : args = #[x, y] := by apply Array.ext'; simpa using hx
        have h1 : rd x = rd' x := h x (by simp [Op.operands, Call.operands, e])
        have h2 : rd y = rd' y := h y (by simp [Op.operands, Call.operands, e])
        simp only [h1, h2]
      · rename_i x y hx
        have e : args = #[x, y] := by apply Array.ext'; simpa using hx
        have h1 : rd x = rd' x := h x (by simp [Op.operands, Call.operands, e])
        have h2 : rd y = rd' y := h y (by simp [Op.operands, Call.operands, e])
        simp only [h1, h2]
      · rfl
  | convert s t x => have hx := h x (by simp [Op.operands]); simp only [evOpQ, evOpR, hx]
  | unOp op t x => have hx := h x (by simp [Op.operands]); simp only [evOpQ, evOpR, hx]
  | move x => have hx := h x (by simp [Op.operands]); simp only [evOpQ, evOpR, hx]
  | assign x => have hx := h x (by simp [Op.operands]); simp only [evOpQ, evOpR, hx]
  | nilCheck x => have hx := h x (by simp [Op.operands]); simp only [evOpQ, evOpR, hx]
  | load t x => have hx := h x (by simp [Op.operands]); simp only [evOpQ, evOpR, hx]
  | fieldAddr t x f => have hx := h x (by simp [Op.operands]); simp only [evOpQ, evOpR, hx]
  | field t x f => have hx := h x (by simp [Op.operands]); simp only [evOpQ, evOpR, hx]
  | extract x i => have hx := h x (by simp [Op.operands]); simp only [evOpQ, evOpR, hx]
  | pick c a b => have h1 := h c (by simp [Op.operands]); have h2 := h a (by simp [Op.operands]); have h3 := h b (by simp [Op.operands]); simp only [evOpQ, evOpR, h1, h2, h3]
  | binOp op t x y yt => have h1 := h x (by simp [Op.operands]); have h2 := h y (by simp [Op.operands]); simp only [evOpQ, evOpR, h1, h2]
  | indexAddr t x y => have h1 := h x (by simp [Op.operands]); have h2 := h y (by simp [Op.operands]); simp only [evOpQ, evOpR, h1, h2]
  | index t x y => have h1 := h x (by simp [Op.operands]); have h2 := h y (by simp [Op.operands]); simp only [evOpQ, evOpR, h1, h2]
  | _ => rfl
end
end Go.Ev
