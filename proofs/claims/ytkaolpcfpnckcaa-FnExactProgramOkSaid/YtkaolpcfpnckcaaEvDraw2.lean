/-
  The evaluator's regions are the machine's, in whatever order is drawn: what each operation comes to, copies and places first, the end.
-/
import Derived.Test.YtkaolpcfpnckcaaEvDraw
set_option linter.unusedVariables false
set_option linter.unusedSimpArgs false
namespace Go.Ev
open Go

section
variable {R : Type} {P : Program} {C0 : Com} {ι0 : Locs} {w0 : World}

/-- What an operation comes to, and which entries it adds. -/
def RunM (cx : Cx) (call : CallF) (g : Bool) (o : Oper) (rd : Operand → V) (M : Mem) (v : V) (X : Mem) : Prop :=
  match g with
  | true => evOpG cx call o.op rd M (fun v X => some (v, X)) = some (v, X)
  | false => evOpQ cx call o.type o.op rd M some = some v ∧ X = []

theorem evOpM_par {cx : Cx} {call : CallF} {g : Bool} {o : Oper} {rd : Operand → V} {M : Mem} {k : V → Mem → Option R} {q : R} (h : evOpM cx call o.type g o.op rd M k = some q) :
    ∃ v X, RunM cx call g o rd M v X ∧ k v X = some q ∧ (g = false → X = []) := by
  unfold evOpM at h
  cases g with
  | true => obtain ⟨v, X, h1, h2⟩ := evOpG_par (ty := o.type) h; exact ⟨v, X, h1, h2, fun h => by cases h⟩
  | false =>
    obtain ⟨v, h1, h2⟩ := evOpQ_par (k := fun v => k v []) h
    exact ⟨v, [], ⟨h1, rfl⟩, h2, fun _ => rfl⟩

/-- What one of the first operations came to. -/
def OkAt (cx : Cx) (call : CallF) (nt : Nat) (all : List Oper) (e : Env) (M : Mem) (g : Bool) (o : Oper) (v : V) (X : Mem) : Prop :=
  dstOk nt o.dst = true ∧ (g = false → X = []) ∧ match o.guard with
    | none => RunM cx call g o (rdE e) M v X
    | some (j, want) => ∃ gg t, all[j]? = some gg ∧ gg.dst = some t ∧ ((∃ b, (getE e t = .kb b ∨ getE e t = .d (.bool b)) ∧ ((b = want ∧ RunM cx call g o (rdE e) M v X) ∨ (b ≠ want ∧ v = .tup [] ∧ X = []))) ∨ ((∃ xs, getE e t = .tup xs) ∧ v = .tup [] ∧ X = []))

theorem rdE_of {e e' : Env} (h : ∀ t, getE e t = getE e' t) : rdE e = rdE e' := by
  funext x
  unfold rdE
  split <;> first | exact h _ | rfl
theorem OkAt.of {cx : Cx} {call : CallF} {nt : Nat} {all : List Oper} {e e' : Env} (h : ∀ t, getE e t = getE e' t) {M : Mem} {g : Bool} {o : Oper} {v : V} {X : Mem} (hk : OkAt cx call nt all e M g o v X) : OkAt cx call nt all e' M g o v X := by
  have hr := rdE_of h
  unfold OkAt at hk ⊢
  rw [← hr]
  simp only [← h]
  exact hk
theorem puts_of {L : List Oper} : ∀ {vs : List V} {e e' : Env}, (∀ t, getE e t = getE e' t) → ∀ t, getE (puts e L vs) t = getE (puts e' L vs) t := by
  induction L with
  | nil => intro vs e e' h t; simpa [puts] using h t
  | cons o L ih =>
    intro vs e e' h t
    cases vs with
    | nil => simpa [puts] using h t
    | cons v vs =>
      simp only [puts]
      refine ih (fun t => ?_) t
      cases o.dst with
      | none => exact h t
      | some d => rw [getE_put, getE_put, h]
theorem getE_same {e : Env} {t : Nat} {v : V} (h : getE e t = v) (s : Nat) : getE ((t, v) :: e) s = getE e s := by
  have := getE_put (d := t) (t := s) (v := v) (e := e)
  simp only [putE] at this
  rw [this]
  split
  · rename_i e'; rw [← e', h]
  · rfl

theorem evM_rec {cx : Cx} {call : CallF} {nt : Nat} {all : List Oper} : ∀ {L : List (Bool × Oper)} {e : Env} {M : Mem} {k : Env → Mem → Option R} {q : R}, evM cx call nt all L e M k = some q →
    ∃ (vs : List V) (Xs : List Mem) (ef : Env), vs.length = L.length ∧ Xs.length = L.length ∧ (∀ t, getE ef t = getE (puts e (L.map (·.2)) vs) t) ∧ k ef (M ++ Xs.flatten) = some q ∧ ∀ (i : Nat) (g : Bool) (o : Oper) (v : V) (X : Mem), L[i]? = some (g, o) → vs[i]? = some v → Xs[i]? = some X → OkAt cx call nt all (puts e ((L.map (·.2)).take i) (vs.take i)) (M ++ (Xs.take i).flatten) g o v X
  | [], e, M, k, q, h => ⟨[], [], e, rfl, rfl, fun _ => rfl, by simpa [evM] using h, fun i g o v X h => by simp at h⟩
  | (g, o) :: L, e, M, k, q, h => by
    simp only [evM, fV_eq, fM_eq] at h
    obtain ⟨hd, h'⟩ := bif_some h; clear h; have h := h'; clear h'
    have fin : ∀ v X e', (∀ t, getE e' t = getE e t) → OkAt cx call nt all e M g o v X → evM cx call nt all L (putE o.dst v e') (M ++ X) k = some q → ∃ (vs : List V) (Xs : List Mem) (ef : Env), vs.length = ((g, o) :: L).length ∧ Xs.length = ((g, o) :: L).length ∧ (∀ t, getE ef t = getE (puts e (((g, o) :: L).map (·.2)) vs) t) ∧ k ef (M ++ Xs.flatten) = some q ∧ ∀ (i : Nat) (g' : Bool) (o' : Oper) (v : V) (X : Mem), ((g, o) :: L)[i]? = some (g', o') → vs[i]? = some v → Xs[i]? = some X → OkAt cx call nt all (puts e ((((g, o) :: L).map (·.2)).take i) (vs.take i)) (M ++ (Xs.take i).flatten) g' o' v X := by
      intro v X e' hee hok h
      obtain ⟨vs, Xs, ef, e1, e2, e5, e3, e4⟩ := evM_rec h
      have hput : ∀ t, getE (putE o.dst v e') t = getE (putE o.dst v e) t := fun t => by
        cases o.dst with
        | none => exact hee t
        | some d => rw [getE_put, getE_put, hee]
      refine ⟨v :: vs, X :: Xs, ef, by simp [e1], by simp [e2], fun t => (e5 t).trans (puts_of hput t), by simpa [List.append_assoc] using e3, fun i g' o' v' X' h1 h2 h3 => ?_⟩
      cases i with
      | zero =>
        simp at h1 h2 h3
        obtain ⟨rfl, rfl⟩ := h1; subst h2 h3
        simpa [puts] using hok
      | succ i =>
        simp at h1 h2 h3
        have := (e4 i g' o' v' X' h1 h2 h3).of (puts_of hput)
        simpa [puts, List.append_assoc] using this
    have skip : ∀ {gg t j want}, o.guard = some (j, want) → all[j]? = some gg → gg.dst = some t → ((∃ b, (getE e t = .kb b ∨ getE e t = .d (.bool b)) ∧ b ≠ want) ∨ ∃ xs, getE e t = .tup xs) → OkAt cx call nt all e M g o (.tup []) [] := by
      intro gg t j want hg h1 h2 h3
      refine ⟨hd, fun _ => rfl, ?_⟩
      rw [hg]
      refine ⟨gg, t, h1, h2, ?_⟩
      rcases h3 with ⟨b, hb, hne⟩ | hx
      · exact .inl ⟨b, hb, .inr ⟨hne, rfl, rfl⟩⟩
      · exact .inr ⟨hx, rfl, rfl⟩
    have sk2 : ∀ {e' : Env}, evM cx call nt all L (putE o.dst (.tup []) e') M k = some q → evM cx call nt all L (putE o.dst (.tup []) e') (M ++ []) k = some q := fun h => by rw [List.append_nil]; exact h
    cases hg : o.guard with
    | none =>
      rw [hg] at h
      obtain ⟨v, X, h1, h2, h3⟩ := evOpM_par h
      exact fin v X e (fun _ => rfl) ⟨hd, h3, by rw [hg]; exact h1⟩ h2
    | some jw =>
      obtain ⟨j, want⟩ := jw
      rw [hg] at h; simp only at h
      cases hj : all[j]? with
      | none => rw [hj] at h; cases h
      | some gg =>
        rw [hj] at h; simp only at h
        cases hgd : gg.dst with
        | none => rw [hgd] at h; cases h
        | some t =>
          rw [hgd] at h; simp only at h
          cases hv : getE e t with
          | kb b =>
            rw [hv] at h; simp only at h
            cases hbw : (b == want) with
            | true =>
              rw [hbw] at h; simp only [cond_true] at h
              obtain ⟨v, X, h1, h2, h3⟩ := evOpM_par h
              exact fin v X e (fun _ => rfl) ⟨hd, h3, by rw [hg]; exact ⟨gg, t, hj, hgd, .inl ⟨b, .inl hv, .inl ⟨by simpa using hbw, h1⟩⟩⟩⟩ h2
            | false =>
              rw [hbw] at h; simp only [cond_false] at h
              exact fin (.tup []) [] e (fun _ => rfl) (skip hg hj hgd (.inl ⟨b, .inl hv, by simpa using hbw⟩)) (sk2 h)
          | d x =>
            rw [hv] at h
            cases x with
            | bool b =>
              simp only [oite_eq] at h
              have yes : ∀ {c}, b = c → b = want → (evOpM cx call o.type g o.op (rdE ((t, .d (.bool c)) :: e)) M fun v X => evM cx call nt all L (putE o.dst v ((t, .d (.bool c)) :: e)) (M ++ X) k) = some q → ∃ v X, OkAt cx call nt all e M g o v X ∧ evM cx call nt all L (putE o.dst v ((t, .d (.bool c)) :: e)) (M ++ X) k = some q := fun hbc hb h => by
                subst hbc
                rw [rdE_of (getE_same hv)] at h
                obtain ⟨v, X, h1, h2, h3⟩ := evOpM_par h
                exact ⟨v, X, ⟨hd, h3, by rw [hg]; exact ⟨gg, t, hj, hgd, .inl ⟨b, .inr hv, .inl ⟨hb, h1⟩⟩⟩⟩, h2⟩
              have no : ∀ {c}, b = c → b ≠ want → evM cx call nt all L (putE o.dst (.tup []) ((t, .d (.bool c)) :: e)) M k = some q → ∃ v X, OkAt cx call nt all e M g o v X ∧ evM cx call nt all L (putE o.dst v ((t, .d (.bool c)) :: e)) (M ++ X) k = some q := fun _ hb h => ⟨.tup [], [], skip hg hj hgd (.inl ⟨b, .inr hv, hb⟩), sk2 h⟩
              have both : ∃ v X, OkAt cx call nt all e M g o v X ∧ evM cx call nt all L (putE o.dst v ((t, .d (.bool b)) :: e)) (M ++ X) k = some q := by
                cases b <;> cases want <;> simp only [cond_true, cond_false] at h
                · exact yes rfl rfl h
                · exact no rfl (by decide) h
                · exact no rfl (by decide) h
                · exact yes rfl rfl h
              obtain ⟨v, X, h1, h2⟩ := both
              exact fin v X _ (getE_same hv) h1 h2
            | _ => cases h
          | tup xs =>
            rw [hv] at h
            exact fin (.tup []) [] e (fun _ => rfl) (skip hg hj hgd (.inr ⟨xs, hv⟩)) (sk2 h)
          | _ => rw [hv] at h; cases h
end
end Go.Ev
