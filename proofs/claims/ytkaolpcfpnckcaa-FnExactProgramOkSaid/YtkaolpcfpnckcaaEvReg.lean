/-
  The evaluator's regions are the machine's: in the text's order.
-/
import Derived.Test.YtkaolpcfpnckcaaEvOp14
set_option linter.unusedVariables false
set_option linter.unusedSimpArgs false
namespace Go.Ev
open Go

/-- The slots. -/
def ER (w : World) (C : Com) (ι : Locs) (a : Act) (e : Env) : Prop := ∀ t, RV w C ι (a.tmps.getD t undef) (getE e t)

/-- What holds all the way through a call: of what it was at the beginning. -/
structure Inv (C0 : Com) (ι0 : Locs) (w0 : World) (C : Com) (ι : Locs) (M : Mem) (w : World) : Prop where
  st : St C ι M w
  stp : Stp C0 ι0 w0 C ι w (mvs M)

section
variable {R : Type} {P : Program} {C0 : Com} {ι0 : Locs} {w0 : World}

theorem Inv.go {C : Com} {ι : Locs} {M : Mem} {w : World} {C' : Com} {ι' : Locs} {M' : Mem} {w' : World} {ks : Nat → Prop} (h : Inv C0 ι0 w0 C ι M w) (g : Go1 C ι M w C' ι' M' w' ks) : Inv C0 ι0 w0 C' ι' M' w' := by
  have hg := h.stp.grow
  have hl := h.st.len
  exact ⟨g.st, h.stp.trans g.stp (fun i hi hm => g.mv i (by omega) (.inl hm)) (fun i hi hm => g.mv i (by omega) (.inr hm))⟩

theorem ER.rd {w : World} {C : Com} {ι : Locs} {a : Act} {e : Env} (h : ER w C ι a e) (x : Operand) : RV w C ι (a.eval x) (rdE e x) := by
  unfold rdE
  split
  · exact h _
  · unfold RV RD; rfl
  · unfold RV; rfl
  · unfold RV RD; rfl
  · unfold RV RD; exact ⟨none, 0, rfl, Nat.le_refl _, fun _ => rfl, rfl, fun c hc => by simp at hc, .inl rfl⟩
  · unfold RV; exact ⟨#[], rfl, by simp [RVs]⟩
  · simp [RV]

theorem getE_put {d t : Nat} {v : V} {e : Env} : getE (putE (some d) v e) t = if d = t then v else getE e t := by
  unfold putE getE
  simp only [find]
  by_cases h : d = t
  · subst h; simp
  · have hb : Nat.beq d t = false := by rw [Bool.eq_false_iff]; intro e'; exact h (Nat.eq_of_beq_eq_true e')
    simp [h, hb]

theorem ER.put {w : World} {C : Com} {ι : Locs} {a : Act} {e : Env} {nt : Nat} (h : ER w C ι a e) (hn : a.tmps.size = nt) {dst : Option Nat} (hd : dstOk nt dst = true) {u : Value} {v : V} (hv : RV w C ι u v) : ER w C ι (a.put dst u) (putE dst v e) := by
  intro t
  cases dst with
  | none => exact h t
  | some d =>
    have hlt : d < a.tmps.size := by rw [hn]; simpa [dstOk, Nat.blt_eq] using hd
    rw [getE_put]
    by_cases e' : d = t
    · subst e'; simp only [if_true, Act.put]; simpa [hlt] using hv
    · simp only [if_neg e', Act.put]
      have := h t
      simpa [Array.getElem?_setIfInBounds_ne e'] using this

theorem getE_map {g : Nat → Option Nat} {t : Nat} : ∀ (e : Env), getE (e.map fun p => (p.1, p.2.ren g)) t = (getE e t).ren g
  | [] => by simp [getE, find, V.ren]
  | (d, v) :: e => by
    have ih := getE_map (g := g) (t := t) e
    unfold getE at ih ⊢
    simp only [List.map_cons, find]
    cases h' : Nat.beq d t with
    | true => simp
    | false => simpa using ih

theorem ER.mono {w : World} {C : Com} {ι : Locs} {M : Mem} {w' : World} {C' : Com} {ι' : Locs} {M' : Mem} {a : Act} {e : Env} {ks : List Nat} (h : ER w C ι a e) (g : Go1 C ι M w C' ι' M' w' (· ∈ ks)) : ER w' C' ι' a (killE ks e) := by
  intro t
  cases ks with
  | nil =>
    simp only [killE]
    exact RV.mono g.stp.keeps (fun i L hi => g.stp.same i L hi (by simp)) _ (h t)
  | cons k ks =>
    have hf : getE (killE (k :: ks) e) t = (getE e t).ren (notIn (k :: ks)) := getE_map e
    rw [hf]
    refine RV.ren g.stp.keeps (fun i j L hi hL => ?_) _ (h t)
    by_cases hm : i ∈ k :: ks
    · rw [notIn_none hm] at hi; cases hi
    · rw [notIn_some hm] at hi; cases hi
      exact g.stp.same i L hL hm

theorem upon_of_after {o : Oper} {a : Act} {next : Act → World → Prop} {Q : Exit → Act → World → Prop} {Nx : Value → World → Prop} {r : Result Next} (h : After P Nx r) (hn : ∀ u w', Nx u w' → next (a.put o.dst u) w') : o.upon P a next Q r := by
  cases r with
  | halt x w => exact h.elim
  | ok x w =>
    cases x with
    | value u => exact hn _ _ h
    | skip => exact hn _ _ h
    | enter f args => exact Calls.mono h (fun e w' ⟨u, e1, e2⟩ => by subst e1; exact hn _ _ e2)
    | _ => exact h.elim

theorem put_size {a : Act} {d : Option Nat} {u : Value} : (a.put d u).tmps.size = a.tmps.size := by
  cases d <;> simp [Act.put]
theorem put_defers {a : Act} {d : Option Nat} {u : Value} : (a.put d u).defers = a.defers := by
  cases d <;> rfl

theorem yielded_of {ops : Array Oper} {all : List Oper} (ha : all = ops.toList) {j : Nat} {g : Oper} (hj : all[j]? = some g) {t : Nat} (hd : g.dst = some t) {a : Act} {b : Bool} (hb : a.tmps.getD t undef = .bool b) : yielded ops a.tmps j = some b := by
  subst ha
  have : ops[j]? = some g := by simpa using hj
  unfold yielded
  rw [this]
  simp only [Option.bind_some, hd]
  have h2 : a.tmps[t]? = some (.bool b) := by
    cases h : a.tmps[t]? with
    | none => simp [h, undef] at hb
    | some v => simp [h] at hb; rw [hb]
  simp [h2]

theorem yielded_tup {ops : Array Oper} {all : List Oper} (ha : all = ops.toList) {j : Nat} {g : Oper} (hj : all[j]? = some g) {t : Nat} (hd : g.dst = some t) {a : Act} {cs : Array Value} (hb : a.tmps.getD t undef = .tuple cs) : yielded ops a.tmps j = none := by
  subst ha
  have : ops[j]? = some g := by simpa using hj
  unfold yielded
  rw [this]
  simp only [Option.bind_some, hd]
  cases h : a.tmps[t]? with
  | none => rfl
  | some v => simp [h] at hb; rw [hb]

/-- Behind one operation. -/
def Then (C0 : Com) (ι0 : Locs) (w0 : World) (nt : Nat) (d : List Deferred) (k : Env → Mem → Option R) (q : R) (K : Act → World → Prop) : Prop :=
  ∀ a' e' M' C' ι' w', k e' M' = some q → a'.tmps.size = nt → a'.defers = d → Inv C0 ι0 w0 C' ι' M' w' → ER w' C' ι' a' e' → K a' w'

theorem evOps_step {cx : Cx} (hcx : CxOk0 P cx) {call : CallF} (hcall : CallOk P call) {nt : Nat} {ops : Array Oper} {all : List Oper} (ha : all = ops.toList) {Q : Exit → Act → World → Prop} {d : List Deferred} {o : Oper} {r : List Oper} {e : Env} {M : Mem} {k : Env → Mem → Option R} {q : R}
    (h : evOps cx call nt all (o :: r) e M k = some q) {a : Act} {C : Com} {ι : Locs} {w : World} (hn : a.tmps.size = nt) (hdf : a.defers = d) (hi : Inv C0 ι0 w0 C ι M w) (he : ER w C ι a e) {K : Act → World → Prop}
    (ht : ∀ a' e' M' C' ι' w', evOps cx call nt all r e' M' k = some q → a'.tmps.size = nt → a'.defers = d → Inv C0 ι0 w0 C' ι' M' w' → ER w' C' ι' a' e' → K a' w') :
    if Region.wanted o (yielded ops a.tmps) then o.wp P a w K Q ∨ (o.asks P a w ∧ LetsOut Q) else K (a.put o.dst undef) w := by
  simp only [evOps, fV_eq, fM_eq] at h
  obtain ⟨hd, h'⟩ := bif_some h; clear h; have h := h'; clear h'
  have run : ∀ {e1 : Env}, ER w C ι a e1 → (evOp cx call o.type o.op (rdE e1) M fun v M ks => evOps cx call nt all r (putE o.dst v (killE ks e1)) M k) = some q → o.wp P a w K Q := by
    intro e1 he1 h
    refine upon_of_after (evOp_ok hcx hcall (o := o) (ρ := a.eval) (rd := rdE e1) hi.st he1.rd (fun _ => rfl) h (Nx := fun u w' => K (a.put o.dst u) w') ?_) (fun u w' h => h)
    intro u v M' ks C' ι' w' hk g hv
    exact ht _ _ _ _ _ _ hk (put_size.trans hn) (put_defers.trans hdf) (hi.go g) (ER.put (he1.mono g) hn hd hv)
  have skip : ∀ {e1 : Env}, ER w C ι a e1 → evOps cx call nt all r (putE o.dst (.tup []) e1) M k = some q → K (a.put o.dst undef) w := by
    intro e1 he1 h
    exact ht _ _ _ _ _ _ h (put_size.trans hn) (put_defers.trans hdf) hi (ER.put he1 hn hd (by unfold RV; exact ⟨#[], rfl, by simp [RVs]⟩))
  cases hg : o.guard with
  | none =>
    rw [hg] at h
    rw [if_pos (by simp [Region.wanted, hg])]
    exact .inl (run he h)
  | some jw =>
    obtain ⟨j, want⟩ := jw
    rw [hg] at h; simp only at h
    cases hj : all[j]? with
    | none => rw [hj] at h; cases h
    | some g =>
      rw [hj] at h; simp only at h
      cases hgd : g.dst with
      | none => rw [hgd] at h; cases h
      | some t =>
        rw [hgd] at h; simp only at h
        have hrt := he t
        have wd : ∀ b, a.tmps.getD t undef = .bool b → Region.wanted o (yielded ops a.tmps) = (b == want) := by
          intro b hb
          simp only [Region.wanted, hg, yielded_of ha hj hgd hb]
          cases b <;> cases want <;> rfl
        cases hv : getE e t with
        | kb b =>
          rw [hv] at h hrt
          unfold RV at hrt
          rw [wd b hrt]
          simp only at h
          cases hbw : (b == want) with
          | true => rw [hbw] at h; simp only [cond_true] at h; rw [if_pos rfl]; exact .inl (run he h)
          | false => rw [hbw] at h; simp only [cond_false] at h; rw [if_neg (by simp)]; exact skip he h
        | d x =>
          rw [hv] at h hrt
          cases x with
          | bool b =>
            unfold RV RD at hrt
            rw [wd b hrt]
            simp only [oite_eq] at h
            have hek : ER w C ι a ((t, .kb b) :: e) := by
              intro t'
              have : getE ((t, V.kb b) :: e) t' = if t = t' then .kb b else getE e t' := getE_put (d := t) (v := .kb b)
              rw [this]
              by_cases e' : t = t'
              · subst e'; rw [if_pos rfl, hrt]; unfold RV; rfl
              · rw [if_neg e']; exact he t'
            cases b <;> cases want <;> simp only [cond_true, cond_false] at h
            · rw [if_pos (by decide)]; exact .inl (run hek h)
            · rw [if_neg (by decide)]; exact skip hek h
            · rw [if_neg (by decide)]; exact skip hek h
            · rw [if_pos (by decide)]; exact .inl (run hek h)
          | _ => cases h
        | tup vs =>
          rw [hv] at h hrt
          unfold RV at hrt
          obtain ⟨cs, hc, _⟩ := hrt
          have wf : Region.wanted o (yielded ops a.tmps) = false := by
            simp only [Region.wanted, hg, yielded_tup ha hj hgd hc]
            cases want <;> rfl
          rw [wf, if_neg (by simp)]
          exact skip he h
        | _ => rw [hv] at h; cases h

theorem evOps_ok {cx : Cx} (hcx : CxOk0 P cx) {call : CallF} (hcall : CallOk P call) {nt : Nat} {ops : Array Oper} {all : List Oper} (ha : all = ops.toList) {Q : Exit → Act → World → Prop} {d : List Deferred} :
    ∀ {r : List Oper} {e : Env} {M : Mem} {k : Env → Mem → Option R} {q : R}, evOps cx call nt all r e M k = some q → ∀ {a : Act} {C : Com} {ι : Locs} {w : World}, a.tmps.size = nt → a.defers = d → Inv C0 ι0 w0 C ι M w → ER w C ι a e → Then C0 ι0 w0 nt d k q (Q .normal) → wpList P ops Q r a w
  | [], e, M, k, q, h, a, C, ι, w, hn, hdf, hi, he, ht => by
    simp only [evOps] at h
    exact ht a e M C ι w h hn hdf hi he
  | o :: r, e, M, k, q, h, a, C, ι, w, hn, hdf, hi, he, ht => by
    unfold wpList
    exact evOps_step hcx hcall ha h hn hdf hi he (fun a' e' M' C' ι' w' h1 h2 h3 h4 h5 => evOps_ok hcx hcall ha h1 h2 h3 h4 h5 ht)
end
end Go.Ev
