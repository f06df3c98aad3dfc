/-
  What the evaluator says of a function, the machine does.
-/
import Derived.Test.YtkaolpcfpnckcaaEvNorm
set_option linter.unusedVariables false
set_option linter.unusedSimpArgs false
namespace Go.Ev
open Go

/-- The check of a function's regions that draw their order. -/
def codeOk : Code → Ann → Bool
  | .region _ ops draw, ann => bif draw then (match ann with | .r p nr nm gs => regOk ops p nr nm gs | .f p nr fl ck => regOkF ops p nr fl ck | _ => true) else true
  | .seq a b, ann => codeOk a ann.l1 && codeOk b ann.l2
  | .cond _ x y, ann => codeOk x ann.l1 && codeOk y ann.l2
  | .block _ b, ann => codeOk b ann.l1
  | .loop b, ann => match ann with | .l _ a => codeOk b a | _ => true
  | _, _ => true

/-- The places have names of their own. -/
def labsOk (c : Code) (ann : Ann) : Bool := nodupB (0 :: labs c ann)

structure CxOk (P : Program) (cx : Cx) : Prop extends CxOk0 P cx where
  body : ∀ f F, find cx.fns f = some F → P.funcs[f]? = some F.fn ∧ F.fn.body = some F.body ∧ codeOk F.body F.ann = true ∧ labsOk F.body F.ann = true
  order : P.follows .mixedOrders = true

def exOf : Ex → Exit
  | .norm => .normal
  | .ex id => .exit id
  | .ret => .ret

section
variable {R : Type} {P : Program} {C0 : Com} {ι0 : Locs} {w0 : World}

theorem enter_some {N : Norm} {m0 : Nat} {J : Nat → Env → Mem → Option R} {e : Env} {M : Mem} {q : R} (h : enter N m0 J e M = some q) : ∃ e' M', applyNorm N m0 e M = some (e', M') ∧ J N.id e' M' = some q := by
  unfold enter at h
  split at h
  · rename_i e' M' hN
    simp only [fE_eq, fM_eq] at h
    exact ⟨_, _, hN, h⟩
  · cases h

/-- What stands behind a piece of code. -/
def KOk (C0 : Com) (ι0 : Locs) (w0 : World) (nt : Nat) (d : List Deferred) (K : Ex → Env → Mem → Option R) (q : R) (Q : Exit → Act → World → Prop) : Prop :=
  ∀ x e' M' a' C' ι' w', K x e' M' = some q → a'.tmps.size = nt → a'.defers = d → Inv C0 ι0 w0 C' ι' M' w' → ER w' C' ι' a' e' → Q (exOf x) a' w'

theorem nodupB_nodup : ∀ {l : List Nat}, nodupB l = true → l.Nodup
  | [], _ => by simp
  | i :: r, h => by
    simp only [nodupB, Bool.and_eq_true] at h
    rw [List.nodup_cons]
    refine ⟨?_, nodupB_nodup h.2⟩
    cases hi : idx r i with
    | none => exact idx_none hi
    | some j => rw [hi] at h; cases h.1

/-- What stands at a place is what the places' table says, with one going on less. -/
def Coh (cx : Cx) (call : Nat → CallF) (J : Nat → Nat → Env → Mem → Option R) (nt m0 : Nat) : Code → Ann → (Nat → Ex → Env → Mem → Option R) → Prop
  | .seq a b, ann, K => (∀ N x y, ann = .j N x y → ∀ k e M, J (k + 1) N.id e M = evC cx (call k) (J k) nt m0 b y (K k) e M) ∧ Coh cx call J nt m0 a ann.l1 (fun k => kseq ann m0 (J k) (evC cx (call k) (J k) nt m0 b ann.l2 (K k)) (K k)) ∧ Coh cx call J nt m0 b ann.l2 K
  | .cond _ x y, ann, K => Coh cx call J nt m0 x ann.l1 K ∧ Coh cx call J nt m0 y ann.l2 K
  | .block id b, ann, K => Coh cx call J nt m0 b ann.l1 (fun k => kblock id (K k))
  | .loop b, ann, K => ∀ N a, ann = .l N a → (∀ k e M, J (k + 1) N.id e M = evC cx (call k) (J k) nt m0 b a (kloop N m0 (J k) (K k)) e M) ∧ Coh cx call J nt m0 b a (fun k => kloop N m0 (J k) (K k))
  | _, _, _ => True

theorem evL_none {cx : Cx} {call : CallF} {J : Nat → Env → Mem → Option R} {nt m0 l : Nat} : ∀ (c : Code) {ann : Ann} {K : Ex → Env → Mem → Option R}, l ∉ labs c ann → evL cx call J nt m0 l c ann K = none := by
  intro c
  induction c with
  | seq a b iha ihb =>
    intro ann K h
    simp only [labs, List.mem_append, not_or] at h
    simp only [evL]
    rw [iha h.2.1, ihb h.2.2]
    cases ann with
    | j N x y =>
      simp only [List.mem_singleton] at h
      have : Nat.beq N.id l = false := by rw [Bool.eq_false_iff]; intro e; exact h.1 (Nat.eq_of_beq_eq_true e).symm
      simp [this, orE]
    | _ => rfl
  | cond _ x y ihx ihy =>
    intro ann K h
    simp only [labs, List.mem_append, not_or] at h
    simp only [evL]
    rw [ihx h.1, ihy h.2]; rfl
  | block id b ih =>
    intro ann K h
    simp only [labs] at h
    simp only [evL]
    exact ih h
  | loop b ih =>
    intro ann K h
    cases ann with
    | l N a =>
      simp only [labs, List.mem_cons, not_or] at h
      simp only [evL]
      rw [ih h.2]
      have : Nat.beq N.id l = false := by rw [Bool.eq_false_iff]; intro e; exact h.1 (Nat.eq_of_beq_eq_true e).symm
      simp [this, orE]
    | _ => rfl
  | _ => intro ann K h; rfl

theorem orE_none (x : Option (Env → Mem → Option R)) : orE x none = x := by cases x <;> rfl
theorem none_orE (x : Option (Env → Mem → Option R)) : orE none x = x := rfl

theorem coh_of {cx : Cx} {call : Nat → CallF} {J : Nat → Nat → Env → Mem → Option R} {nt m0 : Nat} : ∀ (c : Code) {ann : Ann} {K : Nat → Ex → Env → Mem → Option R}, (labs c ann).Nodup →
    (∀ k l e M, l ∈ labs c ann → J (k + 1) l e M = match evL cx (call k) (J k) nt m0 l c ann (K k) with | some r => r e M | none => none) → Coh cx call J nt m0 c ann K := by
  intro c
  induction c with
  | seq a b iha ihb =>
    intro ann K hn h
    simp only [labs] at hn h
    rw [List.nodup_append] at hn
    obtain ⟨_, hn2, hn3⟩ := hn
    rw [List.nodup_append] at hn2
    obtain ⟨hna, hnb, hnab⟩ := hn2
    refine ⟨?_, iha hna ?_, ihb hnb ?_⟩
    · intro N x y e k e' M'
      subst e
      rw [h k N.id e' M' (by simp)]
      simp only [evL]
      have : Nat.beq N.id N.id = true := Nat.beq_refl _
      simp [this, orE]
    · intro k l e M hl
      rw [h k l e M (by simp [hl])]
      simp only [evL]
      have hb : l ∉ labs b ann.l2 := fun hb => hnab l hl l hb rfl
      rw [evL_none b hb, orE_none]
      cases ann with
      | j N x y =>
        have : Nat.beq N.id l = false := by
          rw [Bool.eq_false_iff]; intro e
          have := Nat.eq_of_beq_eq_true e
          exact hn3 l (by simp [this]) l (by simp [hl]) rfl
        simp only [this, cond_false, none_orE]
      | _ => rfl
    · intro k l e M hl
      rw [h k l e M (by simp [hl])]
      simp only [evL]
      have ha : l ∉ labs a ann.l1 := fun ha => hnab l ha l hl rfl
      rw [evL_none a ha, none_orE]
      cases ann with
      | j N x y =>
        have : Nat.beq N.id l = false := by
          rw [Bool.eq_false_iff]; intro e
          have := Nat.eq_of_beq_eq_true e
          exact hn3 l (by simp [this]) l (by simp [hl]) rfl
        simp only [this, cond_false, none_orE]
      | _ => rfl
  | cond c0 x y ihx ihy =>
    intro ann K hn h
    simp only [labs] at hn h
    rw [List.nodup_append] at hn
    obtain ⟨hna, hnb, hnab⟩ := hn
    refine ⟨ihx hna ?_, ihy hnb ?_⟩
    · intro k l e M hl
      rw [h k l e M (by simp [hl])]
      simp only [evL]
      rw [evL_none y (fun hb => hnab l hl l hb rfl), orE_none]
    · intro k l e M hl
      rw [h k l e M (by simp [hl])]
      simp only [evL]
      rw [evL_none x (fun ha => hnab l ha l hl rfl), none_orE]
  | block id b ih =>
    intro ann K hn h
    exact ih hn (fun k l e M hl => h k l e M hl)
  | loop b ih =>
    intro ann K hn h
    intro N a e
    subst e
    simp only [labs, List.nodup_cons] at hn h
    refine ⟨?_, ih hn.2 ?_⟩
    · intro k e' M'
      rw [h k N.id e' M' (by simp)]
      simp only [evL]
      have : Nat.beq N.id N.id = true := Nat.beq_refl _
      simp [this, orE]
    · intro k l e' M' hl
      rw [h k l e' M' (by simp [hl])]
      simp only [evL]
      have : Nat.beq N.id l = false := by
        rw [Bool.eq_false_iff]; intro e
        have := Nat.eq_of_beq_eq_true e
        exact hn.1 (by rw [this]; exact hl)
      simp only [this, cond_false, none_orE]
  | _ => intro ann K _ _; trivial

theorem evC_ok {cx : Cx} (hcx : CxOk P cx) {call : Nat → CallF} {J : Nat → Nat → Env → Mem → Option R} (hJ0 : ∀ l e M, J 0 l e M = none) {nt m0 : Nat} (hm0 : m0 = ι0.length) {d : List Deferred} {q : R} :
    ∀ (c : Code) {ann : Ann} {K : Nat → Ex → Env → Mem → Option R} {Q : Exit → Act → World → Prop} (kb : Nat), codeOk c ann = true → Coh cx call J nt m0 c ann K → (∀ k, k ≤ kb → CallOk P (call k)) → (∀ k, k ≤ kb → KOk C0 ι0 w0 nt d (K k) q Q) → ∀ (k : Nat), k ≤ kb → ∀ {e : Env} {M : Mem} {a : Act} {C : Com} {ι : Locs} {w : World}, evC cx (call k) (J k) nt m0 c ann (K k) e M = some q → a.tmps.size = nt → a.defers = d → Inv C0 ι0 w0 C ι M w → ER w C ι a e → c.wp P Q a w := by
  intro c
  induction c with
  | skip =>
    intro ann K Q kb _ _ _ hK k hk e M a C ι w h hn hd hi he
    exact wp_skip (hK k hk .norm e M a C ι w h hn hd hi he)
  | region id ops draw =>
    intro ann K Q kb hok hco hcall hK k hk e M a C ι w h hn hd hi he
    unfold evC at h
    unfold codeOk at hok
    cases draw with
    | true =>
      simp only [cond_true] at h hok
      cases ann with
      | r c =>
        simp only at h hok
        exact draw_ok hcx.toCxOk0 hcx.order (hcall k hk) hok (fun a' e' M' C' ι' w' h1 h2 h3 h4 h5 => hK k hk .norm e' M' a' C' ι' w' h1 h2 h3 h4 h5) h hn hd hi he id
      | f c =>
        simp only at h hok
        exact drawF_ok hcx.toCxOk0 hcx.order (hcall k hk) hok (fun a' e' M' C' ι' w' h1 h2 h3 h4 h5 => hK k hk .norm e' M' a' C' ι' w' h1 h2 h3 h4 h5) h hn hd hi he id
      | _ => cases h
    | false =>
      simp only [cond_false] at h
      exact wp_region_list (evOps_ok hcx.toCxOk0 (hcall k hk) rfl h hn hd hi he (fun a' e' M' C' ι' w' h1 h2 h3 h4 h5 => hK k hk .norm e' M' a' C' ι' w' h1 h2 h3 h4 h5))
  | seq x y ihx ihy =>
    intro ann K Q kb hok hco hcall hK k hk e M a C ι w h hn hd hi he
    unfold evC at h
    simp only [codeOk, Bool.and_eq_true] at hok
    obtain ⟨hc1, hc2, hc3⟩ := hco
    refine wp_seq (ihx (K := fun k => kseq ann m0 (J k) (evC cx (call k) (J k) nt m0 y ann.l2 (K k)) (K k)) kb hok.1 hc2 hcall ?_ k hk h hn hd hi he)
    intro k' hk' ex e' M' a' C' ι' w' hk2 hn' hd' hi' he'
    cases ex with
    | norm =>
      show y.wp P Q a' w'
      simp only [kseq] at hk2
      split at hk2
      · rename_i N u v
        obtain ⟨e2, M2, hN, hk2⟩ := enter_some hk2
        obtain ⟨ι2, hi2, he2⟩ := applyNorm_ok hm0 hN hi' he'
        cases k' with
        | zero => rw [hJ0] at hk2; cases hk2
        | succ k' =>
          rw [hc1 N u v rfl] at hk2
          exact ihy kb hok.2 hc3 hcall hK k' (by omega) hk2 hn' hd' hi2 he2
      · exact ihy kb hok.2 hc3 hcall hK k' hk' hk2 hn' hd' hi' he'
    | ex i => exact hK k' hk' (.ex i) e' M' a' C' ι' w' hk2 hn' hd' hi' he'
    | ret => exact hK k' hk' .ret e' M' a' C' ι' w' hk2 hn' hd' hi' he'
  | cond b x y ihx ihy =>
    intro ann K Q kb hok hco hcall hK k hk e M a C ι w h hn hd hi he
    unfold evC at h
    simp only [codeOk, Bool.and_eq_true] at hok
    have hb := he.rd b
    split at h
    · rename_i t ht
      rw [ht] at hb; unfold RV at hb
      refine wp_cond hb ?_
      cases t with
      | true => exact ihx kb hok.1 hco.1 hcall hK k hk h hn hd hi he
      | false => exact ihy kb hok.2 hco.2 hcall hK k hk h hn hd hi he
    · rename_i t ht
      rw [ht] at hb; unfold RV RD at hb
      rw [oite_eq] at h
      refine wp_cond hb ?_
      cases t with
      | true => exact ihx kb hok.1 hco.1 hcall hK k hk h hn hd hi he
      | false => exact ihy kb hok.2 hco.2 hcall hK k hk h hn hd hi he
    · cases h
  | block id b ih =>
    intro ann K Q kb hok hco hcall hK k hk e M a C ι w h hn hd hi he
    unfold evC at h
    simp only [codeOk] at hok
    refine wp_block (ih (K := fun k => kblock id (K k)) kb hok hco hcall ?_ k hk h hn hd hi he)
    intro k' hk' ex e' M' a' C' ι' w' hk hn' hd' hi' he'
    cases ex with
    | norm => exact hK k' hk' .norm e' M' a' C' ι' w' hk hn' hd' hi' he'
    | ex i =>
      simp only [kblock] at hk
      show (if i = id then Q .normal a' w' else Q (.exit i) a' w')
      by_cases e : i = id
      · subst e
        simp at hk
        rw [if_pos rfl]
        exact hK k' hk' .norm e' M' a' C' ι' w' hk hn' hd' hi' he'
      · have hb : Nat.beq i id = false := by rw [Bool.eq_false_iff]; intro h; exact e (Nat.eq_of_beq_eq_true h)
        rw [hb] at hk
        rw [if_neg e]
        exact hK k' hk' (.ex i) e' M' a' C' ι' w' hk hn' hd' hi' he'
    | ret => exact hK k' hk' .ret e' M' a' C' ι' w' hk hn' hd' hi' he'
  | loop b ih =>
    intro ann K Q kb hok hco hcall hK k hk e M a C ι w h hn hd hi he
    unfold evC at h
    cases ann with
    | l N an =>
      simp only [codeOk] at hok
      simp only at h
      obtain ⟨hJ, hco⟩ := hco N an rfl
      let S : Nat → Act → World → Prop := fun j a w => j ≤ kb ∧ ∃ e M C ι, J j N.id e M = some q ∧ a.tmps.size = nt ∧ a.defers = d ∧ Inv C0 ι0 w0 C ι M w ∧ ER w C ι a e
      have leastS : ∀ a w, (∃ j, S j a w) → ∃ j, S j a w ∧ ∀ i, S i a w → j ≤ i := by
        rintro a w ⟨j, hj⟩
        induction j using Nat.strongRecOn with
        | _ j ih =>
          by_cases hx : ∃ i, i < j ∧ S i a w
          · obtain ⟨i, h1, h2⟩ := hx; exact ih i h1 h2
          · exact ⟨j, hj, fun i hi => by
              rcases Nat.lt_or_ge i j with h | h
              · exact absurd ⟨i, h, hi⟩ hx
              · exact h⟩
      let μ : Act → World → Nat := fun a w => Classical.epsilon fun j => S j a w ∧ ∀ i, S i a w → j ≤ i
      have hμ : ∀ a w, (∃ j, S j a w) → S (μ a w) a w ∧ ∀ i, S i a w → μ a w ≤ i := fun a w h => Classical.epsilon_spec (leastS a w h)
      obtain ⟨e1, M1, hN1, h⟩ := enter_some h
      obtain ⟨ι1, hi1, he1⟩ := applyNorm_ok hm0 hN1 hi he
      refine wp_loop (fun a w => ∃ j, S j a w) μ ⟨k, hk, e1, M1, C, ι1, h, hn, hd, hi1, he1⟩ ?_
      intro a w hI
      obtain ⟨⟨hjb, e, M, C, ι, h, hn, hd, hi, he⟩, _⟩ := hμ a w hI
      cases hj : μ a w with
      | zero => rw [hj, hJ0] at h; cases h
      | succ j =>
        rw [hj] at h hjb
        rw [hJ] at h
        refine ih (K := fun k => kloop N m0 (J k) (K k)) j hok hco (fun k hk' => hcall k (by omega)) ?_ j (Nat.le_refl _) h hn hd hi he
        intro k' hk' ex e' M' a' C' ι' w' hk2 hn' hd' hi' he'
        cases ex with
        | norm =>
          simp only [kloop] at hk2
          obtain ⟨e2, M2, hN, hk2⟩ := enter_some hk2
          obtain ⟨ι2, hi2, he2⟩ := applyNorm_ok hm0 hN hi' he'
          have hS : S k' a' w' := ⟨by omega, e2, M2, C', ι2, hk2, hn', hd', hi2, he2⟩
          refine ⟨⟨k', hS⟩, ?_⟩
          have := (hμ a' w' ⟨k', hS⟩).2 k' hS
          omega
        | ex i => exact hK k' (by omega) (.ex i) e' M' a' C' ι' w' hk2 hn' hd' hi' he'
        | ret => exact hK k' (by omega) .ret e' M' a' C' ι' w' hk2 hn' hd' hi' he'
    | _ => cases h
  | exit id =>
    intro ann K Q kb _ _ _ hK k hk e M a C ι w h hn hd hi he
    exact wp_exit (hK k hk (.ex id) e M a C ι w h hn hd hi he)
  | ret =>
    intro ann K Q kb _ _ _ hK k hk e M a C ι w h hn hd hi he
    exact wp_ret (hK k hk .ret e M a C ι w h hn hd hi he)
  | _ => intro ann K Q kb _ _ _ hK k hk e M a C ι w h; simp [evC] at h

theorem res_ok {cx : Cx} (hcx : TyOk P cx) {C : Com} {ι : Locs} {M : Mem} {w : World} (hst : St C ι M w) {a : Act} {e : Env} (he : ER w C ι a e) : ∀ {l : List ResultVar} {vs : List V}, resVs cx e M l = some vs →
    ∃ us : List Value, (l.mapM fun | .tmp t => pure (a.tmps.getD t undef) | .cell x t => do loadVar t (← asAddr (a.tmps.getD x undef)) : Sem (List Value)).run P w = .ok us w ∧ RVs w C ι us vs
  | [], vs, h => by simp [resVs] at h; subst h; exact ⟨[], rfl, by simp [RVs]⟩
  | .tmp t :: r, vs, h => by
    simp only [resVs] at h
    split at h
    · rename_i vs' h'
      cases h
      obtain ⟨us, h1, h2⟩ := res_ok hcx hst he h'
      refine ⟨a.tmps.getD t undef :: us, ?_, by unfold RVs; exact ⟨he t, h2⟩⟩
      rw [List.mapM_cons]
      simp only [Sem.run_bind, Sem.run_pure, Result.andThen_ok, h1]
    · cases h
  | .cell x t :: r, vs, h => by
    simp only [resVs] at h
    split at h
    · rename_i T hT
      split at h
      · rename_i v hv
        split at h
        · rename_i vs' h'
          cases h
          obtain ⟨us, h1, h2⟩ := res_ok hcx hst he h'
          obtain ⟨u, v', r1, r2, r3⟩ := evLoad_ok (hcx.ty _ _ hT) hst hv (he x)
          cases r3
          have hrun : (do loadVar t (← asAddr (a.tmps.getD x undef)) : Sem Value).run P w = .ok u w := by
            unfold Instr.loadAt Instr.sureAddr at r1
            unfold asAddr
            split at r1
            · rename_i ad had
              rw [had]
              simpa only [Sem.run_bind, Sem.run_pure, Result.andThen_ok] using r1
            · simp [stuck, Sem.run_bind, Sem.run, Result.andThen] at r1
          refine ⟨u :: us, ?_, by unfold RVs; exact ⟨r2, h2⟩⟩
          rw [List.mapM_cons, Sem.run_bind]
          have hrun' := hrun
          rw [hrun']
          simp only [Result.andThen_ok, Sem.run_bind, h1, Sem.run_pure]
        · cases h
      · cases h
    · cases h

theorem one_ok {C : Com} {ι : Locs} {w : World} {us : List Value} {vs : List V} (h : RVs w C ι us vs) : RV w C ι (if hs : us.toArray.size = 1 then us.toArray[0] else .tuple us.toArray) (one vs) := by
  cases us with
  | nil =>
    cases vs with
    | nil => simp [one]; unfold RV; exact ⟨#[], rfl, by simp [RVs]⟩
    | cons v vs => simp [RVs] at h
  | cons u us =>
    cases vs with
    | nil => simp [RVs] at h
    | cons v vs =>
      have hl := h.length
      cases us with
      | nil =>
        cases vs with
        | nil => unfold RVs at h; simpa [one] using h.1
        | cons v2 vs => simp at hl
      | cons u2 us =>
        cases vs with
        | nil => simp at hl
        | cons v2 vs =>
          have : ¬ ((u :: u2 :: us).toArray.size = 1) := by simp
          rw [dif_neg this]
          simp only [one]
          unfold RV
          exact ⟨_, rfl, by simpa using h⟩

theorem argE_get : ∀ (vs : List V) (i t : Nat), getE (argE i vs) t = if i ≤ t then vs.getD (t - i) .undef else .undef
  | [], i, t => by simp [argE, getE, find]
  | v :: vs, i, t => by
    have ih := argE_get vs (i + 1) t
    unfold getE at ih ⊢
    simp only [argE, find]
    by_cases h : i = t
    · subst h; simp
    · have hb : Nat.beq i t = false := by rw [Bool.eq_false_iff]; intro e'; exact h (Nat.eq_of_beq_eq_true e')
      simp only [hb, cond_false, ih]
      by_cases h1 : i + 1 ≤ t
      · have : i ≤ t := by omega
        obtain ⟨m, hm⟩ : ∃ m, t - i = m + 1 := ⟨t - i - 1, by omega⟩
        have h2 : t - (i + 1) = m := by omega
        simp [h1, this, hm, h2]
      · have : ¬ i ≤ t := by omega
        simp [h1, this]

theorem evFn_ok {cx : Cx} (hcx : CxOk P cx) : ∀ k, CallOk P (evFn cx k) := by
  intro k
  induction k using Nat.strongRecOn with
  | _ k IH =>
    intro f args M v M' h C ι w vals hst hmv hv
    simp only [evFn, callOf] at h
    cases hF : find cx.fns f with
    | none => rw [hF] at h; cases h
    | some F =>
      rw [hF] at h; simp only at h
      obtain ⟨hlen, h⟩ := bif_some h
      have hlen := Nat.le_of_ble_eq_true hlen
      obtain ⟨hf, hb, hok, hlab⟩ := hcx.body f F hF
      have hvl := hv.length
      cases k with
      | zero => simp [evG] at h
      | succ k =>
      simp only [evG] at h
      rw [hF] at h; simp only at h
      have hnd := nodupB_nodup hlab
      rw [List.nodup_cons] at hnd
      have hco : Coh cx (fun k => evFn cx k) (fun k => evG cx k f M.length) F.fn.ntmps M.length F.body F.ann (fun _ => finish cx F M.length) := by
        refine coh_of F.body hnd.2 (fun k l e M1 hl => ?_)
        cases l with
        | zero => exact absurd hl hnd.1
        | succ l =>
          simp only [evG, hF, evFn]
          generalize evL cx _ _ _ _ _ _ _ _ = z
          cases z <;> rfl
      refine calls_of_wp hf hb ?_
      refine evC_ok (C0 := C) (ι0 := ι) (w0 := w) (d := []) hcx (J := fun k => evG cx k f M.length) (fun l e M => by simp [evG]) hst.len.symm F.body (K := fun _ => finish cx F M.length) k hok hco (fun i hi => IH i (by omega)) (fun _ _ => ?_) k (Nat.le_refl _) (a := { tmps := vals.toArray ++ Array.replicate (F.fn.ntmps - vals.toArray.size) undef, defers := [] }) (C := C) (ι := ι) (w := w) h (by simp; omega) rfl ⟨hst, Stp.refl _ _ _ _⟩ ?_
      · intro x e' Mf a' C' ι' w' hk hn' hd' hi' he'
        have done : fin cx F M.length e' Mf = some (v, M') → a'.defers = [] ∧ ∃ u, (results F.fn a'.tmps).run P w' = .ok u w' ∧ ∃ u' C' ι', Ending.returned u = .returned u' ∧ Go1 C ι M w C' ι' M' w' (mvs M') ∧ RV w' C' ι' u' v := by
          intro hk
          refine ⟨hd', ?_⟩
          unfold fin at hk
          cases hr : resVs cx e' Mf F.fn.results.toList with
          | none => rw [hr] at hk; cases hk
          | some vs =>
            rw [hr] at hk; simp only at hk
            obtain ⟨us, hrun, hus⟩ := res_ok hcx.toTyOk hi'.st he' hr
            have hres : (results F.fn a'.tmps).run P w' = .ok (if hs : us.toArray.size = 1 then us.toArray[0] else .tuple us.toArray) w' := by
              unfold results
              rw [Array.mapM_eq_mapM_toList]
              simp only [map_eq_pure_bind, Sem.run_bind, Sem.run_pure]
              exact Eq.trans (congrArg (fun r => (Result.andThen r (fun (a : List Value) w' => Result.ok a.toArray w')).andThen (fun (a : Array Value) w' => Result.ok (if h : a.size = 1 then a[0] else Value.tuple a) w')) hrun) rfl
            refine ⟨_, hres, ?_⟩
            have fr : ∀ {vs' : List V} {M2 : Mem}, (bif F.rawr then some (ownVals F.rown vs Mf) else freezeVs Mf vs) = some (vs', M2) → ∃ C2 ι2, Go1 C' ι' Mf w' C2 ι2 M2 w' (fun _ => False) ∧ RVs w' C2 ι2 us vs' := by
              intro vs' M2 h
              cases hrw : F.rawr with
              | true =>
                rw [hrw] at h
                obtain ⟨ι2, g, r⟩ := ownVals_ok F.rown hi'.st hus
                simp at h
                rw [h] at g r
                exact ⟨C', ι2, g, r⟩
              | false =>
                rw [hrw] at h
                obtain ⟨C2, g, r, _⟩ := freezeVs_ok h hi'.st hus
                exact ⟨C2, ι', g, r⟩
            cases hz : (bif F.rawr then some (ownVals F.rown vs Mf) else freezeVs Mf vs) with
            | none => rw [hz] at hk; cases hk
            | some p =>
              obtain ⟨vs', M2⟩ := p
              rw [hz] at hk; simp only at hk
              obtain ⟨C2, ι2, g2, r2⟩ := fr hz
              have hi2 := hi'.go g2
              rw [← hst.len] at hk
              obtain ⟨ι2, hi2, r2⟩ := backVals_ok F.back hi2 r2
              generalize hbs : backVals ι.length F.back vs' M2 = q at hk hi2 r2
              obtain ⟨vs', M2⟩ := q
              simp only at hk hi2 r2
              obtain ⟨hc, hk⟩ := bif_some hk
              simp only [Bool.and_eq_true] at hc
              generalize finKeep ι.length vs' M2 = kp at hc hk
              cases hp : pickM M2 kp kp with
              | none => rw [hp] at hk; cases hk
              | some M3 =>
                rw [hp] at hk; simp at hk
                obtain ⟨rfl, rfl⟩ := hk
                obtain ⟨ι3, hi3, hidx⟩ := pick_ok hi2 hc.1 hc.2 hp
                refine ⟨_, C2, ι3, rfl, ⟨hi3.st, hi3.stp, fun i hi hm => ?_⟩, RV.ren (.refl _ _) hidx _ (one_ok r2)⟩
                rcases hm with hm | hm
                · exact absurd hm (hmv i)
                · exact hm
        cases x with
        | norm => exact done hk
        | ret => exact done hk
        | ex i => cases hk
      · intro t
        rw [argE_get]
        simp only [Nat.zero_le, if_true, Nat.sub_zero]
        cases hvt : args[t]? with
        | none => simp [hvt, RV]
        | some x =>
          obtain ⟨u, e1, e2⟩ := hv.get hvt
          have hlt := lt_of_get e1
          have : (vals.toArray ++ Array.replicate (F.fn.ntmps - vals.toArray.size) undef).getD t undef = u := by
            rw [Array.getD_eq_getD_getElem?, Array.getElem?_append_left (by simpa using hlt)]
            simp [e1]
          rw [this]
          simpa [hvt] using e2
end
end Go.Ev
