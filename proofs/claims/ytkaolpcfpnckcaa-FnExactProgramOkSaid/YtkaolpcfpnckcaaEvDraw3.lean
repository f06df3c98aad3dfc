/-
  The evaluator's regions are the machine's: in whatever order is drawn, the end.
-/
import Derived.Test.YtkaolpcfpnckcaaEvDraw2
set_option linter.unusedVariables false
set_option linter.unusedSimpArgs false
namespace Go.Ev
open Go

theorem least : ∀ (l : List Nat) (f : Nat → Nat), l ≠ [] → ∃ m ∈ l, ∀ j ∈ l, f m ≤ f j
  | [], _, h => absurd rfl h
  | [a], f, _ => ⟨a, by simp, fun j hj => by simp at hj; subst hj; exact Nat.le_refl _⟩
  | a :: b :: r, f, _ => by
    obtain ⟨m, h1, h2⟩ := least (b :: r) f (by simp)
    by_cases h : f a ≤ f m
    · exact ⟨a, by simp, fun j hj => by
        cases hj with
        | head => exact Nat.le_refl _
        | tail _ hj => exact Nat.le_trans h (h2 j hj)⟩
    · exact ⟨m, by simp at h1 ⊢; exact .inr h1, fun j hj => by
        cases hj with
        | head => omega
        | tail _ hj => exact h2 j hj⟩

theorem valD_take {t : Nat} {x : V} : ∀ {L : List Oper} {vs : List V} {n i : Nat}, valD (fun j => decide (j < i + n)) i L vs t x = valD (fun _ => true) i (L.take n) (vs.take n) t x
  | [], vs, n, i => by simp [valD]
  | o :: L, [], n, i => by cases n <;> simp [valD]
  | o :: L, v :: vs, 0, i => by
    simp only [List.take_zero, Nat.add_zero]
    rw [show valD (fun _ => true) i [] [] t x = x from rfl]
    exact valD_none (fun j p _ _ => by simp)
  | o :: L, v :: vs, n + 1, i => by
    simp only [List.take_succ_cons, valD]
    have ih := valD_take (t := t) (x := x) (L := L) (vs := vs) (n := n) (i := i + 1)
    rw [← ih]
    rw [show i + 1 + n = i + (n + 1) by omega]
    simp

theorem rdE_const {e e' : Env} : ∀ v, rdE e (.const v) = rdE e' (.const v) := by
  intro v
  cases v with
  | slice a l c => cases a <;> cases l <;> cases c <;> rfl
  | _ => rfl

/-! The entries that were added by those that are done -/
def accX (D : Nat → Bool) : Nat → List Mem → Mem
  | _, [] => []
  | i, X :: r => (bif D i then X else []) ++ accX D (i + 1) r

theorem accX_split {D : Nat → Bool} : ∀ {n i : Nat} {Xs : List Mem}, accX D i Xs = accX D i (Xs.take n) ++ accX D (i + n) (Xs.drop n)
  | 0, i, Xs => by simp [accX]
  | n + 1, i, [] => by simp [accX]
  | n + 1, i, X :: Xs => by
    simp only [List.take_succ_cons, List.drop_succ_cons, accX, List.append_assoc]
    rw [accX_split (n := n) (i := i + 1) (Xs := Xs), show i + 1 + n = i + (n + 1) by omega]
theorem accX_all {D : Nat → Bool} : ∀ {i : Nat} {Xs : List Mem}, (∀ (j : Nat) X, Xs[j]? = some X → D (i + j) = true ∨ X = []) → accX D i Xs = Xs.flatten
  | i, [], _ => rfl
  | i, X :: Xs, h => by
    simp only [accX, List.flatten_cons]
    rw [accX_all (i := i + 1) (fun j Y hj => by have := h (j + 1) Y (by simpa using hj); rwa [show i + 1 + j = i + (j + 1) by omega])]
    congr 1
    rcases h 0 X rfl with h0 | h0
    · simp only [Nat.add_zero] at h0; rw [h0]; rfl
    · subst h0; cases D i <;> rfl
theorem accX_none {D : Nat → Bool} : ∀ {i : Nat} {Xs : List Mem}, (∀ (j : Nat) X, Xs[j]? = some X → D (i + j) = false ∨ X = []) → accX D i Xs = []
  | i, [], _ => rfl
  | i, X :: Xs, h => by
    simp only [accX]
    rw [accX_none (i := i + 1) (fun j Y hj => by have := h (j + 1) Y (by simpa using hj); rwa [show i + 1 + j = i + (j + 1) by omega])]
    rcases h 0 X rfl with h0 | h0
    · simp only [Nat.add_zero] at h0; rw [h0]; rfl
    · subst h0; cases D i <;> rfl
theorem accX_congr {D D' : Nat → Bool} : ∀ {i : Nat} {Xs : List Mem}, (∀ (j : Nat) X, Xs[j]? = some X → D (i + j) = D' (i + j)) → accX D i Xs = accX D' i Xs
  | i, [], _ => rfl
  | i, X :: Xs, h => by
    simp only [accX]
    rw [accX_congr (D' := D') (i := i + 1) (fun j Y hj => by have := h (j + 1) Y (by simpa using hj); rw [show i + 1 + j = i + (j + 1) by omega]; exact this)]
    have := h 0 X rfl
    simp only [Nat.add_zero] at this
    rw [this]

/-- Just the operations at some places are done. -/
def LD (p : List Nat) (D : Nat → Prop) (listed : Array Bool) : Prop := ∀ j, listed.getD j false = true ↔ ∃ x : Nat, D x ∧ p[x]? = some j

theorem LD.set {p : List Nat} {D : Nat → Prop} {listed : Array Bool} (h : LD p D listed) {x i : Nat} (hx : p[x]? = some i) (hi : i < listed.size) : LD p (fun y => D y ∨ y = x) (listed.setIfInBounds i true) := by
  intro j
  by_cases e : i = j
  · subst e
    simp only [Array.getD_eq_getD_getElem?, Array.getElem?_setIfInBounds_self, hi, if_true, Option.getD_some, true_iff]
    exact ⟨x, .inr rfl, hx⟩
  · rw [getD_set_ne false e, h j]
    constructor
    · rintro ⟨y, h1, h2⟩; exact ⟨y, .inl h1, h2⟩
    · rintro ⟨y, h1 | h1, h2⟩
      · exact ⟨y, h1, h2⟩
      · subst h1; rw [hx] at h2; cases h2; exact absurd rfl e

theorem nodup_inj {p : List Nat} (h : p.Nodup) {x y i : Nat} (hx : p[x]? = some i) (hy : p[y]? = some i) : x = y := by
  obtain ⟨h1, e1⟩ := List.getElem?_eq_some_iff.1 hx
  obtain ⟨h2, e2⟩ := List.getElem?_eq_some_iff.1 hy
  exact (List.getElem_inj h).1 (e1.trans e2.symm)

section
variable {R : Type} {P : Program} {C0 : Com} {ι0 : Locs} {w0 : World}

/-- A reading of the slots. -/
def rdD (f : Nat → V) : Operand → V
  | .tmp t => f t
  | x => rdE [] x

theorem bit_le {ops : Array Oper} {p : List Nat} {nr nm : Nat} {gs : List Nat} (hr : RegOk ops p nr nm gs) {i j : Nat} (hb : ((clos ops.toList []).getD i 0).testBit j = true) : j ≤ i := by
  have hS : Down ops (fun k => k ≤ i) := fun k o hk hle e he hbi => by
    have := hr.back k o hk e he hbi
    show e.on ≤ i
    have hle : k ≤ i := hle
    omega
  exact clos_down hS (i := i) (Nat.le_refl _) hb

theorem r_yields {cx : Cx} (hcx : CxOk0 P cx) {call : CallF} {g : Bool} {o : Oper} (hk : rKind o.op = true) {ρ : Operand → Value} {rd : Operand → V} {C : Com} {ι : Locs} {M : Mem} {w : World} (hrd : ∀ x, RV w C ι (ρ x) (rd x)) {v : V} {X : Mem} (h : RunM cx call g o rd M v X) :
    ∃ u, (∀ w', (execOp ρ o).run P w' = .ok (.value u) w') ∧ RV w C ι u v ∧ X = [] := by
  obtain ⟨dst, op, type, pos, after, guard⟩ := o
  cases g with
  | true =>
    have h : evOpG cx call op rd M (fun v X => some (v, X)) = some (v, X) := h
    cases op <;> simp [rKind] at hk <;> simp [evOpG] at h
  | false =>
    obtain ⟨h, hX⟩ := h
    refine Exists.elim (?_ : ∃ u, (∀ w', (execOp ρ ⟨dst, op, type, pos, after, guard⟩).run P w' = .ok (.value u) w') ∧ RV w C ι u v) (fun u hu => ⟨u, hu.1, hu.2, hX⟩)
    simp only at h hk
    unfold execOp
    simp only
    cases op with
    | move x =>
      simp only [evOpQ, nilOp, evOpR, cond_false] at h
      cases h
      exact ⟨ρ x, fun w' => rfl, fixNil_ok (hrd x)⟩
    | fieldAddr t x f =>
      simp only [evOpQ, nilOp, evOpR, cond_false] at h
      dsimp only
      split at h
      · rename_i T hT
        split at h
        · rename_i fs hk2
          split at h
          · rename_i off u hf
            split at h
            · rename_i U hU
              obtain ⟨hpos, h⟩ := bif_some h
              have hpos := Nat.le_of_ble_eq_true hpos
              have hkk := (hcx.ty _ _ hT).kind
              rw [hk2] at hkk
              obtain ⟨fields, hu, hfs, _⟩ := hkk
              have hUs := (hcx.ty _ _ hU).size
              have hx := hrd x
              have run : ∀ (b o : Nat), ρ x = .pointer (some ⟨b, o, none⟩) → ∀ w', (do pure (Next.value (← Instr.fieldAt t (ρ x) f)) : Sem Next).run P w' = .ok (.value (.pointer (some ⟨b, o + off, none⟩))) w' := by
                intro b o e w'
                refine run_v ?_
                have hf' := hf
                rw [← hfs] at hf'
                simp only [List.getElem?_map, Option.map_eq_some_iff] at hf'
                obtain ⟨fd, hfd, e2⟩ := hf'
                cases e2
                have hfa : fields[f]? = some fd := by simpa using hfd
                unfold Instr.fieldAt Instr.sureAddr fieldPlace
                rw [e]
                simp only [Sem.run_bind, hu, Result.andThen_ok, hfa, Sem.run_pure, hUs]
                rw [if_neg (by omega)]
                simp only [Sem.run_pure, Result.andThen_ok, add_at]
              split at h
              · rename_i i o hr; cases h; rw [hr] at hx; have h0 := hx; unfold RV at h0; obtain ⟨L, hL, hrow, e⟩ := h0
                exact ⟨_, run _ _ e, by unfold RV; exact ⟨L, hL, hrow, rfl⟩⟩
              · rename_i i a b hr; cases h; rw [hr] at hx; have h0 := hx; unfold RV at h0; obtain ⟨L, hL, hrow, hi, e⟩ := h0
                exact ⟨_, run _ _ e, by unfold RV; exact ⟨L, hL, hrow, hi, by rw [Nat.add_assoc]⟩⟩
              · rename_i c j hr; rw [hr] at hx; have h0 := hx; unfold RV at h0; obtain ⟨b, o, e, hc, hrc⟩ := h0
                obtain ⟨hle, h⟩ := bif_some h
                cases h
                have hle := Nat.le_of_ble_eq_true hle
                have hl : ((c.drop (j + off)).take U.size).length ≤ c.length - (j + off) := by simp; omega
                refine ⟨_, run _ _ e, ?_⟩
                unfold RV
                exact ⟨b, o + (j + off), by rw [Nat.add_zero, Nat.add_assoc], by omega, RCs.take _ (RCs.drop (j + off) hrc)⟩
              · cases h
            · cases h
          · cases h
        · cases h
      · cases h
    | _ => simp [rKind] at hk

theorem rKind_par {cx : Cx} {call : CallF} {o : Oper} (hk : rKind o.op = true) {rd : Operand → V} {M : Mem} {K : V → Mem → List Nat → Option R} {q : R} (h : evOp cx call o.type o.op rd M K = some q) : ∃ v, RunM cx call false o rd M v [] ∧ K v M [] = some q := by
  have e : evOp cx call o.type o.op rd M K = evOpQ cx call o.type o.op rd M (fun v => K v M []) := by
    cases ho : o.op <;> rw [ho] at hk <;> first | (simp [rKind] at hk; done) | rfl
  rw [e] at h
  obtain ⟨v, h1, h2⟩ := evOpQ_par h
  exact ⟨v, ⟨h1, rfl⟩, h2⟩

theorem lsts_get : ∀ {l : List Nat} {A : Array Bool}, (∀ i ∈ l, i < A.size) → ∀ j, ((l.foldl (fun a i => a.setIfInBounds i true) A).getD j false = true ↔ A.getD j false = true ∨ j ∈ l)
  | [], A, _, j => by simp
  | i :: l, A, h, j => by
    rw [List.foldl_cons, lsts_get (l := l) (fun x hx => by simpa using h x (List.mem_cons_of_mem _ hx)) j]
    have hi := h i (by simp)
    by_cases e : i = j
    · subst e; simp [hi]
    · rw [getD_set_ne false e]
      have : j ≠ i := fun h => e h.symm
      simp [this]

theorem lsts_size : ∀ {l : List Nat} {A : Array Bool}, (l.foldl (fun a i => a.setIfInBounds i true) A).size = A.size
  | [], _ => rfl
  | i :: l, A => by rw [List.foldl_cons, lsts_size]; simp

theorem LD.lsts {p : List Nat} {m n : Nat} {listed : Array Bool} (h : LD p (· < m) listed) (hs : listed.size = n) (hlt : ∀ i ∈ p, i < n) : listed = lsts n (p.take m) := by
  have hg := lsts_get (l := p.take m) (A := Array.replicate n false) (fun i hi => by simpa using hlt i (List.mem_of_mem_take hi))
  have hsz : (Ev.lsts n (p.take m)).size = n := by unfold Ev.lsts; rw [lsts_size]; simp
  apply Array.ext
  · rw [hs, hsz]
  · intro j h1 h2
    have e1 : listed[j] = listed.getD j false := by simp [h1]
    have e2 : (Ev.lsts n (p.take m))[j] = (Ev.lsts n (p.take m)).getD j false := by simp [h2]
    rw [e1, e2, Bool.eq_iff_iff, h j]
    unfold Ev.lsts
    rw [hg j]
    have h0 : (Array.replicate n false).getD j false = false := by
      by_cases hj : j < n <;> simp [hj]
    rw [h0]
    constructor
    · rintro ⟨x, hx, hp⟩
      right
      exact List.mem_of_getElem? (i := x) (by rw [List.getElem?_take, if_pos hx]; exact hp)
    · rintro (h | h)
      · cases h
      · obtain ⟨x, hx⟩ := List.getElem?_of_mem h
        rw [List.getElem?_take] at hx
        split at hx
        · exact ⟨x, by assumption, hx⟩
        · cases hx

theorem phase2 {cx : Cx} (hcx : CxOk0 P cx) {call : CallF} (hcall : CallOk P call) {nt : Nat} {ops : Array Oper} {p : List Nat} {nr nm : Nat} {gs : List Nat} (hr : RegOk ops p nr nm gs) {Q : Exit → Act → World → Prop} {d : List Deferred} {k : Env → Mem → Option R} {q : R} (hQ : ∀ c a w, ¬ Q (.panic c) a w) (ht : Then C0 ι0 w0 nt d k q (Q .normal)) :
    ∀ (fuel m : Nat) (listed : Array Bool) {e : Env} {M : Mem} {a : Act} {C : Com} {ι : Locs} {w : World}, fuel + m = ops.size → nr + nm ≤ m → listed.size = ops.size → LD p (· < m) listed → Down ops (fun j => listed.getD j false = true) → evOps cx call nt ops.toList (((pickO ops.toList gs p).map (·.2)).drop m) e M k = some q → a.tmps.size = nt → a.defers = d → Inv C0 ι0 w0 C ι M w → ER w C ι a e →
      wpAny P .any ops Q fuel listed a w := by
  have hlt' : ∀ i ∈ p, i < ops.toList.length := fun i hi => by simpa using hr.lt i hi
  have pl := hr.len
  intro fuel
  induction fuel with
  | zero =>
    intro m listed e M a C ι w hf hc hs hl hdown h hn hdf hi he
    have hm : m = ops.size := by omega
    refine ⟨?_, ?_⟩
    · cases hrd : Region.ready .any ops listed with
      | nil => rfl
      | cons i r =>
        have hi' : i ∈ Region.ready .any ops listed := by rw [hrd]; simp
        obtain ⟨h0, o, ho, _⟩ := mem_ready.1 hi'
        have hlt := (Array.getElem?_eq_some_iff.1 ho).1
        obtain ⟨x, hx⟩ := hr.all i hlt
        have hxl := (List.getElem?_eq_some_iff.1 hx).1
        have := (hl i).2 ⟨x, by omega, hx⟩
        have e2 : listed.getD i false = listed.getD i true := by simp [hs, hlt]
        rw [e2, h0] at this; cases this
    · rw [List.drop_of_length_le (by simp [pickO_len hlt']; omega)] at h
      exact ht a e M C ι w h hn hdf hi he
  | succ fuel ih =>
    intro m listed e M a C ι w hf hc hs hl hdown h hn hdf hi he
    have hmlt : m < p.length := by omega
    have hpm : p[m]? = some p[m] := by simp [hmlt]
    generalize hi0 : p[m] = i0 at hpm
    have hi0lt : i0 < ops.size := hr.lt i0 (List.mem_of_getElem? hpm)
    have hom : ops[i0]? = some ops[i0] := by simp [hi0lt]
    have unl : ∀ j, j < ops.size → listed.getD j true = listed.getD j false := fun j hj => by simp [hs, hj]
    have hdrop0 : ((pickO ops.toList gs p).map (·.2)).drop m = ops[i0] :: ((pickO ops.toList gs p).map (·.2)).drop (m + 1) := by
      have hlen : m < ((pickO ops.toList gs p).map (·.2)).length := by simp [pickO_len hlt']; omega
      rw [List.drop_eq_getElem_cons hlen]
      congr 1
      have h1 : ((pickO ops.toList gs p).map (·.2))[m]? = some ops[i0] := by
        rw [List.getElem?_map, pickO_get hlt', hpm]
        simp [hom]
      exact (List.getElem?_eq_some_iff.1 h1).2
    cases hfl : fOk ops p m with
    | true =>
      unfold fOk at hfl
      rw [← LD.lsts hl hs hr.lt, show p.getD m 0 = i0 by simp [List.getD_eq_getElem?_getD, hpm]] at hfl
      simp only [rOk, hom, Bool.and_eq_true, Bool.and_true] at hfl
      obtain ⟨hkind, hgn, hds, hrdy, hfree⟩ := hfl
      have hgn : ops[i0].guard = none := by cases hg : ops[i0].guard with | none => rfl | some _ => rw [hg] at hgn; cases hgn
      rw [hdrop0] at h
      simp only [evOps, fV_eq, fM_eq] at h
      obtain ⟨hd, h'⟩ := bif_some h; clear h; have h := h'; clear h'
      rw [hgn] at h
      obtain ⟨v, hrun, hk2⟩ := rKind_par hkind h
      obtain ⟨u, hu1, hu2, _⟩ := r_yields hcx hkind (ρ := a.eval) he.rd hrun
      have he' : ER w C ι (a.put ops[i0].dst u) (putE ops[i0].dst v (killE [] e)) := ER.put he hn hd hu2
      refine wpAny_take (v := u) hom hr.sel hfree hrdy (fun c a w h => absurd h (hQ _ _ _)) (.inl ⟨by simp [Region.wanted, hgn], hu1⟩) ?_
      refine ih (m + 1) (listed.setIfInBounds i0 true) (by omega) (by omega) (by simpa using hs) (fun j => ?_) ?_ hk2 (put_size.trans hn) (put_defers.trans hdf) hi he'
      · rw [(hl.set hpm (by omega)) j]
        constructor
        · rintro ⟨x, hx1, hx2⟩; exact ⟨x, by omega, hx2⟩
        · rintro ⟨x, hx1, hx2⟩; exact ⟨x, by omega, hx2⟩
      · have hmr : i0 ∈ Region.ready .any ops listed := by simpa using hrdy
        obtain ⟨_, o2, ho2, hall2⟩ := mem_ready.1 hmr
        rw [hom] at ho2; cases ho2
        have e3 : ∀ j, (listed.setIfInBounds i0 true).getD j false = true ↔ listed.getD j false = true ∨ j = i0 := by
          intro j
          by_cases e : i0 = j
          · subst e; simp [hs, hi0lt]
          · rw [getD_set_ne false e]
            exact ⟨.inl, fun h => h.resolve_right (fun h => e h.symm)⟩
        intro j o' hj hS e he hb
        rcases (e3 j).1 hS with h1 | h1
        · exact (e3 _).2 (.inl (hdown j o' hj h1 e he hb))
        · subst h1
          rw [hom] at hj; cases hj
          exact (e3 _).2 (.inl (hall2 e (by simpa using he) hb))
    | false =>
    have nofl : ∀ {x : Prop}, x ∨ (nr + nm ≤ m ∧ fOk ops p m = true) → x := fun h => h.resolve_right fun h => by rw [hfl] at h; cases h.2
    have hready : i0 ∈ Region.ready .any ops listed := by
      refine mem_ready.2 ⟨?_, _, hom, fun e he hb => ?_⟩
      · rw [unl _ hi0lt, Bool.eq_false_iff]
        intro h1
        obtain ⟨x, hx1, hx2⟩ := (hl i0).1 h1
        have := nodup_inj hr.nd hx2 hpm
        omega
      · have hlt := hr.back i0 _ hom e (by simpa using he) hb
        obtain ⟨y, hy⟩ := hr.all e.on (by omega)
        refine (hl e.on).2 ⟨y, ?_, hy⟩
        rcases Nat.lt_trichotomy y m with h1 | h1 | h1
        · exact h1
        · subst h1; rw [hpm] at hy; cases hy; omega
        · have := bit_le hr (nofl (hr.late y m e.on i0 (by omega) (by omega) h1 hy hpm))
          omega
    refine ⟨fun h0 => by rw [h0] at hready; simp at hready, fun i hir => ?_⟩
    obtain ⟨h0, o, ho, hall⟩ := mem_ready.1 hir
    have hilt := (Array.getElem?_eq_some_iff.1 ho).1
    have hSi : Down ops (fun j => listed.getD j false = true ∨ j = i) := by
      intro j o' hj hS e he hb
      rcases hS with hS | rfl
      · exact .inl (hdown j o' hj hS e he hb)
      · rw [ho] at hj; cases hj
        exact .inl (hall e (by simpa using he) hb)
    have him : i = i0 := by
      obtain ⟨x, hx⟩ := hr.all i hilt
      rcases Nat.lt_trichotomy x m with h1 | h1 | h1
      · exfalso
        have := (hl i).2 ⟨x, h1, hx⟩
        rw [← unl _ hilt, h0] at this; cases this
      · subst h1; rw [hpm] at hx; cases hx; rfl
      · exfalso
        have hb := nofl (hr.late x m i i0 (by omega) (by omega) h1 hx hpm)
        rcases clos_down hSi (i := i) (.inr rfl) hb with h2 | h2
        · obtain ⟨y, hy1, hy2⟩ := (hl i0).1 h2
          have := nodup_inj hr.nd hy2 hpm
          omega
        · subst h2
          have := nodup_inj hr.nd hx hpm
          omega
    subst him
    rw [hom] at ho; cases ho
    have hdrop : ((pickO ops.toList gs p).map (·.2)).drop m = ops[i] :: ((pickO ops.toList gs p).map (·.2)).drop (m + 1) := by
      have hlen : m < ((pickO ops.toList gs p).map (·.2)).length := by simp [pickO_len hlt']; omega
      rw [List.drop_eq_getElem_cons hlen]
      congr 1
      have h1 : ((pickO ops.toList gs p).map (·.2))[m]? = some ops[i] := by
        rw [List.getElem?_map, pickO_get hlt', hpm]
        simp [hom]
      exact (List.getElem?_eq_some_iff.1 h1).2
    rw [hdrop] at h
    unfold wpOp
    rw [hom]
    refine evOps_step hcx hcall rfl h hn hdf hi he (fun a' e' M' C' ι' w' h1 h2 h3 h4 h5 => ?_)
    refine ih (m + 1) (listed.setIfInBounds i true) (by omega) (by omega) (by simpa using hs) (fun j => ?_) ?_ h1 h2 h3 h4 h5
    · rw [(hl.set hpm (by omega)) j]
      constructor
      · rintro ⟨x, hx1, hx2⟩; exact ⟨x, by omega, hx2⟩
      · rintro ⟨x, hx1, hx2⟩; exact ⟨x, by omega, hx2⟩
    · intro j o' hj hS e he hb
      have e3 : ∀ j, (listed.setIfInBounds i true).getD j false = true ↔ listed.getD j false = true ∨ j = i := by
        intro j
        by_cases e : i = j
        · subst e; simp [hs, hilt]
        · rw [getD_set_ne false e]
          exact ⟨.inl, fun h => h.resolve_right (fun h => e h.symm)⟩
      exact (e3 _).2 (hSi j o' hj ((e3 _).1 hS) e he hb)
end
end Go.Ev
