/-
  The evaluator's regions are the machine's: in whatever order is drawn, put together.
-/
import Derived.Test.YtepljphcjpcpiaaEvDraw
set_option linter.unusedVariables false
set_option linter.unusedSimpArgs false
namespace Go.Ev
open Go

section
variable {R : Type} {P : Program} {C0 : Com} {ι0 : Locs} {w0 : World}

/-- What one of the first operations came to, in the text's order. -/
def OkAt (cx : Cx) (call : CallF) (nt : Nat) (all : List Oper) (e : Env) (M : Mem) (o : Oper) (v : V) : Prop :=
  dstOk nt o.dst = true ∧ match o.guard with
    | none => evOpQ cx call o.type o.op (rdE e) M some = some v
    | some (j, want) => ∃ g t, all[j]? = some g ∧ g.dst = some t ∧ ((∃ b, (getE e t = .kb b ∨ getE e t = .d (.bool b)) ∧ ((b = want ∧ evOpQ cx call o.type o.op (rdE e) M some = some v) ∨ (b ≠ want ∧ v = .tup []))) ∨ ((∃ xs, getE e t = .tup xs) ∧ v = .tup []))

theorem evQ_rec {cx : Cx} {call : CallF} {nt : Nat} {all : List Oper} {M : Mem} : ∀ {L : List Oper} {e : Env} {k : Env → Option R} {q : R}, evQ cx call nt all L e M k = some q →
    ∃ vs : List V, vs.length = L.length ∧ k (puts e L vs) = some q ∧ ∀ (i : Nat) (o : Oper) (v : V), L[i]? = some o → vs[i]? = some v → OkAt cx call nt all (puts e (L.take i) (vs.take i)) M o v
  | [], e, k, q, h => ⟨[], rfl, h, fun i o v h => by simp at h⟩
  | o :: L, e, k, q, h => by
    simp only [evQ, fV_eq] at h
    obtain ⟨hd, h'⟩ := bif_some h; clear h; have h := h'; clear h'
    have fin : ∀ v, OkAt cx call nt all e M o v → evQ cx call nt all L (putE o.dst v e) M k = some q → ∃ vs : List V, vs.length = (o :: L).length ∧ k (puts e (o :: L) vs) = some q ∧ ∀ (i : Nat) (o' : Oper) (v : V), (o :: L)[i]? = some o' → vs[i]? = some v → OkAt cx call nt all (puts e ((o :: L).take i) (vs.take i)) M o' v := by
      intro v hok h
      obtain ⟨vs, e1, e2, e3⟩ := evQ_rec h
      refine ⟨v :: vs, by simp [e1], e2, fun i o' v' h1 h2 => ?_⟩
      cases i with
      | zero => simp at h1 h2; subst h1 h2; exact hok
      | succ i =>
        simp at h1 h2
        exact e3 i o' v' h1 h2
    cases hg : o.guard with
    | none =>
      rw [hg] at h
      obtain ⟨v, h1, h2⟩ := evOpQ_par h
      exact fin v ⟨hd, by rw [hg]; exact h1⟩ h2
    | some jw =>
      obtain ⟨j, want⟩ := jw
      rw [hg] at h; simp only at h
      cases hj : all[j]? with
      | none => rw [hj] at h; cases h
      | some g =>
        rw [hj] at h; simp only at h
        cases hgd : g.dst with
        | none => rw [hgd] at h; cases h
        | some t =>
          rw [hgd] at h; simp only at h
          cases hv : getE e t with
          | kb b =>
            rw [hv] at h; simp only at h
            cases hbw : (b == want) with
            | true =>
              rw [hbw] at h; simp only [cond_true] at h
              obtain ⟨v, h1, h2⟩ := evOpQ_par h
              exact fin v ⟨hd, by rw [hg]; exact ⟨g, t, hj, hgd, .inl ⟨b, .inl hv, .inl ⟨by simpa using hbw, h1⟩⟩⟩⟩ h2
            | false =>
              rw [hbw] at h; simp only [cond_false] at h
              exact fin (.tup []) ⟨hd, by rw [hg]; exact ⟨g, t, hj, hgd, .inl ⟨b, .inl hv, .inr ⟨by simpa using hbw, rfl⟩⟩⟩⟩ h
          | d x =>
            rw [hv] at h
            cases x with
            | bool b =>
              simp only [oite_eq] at h
              have yes : b = want → (evOpQ cx call o.type o.op (rdE e) M fun v => evQ cx call nt all L (putE o.dst v e) M k) = some q → (∃ vs : List V, vs.length = (o :: L).length ∧ k (puts e (o :: L) vs) = some q ∧ ∀ (i : Nat) (o' : Oper) (v : V), (o :: L)[i]? = some o' → vs[i]? = some v → OkAt cx call nt all (puts e ((o :: L).take i) (vs.take i)) M o' v) := fun hb h => by
                obtain ⟨v, h1, h2⟩ := evOpQ_par h
                exact fin v ⟨hd, by rw [hg]; exact ⟨g, t, hj, hgd, .inl ⟨b, .inr hv, .inl ⟨hb, h1⟩⟩⟩⟩ h2
              have no : b ≠ want → evQ cx call nt all L (putE o.dst (.tup []) e) M k = some q → (∃ vs : List V, vs.length = (o :: L).length ∧ k (puts e (o :: L) vs) = some q ∧ ∀ (i : Nat) (o' : Oper) (v : V), (o :: L)[i]? = some o' → vs[i]? = some v → OkAt cx call nt all (puts e ((o :: L).take i) (vs.take i)) M o' v) := fun hb h => fin (.tup []) ⟨hd, by rw [hg]; exact ⟨g, t, hj, hgd, .inl ⟨b, .inr hv, .inr ⟨hb, rfl⟩⟩⟩⟩ h
              cases b <;> cases want <;> simp only [cond_true, cond_false] at h
              · exact yes rfl h
              · exact no (by decide) h
              · exact no (by decide) h
              · exact yes rfl h
            | _ => cases h
          | tup xs =>
            rw [hv] at h
            exact fin (.tup []) ⟨hd, by rw [hg]; exact ⟨g, t, hj, hgd, .inr ⟨⟨xs, hv⟩, rfl⟩⟩⟩ h
          | _ => rw [hv] at h; cases h

theorem phase2 {cx : Cx} (hcx : CxOk0 P cx) {call : CallF} (hcall : CallOk P call) {nt : Nat} {ops : Array Oper} {c : Nat} (hr : RegOk ops c) {Q : Exit → Act → World → Prop} {d : List Deferred} {k : Env → Mem → Option R} {q : R} (ht : Then C0 ι0 w0 nt d k q (Q .normal)) :
    ∀ (fuel m : Nat) (listed : Array Bool) {e : Env} {M : Mem} {a : Act} {C : Com} {ι : Locs} {w : World}, fuel + m = ops.size → c ≤ m → listed.size = ops.size → (∀ j, listed.getD j false = decide (j < m)) → evOps cx call nt ops.toList (ops.toList.drop m) e M k = some q → a.tmps.size = nt → a.defers = d → Inv C0 ι0 w0 C ι M w → ER w C ι a e →
      wpAny P .any ops Q fuel listed a w := by
  have unl : ∀ {listed : Array Bool} {m j : Nat}, listed.size = ops.size → (∀ j, listed.getD j false = decide (j < m)) → m ≤ ops.size → listed.getD j true = false → j < ops.size → m ≤ j := by
    intro listed m j hs hl hm hj hlt
    have h1 := hl j
    have : listed.getD j false = listed.getD j true := by simp [hs, hlt]
    rw [this, hj] at h1
    have := of_decide_eq_false h1.symm
    omega
  intro fuel
  induction fuel with
  | zero =>
    intro m listed e M a C ι w hf hc hs hl h hn hdf hi he
    have hm : m = ops.size := by omega
    refine ⟨?_, ?_⟩
    · cases hrd : Region.ready .any ops listed with
      | nil => rfl
      | cons i r =>
        have hi' : i ∈ Region.ready .any ops listed := by rw [hrd]; simp
        obtain ⟨h0, o, ho, _⟩ := mem_ready.1 hi'
        have hlt := (Array.getElem?_eq_some_iff.1 ho).1
        have := unl hs hl (by omega) h0 hlt
        omega
    · rw [List.drop_of_length_le (by simp [hm])] at h
      exact ht a e M C ι w h hn hdf hi he
  | succ fuel ih =>
    intro m listed e M a C ι w hf hc hs hl h hn hdf hi he
    have hlt : m < ops.size := by omega
    have hom : ops[m]? = some ops[m] := by simp [hlt]
    have hready : m ∈ Region.ready .any ops listed := by
      refine mem_ready.2 ⟨?_, _, hom, fun e he hb => ?_⟩
      · have h1 := hl m
        have : listed.getD m false = listed.getD m true := by simp [hs, hlt]
        rw [← this, h1]; simp
      · rw [hl]
        have := hr.back m _ hom e (by simpa using he) hb
        simpa using this
    refine ⟨fun h0 => by rw [h0] at hready; simp at hready, fun i hir => ?_⟩
    obtain ⟨h0, o, ho, hall⟩ := mem_ready.1 hir
    have hilt := (Array.getElem?_eq_some_iff.1 ho).1
    have hmi := unl hs hl (by omega) h0 hilt
    have him : i = m := by
      rcases Nat.lt_or_ge m i with hgt | hle
      · exfalso
        have hb := hr.late i (by omega) hilt m hgt
        have hS : Down ops (fun j => j < m ∨ j = i) := by
          intro j o' hj hSj e he' hb'
          have := hr.back j o' hj e he' hb'
          rcases hSj with hSj | rfl
          · exact .inl (by omega)
          · rw [ho] at hj; cases hj
            have := hall e (by simpa using he') hb'
            rw [hl] at this
            exact .inl (of_decide_eq_true this)
        have := clos_down hS (i := i) (j := m) (.inr rfl) hb
        omega
      · omega
    subst him
    rw [hom] at ho; cases ho
    have hdrop : ops.toList.drop i = ops[i] :: ops.toList.drop (i + 1) := by
      rw [List.drop_eq_getElem_cons (by simpa using hlt)]; simp
    rw [hdrop] at h
    unfold wpOp
    rw [hom]
    refine evOps_step hcx hcall rfl h hn hdf hi he (fun a' e' M' C' ι' w' h1 h2 h3 h4 h5 => ?_)
    refine ih (i + 1) (listed.setIfInBounds i true) (by omega) (by omega) (by simpa using hs) (fun j => ?_) h1 h2 h3 h4 h5
    by_cases hij : i = j
    · subst hij; simp [hs, hlt]
    · rw [getD_set_ne false hij, hl]
      congr 1
      exact propext ⟨fun h => by omega, fun h => by omega⟩
end
end Go.Ev
