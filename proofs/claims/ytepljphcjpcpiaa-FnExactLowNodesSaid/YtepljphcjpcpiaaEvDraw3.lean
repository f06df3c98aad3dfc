/-
  The evaluator's regions are the machine's: in whatever order is drawn, the end.
-/
import Derived.Test.YtepljphcjpcpiaaEvDraw2
set_option linter.unusedVariables false
set_option linter.unusedSimpArgs false
namespace Go.Ev
open Go

theorem least : ∀ (l : List Nat), l ≠ [] → ∃ m ∈ l, ∀ j ∈ l, m ≤ j
  | [], h => absurd rfl h
  | [a], _ => ⟨a, by simp, fun j hj => by simp at hj; omega⟩
  | a :: b :: r, _ => by
    obtain ⟨m, h1, h2⟩ := least (b :: r) (by simp)
    by_cases h : a ≤ m
    · exact ⟨a, by simp, fun j hj => by
        cases hj with
        | head => exact Nat.le_refl _
        | tail _ hj => exact Nat.le_trans h (h2 j hj)⟩
    · exact ⟨m, by simp at h1 ⊢; exact .inr h1, fun j hj => by
        cases hj with
        | head => omega
        | tail _ hj => exact h2 j hj⟩

theorem valD_take {t : Nat} {x : V} : ∀ {L : List Oper} {vs : List V} {n i : Nat}, valD (fun j => decide (j < i + n)) i L vs t x = valD (fun _ => true) i (L.take n) (vs.take n) t x
  | [], vs, n, i => by simp [valD]
  | o :: L, [], n, i => by cases n <;> simp [valD]
  | o :: L, v :: vs, 0, i => by
    simp only [List.take_zero, Nat.add_zero]
    rw [show valD (fun _ => true) i [] [] t x = x from rfl]
    exact valD_none (fun j p _ _ => by simp)
  | o :: L, v :: vs, n + 1, i => by
    simp only [List.take_succ_cons, valD]
    have ih := valD_take (t := t) (x := x) (L := L) (vs := vs) (n := n) (i := i + 1)
    rw [← ih]
    rw [show i + 1 + n = i + (n + 1) by omega]
    simp

theorem rdE_const {e e' : Env} : ∀ v, rdE e (.const v) = rdE e' (.const v) := by
  intro v
  cases v with
  | slice a l c => cases a <;> cases l <;> cases c <;> rfl
  | _ => rfl

section
variable {R : Type} {P : Program} {C0 : Com} {ι0 : Locs} {w0 : World}

/-- A reading of the slots. -/
def rdD (f : Nat → V) : Operand → V
  | .tmp t => f t
  | x => rdE [] x

theorem phase1 {cx : Cx} (hcx : CxOk0 P cx) {call : CallF} (hcall : CallOk P call) {nt : Nat} {ops : Array Oper} {c : Nat} (hr : RegOk ops c) {Q : Exit → Act → World → Prop} {d : List Deferred} {k : Env → Mem → Option R} {q : R} (ht : Then C0 ι0 w0 nt d k q (Q .normal))
    {e0 : Env} {M : Mem} {vs : List V} (hvl : vs.length = c) (hrec : ∀ (i : Nat) (o : Oper) (v : V), (ops.toList.take c)[i]? = some o → vs[i]? = some v → OkAt cx call nt ops.toList (puts e0 ((ops.toList.take c).take i) (vs.take i)) M o v)
    (hk : evOps cx call nt ops.toList (ops.toList.drop c) (puts e0 (ops.toList.take c) vs) M k = some q) :
    ∀ (rem : List Nat) (fuel : Nat) (listed : Array Bool) {a : Act} {C : Com} {ι : Locs} {w : World}, rem.Nodup → (∀ j ∈ rem, j < c) → fuel = rem.length + (ops.size - c) → listed.size = ops.size → (∀ j, listed.getD j false = decide (j < c ∧ j ∉ rem)) → Down ops (fun j => j < c ∧ j ∉ rem) →
      a.tmps.size = nt → a.defers = d → Inv C0 ι0 w0 C ι M w → (∀ t, RV w C ι (a.tmps.getD t undef) (valD (fun j => decide (j ∉ rem)) 0 (ops.toList.take c) vs t (getE e0 t))) →
      wpAny P .any ops Q fuel listed a w := by
  have hL : ∀ {i : Nat} {o : Oper}, i < c → ops[i]? = some o → (ops.toList.take c)[i]? = some o := fun {i o} hi ho => by
    rw [List.getElem?_take, if_pos hi]; simpa using ho
  have hL' : ∀ {i : Nat} {o : Oper}, (ops.toList.take c)[i]? = some o → i < c ∧ ops[i]? = some o := fun {i o} h => by
    rw [List.getElem?_take] at h
    split at h
    · exact ⟨by assumption, by simpa using h⟩
    · cases h
  have uniq : ∀ (t : Nat) (i j : Nat) (o p : Oper), (ops.toList.take c)[i]? = some o → (ops.toList.take c)[j]? = some p → o.dst = some t → p.dst = some t → i = j := by
    intro t i j o p hi hj h1 h2
    by_cases e : i = j
    · exact e
    · exact absurd h1 ((hr.early i o (hL' hi).1 (hL' hi).2 j p t (hL' hj).1 e (hL' hj).2 h2).1)
  intro rem
  generalize hn' : rem.length = n
  induction n generalizing rem with
  | zero =>
    intro fuel listed a C ι w _ _ hf hs hl _ hn hdf hi hv
    have : rem = [] := List.eq_nil_of_length_eq_zero hn'
    subst this
    refine phase2 hcx hcall hr ht fuel c listed (by have := hr.le; omega) (Nat.le_refl _) hs (fun j => by rw [hl]; simp) hk hn hdf hi (fun t => ?_)
    have := hv t
    rw [puts_get (i := 0) (fun a b o p h1 h2 h3 h4 => uniq t a b o p h1 h2 h3 h4)]
    simpa using this
  | succ n ih =>
    intro fuel listed a C ι w hnd hlt hf hs hl hdown hn hdf hi hv
    have hne : rem ≠ [] := by intro h; subst h; simp at hn'
    obtain ⟨m, hm1, hm2⟩ := least rem hne
    have hmc := hlt m hm1
    have hcs := hr.le
    obtain ⟨fuel', rfl⟩ : ∃ f, fuel = f + 1 := ⟨fuel - 1, by omega⟩
    have unl : ∀ {j : Nat}, j < ops.size → (listed.getD j true = false ↔ ¬ (j < c ∧ j ∉ rem)) := fun {j} hj => by
      have h1 := hl j
      have : listed.getD j false = listed.getD j true := by simp [hs, hj]
      rw [← this, h1]; simp
    have hmo : ops[m]? = some (ops[m]'(by omega)) := by simp
    have hready : m ∈ Region.ready .any ops listed := by
      refine mem_ready.2 ⟨(unl (by omega)).2 (fun h => h.2 hm1), _, hmo, fun e he hb => ?_⟩
      have := hr.back m _ hmo e (by simpa using he) hb
      rw [hl]
      simp only [decide_eq_true_eq]
      exact ⟨by omega, fun h => by have := hm2 _ h; omega⟩
    refine ⟨fun h0 => by rw [h0] at hready; simp at hready, fun i hir => ?_⟩
    obtain ⟨h0, o, ho, hall⟩ := mem_ready.1 hir
    have hilt := (Array.getElem?_eq_some_iff.1 ho).1
    have hSi : Down ops (fun j => (j < c ∧ j ∉ rem) ∨ j = i) := by
      intro j o' hj hS e he hb
      rcases hS with hS | rfl
      · exact .inl (hdown j o' hj hS e he hb)
      · rw [ho] at hj; cases hj
        have := hall e (by simpa using he) hb
        rw [hl] at this
        exact .inl (of_decide_eq_true this)
    have hirem : i < c ∧ i ∈ rem := by
      have h1 := (unl hilt).1 h0
      by_cases hic : i < c
      · refine ⟨hic, ?_⟩
        by_cases hm : i ∈ rem
        · exact hm
        · exact absurd ⟨hic, hm⟩ h1
      · exfalso
        have hb := hr.late i (by omega) hilt m (by omega)
        rcases clos_down hSi (i := i) (.inr rfl) hb with h | h
        · exact h.2 hm1
        · omega
    obtain ⟨hic, himem⟩ := hirem
    have hLi := hL hic ho
    have hvi : vs[i]? = some (vs[i]'(by omega)) := by simp
    generalize hvv : vs[i]'(by omega) = v at hvi
    obtain ⟨hdst, hg⟩ := hrec i o v hLi hvi
    -- what the operation looks at is there
    have look : ∀ t ∈ o.looksAt ops, getE (puts e0 ((ops.toList.take c).take i) (vs.take i)) t = valD (fun j => decide (j ∉ rem)) 0 (ops.toList.take c) vs t (getE e0 t) := by
      intro t htl
      rw [puts_get (i := 0) (fun a b o p h1 h2 h3 h4 => by
        rw [List.getElem?_take] at h1 h2
        split at h1
        · split at h2
          · exact uniq t a b o p h1 h2 h3 h4
          · cases h2
        · cases h1)]
      have := valD_take (t := t) (x := getE e0 t) (L := ops.toList.take c) (vs := vs) (n := i) (i := 0)
      rw [← this]
      refine valD_congr (fun j p hj hd => ?_)
      simp only [Nat.zero_add]
      obtain ⟨hjc, hjo⟩ := hL' hj
      by_cases hij : j = i
      · subst hij; simp [himem]
      · have := (hr.early i o hic ho j p t hjc (fun e => hij e.symm) hjo hd).2 htl
        rcases clos_down hSi (i := i) (.inr rfl) this.2 with h | h
        · simp [this.1, h.2]
        · omega
    have hrd : ∀ x, RV w C ι (a.eval x) (rdD (fun t => valD (fun j => decide (j ∉ rem)) 0 (ops.toList.take c) vs t (getE e0 t)) x) := by
      intro x
      cases x with
      | tmp t => exact hv t
      | _ => exact ER.rd (e := []) (fun t => by simp [getE, find, RV]) _
    have hcong : ∀ x ∈ o.op.operands, rdE (puts e0 ((ops.toList.take c).take i) (vs.take i)) x = rdD (fun t => valD (fun j => decide (j ∉ rem)) 0 (ops.toList.take c) vs t (getE e0 t)) x := by
      intro x hx
      cases x with
      | tmp t =>
        simp only [rdE, rdD]
        refine look t ?_
        unfold Oper.looksAt
        exact List.mem_append_left _ (List.mem_filterMap.2 ⟨.tmp t, by simpa using hx, rfl⟩)
      | const v => exact rdE_const v
      | _ => rfl
    -- behind it
    have next : ∀ (u : Value) (C' : Com) (w' : World), Go1 C ι M w C' ι M w' (fun _ => False) → RV w' C' ι u v → wpAny P .any ops Q fuel' (listed.setIfInBounds i true) (a.put o.dst u) w' := by
      intro u C' w' g hu
      have hmem : ∀ j, j ∈ rem.erase i ↔ j ≠ i ∧ j ∈ rem := fun j => hnd.mem_erase_iff
      refine ih (rem.erase i) (by rw [List.length_erase_of_mem himem, hn']; rfl) fuel' _ (hnd.erase i) (fun j hj => hlt j ((hmem j).1 hj).2) (by omega) (by simpa using hs) (fun j => ?_) ?_ (put_size.trans hn) (put_defers.trans hdf) (hi.go g) (fun t => ?_)
      · by_cases hij : i = j
        · subst hij
          simp [hs, hilt, hic, hmem]
        · rw [getD_set_ne false hij, hl]
          congr 1
          refine propext ⟨fun h => ⟨h.1, fun hm => h.2 ((hmem j).1 hm).2⟩, fun h => ⟨h.1, fun hm => h.2 ((hmem j).2 ⟨fun e => hij e.symm, hm⟩)⟩⟩
      · intro j o' hj hS e he hb
        have : (j < c ∧ j ∉ rem) ∨ j = i := by
          by_cases hji : j = i
          · exact .inr hji
          · exact .inl ⟨hS.1, fun hm => hS.2 ((hmem j).2 ⟨hji, hm⟩)⟩
        rcases hSi j o' hj this e he hb with h | h
        · exact ⟨h.1, fun hm => h.2 ((hmem _).1 hm).2⟩
        · rw [h]; exact ⟨hic, fun hm => ((hmem _).1 hm).1 rfl⟩
      · by_cases hd : o.dst = some t
        · rw [valD_at hLi hvi hd (by simp [hmem]) (fun q' p hq hp => uniq t q' i p o hq hLi hp hd)]
          have htn : t < a.tmps.size := by rw [hn]; rw [hd] at hdst; simpa [dstOk, Nat.blt_eq] using hdst
          rw [hd]
          simpa [Act.put, htn] using hu
        · have e1 : (a.put o.dst u).tmps.getD t undef = a.tmps.getD t undef := by
            cases hdd : o.dst with
            | none => rfl
            | some d' =>
              have hne' : d' ≠ t := fun e => hd (by rw [hdd, e])
              simp [Act.put, Array.getElem?_setIfInBounds_ne hne']
          rw [e1, valD_congr (D' := fun j => decide (j ∉ rem)) (fun j p hj hp => by
            have hji : j ≠ i := fun e => by subst e; rw [hLi] at hj; cases hj; exact hd hp
            simp only [Nat.zero_add]
            congr 1
            exact propext ⟨fun h hm => h ((hmem j).2 ⟨hji, hm⟩), fun h hm => h ((hmem j).1 hm).2⟩)]
          exact g.rv (hv t)
    have exec : evOpQ cx call o.type o.op (rdE (puts e0 ((ops.toList.take c).take i) (vs.take i))) M some = some v → o.wp P a w (wpAny P .any ops Q fuel' (listed.setIfInBounds i true)) Q := by
      intro h
      rw [evOpQ_congr hcong] at h
      refine upon_of_after (evOpQ_ok hcx hcall (o := o) (ρ := a.eval) hi.st hrd (fun _ => rfl) h (Nx := fun u w' => wpAny P .any ops Q fuel' (listed.setIfInBounds i true) (a.put o.dst u) w') ?_) (fun u w' h => h)
      intro u v' C' w' hv' g hu
      cases hv'
      exact next u C' w' g hu
    unfold wpOp
    rw [ho]
    simp only
    cases hgd : o.guard with
    | none =>
      rw [hgd] at hg
      rw [if_pos (by simp [Region.wanted, hgd])]
      exact .inl (exec hg)
    | some jw =>
      obtain ⟨j, want⟩ := jw
      rw [hgd] at hg
      obtain ⟨g, t, hj, hgt, hor⟩ := hg
      have htl : t ∈ o.looksAt ops := by
        unfold Oper.looksAt
        refine List.mem_append_right _ ?_
        have hjo : ops[j]? = some g := by simpa using hj
        simp [hgd, hjo, hgt]
      have hvt := hv t
      rw [← look t htl] at hvt
      rcases hor with ⟨b, hb, hcase⟩ | ⟨⟨xs, hx⟩, hvx⟩
      · have hbt : a.tmps.getD t undef = .bool b := by
          rcases hb with hb | hb
          · rw [hb] at hvt; unfold RV at hvt; exact hvt
          · rw [hb] at hvt; unfold RV RD at hvt; exact hvt
        have hw : Region.wanted o (yielded ops a.tmps) = (b == want) := by
          simp only [Region.wanted, hgd, yielded_of rfl hj hgt hbt]
          cases b <;> cases want <;> rfl
        rw [hw]
        rcases hcase with ⟨e1, h1⟩ | ⟨e1, h1⟩
        · rw [if_pos (by simpa using e1)]; exact .inl (exec h1)
        · rw [if_neg (by simpa using e1)]
          subst h1
          exact next undef C w (Go1.refl hi.st) (by unfold RV; exact ⟨#[], rfl, by simp [RVs]⟩)
      · rw [hx] at hvt; unfold RV at hvt
        obtain ⟨cs, hc, _⟩ := hvt
        have hw : Region.wanted o (yielded ops a.tmps) = false := by
          simp only [Region.wanted, hgd, yielded_tup rfl hj hgt hc]
          cases want <;> rfl
        rw [hw, if_neg (by simp)]
        subst hvx
        exact next undef C w (Go1.refl hi.st) (by unfold RV; exact ⟨#[], rfl, by simp [RVs]⟩)

theorem draw_ok {cx : Cx} (hcx : CxOk0 P cx) (hm : P.follows .mixedOrders = true) {call : CallF} (hcall : CallOk P call) {nt : Nat} {ops : Array Oper} {c : Nat} (hr : regOk ops c = true) {Q : Exit → Act → World → Prop} {d : List Deferred} {k : Env → Mem → Option R} {q : R} (ht : Then C0 ι0 w0 nt d k q (Q .normal))
    {e0 : Env} {M : Mem} (h : (evQ cx call nt ops.toList (ops.toList.take c) e0 M fun e => evOps cx call nt ops.toList (ops.toList.drop c) e M k) = some q) {a : Act} {C : Com} {ι : Locs} {w : World} (hn : a.tmps.size = nt) (hdf : a.defers = d) (hi : Inv C0 ι0 w0 C ι M w) (he : ER w C ι a e0) (id : Nat) :
    (Code.region id ops true).wp P Q a w := by
  have hr' := RegOk.of hr
  obtain ⟨vs, h1, h2, h3⟩ := evQ_rec h
  have g : Go1 C ι M w C ι M { w with drawn := w.drawn + 1 } (fun _ => False) := Go1.drew hi.st
  have hcs := hr'.le
  refine wp_region_any hm (phase1 hcx hcall hr' ht (vs := vs) (by rw [h1]; simp; omega) h3 h2 (List.range c) ops.size _ List.nodup_range (fun j hj => by simpa using hj) (by simp; omega) (by simp) (fun j => ?_) ?_ hn hdf (hi.go g) (fun t => ?_))
  · have : (Array.replicate ops.size false).getD j false = false := by
      by_cases hj : j < ops.size <;> simp [hj]
    rw [this]
    simp only [List.mem_range]
    symm
    exact decide_eq_false (fun h => h.2 h.1)
  · intro i o _ hS
    exact absurd (by simpa using hS.1) hS.2
  · rw [valD_none (fun j o hj _ => by
      rw [List.getElem?_take] at hj
      split at hj
      · simp; assumption
      · cases hj)]
    exact g.rv (he t)
end
end Go.Ev
