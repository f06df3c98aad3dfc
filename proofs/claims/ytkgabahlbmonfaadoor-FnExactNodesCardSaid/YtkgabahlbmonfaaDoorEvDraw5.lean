import Derived.Test.YtkgabahlbmonfaaDoorEvMh
set_option linter.unusedVariables false
set_option linter.unusedSimpArgs false
/-
  The evaluator's regions are the machine's: copies and places first.
-/
namespace Go.Ev
open Go

section
variable {R : Type} {P : Program} {C0 : Com} {ι0 : Locs} {w0 : World}

theorem stage0 {cx : Cx} (hcx : CxOk0 P cx) {call : CallF} {nt : Nat} {ops : Array Oper} {p : List Nat} {nr nm : Nat} {gs : List Nat} (hr : RegOk0 ops p nr nm) {Q : Exit → Act → World → Prop} (hQ : ∀ c a w, ¬ Q (.panic c) a w) {d : List Deferred} {C : Com} {ι : Locs} {w : World}
    {e0 : Env} {M0 : Mem} {L : List (Bool × Oper)} (hL : ∀ x : Nat, L[x]? = if x < nr + nm then (p[x]?).bind fun i => (ops[i]?).map fun o => ((match idx gs i with | some _ => true | none => false), o) else none)
    {vs : List V} {Xs : List Mem} (hvl : vs.length = nr + nm) (hXl : Xs.length = nr + nm)
    (hrec : ∀ (i : Nat) (g : Bool) (o : Oper) (v : V) (X : Mem), L[i]? = some (g, o) → vs[i]? = some v → Xs[i]? = some X → OkAt cx call nt ops.toList (puts e0 ((L.map (·.2)).take i) (vs.take i)) (M0 ++ (Xs.take i).flatten) g o v X)
    (fin : ∀ (listed : Array Bool) (a : Act), listed.size = ops.size → LD p (· < nr) listed → Down ops (fun j => listed.getD j false = true) → a.tmps.size = nt → a.defers = d → (∀ t, RV w C ι (a.tmps.getD t undef) (valD (fun y => decide (y < nr)) 0 (L.map (·.2)) vs t (getE e0 t))) → (∀ x, x < nr → Xs[x]? = some []) → wpAny P .any ops Q (ops.size - nr) listed a w) :
    ∀ (n m : Nat) (listed : Array Bool) (a : Act), n + m = nr → rOk ops listed ((p.take nr).drop m) = true → listed.size = ops.size → LD p (· < m) listed → Down ops (fun j => listed.getD j false = true) → a.tmps.size = nt → a.defers = d → (∀ t, RV w C ι (a.tmps.getD t undef) (valD (fun y => decide (y < m)) 0 (L.map (·.2)) vs t (getE e0 t))) → (∀ x, x < m → Xs[x]? = some []) →
      wpAny P .any ops Q (ops.size - m) listed a w := by
  have pl := hr.len
  have hple := hr.le
  have Lat : ∀ {x : Nat} {o : Oper}, (L.map (·.2))[x]? = some o → x < nr + nm ∧ ∃ i, p[x]? = some i ∧ ops[i]? = some o := fun {x o} h => by
    rw [List.getElem?_map, hL] at h
    split at h
    · rename_i hx
      refine ⟨hx, ?_⟩
      cases hp : p[x]? with
      | none => rw [hp] at h; cases h
      | some i =>
        rw [hp] at h
        cases ho : ops[i]? with
        | none => simp [ho] at h
        | some o' => simp [ho] at h; subst h; exact ⟨i, rfl, ho⟩
    · cases h
  have uniq : ∀ (t : Nat) (x y : Nat) (o o' : Oper), (L.map (·.2))[x]? = some o → (L.map (·.2))[y]? = some o' → o.dst = some t → o'.dst = some t → x = y := by
    intro t x y o o' hx hy h1 h2
    obtain ⟨hx1, i, hpx, hox⟩ := Lat hx
    obtain ⟨hy1, j, hpy, hoy⟩ := Lat hy
    by_cases e : x = y
    · exact e
    · exact absurd h1 ((hr.early x y i j o o' t hx1 hy1 e hpx hpy hox hoy h2).1)
  intro n
  induction n with
  | zero =>
    intro m listed a hm _ hs hl hdown hn hdf hv hX
    have hm : m = nr := by omega
    subst hm
    exact fin listed a hs hl hdown hn hdf hv hX
  | succ n ih =>
    intro m listed a hm hrok hs hl hdown hn hdf hv hX
    have hmlt : m < p.length := by omega
    have hpm : p[m]? = some p[m] := by simp [hmlt]
    generalize hi0 : p[m] = i at hpm
    have hilt : i < ops.size := hr.lt i (List.mem_of_getElem? hpm)
    have ho : ops[i]? = some ops[i] := by simp [hilt]
    generalize hoo : ops[i] = o at ho
    have hdrop : (p.take nr).drop m = i :: (p.take nr).drop (m + 1) := by
      have hlen : m < (p.take nr).length := by simp; omega
      rw [List.drop_eq_getElem_cons hlen]
      congr 1
      simp [hi0]
    rw [hdrop] at hrok
    simp only [rOk, ho, Bool.and_eq_true] at hrok
    obtain ⟨⟨hkind, hgn, hds, hrdy, hfree⟩, hrest⟩ := hrok
    have hgn : o.guard = none := by cases hg : o.guard with | none => rfl | some _ => rw [hg] at hgn; cases hgn
    have hLx : L[m]? = some ((match idx gs i with | some _ => true | none => false), o) := by rw [hL, if_pos (by omega), hpm]; simp [ho]
    generalize hgg : (match idx gs i with | some _ => true | none => false) = g at hLx
    have hLo : (L.map (·.2))[m]? = some o := by rw [List.getElem?_map, hLx]; rfl
    have hvi : vs[m]? = some (vs[m]'(by omega)) := by simp
    generalize hvv : vs[m]'(by omega) = v at hvi
    have hXi : Xs[m]? = some (Xs[m]'(by omega)) := by simp
    generalize hXX : Xs[m]'(by omega) = X at hXi
    obtain ⟨hdst, _, hg⟩ := hrec m g o v X hLx hvi hXi
    rw [hgn] at hg
    have look : ∀ t ∈ o.looksAt ops, getE (puts e0 ((L.map (·.2)).take m) (vs.take m)) t = valD (fun y => decide (y < m)) 0 (L.map (·.2)) vs t (getE e0 t) := by
      intro t _
      rw [puts_get (i := 0) (fun y z' o1 o2 h1 h2 h3 h4 => by
        rw [List.getElem?_take] at h1 h2
        split at h1
        · split at h2
          · exact uniq t y z' o1 o2 h1 h2 h3 h4
          · cases h2
        · cases h1)]
      have := valD_take (t := t) (x := getE e0 t) (L := L.map (·.2)) (vs := vs) (n := m) (i := 0)
      rw [← this]
      simp
    have hcong : ∀ y, (∀ t, y = .tmp t → t ∈ o.looksAt ops) → rdE (puts e0 ((L.map (·.2)).take m) (vs.take m)) y = rdD (fun t => valD (fun y => decide (y < m)) 0 (L.map (·.2)) vs t (getE e0 t)) y := by
      intro y hy
      cases y with
      | tmp t => simp only [rdE, rdD]; exact look t (hy t rfl)
      | const v => exact rdE_const v
      | _ => rfl
    have hall : ∀ y, rdE (puts e0 ((L.map (·.2)).take m) (vs.take m)) y = rdD (fun t => valD (fun y => decide (y < m)) 0 (L.map (·.2)) vs t (getE e0 t)) y := by
      intro y
      cases y with
      | tmp t =>
        simp only [rdE, rdD]
        rw [puts_get (i := 0) (fun y z' o1 o2 h1 h2 h3 h4 => by
          rw [List.getElem?_take] at h1 h2
          split at h1
          · split at h2
            · exact uniq t y z' o1 o2 h1 h2 h3 h4
            · cases h2
          · cases h1)]
        have := valD_take (t := t) (x := getE e0 t) (L := L.map (·.2)) (vs := vs) (n := m) (i := 0)
        rw [← this]
        simp
      | const v => exact rdE_const v
      | _ => rfl
    have hrd : ∀ y, RV w C ι (a.eval y) (rdE (puts e0 ((L.map (·.2)).take m) (vs.take m)) y) := by
      intro y
      rw [hall]
      cases y with
      | tmp t => exact hv t
      | _ => exact ER.rd (e := []) (fun t => by simp [getE, find, RV]) _
    obtain ⟨u, hrun, hu, hX0⟩ := r_yields hcx hkind hrd hg
    have hfuel : ops.size - m = (ops.size - (m + 1)) + 1 := by omega
    rw [hfuel]
    refine wpAny_take (v := u) ho hr.sel hfree hrdy (fun c a w h => absurd h (hQ _ _ _)) (.inl ⟨by simp [Region.wanted, hgn], hrun⟩) ?_
    refine ih (m + 1) (listed.setIfInBounds i true) (a.put o.dst u) (by omega) hrest (by simpa using hs) (fun j => ?_) ?_ (put_size.trans hn) (put_defers.trans hdf) (fun t => ?_) (fun x hx => ?_)
    · rw [(hl.set hpm (by omega)) j]
      constructor
      · rintro ⟨x, hx1, hx2⟩; exact ⟨x, by omega, hx2⟩
      · rintro ⟨x, hx1, hx2⟩; exact ⟨x, by omega, hx2⟩
    · have hmr : i ∈ Region.ready .any ops listed := by simpa using hrdy
      obtain ⟨_, o2, ho2, hall2⟩ := mem_ready.1 hmr
      rw [ho] at ho2; cases ho2
      have e3 : ∀ j, (listed.setIfInBounds i true).getD j false = true ↔ listed.getD j false = true ∨ j = i := by
        intro j
        by_cases e : i = j
        · subst e; simp [hs, hilt]
        · rw [getD_set_ne false e]
          exact ⟨.inl, fun h => h.resolve_right (fun h => e h.symm)⟩
      intro j o' hj hS e he hb
      rcases (e3 j).1 hS with h1 | h1
      · exact (e3 _).2 (.inl (hdown j o' hj h1 e he hb))
      · subst h1
        rw [ho] at hj; cases hj
        exact (e3 _).2 (.inl (hall2 e (by simpa using he) hb))
    · by_cases hd : o.dst = some t
      · rw [valD_at hLo hvi hd (by simp) (fun y o' hq hp => uniq t y m o' o hq hLo hp hd)]
        have htn : t < a.tmps.size := by rw [hn]; rw [hd] at hdst; simpa [dstOk, Nat.blt_eq] using hdst
        rw [hd]
        simpa [Act.put, htn] using hu
      · have e1 : (a.put o.dst u).tmps.getD t undef = a.tmps.getD t undef := by
          cases hdd : o.dst with
          | none => rfl
          | some d' =>
            have hne' : d' ≠ t := fun e => hd (by rw [hdd, e])
            simp [Act.put, Array.getElem?_setIfInBounds_ne hne']
        rw [e1, valD_congr (D' := fun j => decide (j < m)) (fun j o' hj hp => by
          have hji : j ≠ m := fun e => by subst e; rw [hLo] at hj; cases hj; exact hd hp
          simp only [Nat.zero_add]
          congr 1
          exact propext ⟨fun h => by omega, fun h => by omega⟩)]
        exact hv t
    · rcases Nat.lt_or_ge x m with h1 | h1
      · exact hX x h1
      · have : x = m := by omega
        subst this
        rw [hXi, hX0]

theorem draw_ok {tl : List String} {cx : Cx} (hcx : CxOk0 P cx) (hm : P.follows .mixedOrders = true) {call : CallF} (hcall : CallOk P tl call) (htab : Tabs P tl C0 ι0 w0) {nt : Nat} {ops : Array Oper} {p : List Nat} {nr nm : Nat} {gs : List Nat} (hr : regOk ops p nr nm gs = true) {Q : Exit → Act → World → Prop} {d : List Deferred} {k : Env → Mem → Option R} {q : R} (ht : Then C0 ι0 w0 nt d k q (Q .normal))
    {e0 : Env} {M : Mem} (h : (evM cx call nt ops.toList (pickO ops.toList gs (p.take (nr + nm))) e0 M fun e M => evOps cx call nt ops.toList ((pickO ops.toList gs (p.drop (nr + nm))).map (·.2)) e M k) = some q) {a : Act} {C : Com} {ι : Locs} {w : World} (hn : a.tmps.size = nt) (hdf : a.defers = d) (hi : Inv C0 ι0 w0 C ι M w) (he : ER w C ι a e0) (id : Nat) :
    (Code.region id ops true).wp P Q a w := by
  have hr' := RegOk.of hr
  have hlt' : ∀ i ∈ p, i < ops.toList.length := fun i hi => by simpa using hr'.lt i hi
  have hltT : ∀ i ∈ p.take (nr + nm), i < ops.toList.length := fun i hi => hlt' i (List.mem_of_mem_take hi)
  have hltD : ∀ i ∈ p.drop (nr + nm), i < ops.toList.length := fun i hi => hlt' i (List.mem_of_mem_drop hi)
  obtain ⟨vs, Xs, ef, h1, h2, hef, h3, h4⟩ := evM_rec h
  have g : Go1 C ι M w C ι M { w with drawn := w.drawn + 1 } (fun _ => False) := Go1.drew hi.st
  have hple := hr'.le
  have hlenL : (pickO ops.toList gs (p.take (nr + nm))).length = nr + nm := by rw [pickO_len hltT]; simp; omega
  have hL : ∀ x : Nat, (pickO ops.toList gs (p.take (nr + nm)))[x]? = if x < nr + nm then (p[x]?).bind fun i => (ops[i]?).map fun o => ((match idx gs i with | some _ => true | none => false), o) else none := by
    intro x
    rw [pickO_get hltT, List.getElem?_take]
    split
    · simp only [Array.getElem?_toList]
      rfl
    · rfl
  have hS : (pickO ops.toList gs (p.drop (nr + nm))).map (·.2) = ((pickO ops.toList gs p).map (·.2)).drop (nr + nm) := by
    apply List.ext_getElem?
    intro x
    rw [List.getElem?_map, pickO_get hltD, List.getElem?_drop, List.getElem?_drop, List.getElem?_map, pickO_get hlt']
  rw [hS] at h3
  let Qn : Exit → Act → World → Prop := fun x a w => match x with | .panic _ => False | x => Q x a w
  refine Code.wp_mono (Q := Qn) (fun x a w hx => by cases x <;> first | exact hx | exact hx.elim) ?_
  have ht' : Then C0 ι0 w0 nt d k q (Qn .normal) := ht
  refine wp_region_any hm ?_
  have := stage0 hcx hr'.toRegOk0 (Q := Qn) (fun c a w h => h) (d := d) (C := C) (ι := ι) (w := { w with drawn := w.drawn + 1 }) hL (by rw [h1, hlenL]) (by rw [h2, hlenL]) h4 (fun listed a' hs hl hdown hn' hdf' hv hX => ?_) nr 0 (Array.replicate ops.size false) a (by omega) (by simpa using hr'.r) (by simp) (fun j => ?_) (fun j o _ hS => ?_) hn hdf (fun t => ?_) (fun x hx => absurd hx (Nat.not_lt_zero _))
  · simpa using this
  · -- behind copies and places
    have hmr : ∀ x, x ∈ List.range' nr nm ↔ nr ≤ x ∧ x < nr + nm := fun x => by rw [List.mem_range'_1]
    have hD : ∀ x, x < nr + nm → (x ∉ List.range' nr nm ↔ x < nr) := fun x hx => by
      rw [hmr]
      exact ⟨fun h => by
        rcases Nat.lt_or_ge x nr with h' | h'
        · exact h'
        · exact absurd ⟨h', hx⟩ h, fun h h' => by omega⟩
    have hXe : accX (fun x => decide (x ∉ List.range' nr nm)) 0 Xs = [] := by
      refine accX_none (fun j X hj => ?_)
      have hjl : j < nr + nm := by rw [← hlenL, ← h2]; exact lt_of_get hj
      rcases Nat.lt_or_ge j nr with h5 | h5
      · right
        rw [hX j h5] at hj; cases hj; rfl
      · left
        simp only [Nat.zero_add, decide_eq_false_iff_not]
        rw [hD j hjl]; omega
    refine phase1 hcx hcall htab hr' (fun c a w h => h) ht' (vs := vs) (Xs := Xs) hL (by rw [h1, hlenL]) (by rw [h2, hlenL]) h4 hef h3 (List.range' nr nm) (ops.size - nr) listed List.nodup_range' (fun x hx => (hmr x).1 hx) (by have := hr'.len; simp; omega) hs (fun j => ?_) hdown hn' hdf' (by rw [hXe, List.append_nil]; exact hi.go g) (fun t => ?_)
    · rw [hl j]
      constructor
      · rintro ⟨x, h5, h6⟩; exact ⟨x, ⟨by omega, (hD x (by omega)).2 h5⟩, h6⟩
      · rintro ⟨x, h5, h6⟩; exact ⟨x, (hD x h5.1).1 h5.2, h6⟩
    · rw [valD_congr (D' := fun y => decide (y < nr)) (fun j o hj _ => by
        have hjl : j < nr + nm := by rw [← hlenL]; have := lt_of_get hj; simpa using this
        simp only [Nat.zero_add]
        congr 1
        exact propext (hD j hjl))]
      exact hv t
  · have h0 : (Array.replicate ops.size false).getD j false = false := by
      by_cases hj : j < ops.size <;> simp [hj]
    rw [h0]
    constructor
    · intro h; cases h
    · rintro ⟨x, hx, _⟩; exact absurd hx (Nat.not_lt_zero _)
  · have h0 : (Array.replicate ops.size false).getD j false = false := by
      by_cases hj : j < ops.size <;> simp [hj]
    have hS : (Array.replicate ops.size false).getD j false = true := hS
    rw [h0] at hS; cases hS
  · rw [valD_none (fun j o hj _ => by simp)]
    exact g.rv (he t)
end
end Go.Ev
