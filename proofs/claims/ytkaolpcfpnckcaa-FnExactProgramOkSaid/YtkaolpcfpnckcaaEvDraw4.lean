/-
  The evaluator's regions are the machine's: in whatever order is drawn, put together.
-/
import Derived.Test.YtkaolpcfpnckcaaEvDraw3
set_option linter.unusedVariables false
set_option linter.unusedSimpArgs false
namespace Go.Ev
open Go

section
variable {R : Type} {P : Program} {C0 : Com} {ι0 : Locs} {w0 : World}

theorem phase1 {cx : Cx} (hcx : CxOk0 P cx) {call : CallF} (hcall : CallOk P call) {nt : Nat} {ops : Array Oper} {p : List Nat} {nr nm : Nat} {gs : List Nat} (hr : RegOk ops p nr nm gs) {Q : Exit → Act → World → Prop} {d : List Deferred} {k : Env → Mem → Option R} {q : R} (hQ : ∀ c a w, ¬ Q (.panic c) a w) (ht : Then C0 ι0 w0 nt d k q (Q .normal))
    {e0 : Env} {M0 : Mem} {L : List (Bool × Oper)} (hL : ∀ x : Nat, L[x]? = if x < nr + nm then (p[x]?).bind fun i => (ops[i]?).map fun o => ((match idx gs i with | some _ => true | none => false), o) else none)
    {vs : List V} {Xs : List Mem} (hvl : vs.length = nr + nm) (hXl : Xs.length = nr + nm)
    (hrec : ∀ (i : Nat) (g : Bool) (o : Oper) (v : V) (X : Mem), L[i]? = some (g, o) → vs[i]? = some v → Xs[i]? = some X → OkAt cx call nt ops.toList (puts e0 ((L.map (·.2)).take i) (vs.take i)) (M0 ++ (Xs.take i).flatten) g o v X)
    {ef : Env} (hef : ∀ t, getE ef t = getE (puts e0 (L.map (·.2)) vs) t) (hk : evOps cx call nt ops.toList (((pickO ops.toList gs p).map (·.2)).drop (nr + nm)) ef (M0 ++ Xs.flatten) k = some q) :
    ∀ (rem : List Nat) (fuel : Nat) (listed : Array Bool) {a : Act} {C : Com} {ι : Locs} {w : World}, rem.Nodup → (∀ x ∈ rem, nr ≤ x ∧ x < nr + nm) → fuel = rem.length + (ops.size - (nr + nm)) → listed.size = ops.size → LD p (fun x => x < nr + nm ∧ x ∉ rem) listed → Down ops (fun j => listed.getD j false = true) →
      a.tmps.size = nt → a.defers = d → Inv C0 ι0 w0 C ι (M0 ++ accX (fun x => decide (x ∉ rem)) 0 Xs) w → (∀ t, RV w C ι (a.tmps.getD t undef) (valD (fun x => decide (x ∉ rem)) 0 (L.map (·.2)) vs t (getE e0 t))) →
      wpAny P .any ops Q fuel listed a w := by
  have pl := hr.len
  have hple := hr.le
  have Lat : ∀ {x : Nat} {o : Oper}, (L.map (·.2))[x]? = some o → x < nr + nm ∧ ∃ i, p[x]? = some i ∧ ops[i]? = some o := fun {x o} h => by
    rw [List.getElem?_map, hL] at h
    split at h
    · rename_i hx
      refine ⟨hx, ?_⟩
      cases hp : p[x]? with
      | none => rw [hp] at h; cases h
      | some i =>
        rw [hp] at h
        cases ho : ops[i]? with
        | none => simp [ho] at h
        | some o' => simp [ho] at h; subst h; exact ⟨i, rfl, ho⟩
    · cases h
  have uniq : ∀ (t : Nat) (x y : Nat) (o o' : Oper), (L.map (·.2))[x]? = some o → (L.map (·.2))[y]? = some o' → o.dst = some t → o'.dst = some t → x = y := by
    intro t x y o o' hx hy h1 h2
    obtain ⟨hx1, i, hpx, hox⟩ := Lat hx
    obtain ⟨hy1, j, hpy, hoy⟩ := Lat hy
    by_cases e : x = y
    · exact e
    · exact absurd h1 ((hr.early x y i j o o' t hx1 hy1 e hpx hpy hox hoy h2).1)
  intro rem
  generalize hn' : rem.length = n
  induction n generalizing rem with
  | zero =>
    intro fuel listed a C ι w _ _ hf hs hl hdown hn hdf hi hv
    have : rem = [] := List.eq_nil_of_length_eq_zero hn'
    subst this
    rw [accX_all (fun j X _ => .inl (by simp))] at hi
    refine phase2 hcx hcall hr hQ ht fuel (nr + nm) listed (by omega) (Nat.le_refl _) hs (fun j => ?_) hdown hk hn hdf hi (fun t => ?_)
    · rw [hl j]
      constructor
      · rintro ⟨x, h1, h2⟩; exact ⟨x, h1.1, h2⟩
      · rintro ⟨x, h1, h2⟩; exact ⟨x, ⟨h1, by simp⟩, h2⟩
    · have := hv t
      rw [hef, puts_get (i := 0) (fun x y o o' h1 h2 h3 h4 => uniq t x y o o' h1 h2 h3 h4)]
      simpa using this
  | succ n ih =>
    intro fuel listed a C ι w hnd hlt hf hs hl hdown hn hdf hi hv
    have hne : rem ≠ [] := by intro h; subst h; simp at hn'
    obtain ⟨z, hz1, hz2⟩ := least rem (fun x => p.getD x 0) hne
    have hzc := hlt z hz1
    obtain ⟨fuel', rfl⟩ : ∃ f, fuel = f + 1 := ⟨fuel - 1, by omega⟩
    have unl : ∀ j, j < ops.size → listed.getD j true = listed.getD j false := fun j hj => by simp [hs, hj]
    have inp : ∀ {x i : Nat}, p[x]? = some i → i < ops.size := fun h => hr.lt _ (List.mem_of_getElem? h)
    have hnl : ∀ {x i : Nat}, p[x]? = some i → x ∈ rem → listed.getD i false = false := fun {x i} hx hm => by
      rw [Bool.eq_false_iff]
      intro h
      obtain ⟨y, hy1, hy2⟩ := (hl i).1 h
      have := nodup_inj hr.nd hy2 hx
      subst this
      exact hy1.2 hm
    have hpz : p[z]? = some p[z] := by simp
    generalize hiz : p[z] = iz at hpz
    have hizlt := inp hpz
    have hoz : ops[iz]? = some ops[iz] := by simp [hizlt]
    have hready : iz ∈ Region.ready .any ops listed := by
      refine mem_ready.2 ⟨by rw [unl _ hizlt]; exact hnl hpz hz1, _, hoz, fun e he hb => ?_⟩
      have hlt2 := hr.back iz _ hoz e (by simpa using he) hb
      obtain ⟨y, hy⟩ := hr.all e.on (by omega)
      refine (hl e.on).2 ⟨y, ⟨?_, fun hm => ?_⟩, hy⟩
      · rcases Nat.lt_or_ge y (nr + nm) with h1 | h1
        · exact h1
        · have := bit_le hr ((hr.late y z e.on iz h1 hzc.1 (by omega) hy hpz).resolve_right fun h => by omega)
          omega
      · have := hz2 y hm
        simp only [List.getD_eq_getElem?_getD, hpz, hy, Option.getD_some] at this
        omega
    refine ⟨fun h0 => by rw [h0] at hready; simp at hready, fun i hir => ?_⟩
    obtain ⟨h0, o, ho, hall⟩ := mem_ready.1 hir
    have hilt := (Array.getElem?_eq_some_iff.1 ho).1
    have hSi : Down ops (fun j => listed.getD j false = true ∨ j = i) := by
      intro j o' hj hS e he hb
      rcases hS with hS | rfl
      · exact .inl (hdown j o' hj hS e he hb)
      · rw [ho] at hj; cases hj
        exact .inl (hall e (by simpa using he) hb)
    obtain ⟨x, hx⟩ := hr.all i hilt
    have hxmem : x ∈ rem := by
      by_cases hm : x ∈ rem
      · exact hm
      · exfalso
        rcases Nat.lt_or_ge x (nr + nm) with h1 | h1
        · have := (hl i).2 ⟨x, ⟨h1, hm⟩, hx⟩
          rw [← unl _ hilt, h0] at this; cases this
        · have hb := (hr.late x z i iz h1 hzc.1 (by omega) hx hpz).resolve_right fun h => by omega
          rcases clos_down hSi (i := i) (.inr rfl) hb with h2 | h2
          · rw [hnl hpz hz1] at h2; cases h2
          · subst h2
            have := nodup_inj hr.nd hx hpz
            subst this; exact hm hz1
    have hxc := hlt x hxmem
    have hLx : L[x]? = some ((match idx gs i with | some _ => true | none => false), o) := by rw [hL, if_pos hxc.2, hx]; simp [ho]
    generalize hgg : (match idx gs i with | some _ => true | none => false) = g at hLx
    have hLo : (L.map (·.2))[x]? = some o := by rw [List.getElem?_map, hLx]; rfl
    have hvi : vs[x]? = some (vs[x]'(by omega)) := by simp
    generalize hvv : vs[x]'(by omega) = v at hvi
    have hXi : Xs[x]? = some (Xs[x]'(by omega)) := by simp
    generalize hXX : Xs[x]'(by omega) = X at hXi
    obtain ⟨hdst, hgX, hg⟩ := hrec x g o v X hLx hvi hXi
    -- who adds entries
    have grower : ∀ {y : Nat} {Y : Mem} {j : Nat}, Xs[y]? = some Y → p[y]? = some j → Y = [] ∨ (idx gs j).isSome = true := by
      intro y Y j hY hj
      have hyc : y < nr + nm := by rw [← hXl]; exact lt_of_get hY
      have hjlt := inp hj
      have hLy : L[y]? = some ((match idx gs j with | some _ => true | none => false), ops[j]) := by rw [hL, if_pos hyc, hj]; simp [hjlt]
      have hvy : vs[y]? = some (vs[y]'(by omega)) := by simp
      obtain ⟨_, h2, _⟩ := hrec y _ _ _ _ hLy hvy hY
      cases hi : idx gs j with
      | none => rw [hi] at h2; exact .inl (h2 rfl)
      | some _ => exact .inr rfl
    -- the entries as they stand
    have hA : accX (fun x => decide (x ∉ rem)) 0 (Xs.take x) = (Xs.take x).flatten := by
      refine accX_all (fun y Y hY => ?_)
      have hyx : y < x := by
        have := lt_of_get hY
        simp at this; omega
      have hY' : Xs[y]? = some Y := by rw [List.getElem?_take, if_pos hyx] at hY; exact hY
      have hpy : p[y]? = some p[y] := by simp
      rcases grower hY' hpy with h1 | h1
      · exact .inr h1
      · left
        simp only [Nat.zero_add, decide_eq_true_eq]
        intro hm
        have hb := hr.grow x y i _ hxc.1 hxc.2 hyx hx hpy h1
        rcases clos_down hSi (i := i) (.inr rfl) hb with h2 | h2
        · rw [hnl hpy hm] at h2; cases h2
        · have := nodup_inj hr.nd (h2 ▸ hpy) hx
          omega
    obtain ⟨Y, hY⟩ : ∃ Y, Y = accX (fun x => decide (x ∉ rem)) (0 + x) (Xs.drop x) := ⟨_, rfl⟩
    have hcur : M0 ++ accX (fun x => decide (x ∉ rem)) 0 Xs = M0 ++ (Xs.take x).flatten ++ Y := by
      rw [accX_split (n := x), hA, ← hY, List.append_assoc]
    have hdropx : Xs.drop x = X :: Xs.drop (x + 1) := by
      rw [List.drop_eq_getElem_cons (by omega), hXX]
    have hY' : Y = accX (fun x => decide (x ∉ rem)) (0 + x + 1) (Xs.drop (x + 1)) := by
      rw [hY, hdropx]
      simp only [accX, Nat.zero_add, hxmem, not_true_eq_false, decide_false, cond_false, List.nil_append]
    have hmem : ∀ j, j ∈ rem.erase x ↔ j ≠ x ∧ j ∈ rem := fun j => hnd.mem_erase_iff
    have hnew : accX (fun y => decide (y ∉ rem.erase x)) 0 Xs = (Xs.take x).flatten ++ (X ++ Y) := by
      rw [accX_split (n := x)]
      congr 1
      · rw [← hA]
        refine accX_congr (fun y Z hZ => ?_)
        have := lt_of_get hZ
        simp at this
        congr 1
        simp only [Nat.zero_add, hmem]
        exact propext ⟨fun h hm => h ⟨by omega, hm⟩, fun h hm => h hm.2⟩
      · rw [hdropx]
        simp only [accX, Nat.zero_add]
        have e1 : decide (x ∉ rem.erase x) = true := by simp [hmem]
        rw [e1, cond_true]
        congr 1
        rw [hY']
        simp only [Nat.zero_add]
        refine accX_congr (fun y Z hZ => ?_)
        congr 1
        simp only [hmem]
        exact propext ⟨fun h hm => h ⟨by omega, hm⟩, fun h hm => h hm.2⟩
    have hYg : g = true → Y = [] := by
      intro hgt
      rw [hY']
      refine accX_none (fun y Z hZ => ?_)
      have hZ' : Xs[x + 1 + y]? = some Z := by rw [List.getElem?_drop] at hZ; exact hZ
      have hlt3 := lt_of_get hZ'
      have hpy : p[x + 1 + y]? = some (p[x + 1 + y]'(by omega)) := by simp
      rcases grower hZ' hpy with h1 | h1
      · exact .inr h1
      · left
        simp only [Nat.zero_add, decide_eq_false_iff_not, Decidable.not_not]
        by_cases hm : x + 1 + y ∈ rem
        · exact hm
        · exfalso
          have hgi : (idx gs i).isSome = true := by
            rw [hgt] at hgg
            cases hi2 : idx gs i with
            | none => rw [hi2] at hgg; cases hgg
            | some _ => rfl
          have hb := hr.grow (x + 1 + y) x _ i (by omega) (by omega) (by omega) hpy hx hgi
          have hd2 : listed.getD (p[x + 1 + y]'(by omega)) false = true := (hl _).2 ⟨_, ⟨by omega, hm⟩, hpy⟩
          have := clos_down hdown hd2 hb
          rw [hnl hx hxmem] at this; cases this
    have hXY : X ++ Y = Y ++ X := by
      cases hgc : g with
      | true => rw [hYg hgc]; simp
      | false => rw [hgX hgc]; simp
    have hcur' : M0 ++ accX (fun y => decide (y ∉ rem.erase x)) 0 Xs = (M0 ++ accX (fun x => decide (x ∉ rem)) 0 Xs) ++ X := by
      rw [hnew, hcur, hXY]; simp
    -- what the operation looks at is there
    have look : ∀ t ∈ o.looksAt ops, getE (puts e0 ((L.map (·.2)).take x) (vs.take x)) t = valD (fun y => decide (y ∉ rem)) 0 (L.map (·.2)) vs t (getE e0 t) := by
      intro t htl
      rw [puts_get (i := 0) (fun y z' o1 o2 h1 h2 h3 h4 => by
        rw [List.getElem?_take] at h1 h2
        split at h1
        · split at h2
          · exact uniq t y z' o1 o2 h1 h2 h3 h4
          · cases h2
        · cases h1)]
      have := valD_take (t := t) (x := getE e0 t) (L := L.map (·.2)) (vs := vs) (n := x) (i := 0)
      rw [← this]
      refine valD_congr (fun y o' hj hd => ?_)
      simp only [Nat.zero_add]
      obtain ⟨hyc, j, hpj, hoj⟩ := Lat hj
      by_cases hyx : y = x
      · subst hyx; simp [hxmem]
      · have h2 := (hr.early x y i j o o' t hxc.2 hyc (fun e => hyx e.symm) hx hpj ho hoj hd).2 htl
        have hnm : y ∉ rem := by
          rcases h2.2 with h3 | h3
          · intro hm; have := hlt y hm; omega
          · rcases clos_down hSi (i := i) (.inr rfl) h3 with h4 | h4
            · intro hm; rw [hnl hpj hm] at h4; cases h4
            · subst h4; exact absurd (nodup_inj hr.nd hpj hx) hyx
        simp [h2.1, hnm]
    have hrd : ∀ y, RV w C ι (a.eval y) (rdD (fun t => valD (fun y => decide (y ∉ rem)) 0 (L.map (·.2)) vs t (getE e0 t)) y) := by
      intro y
      cases y with
      | tmp t => exact hv t
      | _ => exact ER.rd (e := []) (fun t => by simp [getE, find, RV]) _
    have hcong : ∀ y ∈ o.op.operands, rdE (puts e0 ((L.map (·.2)).take x) (vs.take x)) y = rdD (fun t => valD (fun y => decide (y ∉ rem)) 0 (L.map (·.2)) vs t (getE e0 t)) y := by
      intro y hy
      cases y with
      | tmp t =>
        simp only [rdE, rdD]
        refine look t ?_
        unfold Oper.looksAt
        exact List.mem_append_left _ (List.mem_filterMap.2 ⟨.tmp t, by simpa using hy, rfl⟩)
      | const v => exact rdE_const v
      | _ => rfl
    -- behind it
    have next : ∀ (u : Value) (C' : Com) (ι' : Locs) (w' : World), Go1 C ι (M0 ++ accX (fun x => decide (x ∉ rem)) 0 Xs) w C' ι' (M0 ++ accX (fun x => decide (x ∉ rem)) 0 Xs ++ X) w' (fun _ => False) → RV w' C' ι' u v → wpAny P .any ops Q fuel' (listed.setIfInBounds i true) (a.put o.dst u) w' := by
      intro u C' ι' w' g1 hu
      refine ih (rem.erase x) (by rw [List.length_erase_of_mem hxmem, hn']; rfl) fuel' _ (hnd.erase x) (fun j hj => hlt j ((hmem j).1 hj).2) (by omega) (by simpa using hs) (fun j => ?_) ?_ (put_size.trans hn) (put_defers.trans hdf) (by rw [hcur']; exact hi.go g1) (fun t => ?_)
      · rw [(hl.set hx (by omega)) j]
        constructor
        · rintro ⟨y, h1 | h1, h2⟩
          · exact ⟨y, ⟨h1.1, fun hm => h1.2 ((hmem y).1 hm).2⟩, h2⟩
          · subst h1; exact ⟨y, ⟨hxc.2, fun hm => ((hmem y).1 hm).1 rfl⟩, h2⟩
        · rintro ⟨y, h1, h2⟩
          by_cases hyx : y = x
          · exact ⟨y, .inr hyx, h2⟩
          · exact ⟨y, .inl ⟨h1.1, fun hm => h1.2 ((hmem y).2 ⟨hyx, hm⟩)⟩, h2⟩
      · intro j o' hj hS e he hb
        have e3 : ∀ j, (listed.setIfInBounds i true).getD j false = true ↔ listed.getD j false = true ∨ j = i := by
          intro j
          by_cases e : i = j
          · subst e; simp [hs, hilt]
          · rw [getD_set_ne false e]
            exact ⟨.inl, fun h => h.resolve_right (fun h => e h.symm)⟩
        exact (e3 _).2 (hSi j o' hj ((e3 _).1 hS) e he hb)
      · by_cases hd : o.dst = some t
        · rw [valD_at hLo hvi hd (by simp [hmem]) (fun y o' hq hp => uniq t y x o' o hq hLo hp hd)]
          have htn : t < a.tmps.size := by rw [hn]; rw [hd] at hdst; simpa [dstOk, Nat.blt_eq] using hdst
          rw [hd]
          simpa [Act.put, htn] using hu
        · have e1 : (a.put o.dst u).tmps.getD t undef = a.tmps.getD t undef := by
            cases hdd : o.dst with
            | none => rfl
            | some d' =>
              have hne' : d' ≠ t := fun e => hd (by rw [hdd, e])
              simp [Act.put, Array.getElem?_setIfInBounds_ne hne']
          rw [e1, valD_congr (D' := fun j => decide (j ∉ rem)) (fun j o' hj hp => by
            have hji : j ≠ x := fun e => by subst e; rw [hLo] at hj; cases hj; exact hd hp
            simp only [Nat.zero_add]
            congr 1
            exact propext ⟨fun h hm => h ((hmem j).2 ⟨hji, hm⟩), fun h hm => h ((hmem j).1 hm).2⟩)]
          exact g1.rv (hv t)
    have exec : RunM cx call g o (rdE (puts e0 ((L.map (·.2)).take x) (vs.take x))) (M0 ++ (Xs.take x).flatten) v X → o.wp P a w (wpAny P .any ops Q fuel' (listed.setIfInBounds i true)) Q := by
      intro h
      cases hgc : g with
      | false =>
        rw [hgc] at h
        obtain ⟨h, hX0⟩ := h
        rw [evOpQ_congr hcong] at h
        have h := evOpQ_ext (X := Y) h
        rw [← hcur] at h
        refine upon_of_after (evOpQ_ok hcx hcall (o := o) (ρ := a.eval) hi.st hrd (fun _ => rfl) h (Nx := fun u w' => wpAny P .any ops Q fuel' (listed.setIfInBounds i true) (a.put o.dst u) w') ?_) (fun u w' h => h)
        intro u v' C' w' hv' g1 hu
        cases hv'
        refine next u C' ι w' ?_ hu
        rw [hX0, List.append_nil]; exact g1
      | true =>
        rw [hgc] at h
        have h : evOpG cx call o.op (rdE (puts e0 ((L.map (·.2)).take x) (vs.take x))) (M0 ++ (Xs.take x).flatten) (fun v X => some (v, X)) = some (v, X) := h
        rw [evOpG_congr hcong] at h
        have hc2 := hcur
        rw [hYg hgc, List.append_nil] at hc2
        rw [← hc2] at h
        refine upon_of_after (evOpG_ok hcx hcall (o := o) (ρ := a.eval) hi.st hrd (fun _ => rfl) h (Nx := fun u w' => wpAny P .any ops Q fuel' (listed.setIfInBounds i true) (a.put o.dst u) w') ?_) (fun u w' h => h)
        intro u C' ι' w' g1 hu
        exact next u C' ι' w' g1 hu
    have skip : X = [] → v = .tup [] → wpAny P .any ops Q fuel' (listed.setIfInBounds i true) (a.put o.dst undef) w := by
      intro h1 h2
      subst h2
      refine next undef C ι w ?_ (by unfold RV; exact ⟨#[], rfl, by simp [RVs]⟩)
      rw [h1, List.append_nil]
      exact Go1.refl hi.st
    unfold wpOp
    rw [ho]
    simp only
    cases hgd : o.guard with
    | none =>
      rw [hgd] at hg
      rw [if_pos (by simp [Region.wanted, hgd])]
      exact .inl (exec hg)
    | some jw =>
      obtain ⟨j, want⟩ := jw
      rw [hgd] at hg
      obtain ⟨gg, t, hj, hgt, hor⟩ := hg
      have htl : t ∈ o.looksAt ops := by
        unfold Oper.looksAt
        refine List.mem_append_right _ ?_
        have hjo : ops[j]? = some gg := by simpa using hj
        simp [hgd, hjo, hgt]
      have hvt := hv t
      rw [← look t htl] at hvt
      rcases hor with ⟨b, hb, hcase⟩ | ⟨⟨xs, hx2⟩, hvx, hXx⟩
      · have hbt : a.tmps.getD t undef = .bool b := by
          rcases hb with hb | hb
          · rw [hb] at hvt; unfold RV at hvt; exact hvt
          · rw [hb] at hvt; unfold RV RD at hvt; exact hvt
        have hw : Region.wanted o (yielded ops a.tmps) = (b == want) := by
          simp only [Region.wanted, hgd, yielded_of rfl hj hgt hbt]
          cases b <;> cases want <;> rfl
        rw [hw]
        rcases hcase with ⟨e1, h1⟩ | ⟨e1, h1, h2⟩
        · rw [if_pos (by simpa using e1)]; exact .inl (exec h1)
        · rw [if_neg (by simpa using e1)]
          exact skip h2 h1
      · rw [hx2] at hvt; unfold RV at hvt
        obtain ⟨cs, hc, _⟩ := hvt
        have hw : Region.wanted o (yielded ops a.tmps) = false := by
          simp only [Region.wanted, hgd, yielded_tup rfl hj hgt hc]
          cases want <;> rfl
        rw [hw, if_neg (by simp)]
        exact skip hXx hvx
end
end Go.Ev
