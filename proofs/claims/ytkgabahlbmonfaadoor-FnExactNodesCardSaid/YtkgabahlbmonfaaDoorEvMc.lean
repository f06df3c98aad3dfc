import Derived.Test.YtkgabahlbmonfaaDoorEvMb
set_option linter.unusedVariables false
set_option linter.unusedSimpArgs false
/-
  The evaluator's operations are the machine's: variables, structs, literals, rows of zeros, bytes of a text.
-/
namespace Go.Ev
open Go

def putW (cs : List Value) (off : Nat) : List Value → List Value
  | [] => cs
  | v :: vs => putW (cs.set off v) (off + 1) vs

theorem putW_RVs {w : World} {C : Com} {ι : Locs} : ∀ {us : List Value} {xs : List V} {cs : List Value} {ds : List V} {off : Nat}, RVs w C ι us xs → RVs w C ι cs ds → RVs w C ι (putW cs off us) (putAt ds off xs)
  | [], [], _, _, _, _, h => by simpa [putW, putAt] using h
  | [], _ :: _, _, _, _, h, _ => by simp [RVs] at h
  | _ :: _, [], _, _, _, h, _ => by simp [RVs] at h
  | u :: us, x :: xs, cs, ds, off, h, h' => by
    unfold RVs at h
    simp only [putW, putAt]
    exact putW_RVs h.2 (h'.set off h.1)

theorem fold_putW (off : Nat) : ∀ (l : List Value) (k : Nat) (cs : Array Value), ((l.zipIdx k).foldl (fun (cs : Array Value) (p : Value × Nat) => cs.setIfInBounds (off + p.2) p.1) cs).toList = putW cs.toList (off + k) l
  | [], k, cs => by simp [putW]
  | v :: l, k, cs => by
    simp only [List.zipIdx_cons, List.foldl_cons]
    rw [fold_putW off l (k + 1)]
    simp [putW, Array.toList_setIfInBounds, Nat.add_assoc]

theorem fill_cells (arr : Array Value) (off : Nat) (cs : Array Value) : (arr.zipIdx.foldl (fun (cs : Array Value) (c, j) => cs.setIfInBounds (off + j) c) cs).toList = putW cs.toList off arr.toList := by
  have := fold_putW off arr.toList 0 cs
  rw [← Array.toList_zipIdx, Array.foldl_toList] at this
  simpa using this

theorem putW_len : ∀ (l cs : List Value) (off : Nat), (putW cs off l).length = cs.length
  | [], _, _ => rfl
  | v :: l, cs, off => by simp [putW, putW_len l]

theorem putW_eq : ∀ (vs cs : List Value) (off : Nat), off + vs.length ≤ cs.length → putW cs off vs = cs.take off ++ vs ++ cs.drop (off + vs.length)
  | [], cs, off, _ => by simp [putW]
  | v :: vs, cs, off, h => by
    simp only [List.length_cons] at h
    unfold putW
    rw [putW_eq vs (cs.set off v) (off + 1) (by simp; omega)]
    have h1 : (cs.set off v).take (off + 1) = cs.take off ++ [v] := by
      rw [List.take_set, List.take_add_one]
      rw [List.set_append_right _ _ (by simp; omega)]
      simp
      rw [Nat.min_eq_left (by omega)]
      simp [show off < cs.length by omega]
    have h2 : (cs.set off v).drop (off + 1 + vs.length) = cs.drop (off + (v :: vs).length) := by
      rw [List.drop_set_of_lt (by omega)]
      simp [Nat.add_assoc, Nat.add_comm 1]
    rw [h1, h2]; simp

section
variable {R : Type} {P : Program} {C : Com} {ι : Locs} {M : Mem} {w : World}

theorem places_ok : ∀ (fs : List Field), (∀ f ∈ fs, ∃ n, ∀ w, (sizeOf f.type).run P w = .ok n w) → ∃ places : List (Nat × Nat), (∀ w, (fs.mapM fun f => do let n ← sizeOf f.type; pure (f.offset, n) : Sem (List (Nat × Nat))).run P w = .ok places w) ∧
    ∀ (i : Nat) (f : Field), fs[i]? = some f → ∃ n, places[i]? = some (f.offset, n) ∧ ∀ w, (sizeOf f.type).run P w = .ok n w
  | [], _ => ⟨[], fun _ => rfl, fun i f h => by simp at h⟩
  | f :: fs, h => by
    obtain ⟨n, hn⟩ := h f (by simp)
    obtain ⟨ps, h1, h2⟩ := places_ok fs (fun f hf => h f (by simp [hf]))
    refine ⟨(f.offset, n) :: ps, fun w => ?_, fun i g hg => ?_⟩
    · rw [List.mapM_cons]
      simp only [Sem.run_bind, hn, Result.andThen_ok, Sem.run_pure, h1]
    · cases i with
      | zero => simp at hg; subst hg; exact ⟨n, by simp, hn⟩
      | succ i => simp at hg; obtain ⟨m, e1, e2⟩ := h2 i g hg; exact ⟨m, by simpa using e1, e2⟩

theorem parts_ok {cx : Cx} (hcx : TyOk P cx) {fs : List (Nat × TypeId)} {fields : List Field} (hfs : fields.map (fun f => (f.offset, f.type)) = fs) {places : List (Nat × Nat)} (hp : ∀ (i : Nat) (f : Field), fields[i]? = some f → ∃ n, places[i]? = some (f.offset, n) ∧ ∀ w, (sizeOf f.type).run P w = .ok n w) :
    ∀ {parts : List (Nat × V)} {vals : List (Nat × Value)} {cs ds : List V} {us : Array Value}, partsOf cx fs cs parts = some ds → vals.map (·.1) = parts.map (·.1) → RVs w C ι (vals.map (·.2)) (parts.map (·.2)) → RVs w C ι us.toList cs →
      ∃ us' : Array Value, Instr.fill (places.toArray[·]?) us vals = some us' ∧ RVs w C ι us'.toList ds
  | [], [], cs, ds, us, h, _, _, hu => by simp [partsOf] at h; subst h; exact ⟨us, rfl, hu⟩
  | [], _ :: _, _, _, _, _, h, _, _ => by simp at h
  | _ :: _, [], _, _, _, _, h, _, _ => by simp at h
  | (i, v) :: parts, (j, u) :: vals, cs, ds, us, h, he, hv, hu => by
    simp only [List.map_cons, List.cons.injEq] at he
    obtain ⟨hij, he⟩ := he
    simp only [List.map_cons] at hv
    unfold RVs at hv
    try simp only at hij
    subst hij
    simp only [partsOf] at h
    cases hf : fs[j]? with
    | none => rw [hf] at h; cases h
    | some p =>
      obtain ⟨off, t⟩ := p
      rw [hf] at h; simp only at h
      cases hT : find cx.ty t with
      | none => rw [hT] at h; cases h
      | some T =>
        rw [hT] at h; simp only at h
        obtain ⟨hc, h⟩ := bif_some h
        simp only [Bool.and_eq_true] at hc
        obtain ⟨h1, h2, h3⟩ := hc
        have h1 := Nat.eq_of_beq_eq_true h1
        have h3 := Nat.le_of_ble_eq_true h3
        rw [← hfs] at hf
        simp only [List.getElem?_map, Option.map_eq_some_iff] at hf
        obtain ⟨f, hf, e⟩ := hf
        cases e
        obtain ⟨n, hn1, hn2⟩ := hp j f hf
        have hsz : n = T.size := by
          have a := hn2 w
          rw [(hcx.ty _ _ hT).size w] at a; cases a; rfl
        have hcells := hv.1.cells h2
        have hlen := hcells.length
        have hul := hu.length
        obtain ⟨us', e1, e2⟩ := parts_ok hcx hfs hp (vals := vals) h he hv.2 (us := u.cells.zipIdx.foldl (fun (cs : Array Value) (c, j) => cs.setIfInBounds (f.offset + j) c) us) (by rw [fill_cells]; exact putW_RVs hcells hu)
        refine ⟨us', ?_, e2⟩
        simp only [Instr.fill, List.getElem?_toArray, hn1]
        simp at hlen hul
        rw [if_neg (by simp; omega)]
        simp only [List.getElem?_toArray] at e1
        exact e1

/-- A literal's rows. -/
theorem lit_ok {sz : Nat} : ∀ {parts : List (Nat × V)} {vals : List (Nat × Value)} {i : Nat} {M : Mem} {es : List (List D)} {M' : Mem} {C : Com} {us : Array Value} {done : List D}, litEs sz i M parts = some (es, M') → vals.map (·.1) = parts.map (·.1) → St C ι M w → RVs w C ι (vals.map (·.2)) (parts.map (·.2)) →
      us.size = (i + parts.length) * sz → RVs w C ι (us.toList.take (i * sz)) (toVs done) →
      ∃ (us' : Array Value) (C' : Com), Instr.fill (fun i => some (i * sz, sz)) us vals = some us' ∧ Go1 C ι M w C' ι M' w (fun _ => False) ∧ us'.size = us.size ∧ RVs w C' ι us'.toList (toVs (done ++ es.flatten)) ∧ es.length = parts.length ∧ (∀ c ∈ es, c.length = sz) ∧ M'.length = M.length
  | [], [], i, M, es, M', C, us, done, h, _, hst, _, hs, hd => by
    simp [litEs] at h; obtain ⟨rfl, rfl⟩ := h
    refine ⟨us, C, rfl, Go1.refl hst, rfl, ?_, rfl, fun c hc => by simp at hc, rfl⟩
    simp at hs
    have : us.toList.take (i * sz) = us.toList := List.take_of_length_le (by simp [hs])
    rw [this] at hd
    simpa using hd
  | [], _ :: _, _, _, _, _, _, _, _, _, h, _, _, _, _ => by simp at h
  | _ :: _, [], _, _, _, _, _, _, _, _, h, _, _, _, _ => by simp at h
  | (j, v) :: parts, (j', u) :: vals, i, M, es, M', C, us, done, h, he, hst, hv, hs, hd => by
    simp only [List.map_cons, List.cons.injEq] at he
    obtain ⟨hij, he⟩ := he
    try simp only at hij
    subst hij
    simp only [List.map_cons] at hv
    unfold RVs at hv
    simp only [litEs] at h
    obtain ⟨hc, h'⟩ := bif_some h
    clear h
    have h := h'
    clear h'
    simp only [Bool.and_eq_true] at hc
    obtain ⟨h1, h2, h3⟩ := hc
    have h1 := Nat.eq_of_beq_eq_true h1
    have h3 := Nat.eq_of_beq_eq_true h3
    subst h1
    cases hf : freezeL M v.cells with
    | none => rw [hf] at h; cases h
    | some p =>
      obtain ⟨c, M1⟩ := p
      rw [hf] at h; simp only at h
      cases hr : litEs sz (i + 1) M1 parts with
      | none => rw [hr] at h; cases h
      | some q =>
        obtain ⟨es1, M2⟩ := q
        rw [hr] at h; simp at h; obtain ⟨rfl, rfl⟩ := h
        have hcells := hv.1.cells h2
        have hlen := hcells.length
        obtain ⟨C1, g1, r1, l1, l2⟩ := freezeL_ok hf hst hcells
        have hus : us.size = i * sz + sz + parts.length * sz := by rw [hs]; simp only [List.length_cons, Nat.add_mul, Nat.one_mul]; omega
        have hput := putW_eq u.cells.toList us.toList (i * sz) (by simp at hlen ⊢; omega)
        have hcl : u.cells.size = sz := by simp at hlen; omega
        let us1 : Array Value := u.cells.zipIdx.foldl (fun (cs : Array Value) (c, j) => cs.setIfInBounds (i * sz + j) c) us
        have hus1 : us1.toList = us.toList.take (i * sz) ++ u.cells.toList ++ us.toList.drop (i * sz + u.cells.toList.length) := by
          rw [← hput]; exact fill_cells _ _ _
        have hus1s : us1.size = us.size := by
          have := congrArg List.length hus1
          simp at this ⊢; omega
        obtain ⟨us', C2, e1, g2, e2, e3, e4, e5, e6⟩ := lit_ok hr he g1.st (g1.rvs hv.2) (us := us1) (done := done ++ c) (by rw [hus1s, hs]; simp only [List.length_cons, Nat.add_mul, Nat.one_mul]; omega) (by
          rw [hus1, show (i + 1) * sz = i * sz + sz by rw [Nat.add_mul, Nat.one_mul]]
          have e0 : (us.toList.take (i * sz) ++ u.cells.toList).length = i * sz + sz := by simp; omega
          rw [List.take_append_of_le_length (by omega), List.take_of_length_le (by omega), toVs_append]
          exact RVs.append (g1.rvs hd) r1)
        refine ⟨us', C2, ?_, g1.trans hst g2 (fun i => by simp), e2.trans hus1s, by simpa using e3, by simp [e4], ?_, e6.trans l1⟩
        · simp only [Instr.fill]
          rw [if_neg (by simp; omega)]
          exact e1
        · intro c' hc'
          cases hc' with
          | head => omega
          | tail _ hc' => exact e5 c' hc'
end
end Go.Ev

/-
  The evaluator's operations are the machine's: all but calls.
-/
namespace Go.Ev
open Go

theorem freezeL_nil {zs : List V} {z : List D} {M' : Mem} (h : freezeL [] zs = some (z, M')) {w : World} {C : Com} {ι : Locs} (hc : ∀ b, C b = 0 ∨ ∃ us T fr, w.heap[b]? = some (.cells us T fr) ∧ C b ≤ us.size) {us : List Value} (hv : ∀ w C ι, RVs w C ι us zs) : RVs w C ι us (toVs z) ∧ z.length = zs.length := by
  have hst : St ⟨C.lim, fun _ => none⟩ [] [] w := ⟨rfl, fun i L e h => by simp at h, fun i j L L' h => by simp at h, hc, fun b m h => by cases h⟩
  obtain ⟨C', _, h2, _, h4⟩ := freezeL_ok h hst (hv w _ [])
  have key : ∀ {M : Mem} {zs : List V} {z : List D} {M' : Mem}, M = [] → freezeL M zs = some (z, M') → M' = [] ∧ ∀ {w C ι us}, RVs w C ι us zs → RVs w C ι us (toVs z) := by
    intro M zs
    induction zs generalizing M with
    | nil => intro z M' hM h; simp [freezeL] at h; obtain ⟨rfl, rfl⟩ := h; exact ⟨hM, fun h => h⟩
    | cons v zs ih =>
      intro z M' hM h
      subst hM
      simp only [freezeL] at h
      cases h1 : freeze1 [] v with
      | none => rw [h1] at h; cases h
      | some p =>
        obtain ⟨x, M1⟩ := p
        rw [h1] at h; simp only at h
        have hx : M1 = [] ∧ ∀ {w C ι u}, RV w C ι u v → RV w C ι u (.d x) := by
          cases v with
          | d y => simp [freeze1] at h1; obtain ⟨rfl, rfl⟩ := h1; exact ⟨rfl, fun {w C ι u} h => by unfold RV at h ⊢; exact h.wk⟩
          | kb b => simp [freeze1] at h1; obtain ⟨rfl, rfl⟩ := h1; exact ⟨rfl, fun {w C ι u} h => by unfold RV at h ⊢; unfold RD; exact h⟩
          | own id => simp [freeze1, getM] at h1
          | ref id o n => simp [freeze1, getM] at h1
          | _ => simp [freeze1] at h1
        obtain ⟨rfl, hx⟩ := hx
        cases h2 : freezeL [] zs with
        | none => rw [h2] at h; cases h
        | some q =>
          obtain ⟨ys, M2⟩ := q
          rw [h2] at h; simp at h; obtain ⟨rfl, rfl⟩ := h
          obtain ⟨e, hr⟩ := ih rfl h2
          refine ⟨e, fun {w C ι us} hu => ?_⟩
          cases us with
          | nil => simp [RVs] at hu
          | cons u us =>
            unfold RVs at hu
            simp only [toVs]
            unfold RVs
            exact ⟨hx hu.1, hr hu.2⟩
  exact ⟨(key rfl h).2 (hv w C ι), h4⟩

/-- A row of equal elements. -/
theorem zeros_RVs {w : World} {C : Com} {ι : Locs} {z : Array Value} {zd : List D} (hz : RVs w C ι z.toList (toVs zd)) : ∀ (k m : Nat), RVs w C ι ((List.range' (m * z.size) (k * z.size)).map fun i => z[i % z.size]!) (toVs (List.replicate k zd).flatten)
  | 0, m => by simp [toVs, RVs]
  | k + 1, m => by
    have hr : List.range' (m * z.size) ((k + 1) * z.size) = List.range' (m * z.size) z.size ++ List.range' ((m + 1) * z.size) (k * z.size) := by
      rw [show (k + 1) * z.size = z.size + k * z.size by rw [Nat.add_mul, Nat.one_mul]; omega, show (m + 1) * z.size = m * z.size + 1 * z.size by rw [Nat.add_mul]]
      have := List.range'_append (s := m * z.size) (m := z.size) (n := k * z.size) (step := 1)
      simp
    rw [hr, List.map_append, List.replicate_succ, List.flatten_cons, toVs_append]
    refine RVs.append ?_ (zeros_RVs hz k (m + 1))
    have e : (List.range' (m * z.size) z.size).map (fun i => z[i % z.size]!) = z.toList := by
      apply List.ext_getElem
      · simp
      · intro i h1 h2
        simp at h1
        simp only [List.getElem_map, List.getElem_range', Nat.one_mul]
        rw [Nat.mul_comm, Nat.mul_add_mod, Nat.mod_eq_of_lt h1]
        simp [h1]
    rw [e]; exact hz

section
variable {R : Type} {P : Program} {C : Com} {ι : Locs} {M : Mem} {w : World}

theorem run_v {s : Sem Value} {u : Value} {w w' : World} (h : s.run P w = .ok u w') : (do pure (Next.value (← s)) : Sem Next).run P w = .ok (.value u) w' := by
  simp only [Sem.run_bind, h, Result.andThen_ok, Sem.run_pure]
theorem run_u {s : Sem Unit} {w w' : World} (h : s.run P w = .ok () w') : (do s; pure Next.skip : Sem Next).run P w = .ok .skip w' := by
  simp only [Sem.run_bind, h, Result.andThen_ok, Sem.run_pure]

theorem fixNil_ok {cx : Cx} {t : TypeId} {u : Value} {v : V} (h : RV w C ι u v) : RV w C ι u (fixNil cx t v) := by
  unfold fixNil
  split
  · split
    · unfold RV RD at h ⊢
      obtain ⟨a, cap, e, h1, h2, _, _, _⟩ := h
      exact ⟨a, cap, e, h1, h2, rfl, fun c hc => by simp at hc, .inl rfl⟩
    · exact h
  · exact h
theorem fixNils_ok {cx : Cx} : ∀ {ts : List TypeId} {us : List Value} {vs : List V}, RVs w C ι us vs → RVs w C ι us (fixNils cx ts vs)
  | [], _, vs, h => by cases vs <;> simpa [fixNils] using h
  | _ :: _, [], [], _ => by simp [fixNils, RVs]
  | _ :: _, _ :: _, [], h => by simp [RVs] at h
  | _ :: _, [], _ :: _, h => by simp [RVs] at h
  | t :: ts, u :: us, v :: vs, h => by
    unfold RVs at h
    simp only [fixNils]
    unfold RVs
    exact ⟨fixNil_ok h.1, fixNils_ok h.2⟩

theorem asD_ok {v : V} {d : D} (h : asD v = some d) {u : Value} (hu : RV w C ι u v) : RD w C u d := by
  cases v <;> simp [asD] at h
  case d x => subst h; unfold RV at hu; exact hu
  case kb b => subst h; unfold RV at hu; unfold RD; exact hu

theorem asI_ok {v : V} {n : Int} (h : asI v = some n) {u : Value} (hu : RV w C ι u v) : ∃ k, u = .int k n := by
  unfold asI at h
  split at h
  · cases h; unfold RV RD at hu; exact ⟨_, hu⟩
  · cases h

theorem RVs.map_of {ρ : Operand → Value} {rd : Operand → V} (hrd : ∀ x, RV w C ι (ρ x) (rd x)) : ∀ l : List Operand, RVs w C ι (l.map ρ) (l.map rd)
  | [] => by simp [RVs]
  | x :: l => by simp only [List.map_cons]; unfold RVs; exact ⟨hrd x, RVs.map_of hrd l⟩
theorem RVs.map_parts {ρ : Operand → Value} {rd : Operand → V} (hrd : ∀ x, RV w C ι (ρ x) (rd x)) : ∀ l : List (Nat × Operand), RVs w C ι (l.map fun p => ρ p.2) (l.map fun p => rd p.2)
  | [] => by simp [RVs]
  | x :: l => by simp only [List.map_cons]; unfold RVs; exact ⟨hrd x.2, RVs.map_parts hrd l⟩

theorem fixParts_fst {cx : Cx} {fs : List (Nat × TypeId)} : ∀ {l : List (Nat × V)}, (fixParts cx fs l).map (·.1) = l.map (·.1)
  | [] => rfl
  | (i, v) :: r => by
    simp only [fixParts, List.map_cons, fixParts_fst (l := r)]
    congr 1
    split <;> rfl
theorem fixParts_ok {cx : Cx} {fs : List (Nat × TypeId)} : ∀ {l : List (Nat × V)} {us : List Value}, RVs w C ι us (l.map (·.2)) → RVs w C ι us ((fixParts cx fs l).map (·.2))
  | [], _, h => h
  | (i, v) :: r, [], h => by simp [RVs] at h
  | (i, v) :: r, u :: us, h => by
    simp only [List.map_cons] at h
    unfold RVs at h
    simp only [fixParts, List.map_cons]
    unfold RVs
    refine ⟨?_, fixParts_ok h.2⟩
    split
    · exact fixNil_ok h.1
    · exact h.1

theorem Go1.fixed (hst : St C ι M w) (us : Array Value) (T : TypeId) (fr : Nat × Nat) : Go1 C ι M w ⟨fun b => if b = w.heap.size then us.size else C b, C.own⟩ ι M (World.more w (.cells us T fr)) (fun _ => False) := by
  obtain ⟨h1, h2⟩ := hst.fixed us T fr
  exact ⟨h1, h2 _, fun i _ hm => hm.elim (fun h => h) False.elim⟩

theorem Nxt.go {k : V → Mem → List Nat → Option R} {r : R} {Nx : Value → World → Prop} (h : Nxt C ι M w k r Nx) {u : Value} {v : V} {M' : Mem} {C' : Com} {ι' : Locs} {w' : World} (hk : k v M' [] = some r) (g : Go1 C ι M w C' ι' M' w' (fun _ => False)) (hv : RV w' C' ι' u v) : Nx u w' :=
  h u v M' [] C' ι' w' hk (g.weak (fun i => by simp)) hv

theorem alloc_ok {t : TypeId} (us : Array Value) {cs : List V} (hst : St C ι M w) (hv : RVs w C ι us.toList cs) {k : V → Mem → List Nat → Option R} {r : R} (h : k (.ptr M.length 0) (M ++ [.box cs]) [] = some r) {Nx : Value → World → Prop} (hn : Nxt C ι M w k r Nx) :
    Nx (.pointer (some ⟨w.heap.size, 0, none⟩)) (World.more w (.cells us t (0, 0))) := by
  have g := Go1.more hst us t (0, 0) ⟨false, 0, 0, w.heap.size, 0, 0⟩ (.box cs) (fun _ => rfl) ⟨.inl rfl, hst.czero (Nat.le_refl _), us, t, (0, 0), more_new, soft0 _, RVs.mono (hst.keeps_more _) (fun _ _ h => grow_get h) _ hv⟩
  refine hn.go h g ?_
  unfold RV
  rw [← hst.len]
  exact ⟨⟨false, 0, 0, w.heap.size, 0, 0⟩, by simp, rfl, rfl⟩

theorem sub_agg {U : TI} {off : Nat} {vs : List V} {t : TypeId} (hT : TIok P t U) {k : V → Option R} {r : R} (h : (bif Nat.ble (off + U.size) vs.length then (bif U.agg then k (.agg ((vs.drop off).take U.size)) else match vs.drop off with | v :: _ => k v | [] => none) else none) = some r) {cs : Array Value} (hv : RVs w C ι cs.toList vs) :
    ∃ u v, (part t cs off).run P w = .ok u w ∧ RV w C ι u v ∧ k v = some r := by
  obtain ⟨hle, h⟩ := bif_some h
  have hle := Nat.le_of_ble_eq_true hle
  have hl := hv.length
  unfold part
  simp only [Sem.run_bind, hT.agg, Result.andThen_ok]
  cases hA : U.agg with
  | true =>
    rw [hA] at h
    simp only [cond_true] at h
    refine ⟨.agg (cs.extract off (off + U.size)), _, ?_, ?_, h⟩
    · simp only [if_true, Sem.run_bind, hT.size, Result.andThen_ok, Sem.run_pure]
    · unfold RV
      refine ⟨_, rfl, ?_⟩
      have := (hv.drop off).take U.size
      simpa [Array.toList_extract, List.extract] using this
  | false =>
    rw [hA] at h
    simp only [cond_false] at h
    cases hd : vs.drop off with
    | nil => rw [hd] at h; cases h
    | cons v rest =>
      rw [hd] at h
      have hg : vs[off]? = some v := by
        have := congrArg (·[0]?) hd
        simpa using this
      obtain ⟨u, e1, e2⟩ := hv.get hg
      refine ⟨u, v, ?_, e2, h⟩
      have : cs[off]? = some u := by simpa using e1
      simp only [Bool.false_eq_true, if_false, this]
      rfl

end
end Go.Ev

/-
  The evaluator's operations are the machine's: all but calls, put together.
-/
namespace Go.Ev
open Go

section
variable {R : Type} {P : Program} {C : Com} {ι : Locs} {M : Mem} {w : World}

theorem bytes_row (hst : St C ι M w) {e : TypeId} (s : ByteArray) {k : V → Mem → List Nat → Option R} {r : R} (h : k (.own M.length) (M ++ [.row 1 s.size false false (byteEs s)]) [] = some r) {Nx : Value → World → Prop} (hn : Nxt C ι M w k r Nx) :
    ∃ u w', (Conv.stringToBytes e s).run P w = .ok u w' ∧ Nx u w' := by
  let cap := (Question.appendCap s.size 0 e).cut (w.tape w.drawn (.appendCap s.size 0 e))
  have hcap : s.size ≤ cap := by simp only [cap, Question.cut]; omega
  let vs : List Value := s.data.toList.map fun b => .int .u8 b.toNat
  let rest : List Value := List.replicate (cap - s.size) (.int .u8 0)
  let us : Array Value := (vs ++ rest).toArray
  have hus : us.size = cap := by simp [us, vs, rest]; omega
  have hch : (choose (.appendCap s.size 0 e)).run P w = .ok cap (World.drew1 w) := rfl
  have harr : (s.data.map (fun b => Value.int .u8 b.toNat) ++ Array.replicate (cap - s.size) (.int .u8 0) : Array Value) = us := by
    apply Array.ext'; simp [us, vs, rest]
  have hnew : (newRow e us).run P (World.drew1 w) = .ok ⟨w.heap.size, 0, none⟩ (World.more (World.drew1 w) (.cells us e (0, 0))) := rfl
  have hmark : (markStringish ⟨w.heap.size, 0, none⟩).run P (World.more (World.drew1 w) (.cells us e (0, 0))) = .ok () (World.more (World.drew1 w) (.cells us e (us.size, us.size + 1))) := by
    have hsh : (World.more (World.drew1 w) (.cells us e (0, 0))).shape? w.heap.size = some (e, us.size) := by
      unfold World.shape?
      have := more_new (w := World.drew1 w) (o := .cells us e (0, 0))
      rw [show (World.drew1 w).heap.size = w.heap.size from rfl] at this
      rw [this]
    unfold markStringish
    have h1 : (shape w.heap.size).run P (World.more (World.drew1 w) (.cells us e (0, 0))) = .ok (some (e, us.size)) (World.more (World.drew1 w) (.cells us e (0, 0))) := by
      show Result.ok _ _ = _
      rw [hsh]
    simp only [Sem.run_bind, h1, Result.andThen_ok]
    show Result.ok () _ = _
    congr 1
    unfold World.freeze
    rw [if_neg (by decide)]
    unfold World.more
    congr 1
    apply Array.ext_getElem?
    intro i
    simp only [Array.getElem?_modify, Array.getElem?_push]
    by_cases hi : i = w.heap.size
    · subst hi; simp [World.drew1]
    · rw [if_neg (fun h => hi h.symm)]
      have : ¬ i = (World.drew1 w).heap.size := hi
      rw [if_neg this, if_neg this]
  have g1 := Go1.drew hst
  have hv : RVs w C ι vs (toVs (byteEs s).flatten) := bytes_RVs _
  have g2 := Go1.more g1.st us e (us.size, us.size + 1) ⟨true, 1, s.size, w.heap.size, 0, cap⟩ (.row 1 s.size false false (byteEs s)) (fun _ => rfl)
    (EntOk.fresh (vs := vs) (rest := rest) g1.st (w1 := World.drew1 w) (g1.rvs hv) (fun c hc => by simp [byteEs] at hc; obtain ⟨_, _, rfl⟩ := hc; rfl) (by simp [byteEs]) hcap (by simp [vs, rest]; omega) e (.inr (Nat.le_refl _)) rfl)
  refine ⟨.slice (some ⟨w.heap.size, 0, none⟩) s.size cap, _, ?_, hn.go h (g1.trans hst g2 (fun i => by simp)) ?_⟩
  · unfold Conv.stringToBytes
    simp only [Sem.run_bind, hch, Result.andThen_ok, Sem.run_pure]
    rw [harr, hnew]
    simp only [Result.andThen_ok, Sem.run_bind, hmark, Sem.run_pure]
  · unfold RV
    rw [← hst.len]
    exact ⟨⟨true, 1, s.size, w.heap.size, 0, cap⟩, by simp, rfl, _, rfl, .inr rfl⟩

/-- A constant's bytes are marked. -/
theorem mark_row (hst : St C ι M w) {id sz n : Nat} {fz mv : Bool} {es : List (List D)} (hM : M[id]? = some (.row sz (n + 1) fz mv es)) {u : Value} (hu : RV w C ι u (.own id)) :
    ∃ w', (∃ a m c, u = .slice (some a) m c) ∧ (match u with | .slice (some a) _ _ => (markStringish a).run P w = .ok () w' | _ => True) ∧ Go1 C ι M w C ι M w' (fun _ => False) := by
  unfold RV at hu
  obtain ⟨L, hL, hrow, a, rfl, ha⟩ := hu
  have hE := hst.ent id L _ hL hM
  obtain ⟨q0, q1, q2, q3, q4, q5, q6⟩ := hE
  have hc : L.cap ≠ 0 := by omega
  have ha := ha.resolve_left hc
  subst ha
  rcases q6 with q6 | ⟨us, T', fr, hh, hsoft, hz, hC, hre⟩
  · exact absurd q6 hc
  have hlt : L.b < w.heap.size := (Array.getElem?_eq_some_iff.1 hh).1
  let w' := w.freeze ⟨L.b, us.size, none⟩ 1
  let fr' : Nat × Nat := if fr.1 == fr.2 then (us.size, us.size + 1) else (min fr.1 us.size, max fr.2 (us.size + 1))
  have hh' : w'.heap[L.b]? = some (.cells us T' fr') := by
    simp only [w', World.freeze]
    rw [if_neg (by decide)]
    simp [Array.getElem?_modify, hh, fr']
  have ho : ∀ b, b ≠ L.b → w'.heap[b]? = w.heap[b]? := fun b hb => by
    simp only [w', World.freeze]
    rw [if_neg (by decide)]
    simp only [Array.getElem?_modify]
    rw [if_neg (fun h => hb (Eq.symm h))]
  have hso : Soft us fr' := by
    simp only [fr']
    unfold Soft at hsoft ⊢
    split
    · exact .inr (Nat.le_refl _)
    · rename_i hne
      have hne : fr.1 ≠ fr.2 := by simpa using hne
      simp only; omega
  have hkp : Keeps w C w' C := by
    refine ⟨fun b o _ => ?_, fun _ => Nat.le_refl _⟩
    by_cases e : b = L.b
    · subst e; rw [cell_of_row hh', cell_of_row hh]
    · exact cell_of_heap (ho b e)
  have hu1 : Upd C ι w id L L C w' := by
    refine ⟨rfl, hst.own, rfl, rfl, rfl, by simp [w', World.freeze], hL, hkp, fun b _ hb => ⟨ho b (hb (.inr hc)), rfl⟩, fun hl => .inl ⟨hl, rfl⟩, rfl, rfl, fun b => ?_⟩
    by_cases e : b = L.b
    · subst e
      rcases hst.com L.b with h | ⟨us2, T2, fr2, h1, h2⟩
      · exact .inl h
      · rw [hh] at h1; cases h1
        exact .inr ⟨us, T', fr', hh', h2⟩
    · rw [ho b e]; exact hst.com b
  have hset : M.set id (.row sz (n + 1) fz mv es) = M := by
    apply List.ext_getElem?
    intro j
    by_cases e : id = j
    · subst e; rw [List.getElem?_set_self (lt_of_get hM), hM]
    · rw [List.getElem?_set_ne e]
  have hsh : w.shape? L.b = some (T', us.size) := by unfold World.shape?; rw [hh]
  refine ⟨w', ⟨_, _, _, rfl⟩, ?_, ?_⟩
  · show (markStringish ⟨L.b, L.base, none⟩).run P w = _
    unfold markStringish
    have h1 : (shape L.b).run P w = .ok (some (T', us.size)) w := by
      show Result.ok _ _ = _
      rw [hsh]
    simp only [Sem.run_bind, h1, Result.andThen_ok]
    rfl
  · have g := hu1.st0 hst (.row sz (n + 1) fz mv es) ⟨hrow, q1, q2, q3, q4, q5, .inr ⟨us, T', fr', hh', hso, hz, hC, REs.mono hkp es (N := L.base + es.length * sz) (fun _ _ _ _ h => h) q5 (Nat.le_refl _) hre⟩⟩
    rw [hset] at g
    exact ⟨g, hu1.stp0, fun i _ hm => hm.elim (fun h => h) False.elim⟩

theorem make_run {t e : TypeId} {T E : TI} (hT : TIok P t T) (hk : T.kind = .sl e) (hE : TIok P e E) (hst : St C ι M w) {n : Int} (hn0 : 0 ≤ n) (hnb : n * E.bytes ≤ maxBytes) {z : List D} {M' : Mem} (hz : freezeL [] E.zero = some (z, M')) :
    ∃ us : Array Value, (Instr.makeSlice t (.int .i64 n) (.int .i64 n)).run P w = .ok (.slice (some ⟨w.heap.size, 0, none⟩) n.toNat n.toNat) (World.more w (.cells us e (0, 0))) ∧ us.size = n.toNat * E.size ∧ z.length = E.size ∧ True ∧ RVs w C ι us.toList (toVs (List.replicate n.toNat z).flatten) ∧ ∃ zv : Array Value, zv.size = E.size ∧ (∀ w C ι, RVs w C ι zv.toList E.zero) ∧ us.toList = (List.range' 0 (n.toNat * zv.size)).map (fun i => zv[i % zv.size]!) := by
  obtain ⟨bi, hbi, hbe⟩ := hE.bytes
  obtain ⟨zv, hzv, hzs, hzr⟩ := hE.zero
  have hb1 := hE.bpos
  have hnle : n ≤ maxBytes := by
    have : n * 1 ≤ n * E.bytes := Int.mul_le_mul_of_nonneg_left (by omega) hn0
    omega
  have hwrap : IntKind.i64.wrap n = n := by
    unfold maxBytes at hnle
    simp only [IntKind.wrap, IntKind.bits, IntKind.signed]
    simp
    omega
  let us : Array Value := (Array.range (n.toNat * E.size)).map (zv.cells[· % zv.cells.size]!)
  have hzl : z.length = E.size ∧ RVs w C ι zv.cells.toList (toVs z) := by
    obtain ⟨h1, h2⟩ := freezeL_nil hz hst.com (us := zv.cells.toList) (fun w C ι => hzr w C ι)
    refine ⟨?_, h1⟩
    have := h1.length
    rw [toVs_len] at this
    simp at this; omega
  have hv : RVs w C ι us.toList (toVs (List.replicate n.toNat z).flatten) := by
    have := zeros_RVs hzl.2 n.toNat 0
    simp only [Nat.zero_mul] at this
    have e : us.toList = (List.range' 0 (n.toNat * zv.cells.size)).map (fun i => zv.cells[i % zv.cells.size]!) := by
      simp [us, hzs, List.range_eq_range']
    rw [e]; exact this
  have hrow : ∃ a, (Instr.makeSlice t (.int .i64 n) (.int .i64 n)).run P w = .ok (.slice (some ⟨w.heap.size, 0, none⟩) n.toNat n.toNat) (World.more w (.cells us e (0, 0))) ∧ a = 0 := by
    refine ⟨0, ?_, rfl⟩
    unfold Instr.makeSlice asInt asIntOf
    simp only [Sem.run_bind, Sem.run_pure, Result.andThen_ok, hT.sl hk, hbi, hwrap]
    have htl : (n < 0 || (bi.bytes : Int) * n > 2 ^ 48) = false := by
      rw [hbe, Int.mul_comm]
      unfold maxBytes at hnb
      simp; omega
    have hcond : ¬ (((n < 0 || (bi.bytes : Int) * n > 2 ^ 48) || decide (n < 0) || decide (n > n)) = true) := by
      rw [htl]; simp; omega
    have hask : (askRoom (n.toNat * bi.bytes)).run P w = .ok () w := by unfold askRoom; split <;> rfl
    rw [if_neg (by simpa using hcond)]
    simp only [Sem.run_bind, hask, Result.andThen_ok, hE.size]
    by_cases h0 : n.toNat * E.size = 0
    · have hus : us = #[] := by simp [us, h0]
      rw [if_pos h0, hus, h0]
      have hr : ∀ zero : Array Value, Array.map (fun x => zero[x % zero.size]!) (Array.range 0) = #[] := fun zero => by simp
      simp only [Sem.run_bind, Sem.run_pure, Result.andThen_ok, hr]
      rfl
    · rw [if_neg h0]
      simp only [Sem.run_bind, hzv, Result.andThen_ok, Sem.run_pure]
      rfl
  obtain ⟨_, hrun, _⟩ := hrow
  exact ⟨us, hrun, by simp [us], hzl.1, trivial, hv, zv.cells, hzs, hzr, by simp [us, hzs, List.range_eq_range']⟩

theorem make_row {t e : TypeId} {T E : TI} (hT : TIok P t T) (hk : T.kind = .sl e) (hE : TIok P e E) (hst : St C ι M w) {n : Int} (hn0 : 0 ≤ n) (hnb : n * E.bytes ≤ maxBytes) {z : List D} {M' : Mem} (hz : freezeL [] E.zero = some (z, M')) {k : V → Mem → List Nat → Option R} {r : R}
    (h : k (.own M.length) (M ++ [.row E.size n.toNat false false (List.replicate n.toNat z)]) [] = some r) {Nx : Value → World → Prop} (hn : Nxt C ι M w k r Nx) :
    ∃ u w', (Instr.makeSlice t (.int .i64 n) (.int .i64 n)).run P w = .ok u w' ∧ Nx u w' := by
  obtain ⟨bi, hbi, hbe⟩ := hE.bytes
  obtain ⟨zv, hzv, hzs, hzr⟩ := hE.zero
  have hb1 := hE.bpos
  have hnle : n ≤ maxBytes := by
    have : n * 1 ≤ n * E.bytes := Int.mul_le_mul_of_nonneg_left (by omega) hn0
    omega
  have hwrap : IntKind.i64.wrap n = n := by
    unfold maxBytes at hnle
    simp only [IntKind.wrap, IntKind.bits, IntKind.signed]
    simp
    omega
  let us : Array Value := (Array.range (n.toNat * E.size)).map (zv.cells[· % zv.cells.size]!)
  have hzl : z.length = E.size ∧ RVs w C ι zv.cells.toList (toVs z) := by
    obtain ⟨h1, h2⟩ := freezeL_nil hz hst.com (us := zv.cells.toList) (fun w C ι => hzr w C ι)
    refine ⟨?_, h1⟩
    have := h1.length
    rw [toVs_len] at this
    simp at this; omega
  have hv : RVs w C ι us.toList (toVs (List.replicate n.toNat z).flatten) := by
    have := zeros_RVs hzl.2 n.toNat 0
    simp only [Nat.zero_mul] at this
    have e : us.toList = (List.range' 0 (n.toNat * zv.cells.size)).map (fun i => zv.cells[i % zv.cells.size]!) := by
      simp [us, hzs, List.range_eq_range']
    rw [e]; exact this
  have hrow : ∃ a, (Instr.makeSlice t (.int .i64 n) (.int .i64 n)).run P w = .ok (.slice (some ⟨w.heap.size, 0, none⟩) n.toNat n.toNat) (World.more w (.cells us e (0, 0))) ∧ a = 0 := by
    refine ⟨0, ?_, rfl⟩
    unfold Instr.makeSlice asInt asIntOf
    simp only [Sem.run_bind, Sem.run_pure, Result.andThen_ok, hT.sl hk, hbi, hwrap]
    have htl : (n < 0 || (bi.bytes : Int) * n > 2 ^ 48) = false := by
      rw [hbe, Int.mul_comm]
      unfold maxBytes at hnb
      simp; omega
    have hcond : ¬ (((n < 0 || (bi.bytes : Int) * n > 2 ^ 48) || decide (n < 0) || decide (n > n)) = true) := by
      rw [htl]; simp; omega
    have hask : (askRoom (n.toNat * bi.bytes)).run P w = .ok () w := by unfold askRoom; split <;> rfl
    rw [if_neg (by simpa using hcond)]
    simp only [Sem.run_bind, hask, Result.andThen_ok, hE.size]
    by_cases h0 : n.toNat * E.size = 0
    · have hus : us = #[] := by simp [us, h0]
      rw [if_pos h0, hus, h0]
      have hr : ∀ zero : Array Value, Array.map (fun x => zero[x % zero.size]!) (Array.range 0) = #[] := fun zero => by simp
      simp only [Sem.run_bind, Sem.run_pure, Result.andThen_ok, hr]
      rfl
    · rw [if_neg h0]
      simp only [Sem.run_bind, hzv, Result.andThen_ok, Sem.run_pure]
      rfl
  obtain ⟨_, hrun, _⟩ := hrow
  have g := Go1.more hst us e (0, 0) ⟨true, E.size, n.toNat, w.heap.size, 0, n.toNat⟩ (.row E.size n.toNat false false (List.replicate n.toNat z)) (fun _ => rfl)
    (by
      have := EntOk.fresh (vs := us.toList) (rest := []) (ι' := ι ++ [⟨true, E.size, n.toNat, w.heap.size, 0, n.toNat⟩]) (es := List.replicate n.toNat z) (sz := E.size) (n := n.toNat) (cap := n.toNat) (fz := false) (mv := false) hst hv (fun c hc => by rw [List.eq_of_mem_replicate hc]; exact hzl.1) (by simp) (Nat.le_refl _) (by simp [us]) e (fr := (0, 0)) (soft0 _) (w1 := w) rfl
      simpa using this)
  refine ⟨_, _, hrun, hn.go h g ?_⟩
  unfold RV
  rw [← hst.len]
  exact ⟨⟨true, E.size, n.toNat, w.heap.size, 0, n.toNat⟩, by simp, rfl, _, rfl, .inr rfl⟩

/-- Zeros behind nothing. -/
theorem zeros_row {t e u0 : TypeId} {T E : TI} (hT : TIok P t T) (hk : T.kind = .sl e) (hE : TIok P e E) {ik : IntKind} {ts : Array TypeId} {ty : TypeId} (hts : ts[0]? = some t) (hu : ts[1]? = some u0) (hd : ∀ w, (underlying u0).run P w = .ok (.int ik) w)
    (hst : St C ι M w) {s x : V} {k : V → Mem → List Nat → Option R} {r : R} (h : evZeros E M s x k = some r) {sv xv : Value} (hs : RV w C ι sv s) (hx : RV w C ι xv x) {Nx : Value → World → Prop} (hn : Nxt C ι M w k r Nx) :
    ∃ u w', (Builtin.append_ ts ty #[sv, xv]).run P w = .ok u w' ∧ Nx u w' := by
  unfold evZeros at h
  split at h
  · rename_i szz ess n
    obtain ⟨hg, h'⟩ := oguard_some h; clear h; have h := h'; clear h'
    obtain ⟨hn0, hnb⟩ := of_decide_eq_true hg
    split at h
    · rename_i z M' hz
      rw [olet_eq] at h
      unfold RV RD at hs hx
      obtain ⟨a, c, rfl, _, hf, _⟩ := hs
      have hc0 := hf rfl; subst hc0
      subst hx
      obtain ⟨bi, hbi, hbe⟩ := hE.bytes
      obtain ⟨zv, hzv, hzs, hzr⟩ := hE.zero
      have hb1 := hE.bpos
      have hnle : n ≤ maxBytes := by
        have : n * 1 ≤ n * E.bytes := Int.mul_le_mul_of_nonneg_left (by omega) hn0
        omega
      have hwrap : IntKind.i64.wrap n = n := by
        unfold maxBytes at hnle
        simp only [IntKind.wrap, IntKind.bits, IntKind.signed]
        simp
        omega
      have hzl : z.length = E.size ∧ RVs w C ι zv.cells.toList (toVs z) := by
        obtain ⟨h1, h2⟩ := freezeL_nil hz hst.com (us := zv.cells.toList) (fun w C ι => hzr w C ι)
        refine ⟨?_, h1⟩
        have := h1.length
        rw [toVs_len] at this
        simp at this; omega
      have hasx : ∀ w' : World, (asInt (.int .i64 n)).run P w' = .ok n w' := fun w' => rfl
      by_cases hz0 : n.toNat = 0
      · -- none
        have hn00 : n = 0 := by omega
        subst hn00
        have hrun : (Builtin.append_ ts ty #[.slice a 0 0, .int .i64 0]).run P w = .ok (.slice a 0 0) w := by
          unfold Builtin.append_
          simp only [hts, hu, List.getElem?_toArray, List.getElem?_cons_zero, List.getElem?_cons_succ, Sem.run_bind, Sem.run_pure, Result.andThen_ok, hT.sl hk, hE.size, hd, if_true, hasx, hwrap]
          have q1 : ¬ ((0 : Int) * (bi.bytes : Int) > 2 ^ 48) := by omega
          simp only [show ¬ ((0 : Int) < 0) by omega, if_false, Sem.run_bind, Sem.run_pure, Result.andThen_ok, hbi, q1]
          rw [if_pos (show 0 + Int.toNat 0 ≤ 0 by decide)]
          have q2 : Int.toNat 0 * E.size = 0 := by simp
          rw [if_neg (by simp), if_pos q2]
          simp only [Sem.run_bind, Sem.run_pure, Result.andThen_ok]
          cases a <;> rfl
        obtain ⟨s1, s2⟩ := hst.nil E.size false false
        have g1 : Go1 C ι M w C (ι ++ [⟨true, E.size, 0, 0, 0, 0⟩]) (M ++ [.row E.size 0 false false []]) w (fun _ => False) := ⟨s1, s2 _, fun i _ hm => mvs_more (hm.elim (fun h => h) False.elim)⟩
        refine ⟨_, _, hrun, hn.go h g1 ?_⟩
        unfold RV
        rw [← hst.len]
        exact ⟨⟨true, E.size, 0, 0, 0, 0⟩, by simp, rfl, a, rfl, .inl rfl⟩
      · -- a new block
        let news : List Value := (Builtin.zeroCells zv.cells n.toNat).toList
        have hnl : news.length = n.toNat * E.size := by simp [news, Builtin.zeroCells, hzs]
        have hv : RVs w C ι news (toVs (List.replicate n.toNat z).flatten) := by
          have := zeros_RVs hzl.2 n.toNat 0
          simp only [Nat.zero_mul] at this
          have e : news = (List.range' 0 (n.toNat * zv.cells.size)).map (fun i => zv.cells[i % zv.cells.size]!) := by
            simp [news, Builtin.zeroCells, List.range_eq_range']
          rw [e]; exact this
        have hq : (Question.appendCap (0 + n.toNat) 0 e).forced = false := rfl
        let cap := (Question.appendCap (0 + n.toNat) 0 e).cut (w.tape w.drawn (.appendCap (0 + n.toNat) 0 e))
        have hcapge : n.toNat ≤ cap := by simp only [cap, Question.cut]; omega
        have hrun : (Builtin.append_ ts ty #[.slice a 0 0, .int .i64 n]).run P w = .ok (.slice (some ⟨w.heap.size, 0, none⟩) (0 + n.toNat) cap) (World.more (World.drew1 w) (.cells (news ++ (Builtin.zeroCells zv.cells (cap - (0 + n.toNat))).toList).toArray e (0, 0))) := by
          unfold Builtin.append_
          simp only [hts, hu, List.getElem?_toArray, List.getElem?_cons_zero, List.getElem?_cons_succ, Sem.run_bind, Sem.run_pure, Result.andThen_ok, hT.sl hk, hE.size, hd, if_true, hasx, hwrap]
          have q1 : ¬ (n * (bi.bytes : Int) > 2 ^ 48) := by rw [hbe]; unfold maxBytes at hnb; omega
          simp only [show ¬ (n < 0) by omega, if_false, Sem.run_bind, Sem.run_pure, Result.andThen_ok, hbi, q1]
          rw [if_neg (show ¬ 0 + n.toNat ≤ 0 by omega)]
          have h1 : ¬ (((0 + n.toNat : Nat) : Int) > IntKind.i64.max ∧ (True ∨ bi.bytes = 0)) := by
            rintro ⟨h, _⟩
            have : IntKind.i64.max = 9223372036854775807 := by decide
            unfold maxBytes at hnle
            omega
          simp only [Sem.run_bind, hbi, Result.andThen_ok]
          rw [if_neg (by simpa using h1)]
          have h2 : ¬ (Builtin.nextslicecap (0 + n.toNat) 0 * bi.bytes > 2 ^ 48) := by
            have : Builtin.nextslicecap (0 + n.toNat) 0 = n.toNat := by unfold Builtin.nextslicecap; rw [if_pos (by omega)]; omega
            rw [this, hbe]
            unfold maxBytes at hnb
            have : ((n.toNat * E.bytes : Nat) : Int) = n * E.bytes := by rw [Int.natCast_mul, Int.toNat_of_nonneg hn0]
            omega
          simp only [Sem.run_bind, Sem.run_pure, Result.andThen_ok, hbi]
          rw [if_neg h2]
          simp only [Sem.run_bind, Sem.run_pure, Result.andThen_ok]
          have hask : ∀ w' : World, (askRoom (cap * bi.bytes)).run P w' = .ok () w' := by
            intro w'; unfold askRoom; split <;> rfl
          have hch' : (choose (.appendCap (0 + n.toNat) 0 e)).run P w = .ok cap (World.drew1 w) := rfl
          have hold : ∀ w' : World, (Builtin.firstCells E.size 0 (.slice a 0 0)).run P w' = .ok #[] w' := by
            intro w'; cases a <;> simp [Builtin.firstCells, loadCells, loadCellsFrom] <;> rfl
          simp only [hch', Result.andThen_ok, Sem.run_bind, hbi, hask, hold, hzv]
          have hnew : ∀ w' : World, ((if n.toNat * E.size = 0 then pure #[] else zeroValue e >>= fun z => pure (Builtin.zeroCells z.cells n.toNat) : Sem (Array Value))).run P w' = .ok news.toArray w' := by
            intro w'
            by_cases h0 : n.toNat * E.size = 0
            · rw [if_pos h0]
              have : news = [] := List.eq_nil_of_length_eq_zero (by omega)
              rw [this]; rfl
            · rw [if_neg h0]
              simp only [Sem.run_bind, hzv, Result.andThen_ok, news]
              rfl
          simp only [Bool.not_true, Bool.false_eq_true, if_false, hnew, Result.andThen_ok]
          have hA : #[] ++ news.toArray ++ Builtin.zeroCells zv.cells (cap - (0 + n.toNat)) = (news ++ (Builtin.zeroCells zv.cells (cap - (0 + n.toNat))).toList).toArray := by
            apply Array.ext'; simp
          rw [hA]
          rfl
        have g := Go1.drew hst
        have hst1 := g.st
        have g2 := Go1.more hst1 (news ++ (Builtin.zeroCells zv.cells (cap - (0 + n.toNat))).toList).toArray e (0, 0) ⟨true, E.size, n.toNat, w.heap.size, 0, cap⟩ (.row E.size n.toNat false false (List.replicate n.toNat z)) (fun _ => rfl)
          (EntOk.fresh hst (hv) (fun c hc => by rw [List.eq_of_mem_replicate hc]; exact hzl.1) (by simp) hcapge (by simp [news, Builtin.zeroCells, hzs]; rw [← Nat.add_mul]; congr 1; omega) e (soft0 _) (w1 := World.drew1 w) rfl)
        refine ⟨_, _, hrun, hn.go h (g.trans hst g2 (fun i => by simp)) ?_⟩
        unfold RV
        rw [← hst.len, Nat.zero_add]
        exact ⟨⟨true, E.size, n.toNat, w.heap.size, 0, cap⟩, by simp, rfl, _, rfl, .inr rfl⟩
    · cases h
  · cases h
end
end Go.Ev

/-
  Texts out of bytes.
-/
namespace Go.Ev
open Go

theorem ostr_some {R : Type} {es : List (List D)} {f : ByteArray → Option R} {r : R} (h : ostr es f = some r) : ∃ l, bytesD es = some l ∧ f ⟨l.toArray⟩ = some r := by
  unfold ostr at h
  split at h
  · exact ⟨_, by assumption, h⟩
  · cases h
theorem ostr_t {R : Type} {es : List (List D)} {f : ByteArray → Option R} {l : List UInt8} (h : bytesD es = some l) : ostr es f = f ⟨l.toArray⟩ := by
  unfold ostr; simp only [h]

section
variable {R : Type} {P : Program} {C : Com} {ι : Locs} {M : Mem} {w : World}

theorem bytes_for : ∀ {es : List (List D)} {l : List UInt8} {us : List Value}, bytesD es = some l → RVs w C ι us (toVs es.flatten) → ∀ (s : ByteArray),
    (forIn us s (fun c s => do
      let .int .u8 n := c | stuck "bytesToString: byte expected"
      pure (ForInStep.yield (s.push (UInt8.ofNat n.toNat)))) : Sem ByteArray).run P w = .ok ⟨s.data ++ l.toArray⟩ w
  | [], l, us, h, hu, s => by
    simp only [bytesD] at h; cases h
    cases us with
    | nil => simp
    | cons u us => simp [toVs, RVs] at hu
  | c :: es, l, us, h, hu, s => by
    simp only [bytesD] at h
    split at h
    · split at h
      · rename_i n
        split at h
        · rename_i l' hl
          cases h
          cases us with
          | nil => simp [toVs, RVs] at hu
          | cons u us =>
            simp only [List.flatten_cons, List.cons_append, List.nil_append, toVs] at hu
            unfold RVs at hu
            have h1 := hu.1
            unfold RV RD at h1
            subst h1
            have ih := bytes_for hl hu.2 (s.push (UInt8.ofNat n.toNat))
            simp only [List.forIn_cons, pure_bind]
            rw [ih]
            simp [ByteArray.push]
        · cases h
      · cases h
    · cases h

theorem evBytes_ok (hst : St C ι M w) {x : V} {k : V → Option R} {r : R} (h : evBytes M x k = some r) {u : Value} (hu : RV w C ι u x) : ∃ s, (Conv.bytesToString u).run P w = .ok (.string s) w ∧ k (.d (.str s)) = some r := by
  have key : ∀ m es, evSrc M x = some (1, m, es) → (∀ s, u ≠ .string s) → ostr es (fun s => k (.d (.str s))) = some r → ∃ s, (Conv.bytesToString u).run P w = .ok (.string s) w ∧ k (.d (.str s)) = some r := by
    intro m es hs hns h
    obtain ⟨l, hl, h⟩ := ostr_some h
    obtain ⟨e1, e2, _, e4, news, e5, e6, e7⟩ := RV.src (P := P) hst hs hu
    rcases e4 with ⟨a, c, rfl⟩ | ⟨s, rfl⟩
    · refine ⟨_, ?_, h⟩
      have hf := bytes_for (P := P) hl e7 .empty
      cases a with
      | none =>
        have h0 := e5 w rfl
        have h1 : (#[] : Array Value) = news.toArray := by
          have : (Builtin.firstCells 1 m (.slice none m c)).run P w = .ok #[] w := rfl
          rw [this] at h0; cases h0; rfl
        have h2 : news = [] := by simpa using h1.symm
        subst h2
        have h3 : es = [] := by
          have : m = 0 := by simpa using e6.symm
          subst this
          exact List.eq_nil_of_length_eq_zero e1
        subst h3
        simp only [bytesD] at hl; cases hl
        rfl
      | some ad =>
        have h0 : (loadCells ad (m * 1)).run P w = .ok news.toArray w := e5 w rfl
        rw [Nat.mul_one] at h0
        unfold Conv.bytesToString
        simp only [Sem.run_bind, h0, Result.andThen_ok]
        rw [← Array.forIn_toList]
        have e8 : (forIn news.toArray.toList ByteArray.empty (fun c s => do
          let .int .u8 n := c | stuck "bytesToString: byte expected"
          pure (ForInStep.yield (s.push (UInt8.ofNat n.toNat)))) : Sem ByteArray).run P w = .ok ⟨ByteArray.empty.data ++ l.toArray⟩ w := hf
        refine Eq.trans (congrArg (fun r => Result.andThen r _) e8) ?_
        simp only [Result.andThen_ok, Sem.run_pure]
        congr 3
        simp
    · exact absurd rfl (hns s)
  unfold evBytes at h
  split at h
  · cases h
  · rename_i x' hx
    split at h
    · rename_i m es hs
      refine key m es hs (fun s e => ?_) h
      subst e
      unfold evSrc at hs
      split at hs
      · unfold RV RD at hu; obtain ⟨_, _, e, _⟩ := hu; cases e
      · exact hx _ rfl
      · unfold RV at hu; obtain ⟨_, _, _, _, e, _⟩ := hu; cases e
      · unfold RV at hu; obtain ⟨_, _, _, _, _, _, e, _⟩ := hu; cases e
      · cases hs
    · cases h
end
end Go.Ev

/-
  A part of a row is written over.
-/
namespace Go.Ev
open Go

section
variable {R : Type} {P : Program} {C : Com} {ι : Locs} {M : Mem} {w : World}

theorem seg_store (hst : St C ι M w) {id n : Nat} {mv : Bool} {es : List (List D)} {L : Loc} (hL : ι[id]? = some L) (hM : M[id]? = some (.row L.sz n false mv es)) {off : Nat} {xs : List (List D)} (hxl : ∀ c ∈ xs, c.length = L.sz) (hle : off + xs.length ≤ n) {vs : List Value} (hv : RVs w C ι vs (toVs xs.flatten)) (hc : L.cap ≠ 0) :
    ∃ w', (storeCells ⟨L.b, L.base + off * L.sz, none⟩ vs).run P w = .ok () w' ∧ Go1 C ι M w C ι (M.set id (.row L.sz n false mv (es.take off ++ (xs ++ es.drop (off + xs.length))))) w' (fun _ => False) := by
  obtain ⟨hrow, q1, q2, q3, q4, q5, q6⟩ := hst.ent id L _ hL hM
  subst q2
  rcases q6 with q6 | ⟨us, T', fr, hh, hsoft, hz, hC, hre⟩
  · exact absurd q6 hc
  simp only [Bool.false_eq_true, if_false] at hC
  have hone := hv.one (toVs_leaf _)
  have hvl : vs.length = xs.length * L.sz := by rw [hv.length, toVs_len, flat_len hxl]
  have hin : (off + xs.length) * L.sz ≤ L.cap * L.sz := Nat.mul_le_mul_right _ (by omega)
  rw [Nat.add_mul] at hin
  obtain ⟨w', hr, e1, e2, e3, e4, e5, e6⟩ := run_storeCells' (P := P) L.b (L.base + off * L.sz) T' fr vs 0 us w hh hsoft (by omega) hone
  simp only [Nat.add_zero] at e6
  generalize hA : L.base + off * L.sz = A at e6 hr
  have hg : ∀ o, w'.cell? ⟨L.b, o, none⟩ = if A ≤ o ∧ o < A + vs.length then vs[o - A]? else us[o]? := by
    intro o
    rw [cell_of_row e6]
    have := seg_get (us := us.toList) (vs := vs) (off := A) (o := o) (by simp; omega)
    simpa using this
  have hkp : Keeps w C w' C := by
    refine ⟨fun b o ho => ?_, fun _ => Nat.le_refl _⟩
    by_cases e : b = L.b
    · subst e; rw [hg, if_neg (by omega), cell_of_row hh]
    · exact cell_of_heap (e5 b e)
  have hsz' : (us.toList.take A ++ vs ++ us.toList.drop (A + vs.length)).toArray.size = us.size := by simp; omega
  have u : Upd C ι w id L L C w' := by
    refine ⟨rfl, hst.own, e1, e2, e3, by omega, hL, hkp, fun b _ hb => ⟨e5 b (hb (.inr hc)), rfl⟩, fun hl => .inl ⟨hl, rfl⟩, rfl, rfl, fun b => ?_⟩
    by_cases e : b = L.b
    · subst e
      exact .inr ⟨_, T', fr, e6, by rw [hsz']; omega⟩
    · rw [e5 b e]; exact hst.com b
  have gg : ∀ o, (us.toList.take A ++ vs ++ us.toList.drop (A + vs.length)).toArray[o]? = if A ≤ o ∧ o < A + vs.length then vs[o - A]? else us[o]? := by
    intro o; rw [← cell_of_row e6]; exact hg o
  have hre' : REs w' C (fun o => us[o]?) L.base es := REs.mono hkp es (N := L.base + es.length * L.sz) (fun _ _ _ _ h => h) q5 (Nat.le_refl _) hre
  have hnew : REs w' C (fun o => (us.toList.take A ++ vs ++ us.toList.drop (A + vs.length)).toArray[o]?) L.base (es.take off ++ (xs ++ es.drop (off + xs.length))) := by
    have ht : (es.take off).length = off := by simp; omega
    have htl : ∀ c ∈ es.take off, c.length = L.sz := fun c hc => q5 c (List.mem_of_mem_take hc)
    refine REs.append (sz := L.sz) htl ?_ ?_
    · exact REs.mono (.refl _ _) _ (N := A) (sz := L.sz) (fun o h1 h2 u hu => by show _ = _; rw [gg, if_neg (by omega)]; exact hu) htl (by rw [ht]; omega) (REs.take off hre')
    · rw [ht, hA]
      refine REs.append (sz := L.sz) hxl ?_ ?_
      · refine REs.of_flat (RCs.of_RVs (ι := ι) (RVs.mono hkp (fun _ _ h => h) _ hv) (fun q v hq => ?_))
        have hql := lt_of_get hq
        show _ = _
        rw [gg, if_pos (by omega), show A + q - A = q by omega]; exact hq
      · have hd := REs.drop (off + xs.length) q5 (by omega) hre'
        rw [Nat.add_mul] at hd
        rw [show L.base + (off * L.sz + xs.length * L.sz) = A + xs.length * L.sz by omega] at hd
        exact REs.mono (.refl _ _) _ (N := A + xs.length * L.sz + (es.drop (off + xs.length)).length * L.sz) (sz := L.sz) (fun o h1 h2 u hu => by show _ = _; rw [gg, if_neg (by omega)]; exact hu) (fun c hc => q5 c (List.mem_of_mem_drop hc)) (Nat.le_refl _) hd
  refine ⟨w', hr, ⟨u.st0 hst _ ⟨hrow, rfl, rfl, q3, by simp; omega, ?_, .inr ⟨_, T', fr, e6, ?_, by rw [hsz']; omega, by simpa using hC, hnew⟩⟩, u.stp0, fun i' _ hm => mvs_set hM (hm.elim (fun h => h) False.elim)⟩⟩
  · intro c hc
    rcases List.mem_append.1 hc with hc | hc
    · exact q5 c (List.mem_of_mem_take hc)
    · rcases List.mem_append.1 hc with hc | hc
      · exact hxl c hc
      · exact q5 c (List.mem_of_mem_drop hc)
  · exact hsoft.of_size hsz'

theorem zeroCells_RVs {zv : Array Value} {z : List D} (hz : RVs w C ι zv.toList (toVs z)) (n : Nat) : RVs w C ι (Builtin.zeroCells zv n).toList (toVs (List.replicate n z).flatten) := by
  have := zeros_RVs hz n 0
  simp only [Nat.zero_mul] at this
  have e : (Builtin.zeroCells zv n).toList = (List.range' 0 (n * zv.size)).map (fun i => zv[i % zv.size]!) := by
    simp [Builtin.zeroCells, List.range_eq_range']
  rw [e]; exact this

theorem evClear_ok {t e : TypeId} {T E : TI} (hT : TIok P t T) (hk : T.kind = .sl e) (hE : TIok P e E) {ts : Array TypeId} {ty : TypeId} (hts : ts[0]? = some t) (hst : St C ι M w) {z : List D} {M0 : Mem} (hz : freezeL [] E.zero = some (z, M0)) {x : V} {k : Mem → Option R} {r : R} (h : evClear z M x k = some r) {v : Value} (hv : RV w C ι v x) :
    ∃ M' w', (Builtin.clear_ ts ty #[v]).run P w = .ok (.tuple #[]) w' ∧ Go1 C ι M w C ι M' w' (fun _ => False) ∧ k M' = some r := by
  obtain ⟨zv, hzv, hzs, hzr⟩ := hE.zero
  have hzl : z.length = E.size ∧ RVs w C ι zv.cells.toList (toVs z) := by
    obtain ⟨h1, h2⟩ := freezeL_nil hz hst.com (us := zv.cells.toList) (fun w C ι => hzr w C ι)
    refine ⟨?_, h1⟩
    have := h1.length
    rw [toVs_len] at this
    simp at this; omega
  have run0 : ∀ (a : Option Addr) (n c : Nat), v = .slice a n c → (a = none ∨ n = 0) → (Builtin.clear_ ts ty #[v]).run P w = .ok (.tuple #[]) w := by
    intro a n c e h0
    subst e
    unfold Builtin.clear_
    simp only [hts, List.getElem?_toArray, List.getElem?_cons_zero, Sem.run_bind, hT.sl hk, Result.andThen_ok]
    rcases h0 with rfl | rfl
    · rfl
    · cases a <;> rfl
  have run1 : ∀ (a : Addr) (n c : Nat) (w' : World), v = .slice (some a) n c → n ≠ 0 → (storeCells a (Builtin.zeroCells zv.cells n).toList).run P w = .ok () w' → (Builtin.clear_ ts ty #[v]).run P w = .ok (.tuple #[]) w' := by
    intro a n c w' e h0 hs
    subst e
    obtain ⟨m, rfl⟩ : ∃ m, n = m + 1 := ⟨n - 1, by omega⟩
    unfold Builtin.clear_
    simp only [hts, List.getElem?_toArray, List.getElem?_cons_zero, Sem.run_bind, hT.sl hk, Result.andThen_ok, hzv, hs, Sem.run_pure]
  have rep : ∀ (n : Nat), ∀ c ∈ List.replicate n z, c.length = E.size := fun n c hc => by rw [List.eq_of_mem_replicate hc]; exact hzl.1
  unfold evClear at h
  split at h
  · rename_i id
    split at h
    · rename_i sz n mv es hM
      change M[id]? = _ at hM
      obtain ⟨hb, h⟩ := bif_some h
      have hb := Nat.eq_of_beq_eq_true hb
      subst hb
      have hv' := hv
      unfold RV at hv'
      obtain ⟨L, hL, hrow, a, e, ha⟩ := hv'
      obtain ⟨_, q1, q2, q3, q4, q5, q6⟩ := hst.ent id L _ hL hM
      subst q2
      rcases Nat.eq_zero_or_pos L.n with h0 | h0
      · refine ⟨_, w, run0 _ _ _ e (.inr h0), ?_, h⟩
        have : es = [] := List.length_eq_zero_iff.1 (by omega)
        subst this
        rw [h0]
        simp only [List.replicate_zero]
        rw [set_same (by rw [hM, h0])]
        exact Go1.refl hst
      · have hcap : L.cap ≠ 0 := by omega
        have ha := ha.resolve_left hcap
        subst ha
        have hMs : M[id]? = some (.row L.sz L.n false mv es) := by rw [hM, q1]
        obtain ⟨w', hr, g⟩ := seg_store (P := P) hst hL hMs (off := 0) (xs := List.replicate L.n z) (fun c hc => by rw [rep _ c hc, q1, hzl.1]) (by simp) (zeroCells_RVs hzl.2 L.n) hcap
        rw [Nat.zero_mul, Nat.add_zero] at hr
        refine ⟨_, w', run1 _ _ _ _ e (by omega) hr, ?_, h⟩
        have e2 : es.drop (0 + (List.replicate L.n z).length) = [] := by simp; omega
        rw [e2] at g
        simpa [q1] using g
    · cases h
  · rename_i id off n
    split at h
    · rename_i sz m mv es hM
      change M[id]? = _ at hM
      obtain ⟨hb, h⟩ := bif_some h
      rw [olet_eq] at h
      have hb := Nat.eq_of_beq_eq_true hb
      subst hb
      have hv' := hv
      unfold RV at hv'
      obtain ⟨L, hL, hrow, hle, a, c, e, hc, ha⟩ := hv'
      obtain ⟨_, q1, q2, q3, q4, q5, q6⟩ := hst.ent id L _ hL hM
      subst q2
      rcases Nat.eq_zero_or_pos n with h0 | h0
      · refine ⟨_, w, run0 _ _ _ e (.inr h0), ?_, h⟩
        subst h0
        simp only [List.replicate_zero, List.nil_append, Nat.add_zero, List.take_append_drop]
        rw [set_same hM]
        exact Go1.refl hst
      · obtain ⟨hcc, ha⟩ := ha.resolve_left (by omega)
        subst ha
        have hcap : L.cap ≠ 0 := by omega
        have hMs : M[id]? = some (.row L.sz L.n false mv es) := by rw [hM, q1]
        obtain ⟨w', hr, g⟩ := seg_store (P := P) hst hL hMs (off := off) (xs := List.replicate n z) (fun c hc => by rw [rep _ c hc, q1, hzl.1]) (by simpa using hle) (zeroCells_RVs hzl.2 n) hcap
        refine ⟨_, w', run1 _ _ _ _ e (by omega) hr, ?_, h⟩
        simpa [q1] using g
    · cases h
  · cases h
end
end Go.Ev
