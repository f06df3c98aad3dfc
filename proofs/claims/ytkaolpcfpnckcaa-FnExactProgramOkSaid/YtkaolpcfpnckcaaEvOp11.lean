/-
  The evaluator's operations are the machine's: variables, structs, literals, rows of zeros, bytes of a text.
-/
import Derived.Test.YtkaolpcfpnckcaaEvOp10
set_option linter.unusedVariables false
set_option linter.unusedSimpArgs false
namespace Go.Ev
open Go

def putW (cs : List Value) (off : Nat) : List Value → List Value
  | [] => cs
  | v :: vs => putW (cs.set off v) (off + 1) vs

theorem putW_RVs {w : World} {C : Com} {ι : Locs} : ∀ {us : List Value} {xs : List V} {cs : List Value} {ds : List V} {off : Nat}, RVs w C ι us xs → RVs w C ι cs ds → RVs w C ι (putW cs off us) (putAt ds off xs)
  | [], [], _, _, _, _, h => by simpa [putW, putAt] using h
  | [], _ :: _, _, _, _, h, _ => by simp [RVs] at h
  | _ :: _, [], _, _, _, h, _ => by simp [RVs] at h
  | u :: us, x :: xs, cs, ds, off, h, h' => by
    unfold RVs at h
    simp only [putW, putAt]
    exact putW_RVs h.2 (h'.set off h.1)

theorem fold_putW (off : Nat) : ∀ (l : List Value) (k : Nat) (cs : Array Value), ((l.zipIdx k).foldl (fun (cs : Array Value) (p : Value × Nat) => cs.setIfInBounds (off + p.2) p.1) cs).toList = putW cs.toList (off + k) l
  | [], k, cs => by simp [putW]
  | v :: l, k, cs => by
    simp only [List.zipIdx_cons, List.foldl_cons]
    rw [fold_putW off l (k + 1)]
    simp [putW, Array.toList_setIfInBounds, Nat.add_assoc]

theorem fill_cells (arr : Array Value) (off : Nat) (cs : Array Value) : (arr.zipIdx.foldl (fun (cs : Array Value) (c, j) => cs.setIfInBounds (off + j) c) cs).toList = putW cs.toList off arr.toList := by
  have := fold_putW off arr.toList 0 cs
  rw [← Array.toList_zipIdx, Array.foldl_toList] at this
  simpa using this

theorem putW_len : ∀ (l cs : List Value) (off : Nat), (putW cs off l).length = cs.length
  | [], _, _ => rfl
  | v :: l, cs, off => by simp [putW, putW_len l]

theorem putW_eq : ∀ (vs cs : List Value) (off : Nat), off + vs.length ≤ cs.length → putW cs off vs = cs.take off ++ vs ++ cs.drop (off + vs.length)
  | [], cs, off, _ => by simp [putW]
  | v :: vs, cs, off, h => by
    simp only [List.length_cons] at h
    unfold putW
    rw [putW_eq vs (cs.set off v) (off + 1) (by simp; omega)]
    have h1 : (cs.set off v).take (off + 1) = cs.take off ++ [v] := by
      rw [List.take_set, List.take_add_one]
      rw [List.set_append_right _ _ (by simp; omega)]
      simp
      rw [Nat.min_eq_left (by omega)]
      simp [show off < cs.length by omega]
    have h2 : (cs.set off v).drop (off + 1 + vs.length) = cs.drop (off + (v :: vs).length) := by
      rw [List.drop_set_of_lt (by omega)]
      simp [Nat.add_assoc, Nat.add_comm 1]
    rw [h1, h2]; simp

section
variable {R : Type} {P : Program} {C : Com} {ι : Locs} {M : Mem} {w : World}

theorem places_ok : ∀ (fs : List Field), (∀ f ∈ fs, ∃ n, ∀ w, (sizeOf f.type).run P w = .ok n w) → ∃ places : List (Nat × Nat), (∀ w, (fs.mapM fun f => do let n ← sizeOf f.type; pure (f.offset, n) : Sem (List (Nat × Nat))).run P w = .ok places w) ∧
    ∀ (i : Nat) (f : Field), fs[i]? = some f → ∃ n, places[i]? = some (f.offset, n) ∧ ∀ w, (sizeOf f.type).run P w = .ok n w
  | [], _ => ⟨[], fun _ => rfl, fun i f h => by simp at h⟩
  | f :: fs, h => by
    obtain ⟨n, hn⟩ := h f (by simp)
    obtain ⟨ps, h1, h2⟩ := places_ok fs (fun f hf => h f (by simp [hf]))
    refine ⟨(f.offset, n) :: ps, fun w => ?_, fun i g hg => ?_⟩
    · rw [List.mapM_cons]
      simp only [Sem.run_bind, hn, Result.andThen_ok, Sem.run_pure, h1]
    · cases i with
      | zero => simp at hg; subst hg; exact ⟨n, by simp, hn⟩
      | succ i => simp at hg; obtain ⟨m, e1, e2⟩ := h2 i g hg; exact ⟨m, by simpa using e1, e2⟩

theorem parts_ok {cx : Cx} (hcx : TyOk P cx) {fs : List (Nat × TypeId)} {fields : List Field} (hfs : fields.map (fun f => (f.offset, f.type)) = fs) {places : List (Nat × Nat)} (hp : ∀ (i : Nat) (f : Field), fields[i]? = some f → ∃ n, places[i]? = some (f.offset, n) ∧ ∀ w, (sizeOf f.type).run P w = .ok n w) :
    ∀ {parts : List (Nat × V)} {vals : List (Nat × Value)} {cs ds : List V} {us : Array Value}, partsOf cx fs cs parts = some ds → vals.map (·.1) = parts.map (·.1) → RVs w C ι (vals.map (·.2)) (parts.map (·.2)) → RVs w C ι us.toList cs →
      ∃ us' : Array Value, Instr.fill (places.toArray[·]?) us vals = some us' ∧ RVs w C ι us'.toList ds
  | [], [], cs, ds, us, h, _, _, hu => by simp [partsOf] at h; subst h; exact ⟨us, rfl, hu⟩
  | [], _ :: _, _, _, _, _, h, _, _ => by simp at h
  | _ :: _, [], _, _, _, _, h, _, _ => by simp at h
  | (i, v) :: parts, (j, u) :: vals, cs, ds, us, h, he, hv, hu => by
    simp only [List.map_cons, List.cons.injEq] at he
    obtain ⟨hij, he⟩ := he
    simp only [List.map_cons] at hv
    unfold RVs at hv
    try simp only at hij
    subst hij
    simp only [partsOf] at h
    cases hf : fs[j]? with
    | none => rw [hf] at h; cases h
    | some p =>
      obtain ⟨off, t⟩ := p
      rw [hf] at h; simp only at h
      cases hT : find cx.ty t with
      | none => rw [hT] at h; cases h
      | some T =>
        rw [hT] at h; simp only at h
        obtain ⟨hc, h⟩ := bif_some h
        simp only [Bool.and_eq_true] at hc
        obtain ⟨h1, h2, h3⟩ := hc
        have h1 := Nat.eq_of_beq_eq_true h1
        have h3 := Nat.le_of_ble_eq_true h3
        rw [← hfs] at hf
        simp only [List.getElem?_map, Option.map_eq_some_iff] at hf
        obtain ⟨f, hf, e⟩ := hf
        cases e
        obtain ⟨n, hn1, hn2⟩ := hp j f hf
        have hsz : n = T.size := by
          have a := hn2 w
          rw [(hcx.ty _ _ hT).size w] at a; cases a; rfl
        have hcells := hv.1.cells h2
        have hlen := hcells.length
        have hul := hu.length
        obtain ⟨us', e1, e2⟩ := parts_ok hcx hfs hp (vals := vals) h he hv.2 (us := u.cells.zipIdx.foldl (fun (cs : Array Value) (c, j) => cs.setIfInBounds (f.offset + j) c) us) (by rw [fill_cells]; exact putW_RVs hcells hu)
        refine ⟨us', ?_, e2⟩
        simp only [Instr.fill, List.getElem?_toArray, hn1]
        simp at hlen hul
        rw [if_neg (by simp; omega)]
        simp only [List.getElem?_toArray] at e1
        exact e1

/-- A literal's rows. -/
theorem lit_ok {sz : Nat} : ∀ {parts : List (Nat × V)} {vals : List (Nat × Value)} {i : Nat} {M : Mem} {es : List (List D)} {M' : Mem} {C : Com} {us : Array Value} {done : List D}, litEs sz i M parts = some (es, M') → vals.map (·.1) = parts.map (·.1) → St C ι M w → RVs w C ι (vals.map (·.2)) (parts.map (·.2)) →
      us.size = (i + parts.length) * sz → RVs w C ι (us.toList.take (i * sz)) (toVs done) →
      ∃ (us' : Array Value) (C' : Com), Instr.fill (fun i => some (i * sz, sz)) us vals = some us' ∧ Go1 C ι M w C' ι M' w (fun _ => False) ∧ us'.size = us.size ∧ RVs w C' ι us'.toList (toVs (done ++ es.flatten)) ∧ es.length = parts.length ∧ (∀ c ∈ es, c.length = sz) ∧ M'.length = M.length
  | [], [], i, M, es, M', C, us, done, h, _, hst, _, hs, hd => by
    simp [litEs] at h; obtain ⟨rfl, rfl⟩ := h
    refine ⟨us, C, rfl, Go1.refl hst, rfl, ?_, rfl, fun c hc => by simp at hc, rfl⟩
    simp at hs
    have : us.toList.take (i * sz) = us.toList := List.take_of_length_le (by simp [hs])
    rw [this] at hd
    simpa using hd
  | [], _ :: _, _, _, _, _, _, _, _, _, h, _, _, _, _ => by simp at h
  | _ :: _, [], _, _, _, _, _, _, _, _, h, _, _, _, _ => by simp at h
  | (j, v) :: parts, (j', u) :: vals, i, M, es, M', C, us, done, h, he, hst, hv, hs, hd => by
    simp only [List.map_cons, List.cons.injEq] at he
    obtain ⟨hij, he⟩ := he
    try simp only at hij
    subst hij
    simp only [List.map_cons] at hv
    unfold RVs at hv
    simp only [litEs] at h
    obtain ⟨hc, h'⟩ := bif_some h
    clear h
    have h := h'
    clear h'
    simp only [Bool.and_eq_true] at hc
    obtain ⟨h1, h2, h3⟩ := hc
    have h1 := Nat.eq_of_beq_eq_true h1
    have h3 := Nat.eq_of_beq_eq_true h3
    subst h1
    cases hf : freezeL M v.cells with
    | none => rw [hf] at h; cases h
    | some p =>
      obtain ⟨c, M1⟩ := p
      rw [hf] at h; simp only at h
      cases hr : litEs sz (i + 1) M1 parts with
      | none => rw [hr] at h; cases h
      | some q =>
        obtain ⟨es1, M2⟩ := q
        rw [hr] at h; simp at h; obtain ⟨rfl, rfl⟩ := h
        have hcells := hv.1.cells h2
        have hlen := hcells.length
        obtain ⟨C1, g1, r1, l1, l2⟩ := freezeL_ok hf hst hcells
        have hus : us.size = i * sz + sz + parts.length * sz := by rw [hs]; simp only [List.length_cons, Nat.add_mul, Nat.one_mul]; omega
        have hput := putW_eq u.cells.toList us.toList (i * sz) (by simp at hlen ⊢; omega)
        have hcl : u.cells.size = sz := by simp at hlen; omega
        let us1 : Array Value := u.cells.zipIdx.foldl (fun (cs : Array Value) (c, j) => cs.setIfInBounds (i * sz + j) c) us
        have hus1 : us1.toList = us.toList.take (i * sz) ++ u.cells.toList ++ us.toList.drop (i * sz + u.cells.toList.length) := by
          rw [← hput]; exact fill_cells _ _ _
        have hus1s : us1.size = us.size := by
          have := congrArg List.length hus1
          simp at this ⊢; omega
        obtain ⟨us', C2, e1, g2, e2, e3, e4, e5, e6⟩ := lit_ok hr he g1.st (g1.rvs hv.2) (us := us1) (done := done ++ c) (by rw [hus1s, hs]; simp only [List.length_cons, Nat.add_mul, Nat.one_mul]; omega) (by
          rw [hus1, show (i + 1) * sz = i * sz + sz by rw [Nat.add_mul, Nat.one_mul]]
          have e0 : (us.toList.take (i * sz) ++ u.cells.toList).length = i * sz + sz := by simp; omega
          rw [List.take_append_of_le_length (by omega), List.take_of_length_le (by omega), toVs_append]
          exact RVs.append (g1.rvs hd) r1)
        refine ⟨us', C2, ?_, g1.trans hst g2 (fun i => by simp), e2.trans hus1s, by simpa using e3, by simp [e4], ?_, e6.trans l1⟩
        · simp only [Instr.fill]
          rw [if_neg (by simp; omega)]
          exact e1
        · intro c' hc'
          cases hc' with
          | head => omega
          | tail _ hc' => exact e5 c' hc'
end
end Go.Ev
