import Derived.Test.YtkgabahlbmonfaaDoorEvMa
import Derived.Laws.Cells
import Derived.Laws.CopyRow
set_option linter.unusedVariables false
set_option linter.unusedSimpArgs false
/-
  The evaluator's operations are the machine's: lemmas on runs.
-/
namespace Go.Ev
open Go

theorem oguard_some {R : Type} {c : Bool} {x : Option R} {r : R} (h : oguard c x = some r) : c = true ∧ x = some r := by
  cases c <;> simp [oguard] at h ⊢; exact h
theorem oguard_t {R : Type} {c : Bool} {x : Option R} (h : c = true) : oguard c x = x := by subst h; simp [oguard]
theorem oite_eq {R : Type} {c : Bool} {x y : Option R} : oite c x y = bif c then x else y := by simp [oite]
theorem olet_eq {R α : Type} {x : α} {f : α → Option R} : olet x f = f x := by simp [olet]
theorem obind_eq {R α : Type} {x : Option α} {f : α → Option R} : obind x f = x.bind f := by simp [obind]
theorem bif_some {R : Type} {c : Bool} {x : Option R} {r : R} (h : (bif c then x else none) = some r) : c = true ∧ x = some r := by
  cases c <;> simp at h ⊢; exact h

/-- What is asked of the translation's types. -/
structure TIok (P : Program) (t : TypeId) (T : TI) : Prop where
  size : ∀ w, (sizeOf t).run P w = .ok T.size w
  agg : ∀ w, (isAgg t).run P w = .ok T.agg w
  kind : match T.kind with
    | .int k => ∀ w, (underlying t).run P w = .ok (.int k) w
    | .bool => ∀ w, (underlying t).run P w = .ok .bool w
    | .str => ∀ w, (underlying t).run P w = .ok .string w
    | .sl e => ∀ w, (underlying t).run P w = .ok (.slice e) w
    | .st fs => ∃ fields : Array Field, (∀ w, (underlying t).run P w = .ok (.struct fields) w) ∧ fields.toList.map (fun f => (f.offset, f.type)) = fs ∧ ∀ f ∈ fields.toList, ∃ n, ∀ w, (sizeOf f.type).run P w = .ok n w
    | .other => True
  bytes : ∃ i, (∀ w, (typeInfo t).run P w = .ok i w) ∧ i.bytes = T.bytes
  pos : 1 ≤ T.size
  bpos : 1 ≤ T.bytes
  zero : ∃ z, (∀ w, (zeroValue t).run P w = .ok z w) ∧ z.cells.size = T.size ∧ ∀ w C ι, RVs w C ι z.cells.toList T.zero

/-! lists of values -/
theorem RVs.drop {w C ι} : ∀ {us : List Value} {xs : List V} (j : Nat), RVs w C ι us xs → RVs w C ι (us.drop j) (xs.drop j)
  | _, _, 0, h => by simpa using h
  | [], [], _ + 1, _ => by simp [RVs]
  | [], _ :: _, _, h => by simp [RVs] at h
  | _ :: _, [], _, h => by simp [RVs] at h
  | u :: us, x :: xs, j + 1, h => by unfold RVs at h; simpa using RVs.drop j h.2
theorem RVs.take {w C ι} : ∀ {us : List Value} {xs : List V} (j : Nat), RVs w C ι us xs → RVs w C ι (us.take j) (xs.take j)
  | _, _, 0, _ => by simp [RVs]
  | [], [], _ + 1, _ => by simp [RVs]
  | [], _ :: _, _, h => by simp [RVs] at h
  | _ :: _, [], _, h => by simp [RVs] at h
  | u :: us, x :: xs, j + 1, h => by
    unfold RVs at h
    simp only [List.take_succ_cons]
    unfold RVs
    exact ⟨h.1, RVs.take j h.2⟩
theorem RVs.append {w C ι} : ∀ {us vs : List Value} {xs ys : List V}, RVs w C ι us xs → RVs w C ι vs ys → RVs w C ι (us ++ vs) (xs ++ ys)
  | [], _, [], _, _, h => by simpa using h
  | [], _, _ :: _, _, h, _ => by simp [RVs] at h
  | _ :: _, _, [], _, h, _ => by simp [RVs] at h
  | u :: us, vs, x :: xs, ys, h, h' => by
    unfold RVs at h
    simp only [List.cons_append]
    unfold RVs
    exact ⟨h.1, RVs.append h.2 h'⟩
theorem RVs.get {w C ι} : ∀ {us : List Value} {xs : List V} {j : Nat} {x : V}, RVs w C ι us xs → xs[j]? = some x → ∃ u, us[j]? = some u ∧ RV w C ι u x
  | [], [], _, _, _, h => by simp at h
  | [], _ :: _, _, _, h, _ => by simp [RVs] at h
  | _ :: _, [], _, _, h, _ => by simp [RVs] at h
  | u :: us, x :: xs, 0, _, h, h' => by unfold RVs at h; simp at h'; subst h'; exact ⟨u, by simp, h.1⟩
  | u :: us, x :: xs, j + 1, _, h, h' => by
    unfold RVs at h
    simp at h'
    obtain ⟨u', e, r⟩ := RVs.get h.2 h'
    exact ⟨u', by simpa using e, r⟩
theorem RVs.set {w C ι} : ∀ {us : List Value} {xs : List V} (j : Nat) {u : Value} {x : V}, RVs w C ι us xs → RV w C ι u x → RVs w C ι (us.set j u) (xs.set j x)
  | [], [], _, _, _, _, _ => by simp [RVs]
  | [], _ :: _, _, _, _, h, _ => by simp [RVs] at h
  | _ :: _, [], _, _, _, h, _ => by simp [RVs] at h
  | _ :: us, _ :: xs, 0, u, x, h, h' => by unfold RVs at h; simp only [List.set_cons_zero]; unfold RVs; exact ⟨h', h.2⟩
  | _ :: us, _ :: xs, j + 1, u, x, h, h' => by
    unfold RVs at h
    simp only [List.set_cons_succ]
    unfold RVs
    exact ⟨h.1, RVs.set j h.2 h'⟩

/-- A value and its cells. -/
theorem RV.cells {w C ι} {v : Value} {x : V} (h : RV w C ι v x) (hs : x.sized = true) : RVs w C ι v.cells.toList x.cells := by
  cases x with
  | undef => simp [V.sized, V.leaf] at hs
  | tup _ => simp [V.sized, V.leaf] at hs
  | agg xs => unfold RV at h; obtain ⟨cs, rfl, r⟩ := h; simpa [Value.cells, V.cells] using r
  | d x =>
    have h' := h
    unfold RV at h
    have : v.cells = #[v] := by
      cases x with
      | int k n => simp only [RD] at h; subst h; rfl
      | bool b => simp only [RD] at h; subst h; rfl
      | str b => simp only [RD] at h; subst h; rfl
      | sl f sz n es => unfold RD at h; obtain ⟨a, cap, rfl, _⟩ := h; rfl
    rw [this]; simp only [V.cells]; unfold RVs; exact ⟨h', by simp [RVs]⟩
  | kb b => have h' := h; unfold RV at h; subst h; simp only [Value.cells, V.cells]; unfold RVs; exact ⟨h', by simp [RVs]⟩
  | own i => have h' := h; unfold RV at h; obtain ⟨L, _, _, a, rfl, _⟩ := h; simp only [Value.cells, V.cells]; unfold RVs; exact ⟨h', by simp [RVs]⟩
  | ref i o n => have h' := h; unfold RV at h; obtain ⟨L, _, _, _, a, c, rfl, _⟩ := h; simp only [Value.cells, V.cells]; unfold RVs; exact ⟨h', by simp [RVs]⟩
  | ptr i o => have h' := h; unfold RV at h; obtain ⟨L, _, _, rfl⟩ := h; simp only [Value.cells, V.cells]; unfold RVs; exact ⟨h', by simp [RVs]⟩
  | ep i a b => have h' := h; unfold RV at h; obtain ⟨L, _, _, _, rfl⟩ := h; simp only [Value.cells, V.cells]; unfold RVs; exact ⟨h', by simp [RVs]⟩
  | rp c j => have h' := h; unfold RV at h; obtain ⟨b, off, rfl, _⟩ := h; simp only [Value.cells, V.cells]; unfold RVs; exact ⟨h', by simp [RVs]⟩
  | fn f xs => have h' := h; unfold RV at h; obtain ⟨cs, rfl, _⟩ := h; simp only [Value.cells, V.cells]; unfold RVs; exact ⟨h', by simp [RVs]⟩

/-- What fits one cell. -/
theorem RV.one {w C ι} {v : Value} {x : V} (h : RV w C ι v x) (hs : x.leaf = true) : v.oneCell' = true := by
  cases x with
  | undef => simp [V.leaf] at hs
  | tup _ => simp [V.leaf] at hs
  | agg xs => simp [V.leaf] at hs
  | d x =>
    unfold RV at h
    cases x with
    | int k n => simp only [RD] at h; subst h; rfl
    | bool b => simp only [RD] at h; subst h; rfl
    | str b => simp only [RD] at h; subst h; rfl
    | sl f sz n es => unfold RD at h; obtain ⟨a, cap, rfl, _⟩ := h; rfl
  | kb b => unfold RV at h; subst h; rfl
  | own i => unfold RV at h; obtain ⟨L, _, _, a, rfl, _⟩ := h; rfl
  | ref i o n => unfold RV at h; obtain ⟨L, _, _, _, a, c, rfl, _⟩ := h; rfl
  | ptr i o => unfold RV at h; obtain ⟨L, _, _, rfl⟩ := h; rfl
  | ep i a b => unfold RV at h; obtain ⟨L, _, _, _, rfl⟩ := h; rfl
  | rp c j => unfold RV at h; obtain ⟨b, off, rfl, _⟩ := h; rfl
  | fn f xs => unfold RV at h; obtain ⟨cs, rfl, _⟩ := h; rfl
theorem RVs.one {w C ι} : ∀ {us : List Value} {xs : List V}, RVs w C ι us xs → leafs xs = true → ∀ u ∈ us, u.oneCell' = true
  | [], _, _, _, _, h => by simp at h
  | _ :: _, [], h, _, _, _ => by simp [RVs] at h
  | u :: us, x :: xs, h, hl, v, hv => by
    unfold RVs at h
    simp only [leafs, Bool.and_eq_true] at hl
    cases hv with
    | head => exact h.1.one hl.1
    | tail _ hv => exact RVs.one h.2 hl.2 v hv

theorem RVs.of_RCs {w C ι g} : ∀ {xs : List D} {off : Nat}, RCs w C g off xs → ∃ us : List Value, us.length = xs.length ∧ (∀ j u, us[j]? = some u → g (off + j) = some u) ∧ RVs w C ι us (toVs xs)
  | [], _, _ => ⟨[], rfl, fun j u h => by simp at h, by simp [toVs, RVs]⟩
  | x :: xs, off, h => by
    unfold RCs at h
    obtain ⟨⟨u, hu, hx⟩, hr⟩ := h
    obtain ⟨us, e, hg, hv⟩ := RVs.of_RCs (ι := ι) hr
    refine ⟨u :: us, by simp [e], ?_, ?_⟩
    · intro j u' hj
      cases j with
      | zero => simp at hj; subst hj; simpa using hu
      | succ j => simp at hj; have := hg j u' hj; rwa [show off + (j + 1) = off + 1 + j by omega]
    · simp only [toVs]; unfold RVs; exact ⟨by unfold RV; exact hx, hv⟩

section
variable {P : Program} {w : World}

theorem add_at (b o n : Nat) : Addr.add ⟨b, o, none⟩ n = ⟨b, o + n, none⟩ := by
  unfold Addr.add; split <;> simp_all

theorem run_loadVar' {t : TypeId} {T : TI} (hT : TIok P t T) {b o : Nat} {us : List Value} (hl : us.length = T.size) (h : ∀ j v, us[j]? = some v → w.cell? ⟨b, o + j, none⟩ = some v) :
    (loadVar t ⟨b, o, none⟩).run P w = .ok (bif T.agg then .agg us.toArray else us.headD undef) w := by
  unfold loadVar
  simp only [Sem.run_bind, hT.agg, Result.andThen_ok]
  cases hA : T.agg with
  | true =>
    simp only [if_true, Sem.run_bind, hT.size, Result.andThen_ok, cond_true]
    rw [← hl, run_loadCells_list w _ us (fun j v hj => by rw [add_at]; exact h j v hj)]
    rfl
  | false =>
    have hp := hT.pos
    cases us with
    | nil => simp at hl; omega
    | cons u us =>
      have := h 0 u rfl
      simp only [Bool.false_eq_true, if_false, cond_false, List.headD_cons]
      simp only [Nat.add_zero] at this
      simp only [load, Sem.run, this]

/-- A store into cells of a block. -/
theorem run_storeCells' (g o : Nat) (t : TypeId) (fr : Nat × Nat) : ∀ (vs : List Value) (i : Nat) (cur : Array Value) (w : World), w.heap[g]? = some (.cells cur t fr) → Soft cur fr → o + i + vs.length ≤ cur.size → (∀ v ∈ vs, v.oneCell' = true) →
    ∃ w', (storeCells ⟨g, o, none⟩ vs i).run P w = .ok () w' ∧ w'.os = w.os ∧ w'.tape = w.tape ∧ w'.output = w.output ∧ w'.heap.size = w.heap.size ∧ (∀ k, k ≠ g → w'.heap[k]? = w.heap[k]?) ∧
      w'.heap[g]? = some (.cells (cur.toList.take (o + i) ++ vs ++ cur.toList.drop (o + i + vs.length)).toArray t fr)
  | [], i, cur, w, hg, _, _, _ => by
    refine ⟨w, rfl, rfl, rfl, rfl, rfl, fun _ _ => rfl, ?_⟩
    simp [hg]
  | v :: rest, i, cur, w, hg, hs, hl, h1 => by
    have hi : o + i < cur.size := by simp at hl; omega
    have hcell : w.cell? ⟨g, o + i, none⟩ = some cur[o + i] := by simp [World.cell?, hg, hi]
    have hfro : w.frozen? ⟨g, o + i, none⟩ = false := by
      have := hs.at (o + i) hi
      simp only [World.frozen?, hg]
      simp only [Bool.and_eq_false_iff, decide_eq_false_iff_not]
      omega
    have hst : (store ((⟨g, o, none⟩ : Addr).add i) v).run P w = .ok () (w.setCell ⟨g, o + i, none⟩ v) := by
      rw [add_at, run_store P w _ v _ (h1 v (by simp)), hcell]
      simp [hfro]
    have hlt : g < w.heap.size := (Array.getElem?_eq_some_iff.1 hg).1
    have hv : w.heap[g] = .cells cur t fr := (Array.getElem?_eq_some_iff.1 hg).2
    have hg' : (w.setCell ⟨g, o + i, none⟩ v).heap[g]? = some (.cells (cur.setIfInBounds (o + i) v) t fr) := by
      simp [World.setCell, Array.getElem?_modify, hg]
    obtain ⟨w', hr, e1, e2, e3, e4, e5, e6⟩ := run_storeCells' g o t fr rest (i + 1) (cur.setIfInBounds (o + i) v) _ hg' (hs.of_size (by simp)) (by simp at hl ⊢; omega) (fun x hx => h1 x (by simp [hx]))
    refine ⟨w', ?_, e1, e2, e3, by rw [e4]; simp [World.setCell], fun k hk => ?_, ?_⟩
    · simp only [storeCells, Sem.run_bind, hst, Result.andThen_ok, hr]
    · rw [e5 k hk]; exact RowKit.Below.heap_setCell _ _ _ _ hk
    · rw [e6]
      congr 3
      have e := list_seg_step cur.toList (o + i) v rest (by simp at hl ⊢; omega)
      simpa [Array.toList_setIfInBounds, Nat.add_assoc] using e
end
end Go.Ev
