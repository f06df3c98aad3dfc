/-
  The evaluator's operations are the machine's: all but calls.
-/
import Derived.Test.YtkaolpcfpnckcaaEvOp11
set_option linter.unusedVariables false
set_option linter.unusedSimpArgs false
namespace Go.Ev
open Go

theorem freezeL_nil {zs : List V} {z : List D} {M' : Mem} (h : freezeL [] zs = some (z, M')) {w : World} {C : Com} {ι : Locs} (hc : ∀ b, C b = 0 ∨ ∃ us T fr, w.heap[b]? = some (.cells us T fr) ∧ C b ≤ us.size) {us : List Value} (hv : ∀ w C ι, RVs w C ι us zs) : RVs w C ι us (toVs z) ∧ z.length = zs.length := by
  have hst : St C [] [] w := ⟨rfl, fun i L e h => by simp at h, fun i j L L' h => by simp at h, hc⟩
  obtain ⟨C', _, h2, _, h4⟩ := freezeL_ok h hst (hv w C [])
  have key : ∀ {M : Mem} {zs : List V} {z : List D} {M' : Mem}, M = [] → freezeL M zs = some (z, M') → M' = [] ∧ ∀ {w C ι us}, RVs w C ι us zs → RVs w C ι us (toVs z) := by
    intro M zs
    induction zs generalizing M with
    | nil => intro z M' hM h; simp [freezeL] at h; obtain ⟨rfl, rfl⟩ := h; exact ⟨hM, fun h => h⟩
    | cons v zs ih =>
      intro z M' hM h
      subst hM
      simp only [freezeL] at h
      cases h1 : freeze1 [] v with
      | none => rw [h1] at h; cases h
      | some p =>
        obtain ⟨x, M1⟩ := p
        rw [h1] at h; simp only at h
        have hx : M1 = [] ∧ ∀ {w C ι u}, RV w C ι u v → RV w C ι u (.d x) := by
          cases v with
          | d y => simp [freeze1] at h1; obtain ⟨rfl, rfl⟩ := h1; exact ⟨rfl, fun {w C ι u} h => by unfold RV at h ⊢; exact h.wk⟩
          | kb b => simp [freeze1] at h1; obtain ⟨rfl, rfl⟩ := h1; exact ⟨rfl, fun {w C ι u} h => by unfold RV at h ⊢; unfold RD; exact h⟩
          | own id => simp [freeze1, getM] at h1
          | ref id o n => simp [freeze1, getM] at h1
          | _ => simp [freeze1] at h1
        obtain ⟨rfl, hx⟩ := hx
        cases h2 : freezeL [] zs with
        | none => rw [h2] at h; cases h
        | some q =>
          obtain ⟨ys, M2⟩ := q
          rw [h2] at h; simp at h; obtain ⟨rfl, rfl⟩ := h
          obtain ⟨e, hr⟩ := ih rfl h2
          refine ⟨e, fun {w C ι us} hu => ?_⟩
          cases us with
          | nil => simp [RVs] at hu
          | cons u us =>
            unfold RVs at hu
            simp only [toVs]
            unfold RVs
            exact ⟨hx hu.1, hr hu.2⟩
  exact ⟨(key rfl h).2 (hv w C ι), h4⟩

/-- A row of equal elements. -/
theorem zeros_RVs {w : World} {C : Com} {ι : Locs} {z : Array Value} {zd : List D} (hz : RVs w C ι z.toList (toVs zd)) : ∀ (k m : Nat), RVs w C ι ((List.range' (m * z.size) (k * z.size)).map fun i => z[i % z.size]!) (toVs (List.replicate k zd).flatten)
  | 0, m => by simp [toVs, RVs]
  | k + 1, m => by
    have hr : List.range' (m * z.size) ((k + 1) * z.size) = List.range' (m * z.size) z.size ++ List.range' ((m + 1) * z.size) (k * z.size) := by
      rw [show (k + 1) * z.size = z.size + k * z.size by rw [Nat.add_mul, Nat.one_mul]; omega, show (m + 1) * z.size = m * z.size + 1 * z.size by rw [Nat.add_mul]]
      have := List.range'_append (s := m * z.size) (m := z.size) (n := k * z.size) (step := 1)
      simp
    rw [hr, List.map_append, List.replicate_succ, List.flatten_cons, toVs_append]
    refine RVs.append ?_ (zeros_RVs hz k (m + 1))
    have e : (List.range' (m * z.size) z.size).map (fun i => z[i % z.size]!) = z.toList := by
      apply List.ext_getElem
      · simp
      · intro i h1 h2
        simp at h1
        simp only [List.getElem_map, List.getElem_range', Nat.one_mul]
        rw [Nat.mul_comm, Nat.mul_add_mod, Nat.mod_eq_of_lt h1]
        simp [h1]
    rw [e]; exact hz

section
variable {R : Type} {P : Program} {C : Com} {ι : Locs} {M : Mem} {w : World}

theorem run_v {s : Sem Value} {u : Value} {w w' : World} (h : s.run P w = .ok u w') : (do pure (Next.value (← s)) : Sem Next).run P w = .ok (.value u) w' := by
  simp only [Sem.run_bind, h, Result.andThen_ok, Sem.run_pure]
theorem run_u {s : Sem Unit} {w w' : World} (h : s.run P w = .ok () w') : (do s; pure Next.skip : Sem Next).run P w = .ok .skip w' := by
  simp only [Sem.run_bind, h, Result.andThen_ok, Sem.run_pure]

theorem fixNil_ok {cx : Cx} {t : TypeId} {u : Value} {v : V} (h : RV w C ι u v) : RV w C ι u (fixNil cx t v) := by
  unfold fixNil
  split
  · split
    · unfold RV RD at h ⊢
      obtain ⟨a, cap, e, h1, h2, _, _, _⟩ := h
      exact ⟨a, cap, e, h1, h2, rfl, fun c hc => by simp at hc, .inl rfl⟩
    · exact h
  · exact h
theorem fixNils_ok {cx : Cx} : ∀ {ts : List TypeId} {us : List Value} {vs : List V}, RVs w C ι us vs → RVs w C ι us (fixNils cx ts vs)
  | [], _, vs, h => by cases vs <;> simpa [fixNils] using h
  | _ :: _, [], [], _ => by simp [fixNils, RVs]
  | _ :: _, _ :: _, [], h => by simp [RVs] at h
  | _ :: _, [], _ :: _, h => by simp [RVs] at h
  | t :: ts, u :: us, v :: vs, h => by
    unfold RVs at h
    simp only [fixNils]
    unfold RVs
    exact ⟨fixNil_ok h.1, fixNils_ok h.2⟩

theorem asD_ok {v : V} {d : D} (h : asD v = some d) {u : Value} (hu : RV w C ι u v) : RD w C u d := by
  cases v <;> simp [asD] at h
  case d x => subst h; unfold RV at hu; exact hu
  case kb b => subst h; unfold RV at hu; unfold RD; exact hu

theorem asI_ok {v : V} {n : Int} (h : asI v = some n) {u : Value} (hu : RV w C ι u v) : ∃ k, u = .int k n := by
  unfold asI at h
  split at h
  · cases h; unfold RV RD at hu; exact ⟨_, hu⟩
  · cases h

theorem RVs.map_of {ρ : Operand → Value} {rd : Operand → V} (hrd : ∀ x, RV w C ι (ρ x) (rd x)) : ∀ l : List Operand, RVs w C ι (l.map ρ) (l.map rd)
  | [] => by simp [RVs]
  | x :: l => by simp only [List.map_cons]; unfold RVs; exact ⟨hrd x, RVs.map_of hrd l⟩
theorem RVs.map_parts {ρ : Operand → Value} {rd : Operand → V} (hrd : ∀ x, RV w C ι (ρ x) (rd x)) : ∀ l : List (Nat × Operand), RVs w C ι (l.map fun p => ρ p.2) (l.map fun p => rd p.2)
  | [] => by simp [RVs]
  | x :: l => by simp only [List.map_cons]; unfold RVs; exact ⟨hrd x.2, RVs.map_parts hrd l⟩

theorem fixParts_fst {cx : Cx} {fs : List (Nat × TypeId)} : ∀ {l : List (Nat × V)}, (fixParts cx fs l).map (·.1) = l.map (·.1)
  | [] => rfl
  | (i, v) :: r => by
    simp only [fixParts, List.map_cons, fixParts_fst (l := r)]
    congr 1
    split <;> rfl
theorem fixParts_ok {cx : Cx} {fs : List (Nat × TypeId)} : ∀ {l : List (Nat × V)} {us : List Value}, RVs w C ι us (l.map (·.2)) → RVs w C ι us ((fixParts cx fs l).map (·.2))
  | [], _, h => h
  | (i, v) :: r, [], h => by simp [RVs] at h
  | (i, v) :: r, u :: us, h => by
    simp only [List.map_cons] at h
    unfold RVs at h
    simp only [fixParts, List.map_cons]
    unfold RVs
    refine ⟨?_, fixParts_ok h.2⟩
    split
    · exact fixNil_ok h.1
    · exact h.1

theorem Go1.fixed (hst : St C ι M w) (us : Array Value) (T : TypeId) (fr : Nat × Nat) : Go1 C ι M w (fun b => if b = w.heap.size then us.size else C b) ι M (World.more w (.cells us T fr)) (fun _ => False) := by
  obtain ⟨h1, h2⟩ := hst.fixed us T fr
  exact ⟨h1, h2 _, fun i _ hm => hm.elim (fun h => h) False.elim⟩

theorem Nxt.go {k : V → Mem → List Nat → Option R} {r : R} {Nx : Value → World → Prop} (h : Nxt C ι M w k r Nx) {u : Value} {v : V} {M' : Mem} {C' : Com} {ι' : Locs} {w' : World} (hk : k v M' [] = some r) (g : Go1 C ι M w C' ι' M' w' (fun _ => False)) (hv : RV w' C' ι' u v) : Nx u w' :=
  h u v M' [] C' ι' w' hk (g.weak (fun i => by simp)) hv

theorem alloc_ok {t : TypeId} (us : Array Value) {cs : List V} (hst : St C ι M w) (hv : RVs w C ι us.toList cs) {k : V → Mem → List Nat → Option R} {r : R} (h : k (.ptr M.length 0) (M ++ [.box cs]) [] = some r) {Nx : Value → World → Prop} (hn : Nxt C ι M w k r Nx) :
    Nx (.pointer (some ⟨w.heap.size, 0, none⟩)) (World.more w (.cells us t (0, 0))) := by
  have g := Go1.more hst us t (0, 0) ⟨false, 0, 0, w.heap.size, 0, 0⟩ (.box cs) (fun _ => rfl) ⟨rfl, hst.czero (Nat.le_refl _), us, t, (0, 0), more_new, soft0 _, RVs.mono (hst.keeps_more _) (fun _ _ h => grow_get h) _ hv⟩
  refine hn.go h g ?_
  unfold RV
  rw [← hst.len]
  exact ⟨⟨false, 0, 0, w.heap.size, 0, 0⟩, by simp, rfl, rfl⟩

theorem sub_agg {U : TI} {off : Nat} {vs : List V} {t : TypeId} (hT : TIok P t U) {k : V → Option R} {r : R} (h : (bif Nat.ble (off + U.size) vs.length then (bif U.agg then k (.agg ((vs.drop off).take U.size)) else match vs.drop off with | v :: _ => k v | [] => none) else none) = some r) {cs : Array Value} (hv : RVs w C ι cs.toList vs) :
    ∃ u v, (part t cs off).run P w = .ok u w ∧ RV w C ι u v ∧ k v = some r := by
  obtain ⟨hle, h⟩ := bif_some h
  have hle := Nat.le_of_ble_eq_true hle
  have hl := hv.length
  unfold part
  simp only [Sem.run_bind, hT.agg, Result.andThen_ok]
  cases hA : U.agg with
  | true =>
    rw [hA] at h
    simp only [cond_true] at h
    refine ⟨.agg (cs.extract off (off + U.size)), _, ?_, ?_, h⟩
    · simp only [if_true, Sem.run_bind, hT.size, Result.andThen_ok, Sem.run_pure]
    · unfold RV
      refine ⟨_, rfl, ?_⟩
      have := (hv.drop off).take U.size
      simpa [Array.toList_extract, List.extract] using this
  | false =>
    rw [hA] at h
    simp only [cond_false] at h
    cases hd : vs.drop off with
    | nil => rw [hd] at h; cases h
    | cons v rest =>
      rw [hd] at h
      have hg : vs[off]? = some v := by
        have := congrArg (·[0]?) hd
        simpa using this
      obtain ⟨u, e1, e2⟩ := hv.get hg
      refine ⟨u, v, ?_, e2, h⟩
      have : cs[off]? = some u := by simpa using e1
      simp only [Bool.false_eq_true, if_false, this]
      rfl

end
end Go.Ev
