/-
  The evaluator's operations are the machine's: numbers, lengths, places, parts of slices.
-/
import Derived.Test.YtkaolpcfpnckcaaEvOp4
set_option linter.unusedVariables false
set_option linter.unusedSimpArgs false
namespace Go.Ev
open Go

theorem find_elem {cx : Cx} {t : TypeId} {E : TI} (h : elemTI cx t = some E) : ∃ T e, find cx.ty t = some T ∧ T.kind = .sl e ∧ find cx.ty e = some E := by
  unfold elemTI at h
  cases hT : find cx.ty t with
  | none => rw [hT] at h; cases h
  | some T =>
    rw [hT] at h; simp only at h
    cases hk : T.kind with
    | sl e => rw [hk] at h; exact ⟨T, e, rfl, hk, h⟩
    | _ => rw [hk] at h; cases h

/-- What is asked of the translation. -/
structure TyOk (P : Program) (cx : Cx) : Prop where
  ty : ∀ t T, find cx.ty t = some T → TIok P t T

section
variable {R : Type} {P : Program} {C : Com} {ι : Locs} {M : Mem} {w : World}

theorem TIok.sl {t : TypeId} {T : TI} {e : TypeId} (h : TIok P t T) (hk : T.kind = .sl e) (w : World) : (underlying t).run P w = .ok (.slice e) w := by
  have := h.kind; rw [hk] at this; exact this w
theorem TIok.str {t : TypeId} {T : TI} (h : TIok P t T) (hk : T.kind = .str) (w : World) : (underlying t).run P w = .ok .string w := by
  have := h.kind; rw [hk] at this; exact this w

/-- A slice of one's own as the machine has it. -/
theorem RV.own_row (hst : St C ι M w) {v : Value} {id : Nat} {sz n : Nat} {fz mv : Bool} {es : List (List D)} (h : RV w C ι v (.own id)) (hM : M[id]? = some (.row sz n fz mv es)) :
    ∃ L a, ι[id]? = some L ∧ L.row = true ∧ L.sz = sz ∧ L.n = n ∧ v = .slice a n L.cap ∧ (L.cap = 0 ∨ a = some ⟨L.b, L.base, none⟩) ∧ n ≤ L.cap := by
  unfold RV at h
  obtain ⟨L, hL, hr, a, rfl, ha⟩ := h
  obtain ⟨_, q1, q2, q3, _⟩ := hst.ent id L _ hL hM
  exact ⟨L, a, hL, hr, q1, q2, by rw [q2], ha, q3⟩

theorem evLen_ok {t : TypeId} {T : TI} (hT : TIok P t T) (hst : St C ι M w) {v : V} {k : Int → Option R} {r : R} (h : evLen T M v k = some r) {x : Value} (hx : RV w C ι x v) (ts : Array TypeId) (ty : TypeId) (hts : ts[0]? = some t) :
    ∃ n, (Builtin.len_ ts ty #[x]).run P w = .ok (.int .i64 n) w ∧ k n = some r := by
  unfold evLen at h
  unfold Builtin.len_
  simp only [hts, List.getElem?_toArray, List.getElem?_cons_zero]
  split at h
  · rename_i hk
    unfold RV RD at hx
    obtain ⟨a, cap, rfl, _⟩ := hx
    exact ⟨_, by simp only [Sem.run_bind, hT.sl hk, Result.andThen_ok]; rfl, h⟩
  · rename_i hk
    unfold RV at hx; simp only [RD] at hx; subst hx
    exact ⟨_, by simp only [Sem.run_bind, hT.str hk, Result.andThen_ok]; rfl, h⟩
  · rename_i hk
    simp only [getM] at h
    split at h
    · rename_i hM
      obtain ⟨L, a, _, _, _, _, rfl, _⟩ := hx.own_row hst hM
      exact ⟨_, by simp only [Sem.run_bind, hT.sl hk, Result.andThen_ok]; rfl, h⟩
    · cases h
  · rename_i hk
    unfold RV at hx
    obtain ⟨L, _, _, _, a, c, rfl, _⟩ := hx
    exact ⟨_, by simp only [Sem.run_bind, hT.sl hk, Result.andThen_ok]; rfl, h⟩
  · cases h

theorem evIndexAddr_ok {t e : TypeId} {T E : TI} (hT : TIok P t T) (hk : T.kind = .sl e) (hE : TIok P e E) (hst : St C ι M w) {v : V} {i : Int} {ik : IntKind} {k : V → Option R} {r : R} (h : evIndexAddr E M v i k = some r) {x : Value} (hx : RV w C ι x v) :
    ∃ u y, (Instr.indexAt t x (.int ik i)).run P w = .ok u w ∧ RV w C ι u y ∧ k y = some r := by
  have run : ∀ (b o n cap : Nat) (a : Option Addr), x = .slice a n cap → (0 ≤ i ∧ i < n) → a = some ⟨b, o, none⟩ → (Instr.indexAt t x (.int ik i)).run P w = .ok (.pointer (some ⟨b, o + i.toNat * E.size, none⟩)) w := by
    intro b o n cap a e hi ea
    subst e ea
    unfold Instr.indexAt asIntOf
    simp only [Sem.run_bind, Sem.run_pure, Result.andThen_ok, hT.sl hk]
    rw [if_pos hi]
    simp only [Sem.run_bind, Sem.run_pure, Result.andThen_ok, hE.size, add_at]
  unfold evIndexAddr at h
  split at h
  · rename_i full sz n es
    obtain ⟨hz, h⟩ := bif_some h
    simp only [Bool.and_eq_true] at hz
    obtain ⟨hz, hsl, hsd⟩ := hz
    have hz := Nat.eq_of_beq_eq_true hz
    have hsl := Nat.eq_of_beq_eq_true hsl
    obtain ⟨hi, t, hdt, h⟩ := oat_some h
    unfold RV RD at hx
    obtain ⟨a, cap, e, h1, _, h3, h4, h5⟩ := hx
    rcases h5 with h5 | ⟨b, off, rfl, hc, hre⟩
    · omega
    obtain ⟨hci, hcl⟩ := REs.at i.toNat h4 (by omega) hre
    obtain ⟨hci', _⟩ := cells_ok E.sh hdt (alld_leafs _ _ hsd) hci
    refine ⟨_, _, run b off n cap _ e hi rfl, ?_, h⟩
    unfold RV
    rw [← hz] at hci' hsl hc
    refine ⟨b, off + i.toNat * E.size, rfl, ?_, hci'⟩
    rw [vDs_len, LS.encs_len, hsl]
    have : (i.toNat + 1) * E.size ≤ n * E.size := Nat.mul_le_mul_right _ (by omega)
    rw [Nat.add_mul, Nat.one_mul] at this; omega
  · simp only [getM] at h
    split at h
    · rename_i sz n fz mv es hM
      obtain ⟨hz, h⟩ := bif_some h
      have hz := Nat.eq_of_beq_eq_true hz
      obtain ⟨hi, h⟩ := oguard_some h
      have hi := of_decide_eq_true hi
      obtain ⟨L, a, hL, hr, e1, e2, e3, ha, hn⟩ := hx.own_row hst hM
      rcases ha with ha | rfl
      · omega
      refine ⟨_, _, run L.b L.base n L.cap _ e3 hi rfl, ?_, h⟩
      unfold RV
      exact ⟨L, hL, hr, by omega, by rw [hz, e1]; rfl⟩
    · cases h
  · simp only [getM] at h
    split at h
    · rename_i sz n0 fz mv es hM
      obtain ⟨hz, h⟩ := bif_some h
      have hz := Nat.eq_of_beq_eq_true hz
      obtain ⟨hi, h⟩ := oguard_some h
      have hi := of_decide_eq_true hi
      unfold RV at hx
      obtain ⟨L, hL, hr, hle, a, c, e3, hnc, ha⟩ := hx
      obtain ⟨_, q1, q2, q3, _⟩ := hst.ent _ L _ hL hM
      rcases ha with ha | ⟨_, rfl⟩
      · omega
      refine ⟨_, _, run L.b _ _ c _ e3 hi rfl, ?_, h⟩
      unfold RV
      refine ⟨L, hL, hr, by omega, ?_⟩
      rw [hz, ← q1, Nat.add_mul]; simp [Nat.add_assoc]
    · cases h
  · cases h

theorem run_bound {x : Int} {ik : IntKind} {y : Nat} {code : BoundsCode} (h : 0 ≤ x ∧ x ≤ y) : (Instr.sliceBound (.int ik x) y code).run P w = .ok x.toNat w := by
  unfold Instr.sliceBound asIntOf
  simp only [Sem.run_bind, Sem.run_pure, Result.andThen_ok]
  rw [if_pos h]; rfl

/-- The bounds of a slice expression. -/
def bounds (lo hi : Option Int) (n : Nat) : Nat × Nat := ((lo.map Int.toNat).getD 0, (hi.map Int.toNat).getD n)

theorem run_bounds {b : Bool} {lo hi : Option Int} {lv hv : Option Value} {n c : Nat} (hl : ∀ a, lo = some a → ∃ ik, lv = some (.int ik a)) (hl' : lo = none → lv = none) (hh : ∀ a, hi = some a → ∃ ik, hv = some (.int ik a)) (hh' : hi = none → hv = none)
    (hc : n ≤ c) (g1 : ∀ a, hi = some a → 0 ≤ a ∧ a ≤ n) (g2 : ∀ a, lo = some a → 0 ≤ a ∧ a.toNat ≤ (bounds lo hi n).2) :
    (Instr.sliceBounds b n c lv hv none).run P w = .ok ((bounds lo hi n).1, (bounds lo hi n).2, c) w := by
  unfold Instr.sliceBounds
  cases hi with
  | none =>
    rw [hh' rfl]
    cases lo with
    | none => rw [hl' rfl]; rfl
    | some a =>
      obtain ⟨ik, rfl⟩ := hl a rfl
      have := g2 a rfl
      simp only [Sem.run_bind, Sem.run_pure, Result.andThen_ok]
      simp only [bounds, Option.map_none, Option.getD_none] at this
      simp only [bounds, Option.map_none, Option.getD_none, Option.map_some, Option.getD_some]
      rw [run_bound (by omega)]; rfl
  | some d =>
    obtain ⟨ik, rfl⟩ := hh d rfl
    have h1 := g1 d rfl
    cases lo with
    | none =>
      rw [hl' rfl]
      simp only [Sem.run_bind, Sem.run_pure, Result.andThen_ok]
      rw [run_bound (by omega)]; rfl
    | some a =>
      obtain ⟨ik, rfl⟩ := hl a rfl
      have := g2 a rfl
      simp only [bounds, Option.map_some, Option.getD_some] at this
      simp only [Sem.run_bind, Sem.run_pure, Result.andThen_ok]
      rw [run_bound (by omega)]
      simp only [Result.andThen_ok, Sem.run_bind]
      rw [run_bound (by omega)]; rfl
end
end Go.Ev
