/-
  The evaluator's operations are the machine's: parts of slices, sums and comparisons.
-/
import Derived.Test.YtkaolpcfpnckcaaEvOp5
set_option linter.unusedVariables false
set_option linter.unusedSimpArgs false
namespace Go.Ev
open Go

section
variable {R : Type} {P : Program} {C : Com} {ι : Locs} {M : Mem} {w : World}

theorem szIs_eq {E : Option TI} {sz : Nat} (h : szIs E sz = true) : ∃ E', E = some E' ∧ E'.size = sz := by
  cases E with
  | none => cases h
  | some E => exact ⟨E, rfl, Nat.eq_of_beq_eq_true h⟩

/-- A slice expression on a slice, told once. -/
theorem run_sliceAt {t e : TypeId} {T E : TI} (hT : TIok P t T) (hk : T.kind = .sl e) (hE : TIok P e E) {a : Option Addr} {n c : Nat} {lo hi : Option Int} {lv hv : Option Value} (hl : ∀ a, lo = some a → ∃ ik, lv = some (.int ik a)) (hl' : lo = none → lv = none) (hh : ∀ a, hi = some a → ∃ ik, hv = some (.int ik a)) (hh' : hi = none → hv = none)
    (hc : n ≤ c) (g1 : ∀ a, hi = some a → 0 ≤ a ∧ a ≤ n) (g2 : ∀ a, lo = some a → 0 ≤ a ∧ a.toNat ≤ (bounds lo hi n).2) :
    (Instr.sliceAt t (.slice a n c) lv hv none).run P w = .ok (.slice (if c = (bounds lo hi n).1 then a else a.map (·.add ((bounds lo hi n).1 * E.size))) ((bounds lo hi n).2 - (bounds lo hi n).1) (c - (bounds lo hi n).1)) w := by
  unfold Instr.sliceAt
  simp only [Sem.run_bind, Sem.run_pure, Result.andThen_ok, hT.sl hk]
  unfold Instr.slice
  simp only [Sem.run_bind, Sem.run_pure, Result.andThen_ok, hT.sl hk]
  rw [run_bounds (P := P) (w := w) hl hl' hh hh' hc g1 g2]
  simp only [Sem.run_bind, Sem.run_pure, Result.andThen_ok, hE.size]

theorem bnd_le {lo hi : Option Int} {n : Nat} (g1 : ∀ a, hi = some a → 0 ≤ a ∧ a ≤ n) : (bounds lo hi n).2 ≤ n := by
  cases hi with
  | none => simp [bounds]
  | some d => have := g1 d rfl; simp [bounds]; omega
theorem bnd_lo {lo hi : Option Int} {n : Nat} (g2 : ∀ a, lo = some a → 0 ≤ a ∧ a.toNat ≤ (bounds lo hi n).2) : (bounds lo hi n).1 ≤ (bounds lo hi n).2 := by
  cases lo with
  | none => simp [bounds]
  | some a => have := (g2 a rfl).2; simpa [bounds] using this

/-- What a part of data is. -/
theorem RD.part {v : Value} {full : Bool} {sz n : Nat} {es : List (List D)} (h : RD w C v (.sl full sz n es)) {a : Option Addr} {c : Nat} (e : v = .slice a n c) (l m : Nat) (hm : m ≤ n) (hl : l ≤ m) (full' : Bool) (hf : full' = true → full = true ∧ m = n) (es' : List (List D)) (he : es' = (es.take m).drop l) :
    RD w C (.slice (if c = l then a else a.map (·.add (l * sz))) (m - l) (c - l)) (.sl full' sz (m - l) es') := by
  subst e he
  unfold RD at h
  obtain ⟨a', cap, ea, h1, h2, h3, h4, h5⟩ := h
  cases ea
  unfold RD
  refine ⟨_, _, rfl, by omega, fun hf' => ?_, by simp; omega, fun c' hc' => h4 c' (List.take_subset _ _ (List.drop_subset _ _ hc')), ?_⟩
  · obtain ⟨f1, f2⟩ := hf hf'
    have := h2 f1; omega
  · by_cases hlm : m - l = 0
    · exact .inl hlm
    · rcases h5 with h5 | ⟨b, off, rfl, hc, hre⟩
      · omega
      refine .inr ⟨b, off + l * sz, ?_, ?_, ?_⟩
      · rw [if_neg (by omega)]; simp [add_at]
      · have : m * sz ≤ n * sz := Nat.mul_le_mul_right _ hm
        rw [Nat.sub_mul]
        have : l * sz ≤ m * sz := Nat.mul_le_mul_right _ hl
        omega
      · exact REs.drop l (fun c' hc' => h4 c' (List.take_subset _ _ hc')) (by simp; omega) (REs.take m hre)

theorem evSlice_ok {t : TypeId} {cx : Cx} (hcx : TyOk P cx) (hst : St C ι M w) {x : V} {lo hi : Option Int} {k : V → Option R} {r : R} (h : evSlice (elemTI cx t) M x lo hi k = some r) {v : Value} (hx : RV w C ι v x) {lv hv : Option Value} (hl : ∀ a, lo = some a → ∃ ik, lv = some (.int ik a)) (hl' : lo = none → lv = none) (hh : ∀ a, hi = some a → ∃ ik, hv = some (.int ik a)) (hh' : hi = none → hv = none) :
    ∃ u y, (Instr.sliceAt t v lv hv none).run P w = .ok u w ∧ RV w C ι u y ∧ k y = some r := by
  unfold evSlice at h
  split at h
  · rename_i full sz n es
    obtain ⟨hz0, hq⟩ := bif_some h
    clear h
    obtain ⟨E, hE, hz⟩ := szIs_eq hz0
    obtain ⟨T, e, hT, hk, hE'⟩ := find_elem hE
    have hx0 := hx
    unfold RV at hx0
    have hx1 := hx0
    unfold RD at hx1
    obtain ⟨a, c, rfl, hnc, _⟩ := hx1
    have key : ∀ (full' : Bool) (es' : List (List D)), (∀ a, hi = some a → 0 ≤ a ∧ a ≤ n) → (∀ a, lo = some a → 0 ≤ a ∧ a.toNat ≤ (bounds lo hi n).2) → (full' = true → full = true ∧ (bounds lo hi n).2 = n) → es' = (es.take (bounds lo hi n).2).drop (bounds lo hi n).1 →
        ∃ u, (Instr.sliceAt t (.slice a n c) lv hv none).run P w = .ok u w ∧ RV w C ι u (.d (.sl full' sz ((bounds lo hi n).2 - (bounds lo hi n).1) es')) := by
      intro full' es' g1 g2 g3 g4
      refine ⟨_, run_sliceAt (hcx.ty _ _ hT) hk (hcx.ty _ _ hE') hl hl' hh hh' hnc g1 g2, ?_⟩
      unfold RV
      rw [hz]
      exact hx0.part rfl _ _ (bnd_le g1) (bnd_lo g2) full' g3 es' g4
    have elen : es.length = n := by unfold RD at hx0; obtain ⟨_, _, _, _, _, h3, _⟩ := hx0; exact h3
    clear hx
    split at hq
    · obtain ⟨u, h1, h2⟩ := key full es (fun _ h => by cases h) (fun _ h => by cases h) (fun h => ⟨h, rfl⟩) (by simp [bounds, ← elen])
      exact ⟨u, _, h1, by simpa [bounds] using h2, hq⟩
    · rename_i a0
      obtain ⟨hg0, hq⟩ := oguard_some hq
      have hg := of_decide_eq_true hg0
      rw [olet_eq] at hq
      obtain ⟨u, h1, h2⟩ := key full (es.drop a0.toNat) (fun _ h => by cases h) (fun _ h => by cases h; simp [bounds]; omega) (fun h => ⟨h, rfl⟩) (by simp [bounds, ← elen])
      exact ⟨u, _, h1, by simpa [bounds] using h2, hq⟩
    · rename_i b0
      obtain ⟨hg0, hq⟩ := oguard_some hq
      have hg := of_decide_eq_true hg0
      rw [olet_eq] at hq
      obtain ⟨u, h1, h2⟩ := key (full && Nat.beq n 0) (es.take b0.toNat) (fun _ h => by cases h; exact hg) (fun _ h => by cases h) (fun h => by
        simp only [Bool.and_eq_true] at h
        have := Nat.eq_of_beq_eq_true h.2
        exact ⟨h.1, by simp [bounds]; omega⟩) (by simp [bounds])
      exact ⟨u, _, h1, by simpa [bounds] using h2, hq⟩
    · rename_i a0 b0
      obtain ⟨hg0, hq⟩ := oguard_some hq
      have hg := of_decide_eq_true hg0
      rw [olet_eq] at hq
      obtain ⟨u, h1, h2⟩ := key false ((es.take b0.toNat).drop a0.toNat) (fun _ h => by cases h; omega) (fun _ h => by cases h; simp [bounds]; omega) (fun h => by cases h) (by simp [bounds])
      exact ⟨u, _, h1, by simpa [bounds] using h2, hq⟩
  · rename_i id
    simp only [getM] at h
    split at h
    · rename_i sz n fz mv es hM
      obtain ⟨hz0, hq⟩ := bif_some h
      clear h
      obtain ⟨E, hE, hz⟩ := szIs_eq hz0
      obtain ⟨T, e, hT, hk, hE'⟩ := find_elem hE
      obtain ⟨L, a, hL, hr, e1, e2, rfl, ha, hnc⟩ := hx.own_row hst hM
      have key : (∀ a, hi = some a → 0 ≤ a ∧ a ≤ n) → (∀ a, lo = some a → 0 ≤ a ∧ a.toNat ≤ (bounds lo hi n).2) →
          ∃ u, (Instr.sliceAt t (.slice a n L.cap) lv hv none).run P w = .ok u w ∧ RV w C ι u (.ref id (bounds lo hi n).1 ((bounds lo hi n).2 - (bounds lo hi n).1)) := by
        intro g1 g2
        refine ⟨_, run_sliceAt (hcx.ty _ _ hT) hk (hcx.ty _ _ hE') hl hl' hh hh' hnc g1 g2, ?_⟩
        have b1 := bnd_le g1 (lo := lo)
        have b2 := bnd_lo g2
        unfold RV
        refine ⟨L, hL, hr, by omega, _, _, rfl, by omega, ?_⟩
        by_cases hc : L.cap = (bounds lo hi n).1
        · exact .inl (by omega)
        · refine .inr ⟨by omega, ?_⟩
          rw [if_neg hc]
          rcases ha with ha | rfl
          · omega
          · simp [add_at, hz, e1]
      split at hq
      · exact ⟨_, _, by
          have := run_sliceAt (P := P) (w := w) (hcx.ty _ _ hT) hk (hcx.ty _ _ hE') (a := a) (n := n) (c := L.cap) hl hl' hh hh' hnc (fun _ h => by cases h) (fun _ h => by cases h)
          exact this, by
          have h0 := hx
          unfold RV at h0 ⊢
          simp only [bounds, Option.map_none, Option.getD_none, Nat.sub_zero, Nat.zero_mul]
          obtain ⟨L', hL', hr', a', ea, ha'⟩ := h0
          rw [hL] at hL'; cases hL'
          cases ea
          refine ⟨L, hL, hr, _, rfl, ?_⟩
          rcases ha with ha | rfl
          · exact .inl ha
          · refine .inr ?_; split <;> simp [add_at], hq⟩
      · obtain ⟨hg0, hq⟩ := oguard_some hq
        have hg := of_decide_eq_true hg0
        obtain ⟨u, h1, h2⟩ := key (fun _ h => by cases h) (fun _ h => by cases h; simp [bounds]; omega)
        exact ⟨u, _, h1, by simpa [bounds] using h2, hq⟩
      · obtain ⟨hg0, hq⟩ := oguard_some hq
        have hg := of_decide_eq_true hg0
        obtain ⟨u, h1, h2⟩ := key (fun _ h => by cases h; exact hg) (fun _ h => by cases h)
        exact ⟨u, _, h1, by simpa [bounds] using h2, hq⟩
      · obtain ⟨hg0, hq⟩ := oguard_some hq
        have hg := of_decide_eq_true hg0
        obtain ⟨u, h1, h2⟩ := key (fun _ h => by cases h; omega) (fun _ h => by cases h; simp [bounds]; omega)
        exact ⟨u, _, h1, by simpa [bounds] using h2, hq⟩
    · cases h
  · rename_i id off n
    simp only [getM] at h
    split at h
    · rename_i sz n0 fz mv es hM
      obtain ⟨hz0, hq⟩ := bif_some h
      clear h
      obtain ⟨E, hE, hz⟩ := szIs_eq hz0
      obtain ⟨T, e, hT, hk, hE'⟩ := find_elem hE
      have h0 := hx
      unfold RV at h0
      obtain ⟨L, hL, hr, hle, a, c, rfl, hnc, ha⟩ := h0
      obtain ⟨_, q1, q2, q3, _⟩ := hst.ent id L _ hL hM
      have key : (∀ a, hi = some a → 0 ≤ a ∧ a ≤ n) → (∀ a, lo = some a → 0 ≤ a ∧ a.toNat ≤ (bounds lo hi n).2) →
          ∃ u, (Instr.sliceAt t (.slice a n c) lv hv none).run P w = .ok u w ∧ RV w C ι u (.ref id (off + (bounds lo hi n).1) ((bounds lo hi n).2 - (bounds lo hi n).1)) := by
        intro g1 g2
        refine ⟨_, run_sliceAt (hcx.ty _ _ hT) hk (hcx.ty _ _ hE') hl hl' hh hh' hnc g1 g2, ?_⟩
        have b1 := bnd_le g1 (lo := lo)
        have b2 := bnd_lo g2
        unfold RV
        refine ⟨L, hL, hr, by omega, _, _, rfl, by omega, ?_⟩
        by_cases hc : c = (bounds lo hi n).1
        · exact .inl (by omega)
        · rcases ha with ha | ⟨hc0, rfl⟩
          · omega
          refine .inr ⟨by omega, ?_⟩
          rw [if_neg hc]
          simp [add_at, hz, q1, Nat.add_mul, Nat.add_assoc]
      split at hq
      · obtain ⟨u, h1, h2⟩ := key (fun _ h => by cases h) (fun _ h => by cases h)
        exact ⟨u, _, h1, by simpa [bounds] using h2, hq⟩
      · obtain ⟨hg0, hq⟩ := oguard_some hq
        have hg := of_decide_eq_true hg0
        obtain ⟨u, h1, h2⟩ := key (fun _ h => by cases h) (fun _ h => by cases h; simp [bounds]; omega)
        exact ⟨u, _, h1, by simpa [bounds] using h2, hq⟩
      · obtain ⟨hg0, hq⟩ := oguard_some hq
        have hg := of_decide_eq_true hg0
        obtain ⟨u, h1, h2⟩ := key (fun _ h => by cases h; exact hg) (fun _ h => by cases h)
        exact ⟨u, _, h1, by simpa [bounds] using h2, hq⟩
      · obtain ⟨hg0, hq⟩ := oguard_some hq
        have hg := of_decide_eq_true hg0
        obtain ⟨u, h1, h2⟩ := key (fun _ h => by cases h; omega) (fun _ h => by cases h; simp [bounds]; omega)
        exact ⟨u, _, h1, by simpa [bounds] using h2, hq⟩
    · cases h
  · cases h
end
end Go.Ev
