/-
  Texts out of bytes.
-/
import Derived.Test.YtkaolpcfpnckcaaEvOp13
set_option linter.unusedVariables false
set_option linter.unusedSimpArgs false
namespace Go.Ev
open Go

theorem ostr_some {R : Type} {es : List (List D)} {f : ByteArray → Option R} {r : R} (h : ostr es f = some r) : ∃ l, bytesD es = some l ∧ f ⟨l.toArray⟩ = some r := by
  unfold ostr at h
  split at h
  · exact ⟨_, by assumption, h⟩
  · cases h
theorem ostr_t {R : Type} {es : List (List D)} {f : ByteArray → Option R} {l : List UInt8} (h : bytesD es = some l) : ostr es f = f ⟨l.toArray⟩ := by
  unfold ostr; simp only [h]

section
variable {R : Type} {P : Program} {C : Com} {ι : Locs} {M : Mem} {w : World}

theorem bytes_for : ∀ {es : List (List D)} {l : List UInt8} {us : List Value}, bytesD es = some l → RVs w C ι us (toVs es.flatten) → ∀ (s : ByteArray),
    (forIn us s (fun c s => do
      let .int .u8 n := c | stuck "bytesToString: byte expected"
      pure (ForInStep.yield (s.push (UInt8.ofNat n.toNat)))) : Sem ByteArray).run P w = .ok ⟨s.data ++ l.toArray⟩ w
  | [], l, us, h, hu, s => by
    simp only [bytesD] at h; cases h
    cases us with
    | nil => simp
    | cons u us => simp [toVs, RVs] at hu
  | c :: es, l, us, h, hu, s => by
    simp only [bytesD] at h
    split at h
    · split at h
      · rename_i n
        split at h
        · rename_i l' hl
          cases h
          cases us with
          | nil => simp [toVs, RVs] at hu
          | cons u us =>
            simp only [List.flatten_cons, List.cons_append, List.nil_append, toVs] at hu
            unfold RVs at hu
            have h1 := hu.1
            unfold RV RD at h1
            subst h1
            have ih := bytes_for hl hu.2 (s.push (UInt8.ofNat n.toNat))
            simp only [List.forIn_cons, pure_bind]
            rw [ih]
            simp [ByteArray.push]
        · cases h
      · cases h
    · cases h

theorem evBytes_ok (hst : St C ι M w) {x : V} {k : V → Option R} {r : R} (h : evBytes M x k = some r) {u : Value} (hu : RV w C ι u x) : ∃ s, (Conv.bytesToString u).run P w = .ok (.string s) w ∧ k (.d (.str s)) = some r := by
  have key : ∀ m es, evSrc M x = some (1, m, es) → (∀ s, u ≠ .string s) → ostr es (fun s => k (.d (.str s))) = some r → ∃ s, (Conv.bytesToString u).run P w = .ok (.string s) w ∧ k (.d (.str s)) = some r := by
    intro m es hs hns h
    obtain ⟨l, hl, h⟩ := ostr_some h
    obtain ⟨e1, e2, _, e4, news, e5, e6, e7⟩ := RV.src (P := P) hst hs hu
    rcases e4 with ⟨a, c, rfl⟩ | ⟨s, rfl⟩
    · refine ⟨_, ?_, h⟩
      have hf := bytes_for (P := P) hl e7 .empty
      cases a with
      | none =>
        have h0 := e5 w rfl
        have h1 : (#[] : Array Value) = news.toArray := by
          have : (Builtin.firstCells 1 m (.slice none m c)).run P w = .ok #[] w := rfl
          rw [this] at h0; cases h0; rfl
        have h2 : news = [] := by simpa using h1.symm
        subst h2
        have h3 : es = [] := by
          have : m = 0 := by simpa using e6.symm
          subst this
          exact List.eq_nil_of_length_eq_zero e1
        subst h3
        simp only [bytesD] at hl; cases hl
        rfl
      | some ad =>
        have h0 : (loadCells ad (m * 1)).run P w = .ok news.toArray w := e5 w rfl
        rw [Nat.mul_one] at h0
        unfold Conv.bytesToString
        simp only [Sem.run_bind, h0, Result.andThen_ok]
        rw [← Array.forIn_toList]
        have e8 : (forIn news.toArray.toList ByteArray.empty (fun c s => do
          let .int .u8 n := c | stuck "bytesToString: byte expected"
          pure (ForInStep.yield (s.push (UInt8.ofNat n.toNat)))) : Sem ByteArray).run P w = .ok ⟨ByteArray.empty.data ++ l.toArray⟩ w := hf
        refine Eq.trans (congrArg (fun r => Result.andThen r _) e8) ?_
        simp only [Result.andThen_ok, Sem.run_pure]
        congr 3
        simp
    · exact absurd rfl (hns s)
  unfold evBytes at h
  split at h
  · cases h
  · rename_i x' hx
    split at h
    · rename_i m es hs
      refine key m es hs (fun s e => ?_) h
      subst e
      unfold evSrc at hs
      split at hs
      · unfold RV RD at hu; obtain ⟨_, _, e, _⟩ := hu; cases e
      · exact hx _ rfl
      · unfold RV at hu; obtain ⟨_, _, _, _, e, _⟩ := hu; cases e
      · unfold RV at hu; obtain ⟨_, _, _, _, _, _, e, _⟩ := hu; cases e
      · cases hs
    · cases h
end
end Go.Ev
