/-
  What it means that values in memory stand for what the evaluator tells, and how such facts outlast what is written elsewhere.
-/
import Derived.Test.YtkaolpcfpnckcaaEvDef
set_option linter.unusedVariables false
set_option linter.unusedSimpArgs false
namespace Go.Ev
open Go

structure Loc where
  row : Bool
  sz : Nat
  n : Nat
  b : Nat
  base : Nat
  cap : Nat

abbrev Locs := List Loc
abbrev Com := Nat → Nat

mutual
def RD (w : World) (C : Com) : Value → D → Prop
  | v, .int k n => v = .int k n
  | v, .bool b => v = .bool b
  | v, .str s => v = .string s
  | v, .sl full sz n es => ∃ a cap, v = .slice a n cap ∧ n ≤ cap ∧ (full = true → cap = n) ∧ es.length = n ∧ (∀ c ∈ es, c.length = sz) ∧ (n = 0 ∨ ∃ b off, a = some ⟨b, off, none⟩ ∧ off + n * sz ≤ C b ∧ REs w C (fun o => w.cell? ⟨b, o, none⟩) off es)
def REs (w : World) (C : Com) (g : Nat → Option Value) : Nat → List (List D) → Prop
  | _, [] => True
  | off, c :: es => RCs w C g off c ∧ REs w C g (off + c.length) es
def RCs (w : World) (C : Com) (g : Nat → Option Value) : Nat → List D → Prop
  | _, [] => True
  | off, x :: xs => (∃ u, g off = some u ∧ RD w C u x) ∧ RCs w C g (off + 1) xs
end

/-- Nothing that counts as data turns. -/
structure Keeps (w : World) (C : Com) (w' : World) (C' : Com) : Prop where
  cell : ∀ b o, o < C b → w'.cell? ⟨b, o, none⟩ = w.cell? ⟨b, o, none⟩
  le : ∀ b, C b ≤ C' b

theorem Keeps.refl (w C) : Keeps w C w C := ⟨fun _ _ _ => rfl, fun _ => Nat.le_refl _⟩
theorem Keeps.trans {w C w1 C1 w2 C2} (h : Keeps w C w1 C1) (k : Keeps w1 C1 w2 C2) : Keeps w C w2 C2 :=
  ⟨fun b o ho => (k.cell b o (Nat.lt_of_lt_of_le ho (h.le b))).trans (h.cell b o ho), fun b => Nat.le_trans (h.le b) (k.le b)⟩

mutual
theorem RD.mono {w C w' C'} (h : Keeps w C w' C') : ∀ {v : Value} {x : D}, RD w C v x → RD w' C' v x
  | v, .int k n, r => by simpa [RD] using r
  | v, .bool b, r => by simpa [RD] using r
  | v, .str s, r => by simpa [RD] using r
  | v, .sl full sz n es, r => by
    unfold RD at r ⊢
    obtain ⟨a, cap, e, h1, h2, h3, h4, h5⟩ := r
    refine ⟨a, cap, e, h1, h2, h3, h4, h5.imp id ?_⟩
    rintro ⟨b, off, ea, hc, hr⟩
    refine ⟨b, off, ea, Nat.le_trans hc (h.le b), ?_⟩
    exact REs.mono h es (N := off + n * sz) (fun o _ ho u hu => by show w'.cell? _ = _; rw [h.cell b o (Nat.lt_of_lt_of_le ho hc)]; exact hu) h4 (by rw [h3]; exact Nat.le_refl _) hr
theorem REs.mono {w C w' C'} (h : Keeps w C w' C') {g g' : Nat → Option Value} : ∀ (es : List (List D)) {off N sz : Nat}, (∀ o, off ≤ o → o < N → ∀ u, g o = some u → g' o = some u) → (∀ c ∈ es, c.length = sz) → off + es.length * sz ≤ N → REs w C g off es → REs w' C' g' off es
  | [], _, _, _, _, _, _, _ => by unfold REs; trivial
  | c :: es, off, N, sz, hg, hl, hN, r => by
    unfold REs at r ⊢
    have hc := hl c (by simp)
    have hN' : off + sz + es.length * sz ≤ N := by simp only [List.length_cons, Nat.add_mul, Nat.one_mul] at hN; omega
    refine ⟨RCs.mono h c (N := N) hg (by omega) r.1, ?_⟩
    refine REs.mono h es (N := N) (sz := sz) (fun o h1 => hg o (by omega)) (fun c' hc' => hl c' (by simp [hc'])) (by rw [hc]; exact hN') r.2
theorem RCs.mono {w C w' C'} (h : Keeps w C w' C') {g g' : Nat → Option Value} : ∀ (xs : List D) {off N : Nat}, (∀ o, off ≤ o → o < N → ∀ u, g o = some u → g' o = some u) → off + xs.length ≤ N → RCs w C g off xs → RCs w' C' g' off xs
  | [], _, _, _, _, _ => by unfold RCs; trivial
  | x :: xs, off, N, hg, hN, r => by
    unfold RCs at r ⊢
    simp only [List.length_cons] at hN
    obtain ⟨⟨u, hu, hx⟩, hr⟩ := r
    exact ⟨⟨u, hg off (Nat.le_refl _) (by omega) u hu, RD.mono h hx⟩, RCs.mono h xs (fun o h1 => hg o (by omega)) (by omega) hr⟩
end
