/- Whatever reads as data is a value of its kind: rows of elements, one by one. -/
import Derived.ChangeArms
import Derived.ChangeSlices
import Derived.ChangeShapes
import Derived.WideShapes
import Derived.Test.YtmbacnnbpnlekaaWWords
namespace Go.Proofs.Ytmbacnnbpnlekaa.M
open Go Go.RowKit Go.Proofs.YtmbacnnbpnlekaaW.PrintWords

theorem list_of {α : Type} (n : Nat) (R : Nat → α → Prop) (h : ∀ i, i < n → ∃ x, R i x) : ∃ l : List α, l.length = n ∧ ∀ i x, l[i]? = some x → R i x := by
  induction n with
  | zero => exact ⟨[], rfl, fun i x h => by simp at h⟩
  | succ n ih =>
    obtain ⟨l, hl, hr⟩ := ih (fun i hi => h i (by omega))
    obtain ⟨x, hx⟩ := h n (by omega)
    refine ⟨l ++ [x], by simp [hl], fun i y hy => ?_⟩
    rcases Nat.lt_or_ge i l.length with hi | hi
    · rw [List.getElem?_append_left hi] at hy
      exact hr i y hy
    · have hi2 : i = l.length := by
        have := (List.getElem?_eq_some_iff.1 hy).1
        rw [List.length_append, List.length_singleton] at this
        omega
      subst hi2
      have : x = y := by simpa using hy
      subst this
      rw [hl]
      exact hx

section
variable {H : Type} {enc : TypeId × Value → H} {P : Program} {w : World} {base : Nat} {spare : Nat → Bool} {held : Bool}

theorem read_rows {α : Type} (d : Kd α) {e t : TypeId} (ht : P.underlying t = some (.slice e)) (hsz : P.cellsOf e = d.sz) {Q : α → Prop} {n : Nat}
    (hd : ∀ m, m < n → ∀ cs y, DataW.trod enc P w base spare held m e cs = some y → ∃ x, d.K w x cs ∧ Q x) {cs : List Value} {y : DataW H × List MemPlace}
    (h : DataW.trod enc P w base spare held n t cs = some y) : ∃ A c xs, cs = [.slice A xs.length c] ∧ xs.length ≤ c ∧ c ≤ maxLen ∧ d.C w A xs.length xs ∧ ∀ x ∈ xs, Q x := by
  rcases DataW.trod_slice ht h with ⟨rfl, _⟩ | ⟨a, len, cap, elems, rest, m, rfl, rfl, _, _, hl, hc, hel, hget, _⟩
  · exact ⟨none, 0, [], rfl, Nat.le_refl _, by simp [maxLen], Kd.C_nil d w, fun x hx => by cases hx⟩
  · obtain ⟨xs, hxl, hxs⟩ := list_of len (fun i x => Q x ∧ ∃ c, c.length = d.sz ∧ d.K w x c ∧ ∀ j u, c[j]? = some u → w.cell? (a.add (i * d.sz + j)) = some u) (fun i hi => by
      have h1 := hget i hi
      rw [List.getElem?_eq_getElem (by omega), Option.bind_eq_some_iff] at h1
      obtain ⟨c, hcs, ht'⟩ := h1
      obtain ⟨x, hk, hq⟩ := hd m (by omega) _ _ ht'
      obtain ⟨_, hcl, hcc⟩ := World.cells?_some hcs
      refine ⟨x, hq, c, by rw [hcl, hsz], hk, fun j u hu => ?_⟩
      have hj : j < P.cellsOf e := by
        have := (List.getElem?_eq_some_iff.1 hu).1
        omega
      have h2 := hcc j hj
      rw [hu] at h2
      rw [← h2, ← hsz]
      congr 1
      unfold Addr.add
      by_cases h3 : i * P.cellsOf e = 0 <;> by_cases h4 : j = 0 <;> simp [h3, h4, Nat.add_assoc])
    subst hxl
    refine ⟨some a, cap, xs, rfl, hl, hc, ⟨rfl, by simp only [maxLen] at hc; omega, fun _ => ⟨a, rfl, fun j p hp => ?_⟩⟩, fun x hx => ?_⟩
    · obtain ⟨_, c, h1, h2, h3⟩ := hxs j p hp
      exact ⟨c, h1, h2, h3⟩
    · obtain ⟨i, hi⟩ := List.getElem?_of_mem hx
      exact (hxs i x hi).1

theorem read_int {t : TypeId} {k : IntKind} (ht : P.underlying t = some (.int k)) {n : Nat} {cs : List Value} {y : DataW H × List MemPlace} (h : DataW.trod enc P w base spare held n t cs = some y) : ∃ x, cs = [.int k x] ∧ (Lit.int k x).wf = true := by
  obtain ⟨x, h1, _, h3⟩ := DataW.trod_int ht h
  exact ⟨x, h1, h3⟩
theorem read_bool {t : TypeId} (ht : P.underlying t = some .bool) {n : Nat} {cs : List Value} {y : DataW H × List MemPlace} (h : DataW.trod enc P w base spare held n t cs = some y) : ∃ x, cs = [.bool x] := by
  obtain ⟨x, h1, _⟩ := DataW.trod_bool ht h
  exact ⟨x, h1⟩
theorem read_Kint {t : TypeId} {k : IntKind} (ht : P.underlying t = some (.int k)) (n : Nat) (cs : List Value) (y : DataW H × List MemPlace) (h : DataW.trod enc P w base spare held n t cs = some y) : ∃ x, (Kd.int k).K w x cs ∧ (Lit.int k x).wf = true := by
  obtain ⟨x, h1, _, h3⟩ := DataW.trod_int ht h
  exact ⟨x, h1, h3⟩
theorem read_Kslice {α : Type} (d : Kd α) {e t : TypeId} (ht : P.underlying t = some (.slice e)) (hsz : P.cellsOf e = d.sz) {Q : α → Prop} {n : Nat}
    (hd : ∀ m, m < n → ∀ cs y, DataW.trod enc P w base spare held m e cs = some y → ∃ x, d.K w x cs ∧ Q x) (cs : List Value) (y : DataW H × List MemPlace)
    (h : DataW.trod enc P w base spare held n t cs = some y) : ∃ xs, (Kd.slice e d).K w xs cs ∧ xs.length ≤ maxLen ∧ ∀ x ∈ xs, Q x := by
  obtain ⟨A, c, xs, h1, h2, h3, h4, h5⟩ := read_rows d ht hsz hd h
  exact ⟨xs, ⟨A, c, h1, h2, h4⟩, Nat.le_trans h2 h3, h5⟩
theorem read_field {fs : Array Field} {n : Nat} {cs : List Value} {xs : List (DataW H × List MemPlace)} (hl : xs.length = fs.size)
    (hf : ∀ (i : Nat) (f : Field), fs[i]? = some f → DataW.trod enc P w base spare held n f.type ((cs.drop f.offset).take (P.cellsOf f.type)) = xs[i]?) (i : Nat) (f : Field) (h : fs[i]? = some f)
    {t off s : Nat} (ht : f.type = t) (ho : f.offset = off) (hs : P.cellsOf t = s) : ∃ y, DataW.trod enc P w base spare held n t ((cs.drop off).take s) = some y := by
  have hi : i < fs.size := (Array.getElem?_eq_some_iff.1 h).1
  refine ⟨xs[i]'(by omega), ?_⟩
  rw [← ho, ← hs, ← ht, hf i f h, List.getElem?_eq_getElem (by omega)]
end

end Go.Proofs.Ytmbacnnbpnlekaa.M
