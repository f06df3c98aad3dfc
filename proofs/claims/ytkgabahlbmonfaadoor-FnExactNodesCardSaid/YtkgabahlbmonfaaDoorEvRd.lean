import Derived.ChangeArms
import Derived.ChangeSlices
import Derived.ChangeShapes
import Derived.WideShapes
import Derived.Test.YtkgabahlbmonfaaDoorEvRow
set_option linter.unusedVariables false
set_option linter.unusedSimpArgs false
/-
  What reads as data is told by the evaluator's data.
-/
namespace Go.Ev
open Go Go.RowKit

theorem list_of {α : Type} (n : Nat) (R : Nat → α → Prop) (h : ∀ i, i < n → ∃ x, R i x) : ∃ l : List α, l.length = n ∧ ∀ i x, l[i]? = some x → R i x := by
  induction n with
  | zero => exact ⟨[], rfl, fun i x h => by simp at h⟩
  | succ n ih =>
    obtain ⟨l, hl, hr⟩ := ih (fun i hi => h i (by omega))
    obtain ⟨x, hx⟩ := h n (by omega)
    refine ⟨l ++ [x], by simp [hl], fun i y hy => ?_⟩
    rcases Nat.lt_or_ge i l.length with hi | hi
    · rw [List.getElem?_append_left hi] at hy
      exact hr i y hy
    · have hi2 : i = l.length := by
        have := (List.getElem?_eq_some_iff.1 hy).1
        rw [List.length_append, List.length_singleton] at this
        omega
      subst hi2
      have : x = y := by simpa using hy
      subst this
      rw [hl]
      exact hx


section
variable {w : World} {C : Com} {ι : Locs}
theorem z_d {u : Value} {x : D} (h : RD w C u x) : RV w C ι u (.d x) := by unfold RV; exact h
theorem z_un_cons {u : Value} {x : V} {us : List Value} {xs : List V} (h : RVs w C ι (u :: us) (x :: xs)) : RV w C ι u x ∧ RVs w C ι us xs := by unfold RVs at h; exact h
theorem encs_data : ∀ {l : List LS} (_ : LS.alld l = true) (t : LS.Ts l), toVs (vDs (LS.encs l t)) = LS.encs l t
  | [], _, () => rfl
  | s :: l, h, (a, t) => by
    have h' : (s.isD && LS.alld l) = true := h
    rw [Bool.and_eq_true] at h'
    show V.d (vD (s.enc a)) :: toVs (vDs (LS.encs l t)) = s.enc a :: LS.encs l t
    rw [vD_enc h'.1, encs_data h'.2]
end
section
variable {H : Type} {enc : TypeId × Value → H} {P : Program} {w : World} {base : Nat} {spare : Nat → Bool} {held : Bool}

theorem rd_rows {α : Type} {sh : List LS} (hs : LS.alld sh = true) (g : α → LS.Ts sh) {e t : TypeId} (ht : P.underlying t = some (.slice e)) (hsz : P.cellsOf e = sh.length) (hpos : 1 ≤ sh.length) {Q : α → Prop} {n : Nat}
    (hd : ∀ m, m < n → ∀ cs y, DataW.trod enc P w base spare held m e cs = some y → ∃ x, RVs w (allC w) [] cs (LS.encs sh (g x)) ∧ Q x) {cs : List Value} {y : DataW H × List MemPlace}
    (h : DataW.trod enc P w base spare held n t cs = some y) : ∃ v xs, cs = [v] ∧ RD w (allC w) v (.sl false sh.length (sl g xs).1 (sl g xs).2) ∧ lenOk xs ∧ ∀ x ∈ xs, Q x := by
  rcases DataW.trod_slice ht h with ⟨rfl, _⟩ | ⟨a, len, cap, elems, rest, m, rfl, rfl, _, _, hl, hc, hel, hget, _⟩
  · refine ⟨_, [], rfl, ?_, by simp [lenOk], fun x hx => by cases hx⟩
    unfold RD
    exact ⟨none, 0, rfl, Nat.le_refl _, fun _ => rfl, rfl, fun c hc => by simp [sl_es] at hc, .inl rfl⟩
  · obtain ⟨xs, hxl, hxs⟩ := list_of len (fun i x => Q x ∧ ∃ c, c.length = sh.length ∧ RVs w (allC w) [] c (LS.encs sh (g x)) ∧ ∀ j u, c[j]? = some u → w.cell? (a.add (i * sh.length + j)) = some u) (fun i hi => by
      have h1 := hget i hi
      rw [List.getElem?_eq_getElem (by omega), Option.bind_eq_some_iff] at h1
      obtain ⟨c, hcs, ht'⟩ := h1
      obtain ⟨x, hk, hq⟩ := hd m (by omega) _ _ ht'
      obtain ⟨_, hcl, hcc⟩ := World.cells?_some hcs
      refine ⟨x, hq, c, by rw [hcl, hsz], hk, fun j u hu => ?_⟩
      have hj : j < P.cellsOf e := by
        have := (List.getElem?_eq_some_iff.1 hu).1
        omega
      have h2 := hcc j hj
      rw [hu] at h2
      rw [← h2, ← hsz]
      congr 1
      unfold Addr.add
      by_cases h3 : i * P.cellsOf e = 0 <;> by_cases h4 : j = 0 <;> simp [h3, h4, Nat.add_assoc])
    subst hxl
    refine ⟨_, xs, rfl, row_rd (R := fun x c => RVs w (allC w) [] c (LS.encs sh (g x))) (size := sh.length) (ps := xs) (e := fun x => vDs (LS.encs sh (g x))) rfl (fun _ => ⟨a, rfl, fun j p hp => ?_⟩) (fun p cs h => by rw [encs_data hs]; exact h) hpos hl, ?_, fun x hx => ?_⟩
    · obtain ⟨_, c, h1, h2, h3⟩ := hxs j p hp
      exact ⟨c, h1, h2, h3⟩
    · simp only [maxLen] at hc
      unfold lenOk; omega
    · obtain ⟨i, hi⟩ := List.getElem?_of_mem hx
      exact (hxs i x hi).1
theorem rd_nums {k : IntKind} {e t : TypeId} (ht : P.underlying t = some (.slice e)) (he : P.underlying e = some (.int k)) (hsz : P.cellsOf e = 1) {n : Nat} {cs : List Value} {y : DataW H × List MemPlace}
    (h : DataW.trod enc P w base spare held n t cs = some y) : ∃ v xs, cs = [v] ∧ RD w (allC w) v (.sl false 1 (sl (sh := [.int k]) (fun n => (n, ())) xs).1 (sl (sh := [.int k]) (fun n => (n, ())) xs).2) ∧ lenOk xs ∧ ∀ x ∈ xs, (Lit.int k x).wf = true :=
  rd_rows (sh := [.int k]) rfl (fun n => (n, ())) ht hsz (Nat.le_refl _) (Q := fun x => (Lit.int k x).wf = true) (fun m _ cs y h => by
    obtain ⟨x, rfl, _, h3⟩ := DataW.trod_int he h
    exact ⟨x, z_cons z_int z_end, h3⟩) h
theorem read_int {t : TypeId} {k : IntKind} (ht : P.underlying t = some (.int k)) {n : Nat} {cs : List Value} {y : DataW H × List MemPlace} (h : DataW.trod enc P w base spare held n t cs = some y) : ∃ x, cs = [.int k x] ∧ (Lit.int k x).wf = true := by
  obtain ⟨x, h1, _, h3⟩ := DataW.trod_int ht h
  exact ⟨x, h1, h3⟩
theorem wf_in {x : Int} (h : (Lit.int .i64 x).wf = true) : inI x := by
  simp only [Lit.wf, IntKind.min, IntKind.max, IntKind.signed, IntKind.bits] at h
  simp at h
  unfold inI; omega
theorem wf_bytes {l : List Int} (h : ∀ x ∈ l, (Lit.int .u8 x).wf = true) : byteL l := by
  intro x hx
  have h := h x hx
  simp only [Lit.wf, IntKind.min, IntKind.max, IntKind.signed, IntKind.bits] at h
  simp at h
  omega
theorem read_field {fs : Array Field} {n : Nat} {cs : List Value} {xs : List (DataW H × List MemPlace)} (hl : xs.length = fs.size)
    (hf : ∀ (i : Nat) (f : Field), fs[i]? = some f → DataW.trod enc P w base spare held n f.type ((cs.drop f.offset).take (P.cellsOf f.type)) = xs[i]?) (i : Nat) (f : Field) (h : fs[i]? = some f)
    {t off s : Nat} (ht : f.type = t) (ho : f.offset = off) (hs : P.cellsOf t = s) : ∃ y, DataW.trod enc P w base spare held n t ((cs.drop off).take s) = some y := by
  have hi : i < fs.size := (Array.getElem?_eq_some_iff.1 h).1
  refine ⟨xs[i]'(by omega), ?_⟩
  rw [← ho, ← hs, ← ht, hf i f h, List.getElem?_eq_getElem (by omega)]
end
end Go.Ev
