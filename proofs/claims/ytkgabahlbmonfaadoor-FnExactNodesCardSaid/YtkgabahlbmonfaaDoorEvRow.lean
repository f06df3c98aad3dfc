import Derived.Test.YtkgabahlbmonfaaDoorEvDat
set_option linter.unusedVariables false
set_option linter.unusedSimpArgs false
/-
  From a law's arguments to the evaluator's: all that stands in memory at the call is data.
-/
namespace Go.Ev
open Go

theorem cell_lt {w : World} {b o : Nat} {u : Value} (h : w.cell? ⟨b, o, none⟩ = some u) : o < allC w b := by
  unfold World.cell? at h
  unfold allC
  dsimp only
  split at h
  · rename_i us T fr hh
    simp only at hh
    rw [hh]
    simp only [Option.isSome_none, Bool.false_eq_true, if_false] at h
    exact (Array.getElem?_eq_some_iff.1 h).1
  · cases h

theorem REs.of_rows {w : World} {C : Com} {g : Nat → Option Value} {sz : Nat} : ∀ {es : List (List D)} {off : Nat}, (∀ (j : Nat) (c : List D), es[j]? = some c → c.length = sz ∧ RCs w C g (off + j * sz) c) → REs w C g off es
  | [], _, _ => by simp [REs]
  | c :: es, off, h => by
    unfold REs
    have h0 := h 0 c rfl
    refine ⟨by simpa using h0.2, REs.of_rows (sz := sz) fun j c' hj => ?_⟩
    have := h (j + 1) c' (by simpa using hj)
    refine ⟨this.1, ?_⟩
    rw [h0.1]
    have e : off + (j + 1) * sz = off + sz + j * sz := by rw [Nat.add_mul, Nat.one_mul]; omega
    rw [← e]; exact this.2

theorem RCs.of_cells {w : World} {C : Com} {ι : Locs} {g : Nat → Option Value} : ∀ {cs : List Value} {xs : List D} {off : Nat}, RVs w C ι cs (toVs xs) → (∀ i u, cs[i]? = some u → g (off + i) = some u) → RCs w C g off xs
  | [], [], _, _, _ => by simp [RCs]
  | [], x :: xs, _, h, _ => by simp [toVs, RVs] at h
  | u :: cs, [], _, _, _ => by simp [RCs]
  | u :: cs, x :: xs, off, h, hg => by
    simp only [toVs] at h
    unfold RVs RV at h
    unfold RCs
    refine ⟨⟨u, by simpa using hg 0 u rfl, h.1⟩, RCs.of_cells h.2 fun i v hi => ?_⟩
    have := hg (i + 1) v (by simpa using hi)
    rw [Nat.add_assoc, Nat.add_comm 1 i]; exact this

/-- A row that is read is a row of data. -/
theorem row_rd {α : Type} {R : α → List Value → Prop} {size : Nat} {w : World} {A : Option Addr} {n c : Nat} {ps : List α} {e : α → List D} (h1 : ps.length = n)
    (h3 : 0 < n → ∃ ad, A = some ad ∧ ∀ j p, ps[j]? = some p → ∃ cs, cs.length = size ∧ R p cs ∧ ∀ i u, cs[i]? = some u → w.cell? (ad.add (j * size + i)) = some u)
    (hR : ∀ p cs, R p cs → RVs w (allC w) [] cs (toVs (e p))) (hz : 1 ≤ size) (hc : n ≤ c) : RD w (allC w) (.slice A n c) (.sl false size n (ps.map e)) := by
  unfold RD
  have len : ∀ p cs, cs.length = size → R p cs → (e p).length = size := by
    intro p cs hl hr
    have := (hR p cs hr).length
    rw [toVs_len] at this; omega
  rcases Nat.eq_zero_or_pos n with h0 | h0
  · subst h0
    have : ps = [] := List.length_eq_zero_iff.1 h1
    subst this
    exact ⟨A, c, rfl, hc, (fun h => by cases h), rfl, (fun c hc => by simp at hc), .inl rfl⟩
  · obtain ⟨ad, rfl, hcs⟩ := h3 h0
    have hsp : ad = ⟨ad.block, ad.off, none⟩ := by
      obtain ⟨cs, hl, hr, hcell⟩ := hcs 0 ps[0] (by rw [List.getElem?_eq_getElem])
      have h2 := hcell 0 cs[0] (by rw [List.getElem?_eq_getElem])
      simp only [Nat.zero_mul, Nat.add_zero, Addr.add, if_true] at h2
      unfold World.cell? at h2
      split at h2
      · cases hs : ad.spot with
        | some s => rw [hs] at h2; simp at h2
        | none => cases ad; simp_all
      · cases h2
    have hadd : ∀ k, ad.add k = ⟨ad.block, ad.off + k, none⟩ := by
      intro k
      rw [hsp]
      unfold Addr.add
      by_cases hk : k = 0
      · subst hk; rfl
      · rw [if_neg hk]
    refine ⟨some ad, c, rfl, hc, (fun h => by cases h), by simp [h1], ?_, .inr ⟨ad.block, ad.off, by rw [← hsp], ?_, ?_⟩⟩
    · intro x hx
      obtain ⟨p, hp, rfl⟩ := List.mem_map.1 hx
      obtain ⟨j, hj⟩ := List.getElem?_of_mem hp
      obtain ⟨cs, hl, hr, _⟩ := hcs j p hj
      exact len p cs hl hr
    · obtain ⟨p, hp⟩ : ∃ p, ps[n - 1]? = some p := ⟨ps[n - 1], by rw [List.getElem?_eq_getElem]⟩
      obtain ⟨cs, hl, hr, hcell⟩ := hcs (n - 1) p hp
      obtain ⟨u, hu⟩ : ∃ u, cs[size - 1]? = some u := ⟨cs[size - 1], by rw [List.getElem?_eq_getElem]⟩
      have h2 := hcell (size - 1) u hu
      rw [hadd] at h2
      have := cell_lt h2
      have e1 : n * size = (n - 1) * size + size := by
        obtain ⟨m, rfl⟩ : ∃ m, n = m + 1 := ⟨n - 1, by omega⟩
        simp [Nat.add_mul]
      omega
    · refine REs.of_rows (sz := size) fun j x hj => ?_
      rw [List.getElem?_map, Option.map_eq_some_iff] at hj
      obtain ⟨p, hp, rfl⟩ := hj
      obtain ⟨cs, hl, hr, hcell⟩ := hcs j p hp
      refine ⟨len p cs hl hr, RCs.of_cells (hR p cs hr) fun i u hi => ?_⟩
      have := hcell i u hi
      rw [hadd] at this
      rw [Nat.add_assoc]; exact this

/-- A law's function that the evaluator finds true is true, and leaves what was there. -/
theorem law_calls {P : Program} {cx : Cx} (hcx : CxOk P cx) {f : FuncId} {args : List V} {vals : List Value} {w : World} (h : evF cx f args [] = some (.d (.bool true), [])) (hv : RVs w (allC w) [] vals args) (htab : Tabs P (tlOf cx.fns) (allC w) [] w) :
    Calls P f vals.toArray w fun e w' => e = .returned (.bool true) ∧ Go.RowKit.Below w.heap.size w w' := by
  refine (evF_ok hcx f args [] _ _ h (allC w) [] w vals (st_all w) htab (fun i => by rintro ⟨_, h, _⟩; simp at h) hv).mono ?_
  rintro e w' ⟨u, C', ι', rfl, g, hu⟩
  unfold RV RD at hu
  subst hu
  exact ⟨rfl, g.stp.os, g.stp.tape, g.stp.output, g.stp.size, fun b hb => (g.stp.out b hb (fun h => h.elim (fun ⟨i, L, hi, _⟩ => by simp at hi) (fun ⟨X, hX, _⟩ => by cases hX))).1⟩
end Go.Ev
