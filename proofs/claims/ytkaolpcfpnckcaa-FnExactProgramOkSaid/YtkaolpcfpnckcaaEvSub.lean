/-
  A part of the store, handed to a callee, and written back.
-/
import Derived.Test.YtkaolpcfpnckcaaEvOp3
set_option linter.unusedVariables false
set_option linter.unusedSimpArgs false
namespace Go.Ev
open Go

theorem idx_get : ∀ {ks : List Nat} {i j : Nat}, idx ks i = some j → ks[j]? = some i
  | [], i, j, h => by simp [idx] at h
  | m :: r, i, j, h => by
    unfold idx at h
    by_cases e : m = i
    · subst e; simp at h; subst h; rfl
    · have hb : Nat.beq m i = false := by rw [Bool.eq_false_iff]; intro e'; exact e (Nat.eq_of_beq_eq_true e')
      rw [hb] at h
      simp only [cond_false] at h
      cases hr : idx r i with
      | none => rw [hr] at h; cases h
      | some q => rw [hr] at h; simp at h; subst h; simpa using idx_get hr
theorem idx_of : ∀ {ks : List Nat} {i j : Nat}, nodupB ks = true → ks[j]? = some i → idx ks i = some j
  | [], _, _, _, h => by simp at h
  | m :: r, i, 0, _, h => by
    simp at h; subst h; simp [idx]
  | m :: r, i, j + 1, hd, h => by
    simp only [nodupB, Bool.and_eq_true] at hd
    simp at h
    have ih := idx_of hd.2 h
    have hne : m ≠ i := by
      intro e; subst e; rw [ih] at hd; simp at hd
    have hb : Nat.beq m i = false := by rw [Bool.eq_false_iff]; intro e'; exact hne (Nat.eq_of_beq_eq_true e')
    simp [idx, hb, ih]
theorem idx_none {ks : List Nat} {i : Nat} (h : idx ks i = none) : i ∉ ks := fun hm => by
  have := idx_mem.2 hm; rw [h] at this; cases this

theorem subM_get {M : Mem} {keep : List Nat} : ∀ {l : List Nat} {S : Mem}, subM M keep l = some S → S.length = l.length ∧ ∀ (j i : Nat), l[j]? = some i → ∃ e, M[i]? = some e ∧ S[j]? = some (match e with | .box cs => .box (V.ren.go (idx keep) cs) | .row sz n fz _ es => .row sz n fz false es)
  | [], S, h => by simp [subM] at h; subst h; exact ⟨rfl, fun j i h => by simp at h⟩
  | i :: r, S, h => by
    simp only [subM, getM] at h
    cases h1 : M[i]? with
    | none => rw [h1] at h; cases h
    | some e =>
      rw [h1] at h; simp only at h
      cases h2 : subM M keep r with
      | none => rw [h2] at h; cases h
      | some es =>
        rw [h2] at h; simp at h; subst h
        obtain ⟨e1, e2⟩ := subM_get h2
        refine ⟨by simp [e1], fun j i' hj => ?_⟩
        cases j with
        | zero => simp at hj; subst hj; exact ⟨e, h1, by cases e <;> simp⟩
        | succ j => simp at hj; obtain ⟨e', a, b⟩ := e2 j i' hj; exact ⟨e', a, by simpa using b⟩

theorem subM_mv {M : Mem} {keep : List Nat} {S : Mem} (h : subM M keep keep = some S) (j : Nat) : ¬ mvs S j := by
  rintro ⟨a, b, c, d, hj⟩
  obtain ⟨h1, h2⟩ := subM_get h
  have hl := lt_of_get hj
  have hk : keep[j]? = some (keep[j]'(by omega)) := by simp
  obtain ⟨e, _, h3⟩ := h2 j _ hk
  rw [hj] at h3
  cases e with
  | box cs => cases h3
  | row sz n fz mv es => cases h3

/-- The places of a part. -/
def subL (ι : Locs) (keep : List Nat) : Locs := keep.filterMap fun i => ι[i]?

theorem subL_get {ι : Locs} : ∀ {keep : List Nat}, (∀ i ∈ keep, i < ι.length) → (subL ι keep).length = keep.length ∧ ∀ j : Nat, (subL ι keep)[j]? = (keep[j]?).bind fun i => ι[i]?
  | [], _ => ⟨rfl, fun j => by simp [subL]⟩
  | i :: r, h => by
    have hi := h i (by simp)
    obtain ⟨e1, e2⟩ := subL_get (ι := ι) (keep := r) (fun i hi => h i (by simp [hi]))
    have hc : subL ι (i :: r) = ι[i] :: subL ι r := by simp [subL, hi]
    refine ⟨by rw [hc]; simp [e1], fun j => ?_⟩
    rw [hc]
    cases j with
    | zero => simp [hi]
    | succ j => simpa using e2 j

section
variable {C : Com} {ι : Locs} {M : Mem} {w : World}

theorem St.sub (hst : St C ι M w) {keep : List Nat} {S : Mem} (hd : nodupB keep = true) (hS : subM M keep keep = some S) :
    St C (subL ι keep) S w ∧ (∀ (i j : Nat) (L : Loc), idx keep i = some j → ι[i]? = some L → (subL ι keep)[j]? = some L) ∧ (∀ i ∈ keep, i < ι.length) := by
  obtain ⟨hl, hg⟩ := subM_get hS
  have hlt : ∀ i ∈ keep, i < ι.length := by
    intro i hi
    obtain ⟨j, hj, e⟩ := List.mem_iff_getElem.1 hi
    obtain ⟨e', h1, _⟩ := hg j i (by simp [hj, e])
    rw [hst.len]; exact lt_of_get h1
  obtain ⟨sl, sg⟩ := subL_get hlt
  have hidx : ∀ (i j : Nat) (L : Loc), idx keep i = some j → ι[i]? = some L → (subL ι keep)[j]? = some L := by
    intro i j L hi hL
    rw [sg, idx_get hi]; exact hL
  refine ⟨⟨by rw [sl, hl], ?_, ?_, hst.com⟩, hidx, hlt⟩
  · intro j L e hL he
    rw [sg] at hL
    cases hk : keep[j]? with
    | none => rw [hk] at hL; cases hL
    | some i =>
      rw [hk] at hL
      simp at hL
      obtain ⟨e0, h1, h2⟩ := hg j i hk
      rw [h2] at he; cases he
      have h0 := hst.ent i L e0 hL h1
      have := h0.ren (.refl _ _) (g := idx keep) (ι' := subL ι keep) hidx (fun _ => ⟨rfl, rfl⟩)
      cases e0 with
      | box cs => exact this
      | row sz n fz mv es => exact this
  · intro i j L L' hi hj l1 l2 eb
    rw [sg] at hi hj
    cases hki : keep[i]? with
    | none => rw [hki] at hi; cases hi
    | some a =>
      cases hkj : keep[j]? with
      | none => rw [hkj] at hj; cases hj
      | some b =>
        rw [hki] at hi; rw [hkj] at hj
        simp at hi hj
        have hab := hst.inj a b L L' hi hj l1 l2 eb
        subst hab
        have := idx_of hd hki
        rw [idx_of hd hkj] at this
        cases this; rfl

theorem movedOf_mem : ∀ {keep : List Nat} {Mc : Mem} {i : Nat}, i ∈ movedOf keep Mc ↔ ∃ j, keep[j]? = some i ∧ mvs Mc j
  | [], Mc, i => by simp [movedOf]
  | a :: r, [], i => by simp [movedOf, mvs]
  | a :: r, e :: es, i => by
    have hs : ∀ j, mvs (e :: es) (j + 1) ↔ mvs es j := fun j => by simp [mvs]
    have h0 : mvs (e :: es) 0 ↔ ∃ sz n fz es', e = .row sz n fz true es' := by simp [mvs]
    have ih := movedOf_mem (keep := r) (Mc := es) (i := i)
    have key : (∃ j, (a :: r)[j]? = some i ∧ mvs (e :: es) j) ↔ (a = i ∧ mvs (e :: es) 0) ∨ ∃ j, r[j]? = some i ∧ mvs es j := by
      constructor
      · rintro ⟨j, h1, h2⟩
        cases j with
        | zero => simp at h1; exact .inl ⟨h1, h2⟩
        | succ j => exact .inr ⟨j, by simpa using h1, (hs j).1 h2⟩
      · rintro (⟨h1, h2⟩ | ⟨j, h1, h2⟩)
        · exact ⟨0, by simp [h1], h2⟩
        · exact ⟨j + 1, by simpa using h1, (hs j).2 h2⟩
    rw [key, ← ih, h0]
    cases e with
    | box cs => simp [movedOf]
    | row sz n fz mv es' =>
      cases mv with
      | false => simp [movedOf]
      | true => simp [movedOf, eq_comm]

theorem writeBack_get {g : Nat → Option Nat} {keep : List Nat} {Mc : Mem} : ∀ {M : Mem} {i0 i : Nat}, (writeBack g keep Mc i0 M)[i]? = (M[i]?).map fun e => match idx keep (i0 + i) with
      | some j => match getM Mc j with
        | some e' => mergeE g e' e
        | none => e
      | none => e
  | [], _, _ => by simp [writeBack]
  | e :: es, i0, 0 => by simp only [writeBack, List.getElem?_cons_zero, Option.map_some, Nat.add_zero]; rfl
  | e :: es, i0, i + 1 => by
    simp only [writeBack, List.getElem?_cons_succ]
    rw [writeBack_get]
    rw [show i0 + 1 + i = i0 + (i + 1) by omega]
theorem writeBack_len {g : Nat → Option Nat} {keep : List Nat} {Mc : Mem} : ∀ {M : Mem} {i0 : Nat}, (writeBack g keep Mc i0 M).length = M.length
  | [], _ => rfl
  | e :: es, i0 => by simp [writeBack, writeBack_len]

/-- The places behind a call. -/
def backL (keep : List Nat) (ι3 : Locs) : Nat → Locs → Locs
  | _, [] => []
  | i, L :: ι => (match idx keep i with | some j => (ι3[j]?).getD L | none => L) :: backL keep ι3 (i + 1) ι
theorem backL_get {keep : List Nat} {ι3 : Locs} : ∀ {ι : Locs} {i0 i : Nat}, (backL keep ι3 i0 ι)[i]? = (ι[i]?).map fun L => match idx keep (i0 + i) with | some j => (ι3[j]?).getD L | none => L
  | [], _, _ => by simp [backL]
  | L :: ι, i0, 0 => by simp [backL]
  | L :: ι, i0, i + 1 => by
    simp only [backL, List.getElem?_cons_succ]
    rw [backL_get, show i0 + 1 + i = i0 + (i + 1) by omega]
theorem backL_len {keep : List Nat} {ι3 : Locs} : ∀ {ι : Locs} {i0 : Nat}, (backL keep ι3 i0 ι).length = ι.length
  | [], _ => rfl
  | L :: ι, i0 => by simp [backL, backL_len]

theorem EntOk.merge {w : World} {C : Com} {ι : Locs} {L : Loc} {e e0 : Ent} {g : Nat → Option Nat} (h : EntOk w C ι L (e.ren g)) : EntOk w C ι L (mergeE g e e0) := by
  cases e with
  | box cs => exact h
  | row sz n fz mv es => cases e0 <;> exact h
end
end Go.Ev
