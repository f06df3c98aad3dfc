/-
  Where ways meet: slots and entries that are told anew.
-/
import Derived.Test.YtkaolpcfpnckcaaEvBack
set_option linter.unusedVariables false
set_option linter.unusedSimpArgs false
namespace Go.Ev
open Go

section
variable {C : Com} {ι : Locs} {M : Mem} {w : World} {C0 : Com} {ι0 : Locs} {w0 : World}

theorem RV.plain {u : Value} {v : V} (h : RV w C ι u v) : RV w C ι u v.plain := by
  cases v with
  | kb b => simp only [V.plain]; unfold RV at h ⊢; unfold RD; exact h
  | d x => simp only [V.plain]; unfold RV at h ⊢; exact h.wk
  | _ => simpa [V.plain] using h
theorem RVs.plain : ∀ {us : List Value} {vs : List V}, RVs w C ι us vs → RVs w C ι us (plainL vs)
  | [], [], _ => by simp [plainL, RVs]
  | [], _ :: _, h => by simp [RVs] at h
  | _ :: _, [], h => by simp [RVs] at h
  | u :: us, v :: vs, h => by
    unfold RVs at h
    simp only [plainL]
    unfold RVs
    exact ⟨h.1.plain, RVs.plain h.2⟩
theorem EntOk.plain {L : Loc} {e : Ent} (h : EntOk w C ι L e) : EntOk w C ι L e.plain := by
  cases e with
  | box cs =>
    obtain ⟨h1, h2, us, T, fr, h3, h4, h5⟩ := h
    exact ⟨h1, h2, us, T, fr, h3, h4, h5.plain⟩
  | row => exact h

theorem ER.mono0 {a : Act} {e : Env} {C' : Com} {ι' : Locs} {M' : Mem} {w' : World} (h : ER w C ι a e) (g : Go1 C ι M w C' ι' M' w' (fun _ => False)) : ER w' C' ι' a e := fun t => g.rv (h t)

theorem ownSlots_ok {a : Act} : ∀ (l : List (Nat × Nat)) {e : Env} {M : Mem} {ι : Locs}, St C ι M w → ER w C ι a e → ∃ ι', Go1 C ι M w C ι' (ownSlots l e M).2 w (fun _ => False) ∧ ER w C ι' a (ownSlots l e M).1
  | [], e, M, ι, hst, he => ⟨ι, Go1.refl hst, he⟩
  | (t, sz) :: r, e, M, ι, hst, he => by
    unfold ownSlots
    split
    · rename_i szz es hv
      obtain ⟨s1, s2⟩ := hst.nil sz false false
      have g1 : Go1 C ι M w C (ι ++ [⟨true, sz, 0, 0, 0, 0⟩]) (M ++ [.row sz 0 false false []]) w (fun _ => False) := ⟨s1, s2 _, fun i _ hm => mvs_more (hm.elim (fun h => h) False.elim)⟩
      have he1 := he.mono0 g1
      have he2 : ER w C (ι ++ [⟨true, sz, 0, 0, 0, 0⟩]) a ((t, .own M.length) :: e) := by
        intro t'
        have : getE ((t, V.own M.length) :: e) t' = if t = t' then .own M.length else getE e t' := getE_put (d := t) (v := .own M.length)
        rw [this]
        by_cases e' : t = t'
        · subst e'
          rw [if_pos rfl]
          have h0 := he t
          rw [hv] at h0
          unfold RV RD at h0
          obtain ⟨ad, cap, e1, _, hf, _⟩ := h0
          have := hf rfl; subst this
          rw [e1]
          unfold RV
          exact ⟨⟨true, sz, 0, 0, 0, 0⟩, by rw [← hst.len]; simp, rfl, ad, rfl, .inl rfl⟩
        · rw [if_neg e']; exact he1 t'
      obtain ⟨ι2, g2, he3⟩ := ownSlots_ok r g1.st he2
      exact ⟨ι2, g1.trans hst g2 (fun i => by simp), he3⟩
    · exact ownSlots_ok r hst he

theorem weaken_ok : ∀ (l : List (Nat × Bool × Bool)) {M : Mem}, St C ι M w → St C ι (weaken l M) w ∧ ∀ i, mvs M i → mvs (weaken l M) i
  | [], M, h => ⟨h, fun _ h => h⟩
  | (i, f, m) :: r, M, h => by
    unfold weaken
    split
    · rename_i sz n fz mv es hM
      have hlt := lt_of_get hM
      have h1 : St C ι (M.set i (.row sz n (f || fz) (m || mv) es)) w := by
        refine ⟨by simp [h.len], fun j L e hL he => ?_, h.inj, h.com⟩
        by_cases hij : i = j
        · subst hij
          rw [List.getElem?_set_self hlt] at he; cases he
          obtain ⟨q1, q2, q3, q4, q5, q6, q7⟩ := h.ent i L _ hL hM
          refine ⟨q1, q2, q3, q4, q5, q6, q7.imp id ?_⟩
          rintro ⟨us, T, fr, h1, h2, h3, h4, h5⟩
          refine ⟨us, T, fr, h1, h2, h3, ?_, h5⟩
          cases f <;> cases fz <;> simp at h4 ⊢ <;> first | exact h4 | omega
        · rw [List.getElem?_set_ne hij] at he
          exact h.ent j L e hL he
      obtain ⟨h2, h3⟩ := weaken_ok r h1
      refine ⟨h2, fun j hj => h3 j ?_⟩
      obtain ⟨a, b, c, d, hj⟩ := hj
      by_cases hij : i = j
      · subst hij
        have hM' : M[i]? = some (.row sz n fz mv es) := hM
        rw [hM'] at hj; cases hj
        exact ⟨sz, n, f || fz, es, by rw [List.getElem?_set_self hlt]; simp⟩
      · exact ⟨a, b, c, d, by rw [List.getElem?_set_ne hij]; exact hj⟩
    · exact weaken_ok r h

theorem isPre_get : ∀ {n i : Nat} {l : List Nat}, isPre i n l = true → ∀ j, j < n → l[j]? = some (i + j)
  | 0, _, _, _, j, hj => by omega
  | n + 1, i, [], h, _, _ => by simp [isPre] at h
  | n + 1, i, a :: r, h, j, hj => by
    simp only [isPre, Bool.and_eq_true] at h
    have ha := Nat.eq_of_beq_eq_true h.1
    cases j with
    | zero => simp [ha]
    | succ j =>
      have := isPre_get h.2 j (by omega)
      simpa [Nat.add_assoc, Nat.add_comm 1 j] using this

theorem pickM_get {keep : List Nat} : ∀ {l : List Nat} {S : Mem}, pickM M keep l = some S → S.length = l.length ∧ ∀ (j i : Nat), l[j]? = some i → ∃ e, M[i]? = some e ∧ S[j]? = some (e.plain.ren (idx keep))
  | [], S, h => by simp [pickM] at h; subst h; exact ⟨rfl, fun j i h => by simp at h⟩
  | i :: r, S, h => by
    simp only [pickM, getM] at h
    cases h1 : M[i]? with
    | none => rw [h1] at h; cases h
    | some e =>
      rw [h1] at h; simp only at h
      cases h2 : pickM M keep r with
      | none => rw [h2] at h; cases h
      | some es =>
        rw [h2] at h; simp at h; subst h
        obtain ⟨e1, e2⟩ := pickM_get h2
        refine ⟨by simp [e1], fun j i' hj => ?_⟩
        cases j with
        | zero => simp at hj; subst hj; exact ⟨e, h1, by simp⟩
        | succ j => simp at hj; obtain ⟨e', a, b⟩ := e2 j i' hj; exact ⟨e', a, by simpa using b⟩

theorem pick_ok (hi : Inv C0 ι0 w0 C ι M w) {keep : List Nat} {S : Mem} (hp : isPre 0 ι0.length keep = true) (hd : nodupB keep = true) (hS : pickM M keep keep = some S) :
    ∃ ι', Inv C0 ι0 w0 C ι' S w ∧ ∀ (i j : Nat) (L : Loc), idx keep i = some j → ι[i]? = some L → ι'[j]? = some L := by
  obtain ⟨hl, hg⟩ := pickM_get hS
  have hst := hi.st
  have hlt : ∀ i ∈ keep, i < ι.length := by
    intro i hi'
    obtain ⟨j, hj, e⟩ := List.mem_iff_getElem.1 hi'
    obtain ⟨e', h1, _⟩ := hg j i (by simp [hj, e])
    rw [hst.len]; exact lt_of_get h1
  obtain ⟨sl, sg⟩ := subL_get hlt
  have hidx : ∀ (i j : Nat) (L : Loc), idx keep i = some j → ι[i]? = some L → (subL ι keep)[j]? = some L := by
    intro i j L hi' hL
    rw [sg, idx_get hi']; exact hL
  have hpre : ∀ j, j < ι0.length → keep[j]? = some j := fun j hj => by simpa using isPre_get hp j hj
  have hmv : ∀ i j, keep[j]? = some i → (mvs S j ↔ mvs M i) := by
    intro i j hk
    obtain ⟨e, h1, h2⟩ := hg j i hk
    constructor
    · rintro ⟨a, b, c, d, h⟩
      rw [h2] at h
      cases e with
      | box cs => simp [Ent.plain, Ent.ren] at h
      | row sz n fz mv es => simp [Ent.plain, Ent.ren] at h; obtain ⟨_, _, _, rfl, _⟩ := h; exact ⟨_, _, _, _, h1⟩
    · rintro ⟨a, b, c, d, h⟩
      rw [h1] at h; cases h
      exact ⟨a, b, c, d, h2⟩
  refine ⟨subL ι keep, ⟨⟨by rw [sl, hl], ?_, ?_, hst.com⟩, ⟨hi.stp.os, hi.stp.tape, hi.stp.output, hi.stp.size, hi.stp.out, hi.stp.keeps, ?_, ?_, ?_⟩⟩, hidx⟩
  · intro j L e hL he
    rw [sg] at hL
    cases hk : keep[j]? with
    | none => rw [hk] at hL; cases hL
    | some i =>
      rw [hk] at hL
      simp at hL
      obtain ⟨e0, h1, h2⟩ := hg j i hk
      rw [h2] at he; cases he
      exact (hst.ent i L e0 hL h1).plain.ren (.refl _ _) (g := idx keep) (ι' := subL ι keep) hidx (fun _ => ⟨rfl, rfl⟩)
  · intro i j L L' hi' hj l1 l2 eb
    rw [sg] at hi' hj
    cases hki : keep[i]? with
    | none => rw [hki] at hi'; cases hi'
    | some a =>
      cases hkj : keep[j]? with
      | none => rw [hkj] at hj; cases hj
      | some b =>
        rw [hki] at hi'; rw [hkj] at hj
        simp at hi' hj
        have hab := hst.inj a b L L' hi' hj l1 l2 eb
        subst hab
        have := idx_of hd hki
        rw [idx_of hd hkj] at this
        cases this; rfl
  · intro i L hL hn
    have hi0 := lt_of_get hL
    have hk := hpre i hi0
    have := hi.stp.same i L hL (fun h => hn ((hmv i i hk).2 h))
    rw [sg, hk]; exact this
  · intro i L hL hm
    have hi0 := lt_of_get hL
    have hk := hpre i hi0
    obtain ⟨L', e1, e2⟩ := hi.stp.moved i L hL ((hmv i i hk).1 hm)
    exact ⟨L', by rw [sg, hk]; exact e1, e2⟩
  · intro j L hge hL hlc
    rw [sg] at hL
    cases hk : keep[j]? with
    | none => rw [hk] at hL; cases hL
    | some i =>
      rw [hk] at hL
      simp at hL
      refine hi.stp.new i L ?_ hL hlc
      rcases Nat.lt_or_ge i ι0.length with h | h
      · have h1 := idx_of hd hk
        rw [idx_of hd (hpre i h)] at h1
        cases h1; omega
      · exact h

theorem getE_live {f : Nat → V} {t : Nat} : ∀ (l : List Nat), getE (l.map fun t => (t, f t)) t = if t ∈ l then f t else .undef
  | [] => by simp [getE, find]
  | d :: l => by
    have ih := getE_live (f := f) (t := t) l
    unfold getE at ih ⊢
    simp only [List.map_cons, find]
    by_cases h : d = t
    · subst h; simp
    · have hb : Nat.beq d t = false := by rw [Bool.eq_false_iff]; intro e'; exact h (Nat.eq_of_beq_eq_true e')
      have h' : ¬ t = d := fun e => h e.symm
      simp only [hb, cond_false, ih, List.mem_cons, h', false_or]

theorem applyNorm_ok {N : Norm} {m0 : Nat} (hm0 : m0 = ι0.length) {e e' : Env} {M' : Mem} (h : applyNorm N m0 e M = some (e', M')) (hi : Inv C0 ι0 w0 C ι M w) {a : Act} (he : ER w C ι a e) : ∃ ι', Inv C0 ι0 w0 C ι' M' w ∧ ER w C ι' a e' := by
  subst hm0
  unfold applyNorm at h
  obtain ⟨ι1, g1, he1⟩ := ownSlots_ok (a := a) N.own hi.st he
  generalize hos : ownSlots N.own e M = p at h g1 he1
  obtain ⟨e1, M1⟩ := p
  simp only at h g1 he1
  obtain ⟨ι2, g2⟩ := ownCells_ok N.ownc g1.st
  have he2 := he1.mono0 g2
  have hi2 := (hi.go g1).go g2
  obtain ⟨s3, hm3⟩ := weaken_ok N.weak g2.st
  have hi3 : Inv C0 ι0 w0 C ι2 (weaken N.weak (ownCells N.ownc M1)) w := ⟨s3, hi2.stp.weaken hm3⟩
  obtain ⟨ι2', hi3, he2⟩ := cutSlots_ok N.own hi3 he2
  generalize hcs : cutSlots N.own e1 (weaken N.weak (ownCells N.ownc M1)) = q0 at h hi3 he2
  obtain ⟨e2', M2'⟩ := q0
  simp only at h hi3 he2
  obtain ⟨ι3, hi3, he2⟩ := backSlots_ok N.back hi3 he2
  generalize hbs : backSlots ι0.length N.back e2' M2' = q at h hi3 he2
  obtain ⟨e3, M3⟩ := q
  simp only at h hi3 he2
  obtain ⟨hc, h⟩ := bif_some h
  simp only [Bool.and_eq_true] at hc
  generalize keepOf N.live ι0.length e3 M3 = keep at h hc
  cases hp : pickM M3 keep keep with
  | none => rw [hp] at h; cases h
  | some M4 =>
    rw [hp] at h; simp at h
    obtain ⟨rfl, rfl⟩ := h
    obtain ⟨ι4, hi4, hidx⟩ := pick_ok hi3 hc.1 hc.2 hp
    refine ⟨ι4, hi4, fun t => ?_⟩
    rw [getE_live]
    split
    · exact RV.ren (.refl _ _) hidx _ (he2 t).plain
    · simp [RV]
end
end Go.Ev
