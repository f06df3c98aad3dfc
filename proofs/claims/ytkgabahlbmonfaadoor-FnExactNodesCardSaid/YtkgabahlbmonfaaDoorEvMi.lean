import Derived.Test.YtkgabahlbmonfaaDoorEvFl
import Derived.Test.YtkgabahlbmonfaaDoorEvCon
set_option linter.unusedVariables false
set_option linter.unusedSimpArgs false
/-
  A row that stands for one that was handed over.
-/
namespace Go.Ev
open Go

section
variable {C : Com} {ι : Locs} {M : Mem} {w : World} {C0 : Com} {ι0 : Locs} {w0 : World}

theorem backG_some {i j a b : Nat} (h : backG i j a = some b) : a ≠ i ∧ (a = j → b = i) ∧ (a ≠ j → b = a) := by
  unfold backG at h
  cases h1 : Nat.beq a i with
  | true => rw [h1] at h; cases h
  | false =>
    rw [h1] at h
    simp only [cond_false] at h
    have hai : a ≠ i := fun e => by rw [e] at h1; simp at h1
    cases h2 : Nat.beq a j with
    | true =>
      rw [h2] at h
      have := Nat.eq_of_beq_eq_true h2
      simp at h
      exact ⟨hai, fun _ => h.symm, fun e => absurd this e⟩
    | false =>
      rw [h2] at h
      have haj : a ≠ j := fun e => by rw [e] at h2; simp at h2
      simp at h
      exact ⟨hai, fun e => absurd e haj, fun _ => h.symm⟩

theorem back1_gen (hi : Inv C0 ι0 w0 C ι M w) {i j sz : Nat} {eI eJ e' : Ent} (hMi : M[i]? = some eI) (hMj : M[j]? = some eJ) (hlt : i < ι0.length) (hge : ι0.length ≤ j) (hmv : e'.mvd = true) (hE : ∀ ι' L, EntOk w C ι L eJ → EntOk w C ι' L e') (hsz : ∀ L L', EntOk w C ι L eI → EntOk w C ι L' eJ → L'.row = L.row ∧ L'.sz = L.sz) :
    ∃ ι', Inv C0 ι0 w0 C ι' (((M.map (Ent.ren (backG i j))).set i e').set j (.row sz 0 false false [])) w ∧ ∀ (a b : Nat) (L : Loc), backG i j a = some b → ι[a]? = some L → ι'[b]? = some L := by
  have hst := hi.st
  have hij : i ≠ j := by omega
  obtain ⟨Li, hLi, hEi⟩ := hst.get hMi
  obtain ⟨Lj, hLj, hEj⟩ := hst.get hMj
  have hli := lt_of_get hLi
  have hlj := lt_of_get hLj
  have hMil := lt_of_get hMi
  have hMjl := lt_of_get hMj
  let nl : Loc := ⟨true, sz, 0, 0, 0, 0⟩
  have hnl : ¬ nl.located := by simp [Loc.located, nl]
  let ι' : Locs := (ι.set i Lj).set j nl
  have gi : ι'[i]? = some Lj := by simp only [ι']; rw [List.getElem?_set_ne (by omega)]; simp [hli]
  have gj : ι'[j]? = some nl := by simp only [ι']; simp [hlj]
  have go : ∀ k, k ≠ i → k ≠ j → ι'[k]? = ι[k]? := fun k a b => by simp only [ι']; rw [List.getElem?_set_ne (by omega), List.getElem?_set_ne (by omega)]
  have hg : ∀ (a b : Nat) (L : Loc), backG i j a = some b → ι[a]? = some L → ι'[b]? = some L := by
    intro a b L hab hL
    obtain ⟨q1, q2, q3⟩ := backG_some hab
    by_cases e : a = j
    · rw [q2 e, gi]; rw [e, hLj] at hL; exact hL
    · rw [q3 e, go a q1 e]; exact hL
  let M' : Mem := ((M.map (Ent.ren (backG i j))).set i e').set j (.row sz 0 false false [])
  have mi : M'[i]? = some e' := by simp only [M']; rw [List.getElem?_set_ne (by omega)]; simp [hMil]
  have mj : M'[j]? = some (.row sz 0 false false []) := by simp only [M']; simp [hMjl]
  have mo : ∀ k, k ≠ i → k ≠ j → M'[k]? = (M[k]?).map (Ent.ren (backG i j)) := fun k a b => by simp only [M']; rw [List.getElem?_set_ne (by omega), List.getElem?_set_ne (by omega), List.getElem?_map]
  -- where the rows lie now
  have where' : ∀ k L, ι'[k]? = some L → L.located → ∃ k', ι[k']? = some L ∧ ((k = i ∧ k' = j) ∨ (k ≠ i ∧ k ≠ j ∧ k' = k)) := by
    intro k L hk hl
    by_cases e1 : k = i
    · subst e1; rw [gi] at hk; cases hk; exact ⟨j, hLj, .inl ⟨rfl, rfl⟩⟩
    · by_cases e2 : k = j
      · subst e2; rw [gj] at hk; cases hk; exact absurd hl hnl
      · rw [go k e1 e2] at hk; exact ⟨k, hk, .inr ⟨e1, e2, rfl⟩⟩
  have hmo : ∀ k, k ≠ i → k ≠ j → (mvs M' k ↔ mvs M k) := by
    intro k a b
    unfold mvs
    rw [mo k a b]
    constructor
    · rintro ⟨e, hm, hd⟩
      cases hk : M[k]? with
      | none => rw [hk] at hm; cases hm
      | some e0 =>
        rw [hk] at hm
        simp at hm
        subst hm
        rw [Ent.ren_mvd] at hd
        exact ⟨e0, rfl, hd⟩
    · rintro ⟨e, hm, hd⟩
      rw [hm]; exact ⟨_, rfl, by rw [Ent.ren_mvd]; exact hd⟩
  have hmi : mvs M' i := ⟨_, mi, hmv⟩
  have hok : C.Ok ι' w.heap.size := by
    intro b m hm
    obtain ⟨q1, q2, q3, q4, q5⟩ := hst.own b m hm
    refine ⟨q1, q2, q3, q4, fun k L hk hl => ?_⟩
    obtain ⟨k', hk', _⟩ := where' k L hk hl
    exact q5 k' L hk' hl
  refine ⟨ι', ⟨⟨?_, ?_, ?_, hst.com, hok⟩, ⟨hi.stp.os, hi.stp.tape, hi.stp.output, hi.stp.size, hi.stp.pre, hi.stp.out, hi.stp.ownc, hi.stp.keeps, ?_, ?_, ?_⟩⟩, hg⟩
  · simp [ι', hst.len]
  · intro k L e hk he
    by_cases e1 : k = i
    · subst e1
      rw [gi] at hk; cases hk
      rw [mi] at he; cases he
      exact hE _ _ hEj
    · by_cases e2 : k = j
      · subst e2
        rw [gj] at hk; cases hk
        rw [mj] at he; cases he
        exact ⟨rfl, rfl, rfl, Nat.le_refl _, rfl, fun c hc => by simp at hc, .inl rfl⟩
      · rw [go k e1 e2] at hk
        rw [mo k e1 e2] at he
        cases hM : M[k]? with
        | none => rw [hM] at he; cases he
        | some e0 =>
          rw [hM] at he; simp at he; subst he
          exact (hst.ent k L e0 hk hM).ren (.refl _ _) (g := backG i j) (ι' := ι') hg (fun _ => .refl)
  · intro a b L L' ha hb l1 l2 eb
    obtain ⟨a', ha', ca⟩ := where' a L ha l1
    obtain ⟨b', hb', cb⟩ := where' b L' hb l2
    have := hst.inj a' b' L L' ha' hb' l1 l2 eb
    omega
  · intro k L hk hn
    by_cases e1 : k = i
    · subst e1; exact absurd hmi hn
    · have hk0 := lt_of_get hk
      have e2 : k ≠ j := by omega
      rw [go k e1 e2]
      exact hi.stp.same k L hk (fun h => hn ((hmo k e1 e2).2 h))
  · intro k L hk hm
    by_cases e1 : k = i
    · subst e1
      obtain ⟨L2, hL2, r2, s2⟩ := hi.stp.row hk
      rw [hLi] at hL2; cases hL2
      refine ⟨Lj, gi, ?_, ?_, fun hl => ?_⟩
      · rw [← r2, (hsz _ _ hEi hEj).1]
      · rw [← s2, (hsz _ _ hEi hEj).2]
      · exact hi.stp.new j Lj hge hLj hl
    · have hk0 := lt_of_get hk
      have e2 : k ≠ j := by omega
      rw [go k e1 e2]
      exact hi.stp.moved k L hk ((hmo k e1 e2).1 hm)
  · intro k L hk hL hl
    have e1 : k ≠ i := by omega
    obtain ⟨k', hk', ck⟩ := where' k L hL hl
    exact hi.stp.new k' L (by omega) hk' hl
theorem back1_ok (hi : Inv C0 ι0 w0 C ι M w) {i j : Nat} {M' : Mem} (h : back1 ι0.length i j M = some M') : ∃ ι', Inv C0 ι0 w0 C ι' M' w ∧ ∀ (a b : Nat) (L : Loc), backG i j a = some b → ι[a]? = some L → ι'[b]? = some L := by
  unfold back1 getM at h
  split at h
  · rename_i sz n0 fz0 mv0 es0 sz' n fz mv es hMi hMj
    obtain ⟨hc, h⟩ := bif_some h
    simp only [Bool.and_eq_true] at hc
    obtain ⟨⟨h1, h2⟩, h3⟩ := hc
    have hsz := Nat.eq_of_beq_eq_true h3
    subst hsz
    simp at h
    subst h
    exact back1_gen hi hMi hMj (by simpa [Nat.blt_eq] using h1) (by simpa using h2) rfl (fun _ _ h => h) (fun L L' a b => ⟨b.1.trans a.1.symm, b.2.1.trans a.2.1.symm⟩)
  · rename_i sz n0 mv0 es0 sz' n mv es hMi hMj
    obtain ⟨hc, h⟩ := bif_some h
    simp only [Bool.and_eq_true] at hc
    obtain ⟨⟨h1, h2⟩, h3⟩ := hc
    have hsz := Nat.eq_of_beq_eq_true h3
    subst hsz
    simp at h
    subst h
    exact back1_gen hi hMi hMj (by simpa [Nat.blt_eq] using h1) (by simpa using h2) rfl (fun _ _ h => h) (fun L L' a b => ⟨b.1.trans a.1.symm, b.2.1.trans a.2.1.symm⟩)
  · cases h

theorem cut1_ok (hi : Inv C0 ι0 w0 C ι M w) {i k sz : Nat} {M' : Mem} (h : cut1 i k sz M = some M') {v : Value} (hv : RV w C ι v (.ref i 0 k)) : ∃ ι', Inv C0 ι0 w0 C ι' M' w ∧ (∀ (a b : Nat) (L : Loc), notIn [i] a = some b → ι[a]? = some L → ι'[b]? = some L) ∧ RV w C ι' v (.own i) := by
  have hst := hi.st
  unfold cut1 at h
  simp only [getM] at h
  split at h
  · rename_i sz' n mv es hM
    obtain ⟨hc, h⟩ := bif_some h
    simp only [Bool.and_eq_true] at hc
    obtain ⟨hz, hk⟩ := hc
    have hz := Nat.eq_of_beq_eq_true hz
    have hk : k ≤ n := by simpa using hk
    simp at h
    subst h hz
    unfold RV at hv
    obtain ⟨L, hL, hr, hle, a, c, rfl, hkc, ha⟩ := hv
    obtain ⟨hrow, q1, q2, q3, q4, q5, q6⟩ := hst.ent i L _ hL hM
    have hlt := lt_of_get hL
    have hel : (es.take k).length = k := by simp; omega
    have he5 : ∀ c ∈ es.take k, c.length = sz' := fun c hc => q5 c (List.take_subset _ _ hc)
    have hg : ∀ (L' : Loc) (x b : Nat) (L0 : Loc), notIn [i] x = some b → ι[x]? = some L0 → (ι.set i L')[b]? = some L0 := by
      intro L' x b L0 hx h0
      unfold notIn at hx
      simp only [idx] at hx
      cases hb : Nat.beq i x with
      | true => rw [hb] at hx; cases hx
      | false =>
        rw [hb] at hx
        simp at hx
        subst hx
        rw [List.getElem?_set_ne (fun e => by rw [e] at hb; simp at hb)]
        exact h0
    by_cases hc0 : c = 0
    · have hk0 : k = 0 := by omega
      subst hc0 hk0
      let L' : Loc := ⟨true, sz', 0, 0, 0, 0⟩
      have hnl : ¬ L'.located := by simp [Loc.located, L']
      have u' : Upd C ι w i L L' C w := ⟨rfl, hst.own, rfl, rfl, rfl, Nat.le_refl _, hL, .refl _ _, fun _ _ _ => ⟨rfl, rfl⟩, fun hl => absurd hl hnl, hrow.symm, q1.symm, hst.com⟩
      refine ⟨ι.set i L', hi.go (ks := (· ∈ [i])) ⟨u'.st hst _ (.inl ⟨_, _, _, _, _, rfl⟩) ?_, u'.stp (.inr (by simp)), fun j _ hm => mvs_kill hM rfl hm⟩, hg L', ?_⟩
      · exact ⟨rfl, rfl, rfl, Nat.le_refl _, hel, he5, .inl rfl⟩
      · unfold RV
        exact ⟨L', by simp [hlt], rfl, a, rfl, .inl rfl⟩
    · rcases ha with ha | ⟨hcap, rfl⟩
      · exact absurd ha hc0
      rcases q6 with q6 | ⟨us, T', fr, hh, hso, hzz, hC, hre⟩
      · omega
      have hce : c = L.cap := by omega
      subst hce
      let L' : Loc := ⟨true, sz', k, L.b, L.base, L.cap⟩
      have hloc : L.located := .inr hc0
      have u' : Upd C ι w i L L' C w := ⟨rfl, hst.own, rfl, rfl, rfl, Nat.le_refl _, hL, .refl _ _, fun _ _ _ => ⟨rfl, rfl⟩, fun _ => .inl ⟨hloc, rfl⟩, hrow.symm, q1.symm, hst.com⟩
      refine ⟨ι.set i L', hi.go (ks := (· ∈ [i])) ⟨u'.st hst _ (.inl ⟨_, _, _, _, _, rfl⟩) ?_, u'.stp (.inr (by simp)), fun j _ hm => mvs_kill hM rfl hm⟩, hg L', ?_⟩
      · exact ⟨rfl, rfl, rfl, hkc, hel, he5, .inr ⟨us, T', fr, hh, hso, hzz, by simpa using hC, REs.take k hre⟩⟩
      · unfold RV
        exact ⟨L', by simp [hlt], rfl, _, rfl, .inr (by simp [L'])⟩
  · cases h

theorem getE_mapV {g : V → V} (hg : g .undef = .undef) : ∀ (e : Env) (t : Nat), getE (e.map fun p => (p.1, g p.2)) t = g (getE e t)
  | [], t => by simp [getE, find, hg]
  | (d, v) :: e, t => by
    have ih := getE_mapV hg e t
    unfold getE at ih ⊢
    simp only [List.map_cons, find]
    cases h : Nat.beq d t with
    | true => rfl
    | false => simpa using ih

theorem backSlots_ok {a : Act} : ∀ (l : List (Nat × Nat)) {e : Env} {M : Mem} {ι : Locs}, Inv C0 ι0 w0 C ι M w → ER w C ι a e → ∃ ι', Inv C0 ι0 w0 C ι' (backSlots ι0.length l e M).2 w ∧ ER w C ι' a (backSlots ι0.length l e M).1
  | [], e, M, ι, hi, he => ⟨ι, hi, he⟩
  | (t, i) :: r, e, M, ι, hi, he => by
    unfold backSlots
    cases h1 : ownOf (getE e t) with
    | none => exact backSlots_ok r hi he
    | some j =>
      simp only
      cases h2 : back1 ι0.length i j M with
      | none => exact backSlots_ok r hi he
      | some M' =>
        simp only
        obtain ⟨ι1, hi1, hg⟩ := back1_ok hi h2
        refine backSlots_ok r hi1 (fun t' => ?_)
        rw [getE_mapV (g := fun v => v.ren (backG i j)) (by simp [V.ren])]
        exact RV.ren (.refl _ _) hg _ (he t')
theorem backVals_ok : ∀ (l : List (Nat × Nat × Nat)) {us : List Value} {vs : List V} {M : Mem} {ι : Locs}, Inv C0 ι0 w0 C ι M w → RVs w C ι us vs → ∃ ι', Inv C0 ι0 w0 C ι' (backVals ι0.length l vs M).2 w ∧ RVs w C ι' us (backVals ι0.length l vs M).1
  | [], us, vs, M, ι, hi, hv => ⟨ι, hi, hv⟩
  | (x, c, i) :: r, us, vs, M, ι, hi, hv => by
    unfold backVals
    cases h1 : ownOf (cellOf vs x c) with
    | none => exact backVals_ok r hi hv
    | some j =>
      simp only
      cases h2 : back1 ι0.length i j M with
      | none => exact backVals_ok r hi hv
      | some M' =>
        simp only
        obtain ⟨ι1, hi1, hg⟩ := back1_ok hi h2
        exact backVals_ok r hi1 (RVs.ren (.refl _ _) hg _ hv)
theorem cutSlots_ok {a : Act} : ∀ (l : List (Nat × Nat)) {e : Env} {M : Mem} {ι : Locs}, Inv C0 ι0 w0 C ι M w → ER w C ι a e → ∃ ι', Inv C0 ι0 w0 C ι' (cutSlots l e M).2 w ∧ ER w C ι' a (cutSlots l e M).1
  | [], e, M, ι, hi, he => ⟨ι, hi, he⟩
  | (t, sz) :: r, e, M, ι, hi, he => by
    unfold cutSlots
    cases h1 : cutOf (getE e t) with
    | none => exact cutSlots_ok r hi he
    | some p =>
      obtain ⟨i, k⟩ := p
      simp only
      cases h2 : cut1 i k sz M with
      | none => exact cutSlots_ok r hi he
      | some M' =>
        simp only
        have h0 : RV w C ι (a.tmps.getD t undef) (.ref i 0 k) := by
          have h0 := he t
          unfold cutOf at h1
          split at h1
          · rename_i heq
            cases h1; rw [heq] at h0; exact h0
          · cases h1
        obtain ⟨ι1, hi1, hg, hv⟩ := cut1_ok hi h2 h0
        refine cutSlots_ok r hi1 (fun t' => ?_)
        have hp : getE ((t, V.own i) :: killE [i] e) t' = if t = t' then .own i else getE (killE [i] e) t' := getE_put (d := t) (v := .own i)
        rw [hp]
        split
        · rename_i e'
          subst e'
          exact hv
        · unfold killE
          rw [getE_mapV (g := fun v => v.ren (notIn [i])) (by simp [V.ren])]
          exact RV.ren (.refl _ _) hg _ (he t')
end
end Go.Ev

/-
  Where ways meet: slots and entries that are told anew.
-/
namespace Go.Ev
open Go

section
variable {C : Com} {ι : Locs} {M : Mem} {w : World} {C0 : Com} {ι0 : Locs} {w0 : World}

theorem RV.plain {u : Value} {v : V} (h : RV w C ι u v) : RV w C ι u v.plain := by
  cases v with
  | kb b => simp only [V.plain]; unfold RV at h ⊢; unfold RD; exact h
  | d x => simp only [V.plain]; unfold RV at h ⊢; exact h.wk
  | _ => simpa [V.plain] using h
theorem RVs.plain : ∀ {us : List Value} {vs : List V}, RVs w C ι us vs → RVs w C ι us (plainL vs)
  | [], [], _ => by simp [plainL, RVs]
  | [], _ :: _, h => by simp [RVs] at h
  | _ :: _, [], h => by simp [RVs] at h
  | u :: us, v :: vs, h => by
    unfold RVs at h
    simp only [plainL]
    unfold RVs
    exact ⟨h.1.plain, RVs.plain h.2⟩
theorem EntOk.plain {L : Loc} {e : Ent} (h : EntOk w C ι L e) : EntOk w C ι L e.plain := by
  cases e with
  | box cs =>
    obtain ⟨h1, h2, us, T, fr, h3, h4, h5⟩ := h
    exact ⟨h1.len (h5.length.symm.trans h5.plain.length), h2, us, T, fr, h3, h4, h5.plain⟩
  | _ => exact h

theorem ER.mono0 {a : Act} {e : Env} {C' : Com} {ι' : Locs} {M' : Mem} {w' : World} (h : ER w C ι a e) (g : Go1 C ι M w C' ι' M' w' (fun _ => False)) : ER w' C' ι' a e := fun t => g.rv (h t)

theorem ownSlots_ok {a : Act} : ∀ (l : List (Nat × Nat)) {e : Env} {M : Mem} {ι : Locs}, St C ι M w → ER w C ι a e → ∃ ι', Go1 C ι M w C ι' (ownSlots l e M).2 w (fun _ => False) ∧ ER w C ι' a (ownSlots l e M).1
  | [], e, M, ι, hst, he => ⟨ι, Go1.refl hst, he⟩
  | (t, sz) :: r, e, M, ι, hst, he => by
    unfold ownSlots
    split
    · rename_i szz es hv
      obtain ⟨s1, s2⟩ := hst.nilEnt sz
      have g1 : Go1 C ι M w C (ι ++ [⟨true, nilSz sz, 0, 0, 0, 0⟩]) (M ++ [nilEnt sz]) w (fun _ => False) := ⟨s1, s2 _, fun i _ hm => mvs_more (hm.elim (fun h => h) False.elim)⟩
      have he1 := he.mono0 g1
      have he2 : ER w C (ι ++ [⟨true, nilSz sz, 0, 0, 0, 0⟩]) a ((t, .own M.length) :: e) := by
        intro t'
        have : getE ((t, V.own M.length) :: e) t' = if t = t' then .own M.length else getE e t' := getE_put (d := t) (v := .own M.length)
        rw [this]
        by_cases e' : t = t'
        · subst e'
          rw [if_pos rfl]
          have h0 := he t
          rw [hv] at h0
          unfold RV RD at h0
          obtain ⟨ad, cap, e1, _, hf, _⟩ := h0
          have := hf rfl; subst this
          rw [e1]
          unfold RV
          exact ⟨⟨true, nilSz sz, 0, 0, 0, 0⟩, by rw [← hst.len]; simp, rfl, ad, rfl, .inl rfl⟩
        · rw [if_neg e']; exact he1 t'
      obtain ⟨ι2, g2, he3⟩ := ownSlots_ok r g1.st he2
      exact ⟨ι2, g1.trans hst g2 (fun i => by simp), he3⟩
    · exact ownSlots_ok r hst he

theorem weak_set (h : St C ι M w) {i : Nat} {e e' : Ent} (hM : M[i]? = some e) (he : ∀ L, EntOk w C ι L e → EntOk w C ι L e') : St C ι (M.set i e') w := by
  have hlt := lt_of_get hM
  refine ⟨by simp [h.len], fun j L e1 hL he1 => ?_, h.inj, h.com, h.own⟩
  by_cases hij : i = j
  · subst hij
    rw [List.getElem?_set_self hlt] at he1; cases he1
    exact he L (h.ent i L _ hL hM)
  · rw [List.getElem?_set_ne hij] at he1
    exact h.ent j L e1 hL he1
theorem weaken_ok : ∀ (l : List (Nat × Bool × Bool)) {M : Mem}, St C ι M w → St C ι (weaken l M) w ∧ ∀ i, mvs M i → mvs (weaken l M) i
  | [], M, h => ⟨h, fun _ h => h⟩
  | (i, f, m) :: r, M, h => by
    unfold weaken
    split
    · rename_i sz n fz mv es hM
      have hM : M[i]? = some (.row sz n fz mv es) := hM
      have h1 : St C ι (M.set i (.row sz n (f || fz) (m || mv) es)) w := by
        refine weak_set h hM (fun L hE => ?_)
        obtain ⟨q1, q2, q3, q4, q5, q6, q7⟩ := hE
        refine ⟨q1, q2, q3, q4, q5, q6, q7.imp id ?_⟩
        rintro ⟨us, T, fr, h1, h2, h3, h4, h5⟩
        refine ⟨us, T, fr, h1, h2, h3, ?_, h5⟩
        cases f <;> cases fz <;> simp at h4 ⊢ <;> first | exact h4 | omega
      obtain ⟨h2, h3⟩ := weaken_ok r h1
      exact ⟨h2, fun j hj => h3 j (mvs_setE (e' := .row sz n (f || fz) (m || mv) es) hM (fun h => by have h : mv = true := h; simp [Ent.mvd, h]) hj)⟩
    · rename_i sz n mv es hM
      have hM : M[i]? = some (.lrow sz n mv es) := hM
      have h1 : St C ι (M.set i (.lrow sz n (m || mv) es)) w := weak_set h hM (fun L hE => hE)
      obtain ⟨h2, h3⟩ := weaken_ok r h1
      exact ⟨h2, fun j hj => h3 j (mvs_setE (e' := .lrow sz n (m || mv) es) hM (fun h => by have h : mv = true := h; simp [Ent.mvd, h]) hj)⟩
    · exact weaken_ok r h

theorem isPre_get : ∀ {n i : Nat} {l : List Nat}, isPre i n l = true → ∀ j, j < n → l[j]? = some (i + j)
  | 0, _, _, _, j, hj => by omega
  | n + 1, i, [], h, _, _ => by simp [isPre] at h
  | n + 1, i, a :: r, h, j, hj => by
    simp only [isPre, Bool.and_eq_true] at h
    have ha := Nat.eq_of_beq_eq_true h.1
    cases j with
    | zero => simp [ha]
    | succ j =>
      have := isPre_get h.2 j (by omega)
      simpa [Nat.add_assoc, Nat.add_comm 1 j] using this

theorem pickM_get {keep : List Nat} : ∀ {l : List Nat} {S : Mem}, pickM M keep l = some S → S.length = l.length ∧ ∀ (j i : Nat), l[j]? = some i → ∃ e, M[i]? = some e ∧ S[j]? = some (e.plain.ren (idx keep))
  | [], S, h => by simp [pickM] at h; subst h; exact ⟨rfl, fun j i h => by simp at h⟩
  | i :: r, S, h => by
    simp only [pickM, getM] at h
    cases h1 : M[i]? with
    | none => rw [h1] at h; cases h
    | some e =>
      rw [h1] at h; simp only at h
      cases h2 : pickM M keep r with
      | none => rw [h2] at h; cases h
      | some es =>
        rw [h2] at h; simp at h; subst h
        obtain ⟨e1, e2⟩ := pickM_get h2
        refine ⟨by simp [e1], fun j i' hj => ?_⟩
        cases j with
        | zero => simp at hj; subst hj; exact ⟨e, h1, by simp⟩
        | succ j => simp at hj; obtain ⟨e', a, b⟩ := e2 j i' hj; exact ⟨e', a, by simpa using b⟩

theorem pick_ok (hi : Inv C0 ι0 w0 C ι M w) {keep : List Nat} {S : Mem} (hp : isPre 0 ι0.length keep = true) (hd : nodupB keep = true) (hS : pickM M keep keep = some S) :
    ∃ ι', Inv C0 ι0 w0 C ι' S w ∧ ∀ (i j : Nat) (L : Loc), idx keep i = some j → ι[i]? = some L → ι'[j]? = some L := by
  obtain ⟨hl, hg⟩ := pickM_get hS
  have hst := hi.st
  have hlt : ∀ i ∈ keep, i < ι.length := by
    intro i hi'
    obtain ⟨j, hj, e⟩ := List.mem_iff_getElem.1 hi'
    obtain ⟨e', h1, _⟩ := hg j i (by simp [hj, e])
    rw [hst.len]; exact lt_of_get h1
  obtain ⟨sl, sg⟩ := subL_get hlt
  have hidx : ∀ (i j : Nat) (L : Loc), idx keep i = some j → ι[i]? = some L → (subL ι keep)[j]? = some L := by
    intro i j L hi' hL
    rw [sg, idx_get hi']; exact hL
  have hpre : ∀ j, j < ι0.length → keep[j]? = some j := fun j hj => by simpa using isPre_get hp j hj
  have hmv : ∀ i j, keep[j]? = some i → (mvs S j ↔ mvs M i) := by
    intro i j hk
    obtain ⟨e, h1, h2⟩ := hg j i hk
    constructor
    · rintro ⟨a, h, hd⟩
      rw [h2] at h
      cases h
      refine ⟨e, h1, ?_⟩
      rw [Ent.ren_mvd] at hd
      cases e <;> exact hd
    · rintro ⟨a, h, hd⟩
      rw [h1] at h; cases h
      refine ⟨_, h2, ?_⟩
      rw [Ent.ren_mvd]
      cases e <;> exact hd
  have hok : C.Ok (subL ι keep) w.heap.size := by
    intro b m hm
    obtain ⟨q1, q2, q3, q4, q5⟩ := hst.own b m hm
    refine ⟨q1, q2, q3, q4, fun j L hj hl => ?_⟩
    rw [sg] at hj
    cases hk : keep[j]? with
    | none => rw [hk] at hj; cases hj
    | some i => rw [hk] at hj; simp at hj; exact q5 i L hj hl
  refine ⟨subL ι keep, ⟨⟨by rw [sl, hl], ?_, ?_, hst.com, hok⟩, ⟨hi.stp.os, hi.stp.tape, hi.stp.output, hi.stp.size, hi.stp.pre, hi.stp.out, hi.stp.ownc, hi.stp.keeps, ?_, ?_, ?_⟩⟩, hidx⟩
  · intro j L e hL he
    rw [sg] at hL
    cases hk : keep[j]? with
    | none => rw [hk] at hL; cases hL
    | some i =>
      rw [hk] at hL
      simp at hL
      obtain ⟨e0, h1, h2⟩ := hg j i hk
      rw [h2] at he; cases he
      exact (hst.ent i L e0 hL h1).plain.ren (.refl _ _) (g := idx keep) (ι' := subL ι keep) hidx (fun _ => .refl)
  · intro i j L L' hi' hj l1 l2 eb
    rw [sg] at hi' hj
    cases hki : keep[i]? with
    | none => rw [hki] at hi'; cases hi'
    | some a =>
      cases hkj : keep[j]? with
      | none => rw [hkj] at hj; cases hj
      | some b =>
        rw [hki] at hi'; rw [hkj] at hj
        simp at hi' hj
        have hab := hst.inj a b L L' hi' hj l1 l2 eb
        subst hab
        have := idx_of hd hki
        rw [idx_of hd hkj] at this
        cases this; rfl
  · intro i L hL hn
    have hi0 := lt_of_get hL
    have hk := hpre i hi0
    have := hi.stp.same i L hL (fun h => hn ((hmv i i hk).2 h))
    rw [sg, hk]; exact this
  · intro i L hL hm
    have hi0 := lt_of_get hL
    have hk := hpre i hi0
    obtain ⟨L', e1, e2⟩ := hi.stp.moved i L hL ((hmv i i hk).1 hm)
    exact ⟨L', by rw [sg, hk]; exact e1, e2⟩
  · intro j L hge hL hlc
    rw [sg] at hL
    cases hk : keep[j]? with
    | none => rw [hk] at hL; cases hL
    | some i =>
      rw [hk] at hL
      simp at hL
      refine hi.stp.new i L ?_ hL hlc
      rcases Nat.lt_or_ge i ι0.length with h | h
      · have h1 := idx_of hd hk
        rw [idx_of hd (hpre i h)] at h1
        cases h1; omega
      · exact h

theorem getE_live {f : Nat → V} {t : Nat} : ∀ (l : List Nat), getE (l.map fun t => (t, f t)) t = if t ∈ l then f t else .undef
  | [] => by simp [getE, find]
  | d :: l => by
    have ih := getE_live (f := f) (t := t) l
    unfold getE at ih ⊢
    simp only [List.map_cons, find]
    by_cases h : d = t
    · subst h; simp
    · have hb : Nat.beq d t = false := by rw [Bool.eq_false_iff]; intro e'; exact h (Nat.eq_of_beq_eq_true e')
      have h' : ¬ t = d := fun e => h e.symm
      simp only [hb, cond_false, ih, List.mem_cons, h', false_or]

theorem applyNorm_ok {N : Norm} {m0 : Nat} (hm0 : m0 = ι0.length) {e e' : Env} {M' : Mem} (h : applyNorm N m0 e M = some (e', M')) (hi : Inv C0 ι0 w0 C ι M w) {a : Act} (he : ER w C ι a e) : ∃ ι', Inv C0 ι0 w0 C ι' M' w ∧ ER w C ι' a e' := by
  subst hm0
  unfold applyNorm at h
  obtain ⟨ι1, g1, he1⟩ := ownSlots_ok (a := a) N.own hi.st he
  generalize hos : ownSlots N.own e M = p at h g1 he1
  obtain ⟨e1, M1⟩ := p
  simp only at h g1 he1
  obtain ⟨ι2, g2⟩ := ownCells_ok N.ownc g1.st
  have he2 := he1.mono0 g2
  have hi2 := (hi.go g1).go g2
  obtain ⟨s3, hm3⟩ := weaken_ok N.weak g2.st
  have hi3 : Inv C0 ι0 w0 C ι2 (weaken N.weak (ownCells N.ownc M1)) w := ⟨s3, hi2.stp.weaken hm3⟩
  obtain ⟨ι2', hi3, he2⟩ := cutSlots_ok N.own hi3 he2
  generalize hcs : cutSlots N.own e1 (weaken N.weak (ownCells N.ownc M1)) = q0 at h hi3 he2
  obtain ⟨e2', M2'⟩ := q0
  simp only at h hi3 he2
  obtain ⟨ι3, hi3, he2⟩ := backSlots_ok N.back hi3 he2
  generalize hbs : backSlots ι0.length N.back e2' M2' = q at h hi3 he2
  obtain ⟨e3, M3⟩ := q
  simp only at h hi3 he2
  obtain ⟨hc, h⟩ := bif_some h
  simp only [Bool.and_eq_true] at hc
  generalize keepOf N.live ι0.length e3 M3 = keep at h hc
  cases hp : pickM M3 keep keep with
  | none => rw [hp] at h; cases h
  | some M4 =>
    rw [hp] at h; simp at h
    obtain ⟨rfl, rfl⟩ := h
    obtain ⟨ι4, hi4, hidx⟩ := pick_ok hi3 hc.1 hc.2 hp
    refine ⟨ι4, hi4, fun t => ?_⟩
    rw [getE_live]
    split
    · exact RV.ren (.refl _ _) hidx _ (he2 t).plain
    · simp [RV]
end
end Go.Ev

/-
  What the evaluator says of a function, the machine does.
-/
namespace Go.Ev
open Go

/-- The check of a function's regions that draw their order. -/
def codeOk : Code → Ann → Bool
  | .region _ ops draw, ann => bif draw then (match ann with | .r p nr nm gs => regOk ops p nr nm gs | .f p nr fl ck => regOkF ops p nr fl ck | _ => true) else true
  | .seq a b, ann => codeOk a ann.l1 && codeOk b ann.l2
  | .cond _ x y, ann => codeOk x ann.l1 && codeOk y ann.l2
  | .block _ b, ann => codeOk b ann.l1
  | .loop b, ann => match ann with | .l _ a => codeOk b a | _ => true
  | _, _ => true

/-- The places have names of their own. -/
def labsOk (c : Code) (ann : Ann) : Bool := nodupB (0 :: labs c ann)

structure CxOk (P : Program) (cx : Cx) : Prop extends CxOk0 P cx where
  con : ∀ f F, find cx.fns f = some F → ∀ c, F.con = some c → ConIs P f c
  body : ∀ f F, find cx.fns f = some F → F.con = none → P.funcs[f]? = some F.fn ∧ F.fn.body = some F.body ∧ codeOk F.body F.ann = true ∧ labsOk F.body F.ann = true
  order : P.follows .mixedOrders = true

theorem CxOk.at {P : Program} {cx : Cx} (h : CxOk P cx) (F : FnI) : CxOk P (cx.at F) := ⟨⟨⟨h.ty⟩, h.fn⟩, h.con, h.body, h.order⟩

def exOf : Ex → Exit
  | .norm => .normal
  | .ex id => .exit id
  | .ret => .ret

section
variable {R : Type} {P : Program} {C0 : Com} {ι0 : Locs} {w0 : World}

theorem enter_some {N : Norm} {m0 : Nat} {J : Nat → Env → Mem → Option R} {e : Env} {M : Mem} {q : R} (h : enter N m0 J e M = some q) : ∃ e' M', applyNorm N m0 e M = some (e', M') ∧ J N.id e' M' = some q := by
  unfold enter at h
  split at h
  · rename_i e' M' hN
    simp only [fE_eq, fM_eq] at h
    exact ⟨_, _, hN, h⟩
  · cases h

/-- What stands behind a piece of code. -/
def KOk (C0 : Com) (ι0 : Locs) (w0 : World) (nt : Nat) (d : List Deferred) (K : Ex → Env → Mem → Option R) (q : R) (Q : Exit → Act → World → Prop) : Prop :=
  ∀ x e' M' a' C' ι' w', K x e' M' = some q → a'.tmps.size = nt → a'.defers = d → Inv C0 ι0 w0 C' ι' M' w' → ER w' C' ι' a' e' → Q (exOf x) a' w'

theorem nodupB_nodup : ∀ {l : List Nat}, nodupB l = true → l.Nodup
  | [], _ => by simp
  | i :: r, h => by
    simp only [nodupB, Bool.and_eq_true] at h
    rw [List.nodup_cons]
    refine ⟨?_, nodupB_nodup h.2⟩
    cases hi : idx r i with
    | none => exact idx_none hi
    | some j => rw [hi] at h; cases h.1

/-- What stands at a place is what the places' table says, with one going on less. -/
def Coh (cx : Cx) (call : Nat → CallF) (J : Nat → Nat → Env → Mem → Option R) (nt m0 : Nat) : Code → Ann → (Nat → Ex → Env → Mem → Option R) → Prop
  | .seq a b, ann, K => (∀ N x y, ann = .j N x y → ∀ k e M, J (k + 1) N.id e M = evC cx (call k) (J k) nt m0 b y (K k) e M) ∧ Coh cx call J nt m0 a ann.l1 (fun k => kseq ann m0 (J k) (evC cx (call k) (J k) nt m0 b ann.l2 (K k)) (K k)) ∧ Coh cx call J nt m0 b ann.l2 K
  | .cond _ x y, ann, K => Coh cx call J nt m0 x ann.l1 K ∧ Coh cx call J nt m0 y ann.l2 K
  | .block id b, ann, K => Coh cx call J nt m0 b ann.l1 (fun k => kblock id (K k))
  | .loop b, ann, K => ∀ N a, ann = .l N a → (∀ k e M, J (k + 1) N.id e M = evC cx (call k) (J k) nt m0 b a (kloop N m0 (J k) (K k)) e M) ∧ Coh cx call J nt m0 b a (fun k => kloop N m0 (J k) (K k))
  | _, _, _ => True

theorem evL_none {cx : Cx} {call : CallF} {J : Nat → Env → Mem → Option R} {nt m0 l : Nat} : ∀ (c : Code) {ann : Ann} {K : Ex → Env → Mem → Option R}, l ∉ labs c ann → evL cx call J nt m0 l c ann K = none := by
  intro c
  induction c with
  | seq a b iha ihb =>
    intro ann K h
    simp only [labs, List.mem_append, not_or] at h
    simp only [evL]
    rw [iha h.2.1, ihb h.2.2]
    cases ann with
    | j N x y =>
      simp only [List.mem_singleton] at h
      have : Nat.beq N.id l = false := by rw [Bool.eq_false_iff]; intro e; exact h.1 (Nat.eq_of_beq_eq_true e).symm
      simp [this, orE]
    | _ => rfl
  | cond _ x y ihx ihy =>
    intro ann K h
    simp only [labs, List.mem_append, not_or] at h
    simp only [evL]
    rw [ihx h.1, ihy h.2]; rfl
  | block id b ih =>
    intro ann K h
    simp only [labs] at h
    simp only [evL]
    exact ih h
  | loop b ih =>
    intro ann K h
    cases ann with
    | l N a =>
      simp only [labs, List.mem_cons, not_or] at h
      simp only [evL]
      rw [ih h.2]
      have : Nat.beq N.id l = false := by rw [Bool.eq_false_iff]; intro e; exact h.1 (Nat.eq_of_beq_eq_true e).symm
      simp [this, orE]
    | _ => rfl
  | _ => intro ann K h; rfl

theorem orE_none (x : Option (Env → Mem → Option R)) : orE x none = x := by cases x <;> rfl
theorem none_orE (x : Option (Env → Mem → Option R)) : orE none x = x := rfl

theorem coh_of {cx : Cx} {call : Nat → CallF} {J : Nat → Nat → Env → Mem → Option R} {nt m0 : Nat} : ∀ (c : Code) {ann : Ann} {K : Nat → Ex → Env → Mem → Option R}, (labs c ann).Nodup →
    (∀ k l e M, l ∈ labs c ann → J (k + 1) l e M = match evL cx (call k) (J k) nt m0 l c ann (K k) with | some r => r e M | none => none) → Coh cx call J nt m0 c ann K := by
  intro c
  induction c with
  | seq a b iha ihb =>
    intro ann K hn h
    simp only [labs] at hn h
    rw [List.nodup_append] at hn
    obtain ⟨_, hn2, hn3⟩ := hn
    rw [List.nodup_append] at hn2
    obtain ⟨hna, hnb, hnab⟩ := hn2
    refine ⟨?_, iha hna ?_, ihb hnb ?_⟩
    · intro N x y e k e' M'
      subst e
      rw [h k N.id e' M' (by simp)]
      simp only [evL]
      have : Nat.beq N.id N.id = true := Nat.beq_refl _
      simp [this, orE]
    · intro k l e M hl
      rw [h k l e M (by simp [hl])]
      simp only [evL]
      have hb : l ∉ labs b ann.l2 := fun hb => hnab l hl l hb rfl
      rw [evL_none b hb, orE_none]
      cases ann with
      | j N x y =>
        have : Nat.beq N.id l = false := by
          rw [Bool.eq_false_iff]; intro e
          have := Nat.eq_of_beq_eq_true e
          exact hn3 l (by simp [this]) l (by simp [hl]) rfl
        simp only [this, cond_false, none_orE]
      | _ => rfl
    · intro k l e M hl
      rw [h k l e M (by simp [hl])]
      simp only [evL]
      have ha : l ∉ labs a ann.l1 := fun ha => hnab l ha l hl rfl
      rw [evL_none a ha, none_orE]
      cases ann with
      | j N x y =>
        have : Nat.beq N.id l = false := by
          rw [Bool.eq_false_iff]; intro e
          have := Nat.eq_of_beq_eq_true e
          exact hn3 l (by simp [this]) l (by simp [hl]) rfl
        simp only [this, cond_false, none_orE]
      | _ => rfl
  | cond c0 x y ihx ihy =>
    intro ann K hn h
    simp only [labs] at hn h
    rw [List.nodup_append] at hn
    obtain ⟨hna, hnb, hnab⟩ := hn
    refine ⟨ihx hna ?_, ihy hnb ?_⟩
    · intro k l e M hl
      rw [h k l e M (by simp [hl])]
      simp only [evL]
      rw [evL_none y (fun hb => hnab l hl l hb rfl), orE_none]
    · intro k l e M hl
      rw [h k l e M (by simp [hl])]
      simp only [evL]
      rw [evL_none x (fun ha => hnab l ha l hl rfl), none_orE]
  | block id b ih =>
    intro ann K hn h
    exact ih hn (fun k l e M hl => h k l e M hl)
  | loop b ih =>
    intro ann K hn h
    intro N a e
    subst e
    simp only [labs, List.nodup_cons] at hn h
    refine ⟨?_, ih hn.2 ?_⟩
    · intro k e' M'
      rw [h k N.id e' M' (by simp)]
      simp only [evL]
      have : Nat.beq N.id N.id = true := Nat.beq_refl _
      simp [this, orE]
    · intro k l e' M' hl
      rw [h k l e' M' (by simp [hl])]
      simp only [evL]
      have : Nat.beq N.id l = false := by
        rw [Bool.eq_false_iff]; intro e
        have := Nat.eq_of_beq_eq_true e
        exact hn.1 (by rw [this]; exact hl)
      simp only [this, cond_false, none_orE]
  | _ => intro ann K _ _; trivial

theorem evC_ok {tl : List String} {cx : Cx} (hcx : CxOk P cx) {call : Nat → CallF} {J : Nat → Nat → Env → Mem → Option R} (hJ0 : ∀ l e M, J 0 l e M = none) {nt m0 : Nat} (hm0 : m0 = ι0.length) (htab : Tabs P tl C0 ι0 w0) {d : List Deferred} {q : R} :
    ∀ (c : Code) {ann : Ann} {K : Nat → Ex → Env → Mem → Option R} {Q : Exit → Act → World → Prop} (kb : Nat), codeOk c ann = true → Coh cx call J nt m0 c ann K → (∀ k, k ≤ kb → CallOk P tl (call k)) → (∀ k, k ≤ kb → KOk C0 ι0 w0 nt d (K k) q Q) → ∀ (k : Nat), k ≤ kb → ∀ {e : Env} {M : Mem} {a : Act} {C : Com} {ι : Locs} {w : World}, evC cx (call k) (J k) nt m0 c ann (K k) e M = some q → a.tmps.size = nt → a.defers = d → Inv C0 ι0 w0 C ι M w → ER w C ι a e → c.wp P Q a w := by
  intro c
  induction c with
  | skip =>
    intro ann K Q kb _ _ _ hK k hk e M a C ι w h hn hd hi he
    exact wp_skip (hK k hk .norm e M a C ι w h hn hd hi he)
  | region id ops draw =>
    intro ann K Q kb hok hco hcall hK k hk e M a C ι w h hn hd hi he
    unfold evC at h
    unfold codeOk at hok
    cases draw with
    | true =>
      simp only [cond_true] at h hok
      cases ann with
      | r c =>
        simp only at h hok
        exact draw_ok hcx.toCxOk0 hcx.order (hcall k hk) htab hok (fun a' e' M' C' ι' w' h1 h2 h3 h4 h5 => hK k hk .norm e' M' a' C' ι' w' h1 h2 h3 h4 h5) h hn hd hi he id
      | f c =>
        simp only at h hok
        exact drawF_ok hcx.toCxOk0 hcx.order (hcall k hk) htab hok (fun a' e' M' C' ι' w' h1 h2 h3 h4 h5 => hK k hk .norm e' M' a' C' ι' w' h1 h2 h3 h4 h5) h hn hd hi he id
      | _ => cases h
    | false =>
      simp only [cond_false] at h
      exact wp_region_list (evOps_ok hcx.toCxOk0 (hcall k hk) htab rfl h hn hd hi he (fun a' e' M' C' ι' w' h1 h2 h3 h4 h5 => hK k hk .norm e' M' a' C' ι' w' h1 h2 h3 h4 h5))
  | seq x y ihx ihy =>
    intro ann K Q kb hok hco hcall hK k hk e M a C ι w h hn hd hi he
    unfold evC at h
    simp only [codeOk, Bool.and_eq_true] at hok
    obtain ⟨hc1, hc2, hc3⟩ := hco
    refine wp_seq (ihx (K := fun k => kseq ann m0 (J k) (evC cx (call k) (J k) nt m0 y ann.l2 (K k)) (K k)) kb hok.1 hc2 hcall ?_ k hk h hn hd hi he)
    intro k' hk' ex e' M' a' C' ι' w' hk2 hn' hd' hi' he'
    cases ex with
    | norm =>
      show y.wp P Q a' w'
      simp only [kseq] at hk2
      split at hk2
      · rename_i N u v
        obtain ⟨e2, M2, hN, hk2⟩ := enter_some hk2
        obtain ⟨ι2, hi2, he2⟩ := applyNorm_ok hm0 hN hi' he'
        cases k' with
        | zero => rw [hJ0] at hk2; cases hk2
        | succ k' =>
          rw [hc1 N u v rfl] at hk2
          exact ihy kb hok.2 hc3 hcall hK k' (by omega) hk2 hn' hd' hi2 he2
      · exact ihy kb hok.2 hc3 hcall hK k' hk' hk2 hn' hd' hi' he'
    | ex i => exact hK k' hk' (.ex i) e' M' a' C' ι' w' hk2 hn' hd' hi' he'
    | ret => exact hK k' hk' .ret e' M' a' C' ι' w' hk2 hn' hd' hi' he'
  | cond b x y ihx ihy =>
    intro ann K Q kb hok hco hcall hK k hk e M a C ι w h hn hd hi he
    unfold evC at h
    simp only [codeOk, Bool.and_eq_true] at hok
    have hb := he.rd b
    split at h
    · rename_i t ht
      rw [ht] at hb; unfold RV at hb
      refine wp_cond hb ?_
      cases t with
      | true => exact ihx kb hok.1 hco.1 hcall hK k hk h hn hd hi he
      | false => exact ihy kb hok.2 hco.2 hcall hK k hk h hn hd hi he
    · rename_i t ht
      rw [ht] at hb; unfold RV RD at hb
      rw [oite_eq] at h
      refine wp_cond hb ?_
      cases t with
      | true => exact ihx kb hok.1 hco.1 hcall hK k hk h hn hd hi he
      | false => exact ihy kb hok.2 hco.2 hcall hK k hk h hn hd hi he
    · cases h
  | block id b ih =>
    intro ann K Q kb hok hco hcall hK k hk e M a C ι w h hn hd hi he
    unfold evC at h
    simp only [codeOk] at hok
    refine wp_block (ih (K := fun k => kblock id (K k)) kb hok hco hcall ?_ k hk h hn hd hi he)
    intro k' hk' ex e' M' a' C' ι' w' hk hn' hd' hi' he'
    cases ex with
    | norm => exact hK k' hk' .norm e' M' a' C' ι' w' hk hn' hd' hi' he'
    | ex i =>
      simp only [kblock] at hk
      show (if i = id then Q .normal a' w' else Q (.exit i) a' w')
      by_cases e : i = id
      · subst e
        simp at hk
        rw [if_pos rfl]
        exact hK k' hk' .norm e' M' a' C' ι' w' hk hn' hd' hi' he'
      · have hb : Nat.beq i id = false := by rw [Bool.eq_false_iff]; intro h; exact e (Nat.eq_of_beq_eq_true h)
        rw [hb] at hk
        rw [if_neg e]
        exact hK k' hk' (.ex i) e' M' a' C' ι' w' hk hn' hd' hi' he'
    | ret => exact hK k' hk' .ret e' M' a' C' ι' w' hk hn' hd' hi' he'
  | loop b ih =>
    intro ann K Q kb hok hco hcall hK k hk e M a C ι w h hn hd hi he
    unfold evC at h
    cases ann with
    | l N an =>
      simp only [codeOk] at hok
      simp only at h
      obtain ⟨hJ, hco⟩ := hco N an rfl
      let S : Nat → Act → World → Prop := fun j a w => j ≤ kb ∧ ∃ e M C ι, J j N.id e M = some q ∧ a.tmps.size = nt ∧ a.defers = d ∧ Inv C0 ι0 w0 C ι M w ∧ ER w C ι a e
      have leastS : ∀ a w, (∃ j, S j a w) → ∃ j, S j a w ∧ ∀ i, S i a w → j ≤ i := by
        rintro a w ⟨j, hj⟩
        induction j using Nat.strongRecOn with
        | _ j ih =>
          by_cases hx : ∃ i, i < j ∧ S i a w
          · obtain ⟨i, h1, h2⟩ := hx; exact ih i h1 h2
          · exact ⟨j, hj, fun i hi => by
              rcases Nat.lt_or_ge i j with h | h
              · exact absurd ⟨i, h, hi⟩ hx
              · exact h⟩
      let μ : Act → World → Nat := fun a w => Classical.epsilon fun j => S j a w ∧ ∀ i, S i a w → j ≤ i
      have hμ : ∀ a w, (∃ j, S j a w) → S (μ a w) a w ∧ ∀ i, S i a w → μ a w ≤ i := fun a w h => Classical.epsilon_spec (leastS a w h)
      obtain ⟨e1, M1, hN1, h⟩ := enter_some h
      obtain ⟨ι1, hi1, he1⟩ := applyNorm_ok hm0 hN1 hi he
      refine wp_loop (fun a w => ∃ j, S j a w) μ ⟨k, hk, e1, M1, C, ι1, h, hn, hd, hi1, he1⟩ ?_
      intro a w hI
      obtain ⟨⟨hjb, e, M, C, ι, h, hn, hd, hi, he⟩, _⟩ := hμ a w hI
      cases hj : μ a w with
      | zero => rw [hj, hJ0] at h; cases h
      | succ j =>
        rw [hj] at h hjb
        rw [hJ] at h
        refine ih (K := fun k => kloop N m0 (J k) (K k)) j hok hco (fun k hk' => hcall k (by omega)) ?_ j (Nat.le_refl _) h hn hd hi he
        intro k' hk' ex e' M' a' C' ι' w' hk2 hn' hd' hi' he'
        cases ex with
        | norm =>
          simp only [kloop] at hk2
          obtain ⟨e2, M2, hN, hk2⟩ := enter_some hk2
          obtain ⟨ι2, hi2, he2⟩ := applyNorm_ok hm0 hN hi' he'
          have hS : S k' a' w' := ⟨by omega, e2, M2, C', ι2, hk2, hn', hd', hi2, he2⟩
          refine ⟨⟨k', hS⟩, ?_⟩
          have := (hμ a' w' ⟨k', hS⟩).2 k' hS
          omega
        | ex i => exact hK k' (by omega) (.ex i) e' M' a' C' ι' w' hk2 hn' hd' hi' he'
        | ret => exact hK k' (by omega) .ret e' M' a' C' ι' w' hk2 hn' hd' hi' he'
    | _ => cases h
  | exit id =>
    intro ann K Q kb _ _ _ hK k hk e M a C ι w h hn hd hi he
    exact wp_exit (hK k hk (.ex id) e M a C ι w h hn hd hi he)
  | ret =>
    intro ann K Q kb _ _ _ hK k hk e M a C ι w h hn hd hi he
    exact wp_ret (hK k hk .ret e M a C ι w h hn hd hi he)
  | _ => intro ann K Q kb _ _ _ hK k hk e M a C ι w h; simp [evC] at h

theorem res_ok {cx : Cx} (hcx : TyOk P cx) {C : Com} {ι : Locs} {M : Mem} {w : World} (hst : St C ι M w) {a : Act} {e : Env} (he : ER w C ι a e) : ∀ {l : List ResultVar} {vs : List V}, resVs cx e M l = some vs →
    ∃ us : List Value, (l.mapM fun | .tmp t => pure (a.tmps.getD t undef) | .cell x t => do loadVar t (← asAddr (a.tmps.getD x undef)) : Sem (List Value)).run P w = .ok us w ∧ RVs w C ι us vs
  | [], vs, h => by simp [resVs] at h; subst h; exact ⟨[], rfl, by simp [RVs]⟩
  | .tmp t :: r, vs, h => by
    simp only [resVs] at h
    split at h
    · rename_i vs' h'
      cases h
      obtain ⟨us, h1, h2⟩ := res_ok hcx hst he h'
      refine ⟨a.tmps.getD t undef :: us, ?_, by unfold RVs; exact ⟨he t, h2⟩⟩
      rw [List.mapM_cons]
      simp only [Sem.run_bind, Sem.run_pure, Result.andThen_ok, h1]
    · cases h
  | .cell x t :: r, vs, h => by
    simp only [resVs] at h
    split at h
    · rename_i T hT
      split at h
      · rename_i v hv
        split at h
        · rename_i vs' h'
          cases h
          obtain ⟨us, h1, h2⟩ := res_ok hcx hst he h'
          obtain ⟨u, v', r1, r2, r3⟩ := evLoad_ok (hcx.ty _ _ hT) hst hv (he x)
          cases r3
          have hrun : (do loadVar t (← asAddr (a.tmps.getD x undef)) : Sem Value).run P w = .ok u w := by
            unfold Instr.loadAt Instr.sureAddr at r1
            unfold asAddr
            split at r1
            · rename_i ad had
              rw [had]
              simpa only [Sem.run_bind, Sem.run_pure, Result.andThen_ok] using r1
            · simp [stuck, Sem.run_bind, Sem.run, Result.andThen] at r1
          refine ⟨u :: us, ?_, by unfold RVs; exact ⟨r2, h2⟩⟩
          rw [List.mapM_cons, Sem.run_bind]
          have hrun' := hrun
          rw [hrun']
          simp only [Result.andThen_ok, Sem.run_bind, h1, Sem.run_pure]
        · cases h
      · cases h
    · cases h

theorem one_ok {C : Com} {ι : Locs} {w : World} {us : List Value} {vs : List V} (h : RVs w C ι us vs) : RV w C ι (if hs : us.toArray.size = 1 then us.toArray[0] else .tuple us.toArray) (one vs) := by
  cases us with
  | nil =>
    cases vs with
    | nil => simp [one]; unfold RV; exact ⟨#[], rfl, by simp [RVs]⟩
    | cons v vs => simp [RVs] at h
  | cons u us =>
    cases vs with
    | nil => simp [RVs] at h
    | cons v vs =>
      have hl := h.length
      cases us with
      | nil =>
        cases vs with
        | nil => unfold RVs at h; simpa [one] using h.1
        | cons v2 vs => simp at hl
      | cons u2 us =>
        cases vs with
        | nil => simp at hl
        | cons v2 vs =>
          have : ¬ ((u :: u2 :: us).toArray.size = 1) := by simp
          rw [dif_neg this]
          simp only [one]
          unfold RV
          exact ⟨_, rfl, by simpa using h⟩

theorem argE_get : ∀ (vs : List V) (i t : Nat), getE (argE i vs) t = if i ≤ t then vs.getD (t - i) .undef else .undef
  | [], i, t => by simp [argE, getE, find]
  | v :: vs, i, t => by
    have ih := argE_get vs (i + 1) t
    unfold getE at ih ⊢
    simp only [argE, find]
    by_cases h : i = t
    · subst h; simp
    · have hb : Nat.beq i t = false := by rw [Bool.eq_false_iff]; intro e'; exact h (Nat.eq_of_beq_eq_true e')
      simp only [hb, cond_false, ih]
      by_cases h1 : i + 1 ≤ t
      · have : i ≤ t := by omega
        obtain ⟨m, hm⟩ : ∃ m, t - i = m + 1 := ⟨t - i - 1, by omega⟩
        have h2 : t - (i + 1) = m := by omega
        simp [h1, this, hm, h2]
      · have : ¬ i ≤ t := by omega
        simp [h1, this]

theorem evFn_ok {cx : Cx} (hcx : CxOk P cx) : ∀ k, CallOk P (tlOf cx.fns) (evFn cx k) := by
  intro k
  induction k using Nat.strongRecOn with
  | _ k IH =>
    intro f args M v M' h C ι w vals hst htab hmv hv
    simp only [evFn, callOf] at h
    cases hF : find cx.fns f with
    | none => rw [hF] at h; cases h
    | some F =>
      rw [hF] at h; simp only at h
      cases hcon : F.con with
      | some c =>
        rw [hcon] at h
        exact con_ok (hcx.con f F hF c hcon) (fun nm hn => mem_tlOf hF hcon hn) h hst htab hv
      | none =>
      rw [hcon] at h
      obtain ⟨hlen, h⟩ := bif_some h
      have hlen := Nat.le_of_ble_eq_true hlen
      obtain ⟨hf, hb, hok, hlab⟩ := hcx.body f F hF hcon
      have hvl := hv.length
      cases k with
      | zero => simp [evG] at h
      | succ k =>
      simp only [evG] at h
      rw [hF] at h; simp only at h
      have hnd := nodupB_nodup hlab
      rw [List.nodup_cons] at hnd
      have hco : Coh (cx.at F) (fun k => evFn cx k) (fun k => evG cx k f M.length) F.fn.ntmps M.length F.body F.ann (fun _ => finish cx F M.length) := by
        refine coh_of F.body hnd.2 (fun k l e M1 hl => ?_)
        cases l with
        | zero => exact absurd hl hnd.1
        | succ l =>
          simp only [evG, hF, evFn]
          generalize evL (cx.at F) _ _ _ _ _ _ _ _ = z
          cases z <;> rfl
      refine calls_of_wp hf hb ?_
      refine evC_ok (C0 := C) (ι0 := ι) (w0 := w) (d := []) (hcx.at F) (J := fun k => evG cx k f M.length) (fun l e M => by simp [evG]) hst.len.symm htab F.body (K := fun _ => finish cx F M.length) k hok hco (fun i hi => IH i (by omega)) (fun _ _ => ?_) k (Nat.le_refl _) (a := { tmps := vals.toArray ++ Array.replicate (F.fn.ntmps - vals.toArray.size) undef, defers := [] }) (C := C) (ι := ι) (w := w) h (by simp; omega) rfl ⟨hst, Stp.refl hst.own _⟩ ?_
      · intro x e' Mf a' C' ι' w' hk hn' hd' hi' he'
        have done : fin cx F M.length e' Mf = some (v, M') → a'.defers = [] ∧ ∃ u, (results F.fn a'.tmps).run P w' = .ok u w' ∧ ∃ u' C' ι', Ending.returned u = .returned u' ∧ Go1 C ι M w C' ι' M' w' (mvs M') ∧ RV w' C' ι' u' v := by
          intro hk
          refine ⟨hd', ?_⟩
          unfold fin at hk
          cases hr : resVs cx e' Mf F.fn.results.toList with
          | none => rw [hr] at hk; cases hk
          | some vs =>
            rw [hr] at hk; simp only at hk
            obtain ⟨us, hrun, hus⟩ := res_ok hcx.toTyOk hi'.st he' hr
            have hres : (results F.fn a'.tmps).run P w' = .ok (if hs : us.toArray.size = 1 then us.toArray[0] else .tuple us.toArray) w' := by
              unfold results
              rw [Array.mapM_eq_mapM_toList]
              simp only [map_eq_pure_bind, Sem.run_bind, Sem.run_pure]
              exact Eq.trans (congrArg (fun r => (Result.andThen r (fun (a : List Value) w' => Result.ok a.toArray w')).andThen (fun (a : Array Value) w' => Result.ok (if h : a.size = 1 then a[0] else Value.tuple a) w')) hrun) rfl
            refine ⟨_, hres, ?_⟩
            have fr : ∀ {vs' : List V} {M2 : Mem}, (bif F.rawr then some (ownVals F.rown vs Mf) else freezeVs Mf vs) = some (vs', M2) → ∃ C2 ι2, Go1 C' ι' Mf w' C2 ι2 M2 w' (fun _ => False) ∧ RVs w' C2 ι2 us vs' := by
              intro vs' M2 h
              cases hrw : F.rawr with
              | true =>
                rw [hrw] at h
                obtain ⟨ι2, g, r⟩ := ownVals_ok F.rown hi'.st hus
                simp at h
                rw [h] at g r
                exact ⟨C', ι2, g, r⟩
              | false =>
                rw [hrw] at h
                obtain ⟨C2, g, r, _⟩ := freezeVs_ok h hi'.st hus
                exact ⟨C2, ι', g, r⟩
            cases hz : (bif F.rawr then some (ownVals F.rown vs Mf) else freezeVs Mf vs) with
            | none => rw [hz] at hk; cases hk
            | some p =>
              obtain ⟨vs', M2⟩ := p
              rw [hz] at hk; simp only at hk
              obtain ⟨C2, ι2, g2, r2⟩ := fr hz
              have hi2 := hi'.go g2
              rw [← hst.len] at hk
              obtain ⟨ι2, hi2, r2⟩ := backVals_ok F.back hi2 r2
              generalize hbs : backVals ι.length F.back vs' M2 = q at hk hi2 r2
              obtain ⟨vs', M2⟩ := q
              simp only at hk hi2 r2
              obtain ⟨hc, hk⟩ := bif_some hk
              simp only [Bool.and_eq_true] at hc
              generalize finKeep ι.length vs' M2 = kp at hc hk
              cases hp : pickM M2 kp kp with
              | none => rw [hp] at hk; cases hk
              | some M3 =>
                rw [hp] at hk; simp at hk
                obtain ⟨rfl, rfl⟩ := hk
                obtain ⟨ι3, hi3, hidx⟩ := pick_ok hi2 hc.1 hc.2 hp
                refine ⟨_, C2, ι3, rfl, ⟨hi3.st, hi3.stp, fun i hi hm => ?_⟩, RV.ren (.refl _ _) hidx _ (one_ok r2)⟩
                rcases hm with hm | hm
                · exact absurd hm (hmv i)
                · exact hm
        cases x with
        | norm => exact done hk
        | ret => exact done hk
        | ex i => cases hk
      · intro t
        rw [argE_get]
        simp only [Nat.zero_le, if_true, Nat.sub_zero]
        cases hvt : args[t]? with
        | none => simp [hvt, RV]
        | some x =>
          obtain ⟨u, e1, e2⟩ := hv.get hvt
          have hlt := lt_of_get e1
          have : (vals.toArray ++ Array.replicate (F.fn.ntmps - vals.toArray.size) undef).getD t undef = u := by
            rw [Array.getD_eq_getD_getElem?, Array.getElem?_append_left (by simpa using hlt)]
            simp [e1]
          rw [this]
          simpa [hvt] using e2
end
end Go.Ev

/-
  What is asked of a table of types and functions, piece by piece.
-/
namespace Go.Ev
open Go

def AllP {α : Type} (Q : Nat → α → Prop) : List (Nat × α) → Prop
  | [] => True
  | p :: l => Q p.1 p.2 ∧ AllP Q l

theorem find_all {α : Type} {Q : Nat → α → Prop} : ∀ {l : List (Nat × α)}, AllP Q l → ∀ {t : Nat} {T : α}, find l t = some T → Q t T
  | [], _, t, T, h => by simp [find] at h
  | (a, b) :: l, hl, t, T, h => by
    simp only [find] at h
    cases hb : Nat.beq a t with
    | true =>
      rw [hb] at h
      have := Nat.eq_of_beq_eq_true hb
      subst this
      simp only [cond_true, Option.some.injEq] at h
      subst h
      exact hl.1
    | false =>
      rw [hb] at h
      simp only [cond_false] at h
      exact find_all hl.2 h

structure FnOk (P : Program) (f : Nat) (F : FnI) : Prop where
  call : ∀ (args : Array Value) (w : World), (callFunc f args).run P w = .ok (.enter f args) w
  con : ∀ c, F.con = some c → ConIs P f c
  body : F.con = none → P.funcs[f]? = some F.fn ∧ F.fn.body = some F.body ∧ codeOk F.body F.ann = true ∧ labsOk F.body F.ann = true
/-- A function whose text is run. -/
theorem FnOk.text {P : Program} {f : Nat} {F : FnI} (h0 : F.con = none) (h1 : ∀ (args : Array Value) (w : World), (callFunc f args).run P w = .ok (.enter f args) w) (h2 : P.funcs[f]? = some F.fn) (h3 : F.fn.body = some F.body) (h4 : codeOk F.body F.ann = true) (h5 : labsOk F.body F.ann = true) : FnOk P f F :=
  ⟨h1, fun c hc => absurd (h0.symm.trans hc) (by simp), fun _ => ⟨h2, h3, h4, h5⟩⟩
/-- A function that is known by what it does. -/
theorem FnOk.known {P : Program} {f : Nat} {F : FnI} {c : Con} (h0 : F.con = some c) (h1 : ∀ (args : Array Value) (w : World), (callFunc f args).run P w = .ok (.enter f args) w) (h2 : ConIs P f c) : FnOk P f F :=
  ⟨h1, fun c' hc => (Option.some.inj (h0.symm.trans hc)) ▸ h2, fun hc => absurd (h0.symm.trans hc) (by simp)⟩

theorem cxOk_of {P : Program} {cx : Cx} (ht : AllP (TIok P) cx.ty) (hf : AllP (FnOk P) cx.fns) (ho : P.follows .mixedOrders = true) : CxOk P cx :=
  { ty := fun _ _ h => find_all ht h
    fn := fun _ _ h => (find_all hf h).call
    con := fun _ _ h => (find_all hf h).con
    body := fun _ _ h => (find_all hf h).body
    order := ho }

section
variable {w : World} {C : Com} {ι : Locs}
theorem z_int {k : IntKind} {n : Int} : RV w C ι (.int k n) (.d (.int k n)) := by unfold RV RD; rfl
theorem z_bool {b : Bool} : RV w C ι (.bool b) (.d (.bool b)) := by unfold RV RD; rfl
theorem z_str {b : ByteArray} : RV w C ι (.string b) (.d (.str b)) := by unfold RV RD; rfl
theorem z_nil {sz : Nat} : RV w C ι (.slice none 0 0) (.d (.sl true sz 0 [])) := by
  unfold RV RD; exact ⟨none, 0, rfl, Nat.le_refl _, fun _ => rfl, rfl, fun c hc => by simp at hc, .inl rfl⟩
theorem z_un {u : Value} : RV w C ι u .undef := by unfold RV; trivial
theorem z_cons {u : Value} {x : V} {us : List Value} {xs : List V} (h : RV w C ι u x) (t : RVs w C ι us xs) : RVs w C ι (u :: us) (x :: xs) := by unfold RVs; exact ⟨h, t⟩
theorem z_end : RVs w C ι [] [] := by unfold RVs; trivial
end
theorem f_cons {P : Program} {f : Field} {l : List Field} {n : Nat} (h : ∀ w, (sizeOf f.type).run P w = .ok n w) (t : ∀ f ∈ l, ∃ n, ∀ w, (sizeOf f.type).run P w = .ok n w) : ∀ g ∈ f :: l, ∃ n, ∀ w, (sizeOf g.type).run P w = .ok n w := by
  intro g hg
  rcases List.mem_cons.1 hg with rfl | hg
  · exact ⟨n, h⟩
  · exact t g hg
theorem f_end {P : Program} : ∀ g ∈ ([] : List Field), ∃ n, ∀ w, (sizeOf g.type).run P w = .ok n w := fun g hg => by simp at hg
end Go.Ev
