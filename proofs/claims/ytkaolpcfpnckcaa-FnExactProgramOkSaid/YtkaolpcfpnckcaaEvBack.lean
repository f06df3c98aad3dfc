/-
  A row that stands for one that was handed over.
-/
import Derived.Test.YtkaolpcfpnckcaaEvFl
set_option linter.unusedVariables false
set_option linter.unusedSimpArgs false
namespace Go.Ev
open Go

section
variable {C : Com} {ι : Locs} {M : Mem} {w : World} {C0 : Com} {ι0 : Locs} {w0 : World}

theorem backG_some {i j a b : Nat} (h : backG i j a = some b) : a ≠ i ∧ (a = j → b = i) ∧ (a ≠ j → b = a) := by
  unfold backG at h
  cases h1 : Nat.beq a i with
  | true => rw [h1] at h; cases h
  | false =>
    rw [h1] at h
    simp only [cond_false] at h
    have hai : a ≠ i := fun e => by rw [e] at h1; simp at h1
    cases h2 : Nat.beq a j with
    | true =>
      rw [h2] at h
      have := Nat.eq_of_beq_eq_true h2
      simp at h
      exact ⟨hai, fun _ => h.symm, fun e => absurd this e⟩
    | false =>
      rw [h2] at h
      have haj : a ≠ j := fun e => by rw [e] at h2; simp at h2
      simp at h
      exact ⟨hai, fun e => absurd e haj, fun _ => h.symm⟩

theorem back1_ok (hi : Inv C0 ι0 w0 C ι M w) {i j : Nat} {M' : Mem} (h : back1 ι0.length i j M = some M') : ∃ ι', Inv C0 ι0 w0 C ι' M' w ∧ ∀ (a b : Nat) (L : Loc), backG i j a = some b → ι[a]? = some L → ι'[b]? = some L := by
  have hst := hi.st
  unfold back1 getM at h
  split at h
  · rename_i sz n0 fz0 mv0 es0 sz' n fz mv es hMi hMj
    obtain ⟨hc, h⟩ := bif_some h
    simp only [Bool.and_eq_true] at hc
    obtain ⟨⟨h1, h2⟩, h3⟩ := hc
    have hlt : i < ι0.length := by simpa [Nat.blt_eq] using h1
    have hge : ι0.length ≤ j := by simpa using h2
    have hsz := Nat.eq_of_beq_eq_true h3
    subst hsz
    simp at h
    subst h
    have hij : i ≠ j := by omega
    obtain ⟨Li, hLi, hEi⟩ := hst.get hMi
    obtain ⟨Lj, hLj, hEj⟩ := hst.get hMj
    have hli := lt_of_get hLi
    have hlj := lt_of_get hLj
    have hMil := lt_of_get hMi
    have hMjl := lt_of_get hMj
    let nl : Loc := ⟨true, sz, 0, 0, 0, 0⟩
    have hnl : ¬ nl.located := by simp [Loc.located, nl]
    let ι' : Locs := (ι.set i Lj).set j nl
    have gi : ι'[i]? = some Lj := by simp only [ι']; rw [List.getElem?_set_ne (by omega)]; simp [hli]
    have gj : ι'[j]? = some nl := by simp only [ι']; simp [hlj]
    have go : ∀ k, k ≠ i → k ≠ j → ι'[k]? = ι[k]? := fun k a b => by simp only [ι']; rw [List.getElem?_set_ne (by omega), List.getElem?_set_ne (by omega)]
    have hg : ∀ (a b : Nat) (L : Loc), backG i j a = some b → ι[a]? = some L → ι'[b]? = some L := by
      intro a b L hab hL
      obtain ⟨q1, q2, q3⟩ := backG_some hab
      by_cases e : a = j
      · rw [q2 e, gi]; rw [e, hLj] at hL; exact hL
      · rw [q3 e, go a q1 e]; exact hL
    let M' : Mem := ((M.map (Ent.ren (backG i j))).set i (.row sz n fz true es)).set j (.row sz 0 false false [])
    have mi : M'[i]? = some (.row sz n fz true es) := by simp only [M']; rw [List.getElem?_set_ne (by omega)]; simp [hMil]
    have mj : M'[j]? = some (.row sz 0 false false []) := by simp only [M']; simp [hMjl]
    have mo : ∀ k, k ≠ i → k ≠ j → M'[k]? = (M[k]?).map (Ent.ren (backG i j)) := fun k a b => by simp only [M']; rw [List.getElem?_set_ne (by omega), List.getElem?_set_ne (by omega), List.getElem?_map]
    -- where the rows lie now
    have where' : ∀ k L, ι'[k]? = some L → L.located → ∃ k', ι[k']? = some L ∧ ((k = i ∧ k' = j) ∨ (k ≠ i ∧ k ≠ j ∧ k' = k)) := by
      intro k L hk hl
      by_cases e1 : k = i
      · subst e1; rw [gi] at hk; cases hk; exact ⟨j, hLj, .inl ⟨rfl, rfl⟩⟩
      · by_cases e2 : k = j
        · subst e2; rw [gj] at hk; cases hk; exact absurd hl hnl
        · rw [go k e1 e2] at hk; exact ⟨k, hk, .inr ⟨e1, e2, rfl⟩⟩
    have hmo : ∀ k, k ≠ i → k ≠ j → (mvs M' k ↔ mvs M k) := by
      intro k a b
      unfold mvs
      rw [mo k a b]
      constructor
      · rintro ⟨s, m, f, e, hm⟩
        cases hk : M[k]? with
        | none => rw [hk] at hm; cases hm
        | some e0 =>
          rw [hk] at hm
          cases e0 with
          | box cs => simp [Ent.ren] at hm
          | row => simp [Ent.ren] at hm; obtain ⟨rfl, rfl, rfl, rfl, rfl⟩ := hm; exact ⟨_, _, _, _, rfl⟩
      · rintro ⟨s, m, f, e, hm⟩
        rw [hm]; exact ⟨s, m, f, e, rfl⟩
    have hmi : mvs M' i := ⟨_, _, _, _, mi⟩
    refine ⟨ι', ⟨⟨?_, ?_, ?_, hst.com⟩, ⟨hi.stp.os, hi.stp.tape, hi.stp.output, hi.stp.size, hi.stp.out, hi.stp.keeps, ?_, ?_, ?_⟩⟩, hg⟩
    · simp [ι', hst.len]
    · intro k L e hk he
      by_cases e1 : k = i
      · subst e1
        rw [gi] at hk; cases hk
        rw [mi] at he; cases he
        exact hEj
      · by_cases e2 : k = j
        · subst e2
          rw [gj] at hk; cases hk
          rw [mj] at he; cases he
          exact ⟨rfl, rfl, rfl, Nat.le_refl _, rfl, fun c hc => by simp at hc, .inl rfl⟩
        · rw [go k e1 e2] at hk
          rw [mo k e1 e2] at he
          cases hM : M[k]? with
          | none => rw [hM] at he; cases he
          | some e0 =>
            rw [hM] at he; simp at he; subst he
            exact (hst.ent k L e0 hk hM).ren (.refl _ _) (g := backG i j) (ι' := ι') hg (fun _ => ⟨rfl, rfl⟩)
    · intro a b L L' ha hb l1 l2 eb
      obtain ⟨a', ha', ca⟩ := where' a L ha l1
      obtain ⟨b', hb', cb⟩ := where' b L' hb l2
      have := hst.inj a' b' L L' ha' hb' l1 l2 eb
      omega
    · intro k L hk hn
      by_cases e1 : k = i
      · subst e1; exact absurd hmi hn
      · have hk0 := lt_of_get hk
        have e2 : k ≠ j := by omega
        rw [go k e1 e2]
        exact hi.stp.same k L hk (fun h => hn ((hmo k e1 e2).2 h))
    · intro k L hk hm
      by_cases e1 : k = i
      · subst e1
        obtain ⟨L2, hL2, r2, s2⟩ := hi.stp.row hk
        rw [hLi] at hL2; cases hL2
        refine ⟨Lj, gi, ?_, ?_, fun hl => .inr ?_⟩
        · rw [← r2, hEj.1, hEi.1]
        · rw [← s2, hEj.2.1, hEi.2.1]
        · exact hi.stp.new j Lj hge hLj hl
      · have hk0 := lt_of_get hk
        have e2 : k ≠ j := by omega
        rw [go k e1 e2]
        exact hi.stp.moved k L hk ((hmo k e1 e2).1 hm)
    · intro k L hk hL hl
      have e1 : k ≠ i := by omega
      obtain ⟨k', hk', ck⟩ := where' k L hL hl
      exact hi.stp.new k' L (by omega) hk' hl
  · cases h

theorem cut1_ok (hi : Inv C0 ι0 w0 C ι M w) {i k sz : Nat} {M' : Mem} (h : cut1 i k sz M = some M') {v : Value} (hv : RV w C ι v (.ref i 0 k)) : ∃ ι', Inv C0 ι0 w0 C ι' M' w ∧ (∀ (a b : Nat) (L : Loc), notIn [i] a = some b → ι[a]? = some L → ι'[b]? = some L) ∧ RV w C ι' v (.own i) := by
  have hst := hi.st
  unfold cut1 at h
  simp only [getM] at h
  split at h
  · rename_i sz' n mv es hM
    obtain ⟨hc, h⟩ := bif_some h
    simp only [Bool.and_eq_true] at hc
    obtain ⟨hz, hk⟩ := hc
    have hz := Nat.eq_of_beq_eq_true hz
    have hk : k ≤ n := by simpa using hk
    simp at h
    subst h hz
    unfold RV at hv
    obtain ⟨L, hL, hr, hle, a, c, rfl, hkc, ha⟩ := hv
    obtain ⟨hrow, q1, q2, q3, q4, q5, q6⟩ := hst.ent i L _ hL hM
    have hlt := lt_of_get hL
    have hel : (es.take k).length = k := by simp; omega
    have he5 : ∀ c ∈ es.take k, c.length = sz' := fun c hc => q5 c (List.take_subset _ _ hc)
    have hg : ∀ (L' : Loc) (x b : Nat) (L0 : Loc), notIn [i] x = some b → ι[x]? = some L0 → (ι.set i L')[b]? = some L0 := by
      intro L' x b L0 hx h0
      unfold notIn at hx
      simp only [idx] at hx
      cases hb : Nat.beq i x with
      | true => rw [hb] at hx; cases hx
      | false =>
        rw [hb] at hx
        simp at hx
        subst hx
        rw [List.getElem?_set_ne (fun e => by rw [e] at hb; simp at hb)]
        exact h0
    by_cases hc0 : c = 0
    · have hk0 : k = 0 := by omega
      subst hc0 hk0
      let L' : Loc := ⟨true, sz', 0, 0, 0, 0⟩
      have hnl : ¬ L'.located := by simp [Loc.located, L']
      have u' : Upd C ι w i L L' C w := ⟨rfl, rfl, rfl, Nat.le_refl _, hL, .refl _ _, fun _ _ _ => ⟨rfl, rfl⟩, fun hl => absurd hl hnl, hrow.symm, q1.symm, hst.com⟩
      refine ⟨ι.set i L', hi.go (ks := (· ∈ [i])) ⟨u'.st hst _ ⟨_, _, _, _, _, rfl⟩ ?_, u'.stp (.inr (by simp)), fun j _ hm => mvs_kill hM hm⟩, hg L', ?_⟩
      · exact ⟨rfl, rfl, rfl, Nat.le_refl _, hel, he5, .inl rfl⟩
      · unfold RV
        exact ⟨L', by simp [hlt], rfl, a, rfl, .inl rfl⟩
    · rcases ha with ha | ⟨hcap, rfl⟩
      · exact absurd ha hc0
      rcases q6 with q6 | ⟨us, T', fr, hh, hso, hzz, hC, hre⟩
      · omega
      have hce : c = L.cap := by omega
      subst hce
      let L' : Loc := ⟨true, sz', k, L.b, L.base, L.cap⟩
      have hloc : L.located := .inr hc0
      have u' : Upd C ι w i L L' C w := ⟨rfl, rfl, rfl, Nat.le_refl _, hL, .refl _ _, fun _ _ _ => ⟨rfl, rfl⟩, fun _ => .inl ⟨hloc, rfl⟩, hrow.symm, q1.symm, hst.com⟩
      refine ⟨ι.set i L', hi.go (ks := (· ∈ [i])) ⟨u'.st hst _ ⟨_, _, _, _, _, rfl⟩ ?_, u'.stp (.inr (by simp)), fun j _ hm => mvs_kill hM hm⟩, hg L', ?_⟩
      · exact ⟨rfl, rfl, rfl, hkc, hel, he5, .inr ⟨us, T', fr, hh, hso, hzz, by simpa using hC, REs.take k hre⟩⟩
      · unfold RV
        exact ⟨L', by simp [hlt], rfl, _, rfl, .inr (by simp [L'])⟩
  · cases h

theorem getE_mapV {g : V → V} (hg : g .undef = .undef) : ∀ (e : Env) (t : Nat), getE (e.map fun p => (p.1, g p.2)) t = g (getE e t)
  | [], t => by simp [getE, find, hg]
  | (d, v) :: e, t => by
    have ih := getE_mapV hg e t
    unfold getE at ih ⊢
    simp only [List.map_cons, find]
    cases h : Nat.beq d t with
    | true => rfl
    | false => simpa using ih

theorem backSlots_ok {a : Act} : ∀ (l : List (Nat × Nat)) {e : Env} {M : Mem} {ι : Locs}, Inv C0 ι0 w0 C ι M w → ER w C ι a e → ∃ ι', Inv C0 ι0 w0 C ι' (backSlots ι0.length l e M).2 w ∧ ER w C ι' a (backSlots ι0.length l e M).1
  | [], e, M, ι, hi, he => ⟨ι, hi, he⟩
  | (t, i) :: r, e, M, ι, hi, he => by
    unfold backSlots
    cases h1 : ownOf (getE e t) with
    | none => exact backSlots_ok r hi he
    | some j =>
      simp only
      cases h2 : back1 ι0.length i j M with
      | none => exact backSlots_ok r hi he
      | some M' =>
        simp only
        obtain ⟨ι1, hi1, hg⟩ := back1_ok hi h2
        refine backSlots_ok r hi1 (fun t' => ?_)
        rw [getE_mapV (g := fun v => v.ren (backG i j)) (by simp [V.ren])]
        exact RV.ren (.refl _ _) hg _ (he t')
theorem backVals_ok : ∀ (l : List (Nat × Nat × Nat)) {us : List Value} {vs : List V} {M : Mem} {ι : Locs}, Inv C0 ι0 w0 C ι M w → RVs w C ι us vs → ∃ ι', Inv C0 ι0 w0 C ι' (backVals ι0.length l vs M).2 w ∧ RVs w C ι' us (backVals ι0.length l vs M).1
  | [], us, vs, M, ι, hi, hv => ⟨ι, hi, hv⟩
  | (x, c, i) :: r, us, vs, M, ι, hi, hv => by
    unfold backVals
    cases h1 : ownOf (cellOf vs x c) with
    | none => exact backVals_ok r hi hv
    | some j =>
      simp only
      cases h2 : back1 ι0.length i j M with
      | none => exact backVals_ok r hi hv
      | some M' =>
        simp only
        obtain ⟨ι1, hi1, hg⟩ := back1_ok hi h2
        exact backVals_ok r hi1 (RVs.ren (.refl _ _) hg _ hv)
theorem cutSlots_ok {a : Act} : ∀ (l : List (Nat × Nat)) {e : Env} {M : Mem} {ι : Locs}, Inv C0 ι0 w0 C ι M w → ER w C ι a e → ∃ ι', Inv C0 ι0 w0 C ι' (cutSlots l e M).2 w ∧ ER w C ι' a (cutSlots l e M).1
  | [], e, M, ι, hi, he => ⟨ι, hi, he⟩
  | (t, sz) :: r, e, M, ι, hi, he => by
    unfold cutSlots
    cases h1 : cutOf (getE e t) with
    | none => exact cutSlots_ok r hi he
    | some p =>
      obtain ⟨i, k⟩ := p
      simp only
      cases h2 : cut1 i k sz M with
      | none => exact cutSlots_ok r hi he
      | some M' =>
        simp only
        have h0 : RV w C ι (a.tmps.getD t undef) (.ref i 0 k) := by
          have h0 := he t
          unfold cutOf at h1
          split at h1
          · rename_i heq
            cases h1; rw [heq] at h0; exact h0
          · cases h1
        obtain ⟨ι1, hi1, hg, hv⟩ := cut1_ok hi h2 h0
        refine cutSlots_ok r hi1 (fun t' => ?_)
        have hp : getE ((t, V.own i) :: killE [i] e) t' = if t = t' then .own i else getE (killE [i] e) t' := getE_put (d := t) (v := .own i)
        rw [hp]
        split
        · rename_i e'
          subst e'
          exact hv
        · unfold killE
          rw [getE_mapV (g := fun v => v.ren (notIn [i])) (by simp [V.ren])]
          exact RV.ren (.refl _ _) hg _ (he t')
end
end Go.Ev
