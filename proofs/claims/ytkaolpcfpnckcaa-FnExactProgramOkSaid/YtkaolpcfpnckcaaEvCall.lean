/-
  The evaluator's calls are the machine's.
-/
import Derived.Test.YtkaolpcfpnckcaaEvSub
import Derived.Test.YtkaolpcfpnckcaaEvOp12
set_option linter.unusedVariables false
set_option linter.unusedSimpArgs false
namespace Go.Ev
open Go

section
variable {R : Type} {P : Program} {C : Com} {ι : Locs} {M : Mem} {w : World}

/-- What a callee did to its part of the store is done to the whole. -/
theorem back_ok (hst : St C ι M w) {keep : List Nat} {S : Mem} (hd : nodupB keep = true) (hS : subM M keep keep = some S) {C3 : Com} {ι3 : Locs} {Mc : Mem} {w' : World} (g3 : Go1 C (subL ι keep) S w C3 ι3 Mc w' (mvs Mc)) :
    ∃ ι4, Go1 C ι M w C3 ι4 (writeBack (backN keep M.length) keep Mc 0 (killM (movedOf keep Mc) M) ++ (Mc.drop keep.length).map (Ent.ren (backN keep M.length))) w' (· ∈ movedOf keep Mc) ∧
      ∀ (a b : Nat) (L : Loc), backN keep M.length a = some b → ι3[a]? = some L → ι4[b]? = some L := by
  obtain ⟨sst, hidx, hlt⟩ := hst.sub hd hS
  obtain ⟨sl, sg⟩ := subL_get hlt
  obtain ⟨hSl, hSg⟩ := subM_get hS
  have hgrow := g3.grow sst
  have hl3 : ι3.length = Mc.length := g3.st.len
  have hMl : ι.length = M.length := hst.len
  let ks := movedOf keep Mc
  let g := backN keep M.length
  let ι4 : Locs := backL keep ι3 0 ι ++ ι3.drop keep.length
  have hι4l : (backL keep ι3 0 ι).length = M.length := by rw [backL_len, hMl]
  have hM4l : (writeBack g keep Mc 0 (killM ks M)).length = M.length := by rw [writeBack_len, killM_len]
  -- where the callee's entries are now
  have hg : ∀ (a b : Nat) (L : Loc), g a = some b → ι3[a]? = some L → ι4[b]? = some L := by
    intro a b L hab hL
    simp only [g, backN] at hab
    cases hk : keep[a]? with
    | some i =>
      rw [hk] at hab; cases hab
      have hi := hlt b (List.mem_of_getElem? hk)
      rw [List.getElem?_append_left (by rw [hι4l, ← hMl]; exact hi), backL_get]
      simp only [Nat.zero_add, idx_of hd hk, hL, Option.getD_some]
      simp [hi]
    | none =>
      rw [hk] at hab; cases hab
      have hge : keep.length ≤ a := by
        rcases Nat.lt_or_ge a keep.length with h | h
        · simp [h] at hk
        · exact h
      rw [List.getElem?_append_right (by rw [hι4l]; omega), hι4l, List.getElem?_drop]
      rw [show keep.length + (M.length + (a - keep.length) - M.length) = a by omega]
      exact hL
  -- entries by place
  have cases4 : ∀ (i : Nat) (L : Loc), ι4[i]? = some L → (∃ j, ι3[j]? = some L ∧ g j = some i ∧ (i < M.length → keep[j]? = some i)) ∨ (i < M.length ∧ i ∉ keep ∧ ι[i]? = some L) := by
    intro i L hi
    rcases Nat.lt_or_ge i M.length with h | h
    · rw [List.getElem?_append_left (by rw [hι4l]; exact h), backL_get] at hi
      have hi' : i < ι.length := by omega
      simp only [Nat.zero_add] at hi
      cases hx : idx keep i with
      | none =>
        rw [hx] at hi
        simp at hi
        exact .inr ⟨h, idx_none hx, hi⟩
      | some j =>
        rw [hx] at hi
        have hk := idx_get hx
        have hj : j < ι3.length := by
          rw [hl3]; have := lt_of_get hk; omega
        simp [hi', hj] at hi
        subst hi
        exact .inl ⟨j, by simp [hj], by simp [g, backN, hk], fun _ => hk⟩
    · rw [List.getElem?_append_right (by rw [hι4l]; exact h), hι4l, List.getElem?_drop] at hi
      refine .inl ⟨keep.length + (i - M.length), hi, ?_, fun h' => by omega⟩
      simp only [g, backN]
      rw [List.getElem?_eq_none (by omega)]
      simp; omega
  have ent4 : ∀ (i : Nat) (e : Ent), (writeBack g keep Mc 0 (killM ks M) ++ (Mc.drop keep.length).map (Ent.ren g))[i]? = some e → (∀ j, g j = some i → (i < M.length → keep[j]? = some i) → ∃ e', Mc[j]? = some e' ∧ (e = e'.ren g ∨ ∃ e0, e = mergeE g e' e0)) ∧ (i < M.length → i ∉ keep → (killM ks M)[i]? = some e) := by
    intro i e he
    rcases Nat.lt_or_ge i M.length with h | h
    · rw [List.getElem?_append_left (by rw [hM4l]; exact h), writeBack_get] at he
      simp only [Nat.zero_add] at he
      have hk0 : ∃ e0, (killM ks M)[i]? = some e0 := by
        have : i < (killM ks M).length := by rw [killM_len]; exact h
        exact ⟨(killM ks M)[i], by simp [this]⟩
      obtain ⟨e0, hk0⟩ := hk0
      rw [hk0] at he
      simp only [Option.map_some, Option.some.injEq] at he
      refine ⟨fun j hj hij => ?_, fun _ hn => ?_⟩
      · have hk := hij h
        rw [idx_of hd hk] at he
        simp only [getM] at he
        have hj' : j < Mc.length := by have := lt_of_get hk; omega
        have hM : Mc[j]? = some Mc[j] := by simp [hj']
        rw [hM] at he
        exact ⟨_, hM, .inr ⟨e0, he.symm⟩⟩
      · have : idx keep i = none := by
          cases hx : idx keep i with
          | none => rfl
          | some j => exact absurd (idx_mem.1 (by rw [hx]; rfl)) hn
        rw [this] at he
        rw [hk0]; exact congrArg some he
    · rw [List.getElem?_append_right (by rw [hM4l]; exact h), hM4l, List.getElem?_map, List.getElem?_drop] at he
      refine ⟨fun j hj _ => ?_, fun h' => by omega⟩
      have hjk : j = keep.length + (i - M.length) := by
        simp only [g, backN] at hj
        cases hk : keep[j]? with
        | some a =>
          rw [hk] at hj; cases hj
          have := hlt i (List.mem_of_getElem? hk); omega
        | none =>
          rw [hk] at hj
          simp at hj
          have hge : keep.length ≤ j := by
            rcases Nat.lt_or_ge j keep.length with h | h
            · simp [h] at hk
            · exact h
          omega
      subst hjk
      cases hM : Mc[keep.length + (i - M.length)]? with
      | none => rw [hM] at he; cases he
      | some e' => rw [hM] at he; simp at he; exact ⟨e', rfl, .inl he.symm⟩
  -- what the callee had is none of what it had not
  have apart : ∀ (i : Nat) (L : Loc), i ∉ keep → ι[i]? = some L → L.located → ∀ (j : Nat) (L' : Loc), (subL ι keep)[j]? = some L' → L'.located → L'.b ≠ L.b := by
    intro i L hn hL hl j L' hj hl' eb
    rw [sg] at hj
    cases hk : keep[j]? with
    | none => rw [hk] at hj; cases hj
    | some a =>
      rw [hk] at hj; simp at hj
      have := hst.inj a i L' L hj hL hl' hl eb
      subst this
      exact hn (List.mem_of_getElem? hk)
  have same4 : ∀ (i : Nat) (L : Loc), ι[i]? = some L → i ∉ ks → ι4[i]? = some L := by
    intro i L hi hn
    have hiM : i < M.length := by rw [← hMl]; exact lt_of_get hi
    rw [List.getElem?_append_left (by rw [hι4l]; exact hiM), backL_get, hi]
    simp only [Nat.zero_add, Option.map_some]
    cases hx : idx keep i with
    | none => rfl
    | some j =>
      have hk := idx_get hx
      have hm : ¬ mvs Mc j := fun h => hn (movedOf_mem.2 ⟨j, hk, h⟩)
      have h3 := g3.stp.same j L (hidx i j L hx hi) hm
      simp [h3]
  -- blocks
  have blk3 : ∀ (j : Nat) (L : Loc), ι3[j]? = some L → L.located → (∃ (a : Nat) (L0 : Loc), keep[j]? = some a ∧ ι[a]? = some L0 ∧ L0.located ∧ L.b = L0.b) ∨ w.heap.size ≤ L.b := by
    intro j L hj hl
    rcases Nat.lt_or_ge j (subL ι keep).length with h | h
    · have h0 : (subL ι keep)[j]? = some (subL ι keep)[j] := by simp [h]
      have hk : ∃ a, keep[j]? = some a ∧ ι[a]? = some (subL ι keep)[j] := by
        have h0' := h0
        rw [sg] at h0'
        cases hk : keep[j]? with
        | none => rw [hk] at h0'; cases h0'
        | some a => rw [hk] at h0'; exact ⟨a, rfl, by simpa using h0'⟩
      obtain ⟨a, hk, ha⟩ := hk
      by_cases hm : mvs Mc j
      · obtain ⟨L1, e1, _, _, hb⟩ := g3.stp.moved j _ h0 hm
        rw [hj] at e1; cases e1
        rcases hb hl with ⟨hl0, eb⟩ | hb
        · exact .inl ⟨a, _, hk, ha, hl0, eb⟩
        · exact .inr hb
      · have e1 := g3.stp.same j _ h0 hm
        rw [hj] at e1; cases e1
        exact .inl ⟨a, _, hk, ha, hl, rfl⟩
    · exact .inr (g3.stp.new j L h hj hl)
  refine ⟨ι4, ⟨⟨(by have h1 := hM4l; simp only [g, ks] at h1; simp only [ι4, List.length_append, hι4l, h1, List.length_drop, List.length_map, hl3]), ?_, ?_, g3.st.com⟩, ⟨g3.stp.os, g3.stp.tape, g3.stp.output, g3.stp.size, ?_, g3.stp.keeps, same4, ?_, ?_⟩, ?_⟩, hg⟩
  · intro i L e hi he
    obtain ⟨h1, h2⟩ := ent4 i e he
    rcases cases4 i L hi with ⟨j, hj, hgj, hij⟩ | ⟨hlt', hn, hL⟩
    · obtain ⟨e', hM, hcase⟩ := h1 j hgj hij
      have h0 := (g3.st.ent j L e' hj hM).ren (.refl _ _) (g := g) (ι' := ι4) hg (fun _ => ⟨rfl, rfl⟩)
      rcases hcase with rfl | ⟨e0, rfl⟩
      · exact h0
      · exact h0.merge
    · have hk := h2 hlt' hn
      rw [killM_get] at hk
      cases hM : M[i]? with
      | none => rw [hM] at hk; cases hk
      | some e0 =>
        rw [hM] at hk
        have h0 := hst.ent i L e0 hL hM
        have hb : L.located → w'.heap[L.b]? = w.heap[L.b]? ∧ C3 L.b = C L.b := fun hl => g3.stp.out L.b (hst.blt hL hl) (fun j L' hj hl' => apart i L hn hL hl j L' hj hl')
        by_cases hks : ks = []
        · rw [hks] at hk
          simp at hk
          subst hk
          exact h0.mono g3.stp.keeps (fun a La ha => same4 a La ha (by rw [hks]; simp)) hb
        · have : e0.ren (notIn ks) = e := by
            cases hks' : ks with
            | nil => exact absurd hks' hks
            | cons a r => rw [hks'] at hk; simpa using hk
          subst this
          refine h0.ren g3.stp.keeps (fun a b La hab ha => ?_) hb
          by_cases hmem : a ∈ ks
          · rw [notIn_none hmem] at hab; cases hab
          · rw [notIn_some hmem] at hab; cases hab
            exact same4 a La ha hmem
  · intro i j L L' hi hj l1 l2 eb
    rcases cases4 i L hi with ⟨a, ha, hga, hia⟩ | ⟨hlt1, hn1, hL1⟩
    · rcases cases4 j L' hj with ⟨b, hb, hgb, hjb⟩ | ⟨hlt2, hn2, hL2⟩
      · have := g3.st.inj a b L L' ha hb l1 l2 eb
        subst this
        rw [hga] at hgb; cases hgb; rfl
      · rcases blk3 a L ha l1 with ⟨q, L0, hq, hL0, hl0, eb0⟩ | hge
        · have := hst.inj q j L0 L' hL0 hL2 hl0 l2 (eb0.symm.trans eb)
          subst this
          exact absurd (List.mem_of_getElem? hq) hn2
        · have := hst.blt hL2 l2; omega
    · rcases cases4 j L' hj with ⟨b, hb, hgb, hjb⟩ | ⟨hlt2, hn2, hL2⟩
      · rcases blk3 b L' hb l2 with ⟨q, L0, hq, hL0, hl0, eb0⟩ | hge
        · have := hst.inj i q L L0 hL1 hL0 l1 hl0 (eb.trans eb0)
          subst this
          exact absurd (List.mem_of_getElem? hq) hn1
        · have := hst.blt hL1 l1; omega
      · exact hst.inj i j L L' hL1 hL2 l1 l2 eb
  · intro b hb hn
    refine g3.stp.out b hb (fun j L' hj hl' => ?_)
    rw [sg] at hj
    cases hk : keep[j]? with
    | none => rw [hk] at hj; cases hj
    | some a => rw [hk] at hj; simp at hj; exact hn a L' hj hl'
  · intro i L hi hmem
    obtain ⟨j, hk, hm⟩ := movedOf_mem.1 hmem
    obtain ⟨L1, e1, e2, e3, e4⟩ := g3.stp.moved j L (hidx i j L (idx_of hd hk) hi) hm
    exact ⟨L1, hg j i L1 (by simp [g, backN, hk]) e1, e2, e3, e4⟩
  · intro i L hge hi hl
    rcases cases4 i L hi with ⟨j, hj, hgj, hij⟩ | ⟨hlt', _, _⟩
    · rcases blk3 j L hj hl with ⟨a, L0, hk, ha, _, _⟩ | h
      · simp [g, backN, hk] at hgj
        have := lt_of_get ha
        omega
      · exact h
    · omega
  · intro i hi hm
    have hkm : ∀ a b c d, M[i]? = some (Ent.row a b c true d) → (killM ks M)[i]? = some (.row a b c true d) := by
      intro a b c d h
      rw [killM_get, h]
      cases ks <;> rfl
    have hlen : i < (writeBack g keep Mc 0 (killM ks M)).length := by rw [hM4l]; exact hi
    unfold mvs
    rw [List.getElem?_append_left hlen, writeBack_get]
    simp only [Nat.zero_add]
    have hMi : M[i]? = some M[i] := by simp [hi]
    have hKi : ∃ e0, (killM ks M)[i]? = some e0 ∧ ((∃ a b c d, M[i] = Ent.row a b c true d) → ∃ a b c d, e0 = Ent.row a b c true d) ∧ ((∃ a b c m d, M[i] = Ent.row a b c m d) → ∃ a b c m d, e0 = Ent.row a b c m d) := by
      rw [killM_get, hMi]
      refine ⟨_, rfl, ?_, ?_⟩
      · rintro ⟨a, b, c, d, e⟩; rw [e]; cases ks <;> exact ⟨a, b, c, d, rfl⟩
      · rintro ⟨a, b, c, m, d, e⟩; rw [e]; cases ks <;> exact ⟨a, b, c, m, d, rfl⟩
    obtain ⟨e0, hk0, hk1, hk2⟩ := hKi
    rw [hk0]
    simp only [Option.map_some, Option.some.injEq]
    have hrow : ∀ j : Nat, keep[j]? = some i → (∃ a b c m d, Mc[j]? = some (Ent.row a b c m d)) → ∃ a b c m d, M[i] = Ent.row a b c m d := by
      rintro j hk ⟨a, b, c, m, d, hM⟩
      obtain ⟨L, hL, hE⟩ := g3.st.get hM
      obtain ⟨e', h1, h2⟩ := hSg j i hk
      rw [hMi] at h1; cases h1
      cases hMi' : M[i] with
      | row a b c m d => exact ⟨a, b, c, m, d, rfl⟩
      | box cs =>
        exfalso
        obtain ⟨L0, hL0, hE0⟩ := sst.get h2
        rw [hMi'] at hE0
        have hr0 : L0.row = false := hE0.1
        have hr1 : L.row = true := hE.1
        obtain ⟨L1, e1, e2, _⟩ := g3.stp.row hL0
        rw [hL] at e1; cases e1
        rw [hr0, hr1] at e2; cases e2
    cases hx : idx keep i with
    | none =>
      have hni : i ∉ ks := fun hm' => by
        obtain ⟨j, hk, _⟩ := movedOf_mem.1 hm'
        exact idx_none hx (List.mem_of_getElem? hk)
      rcases hm with ⟨a, b, c, d, hm⟩ | hm
      · rw [hMi] at hm
        exact hk1 ⟨a, b, c, d, Option.some.inj hm⟩
      · exact absurd hm hni
    | some j =>
      have hk := idx_get hx
      have hj : j < Mc.length := by have := lt_of_get hk; omega
      have hMj : Mc[j]? = some Mc[j] := by simp [hj]
      simp only [getM, hMj]
      -- a row there is a row here
      have hrr : ∃ a b c m d, Mc[j] = Ent.row a b c m d := by
        rcases hm with ⟨a, b, c, d, hm⟩ | hm
        · obtain ⟨e', h1, h2⟩ := hSg j i hk
          rw [hm] at h1; cases h1
          obtain ⟨L0, hL0, hE0⟩ := sst.get h2
          have hr0 : L0.row = true := hE0.1
          obtain ⟨L1, hL1, hE1⟩ := g3.st.get hMj
          obtain ⟨L2, e1, e2, _⟩ := g3.stp.row hL0
          rw [hL1] at e1; cases e1
          cases hc : Mc[j] with
          | row a b c m d => exact ⟨a, b, c, m, d, rfl⟩
          | box cs => rw [hc] at hE1; have := hE1.1; rw [e2, hr0] at this; cases this
        · obtain ⟨j', hk', a, b, c, d, hm'⟩ := movedOf_mem.1 hm
          have : j' = j := by
            have := idx_of hd hk'
            rw [hx] at this; cases this; rfl
          subst this
          rw [hMj] at hm'
          exact ⟨a, b, c, true, d, Option.some.inj hm'⟩
      obtain ⟨a, b, c, m, d, hc⟩ := hrr
      rw [hc]
      obtain ⟨a0, b0, c0, m0, d0, he0⟩ := hk2 (hrow j hk ⟨a, b, c, m, d, by rw [hMj, hc]⟩)
      subst he0
      refine ⟨a, b, c, d, ?_⟩
      simp only [mergeE, Ent.row.injEq, true_and, and_true]
      rcases hm with ⟨a1, b1, c1, d1, hm⟩ | hm
      · rw [hMi] at hm
        obtain ⟨_, _, _, _, e⟩ := hk1 ⟨a1, b1, c1, d1, Option.some.inj hm⟩
        cases e; simp
      · obtain ⟨j', hk', a1, b1, c1, d1, hm'⟩ := movedOf_mem.1 hm
        have : j' = j := by
          have := idx_of hd hk'
          rw [hx] at this; cases this; rfl
        subst this
        rw [hMj, hc] at hm'
        cases hm'; simp
end
end Go.Ev
