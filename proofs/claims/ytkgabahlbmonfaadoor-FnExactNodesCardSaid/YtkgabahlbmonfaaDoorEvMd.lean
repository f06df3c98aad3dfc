import Derived.Test.YtkgabahlbmonfaaDoorEvOp3
import Derived.Test.YtkgabahlbmonfaaDoorEvMc
set_option linter.unusedVariables false
set_option linter.unusedSimpArgs false
/-
  A part of the store, handed to a callee, and written back.
-/
namespace Go.Ev
open Go

theorem idx_get : ∀ {ks : List Nat} {i j : Nat}, idx ks i = some j → ks[j]? = some i
  | [], i, j, h => by simp [idx] at h
  | m :: r, i, j, h => by
    unfold idx at h
    by_cases e : m = i
    · subst e; simp at h; subst h; rfl
    · have hb : Nat.beq m i = false := by rw [Bool.eq_false_iff]; intro e'; exact e (Nat.eq_of_beq_eq_true e')
      rw [hb] at h
      simp only [cond_false] at h
      cases hr : idx r i with
      | none => rw [hr] at h; cases h
      | some q => rw [hr] at h; simp at h; subst h; simpa using idx_get hr
theorem idx_of : ∀ {ks : List Nat} {i j : Nat}, nodupB ks = true → ks[j]? = some i → idx ks i = some j
  | [], _, _, _, h => by simp at h
  | m :: r, i, 0, _, h => by
    simp at h; subst h; simp [idx]
  | m :: r, i, j + 1, hd, h => by
    simp only [nodupB, Bool.and_eq_true] at hd
    simp at h
    have ih := idx_of hd.2 h
    have hne : m ≠ i := by
      intro e; subst e; rw [ih] at hd; simp at hd
    have hb : Nat.beq m i = false := by rw [Bool.eq_false_iff]; intro e'; exact hne (Nat.eq_of_beq_eq_true e')
    simp [idx, hb, ih]
theorem idx_none {ks : List Nat} {i : Nat} (h : idx ks i = none) : i ∉ ks := fun hm => by
  have := idx_mem.2 hm; rw [h] at this; cases this

theorem subM_get {M : Mem} {keep : List Nat} : ∀ {l : List Nat} {S : Mem}, subM M keep l = some S → S.length = l.length ∧ ∀ (j i : Nat), l[j]? = some i → ∃ e, M[i]? = some e ∧ S[j]? = some (match e with | .box cs => .box (V.ren.go (idx keep) cs) | .row sz n fz _ es => .row sz n fz false es | .lrow sz n _ es => .lrow sz n false es | .hole sz n _ es i j v => .hole sz n false es i j (v.ren (idx keep)))
  | [], S, h => by simp [subM] at h; subst h; exact ⟨rfl, fun j i h => by simp at h⟩
  | i :: r, S, h => by
    simp only [subM, getM] at h
    cases h1 : M[i]? with
    | none => rw [h1] at h; cases h
    | some e =>
      rw [h1] at h; simp only at h
      cases h2 : subM M keep r with
      | none => rw [h2] at h; cases h
      | some es =>
        rw [h2] at h; simp at h; subst h
        obtain ⟨e1, e2⟩ := subM_get h2
        refine ⟨by simp [e1], fun j i' hj => ?_⟩
        cases j with
        | zero => simp at hj; subst hj; exact ⟨e, h1, by cases e <;> simp⟩
        | succ j => simp at hj; obtain ⟨e', a, b⟩ := e2 j i' hj; exact ⟨e', a, by simpa using b⟩

theorem subM_mv {M : Mem} {keep : List Nat} {S : Mem} (h : subM M keep keep = some S) (j : Nat) : ¬ mvs S j := by
  rintro ⟨a, hj, hm⟩
  obtain ⟨h1, h2⟩ := subM_get h
  have hl := lt_of_get hj
  have hk : keep[j]? = some (keep[j]'(by omega)) := by simp
  obtain ⟨e, _, h3⟩ := h2 j _ hk
  rw [hj] at h3
  cases e <;> cases h3 <;> cases hm

/-- The places of a part. -/
def subL (ι : Locs) (keep : List Nat) : Locs := keep.filterMap fun i => ι[i]?

theorem subL_get {ι : Locs} : ∀ {keep : List Nat}, (∀ i ∈ keep, i < ι.length) → (subL ι keep).length = keep.length ∧ ∀ j : Nat, (subL ι keep)[j]? = (keep[j]?).bind fun i => ι[i]?
  | [], _ => ⟨rfl, fun j => by simp [subL]⟩
  | i :: r, h => by
    have hi := h i (by simp)
    obtain ⟨e1, e2⟩ := subL_get (ι := ι) (keep := r) (fun i hi => h i (by simp [hi]))
    have hc : subL ι (i :: r) = ι[i] :: subL ι r := by simp [subL, hi]
    refine ⟨by rw [hc]; simp [e1], fun j => ?_⟩
    rw [hc]
    cases j with
    | zero => simp [hi]
    | succ j => simpa using e2 j

section
variable {C : Com} {ι : Locs} {M : Mem} {w : World}

theorem St.sub (hst : St C ι M w) {keep : List Nat} {S : Mem} (hd : nodupB keep = true) (hS : subM M keep keep = some S) :
    St C (subL ι keep) S w ∧ (∀ (i j : Nat) (L : Loc), idx keep i = some j → ι[i]? = some L → (subL ι keep)[j]? = some L) ∧ (∀ i ∈ keep, i < ι.length) := by
  obtain ⟨hl, hg⟩ := subM_get hS
  have hlt : ∀ i ∈ keep, i < ι.length := by
    intro i hi
    obtain ⟨j, hj, e⟩ := List.mem_iff_getElem.1 hi
    obtain ⟨e', h1, _⟩ := hg j i (by simp [hj, e])
    rw [hst.len]; exact lt_of_get h1
  obtain ⟨sl, sg⟩ := subL_get hlt
  have hidx : ∀ (i j : Nat) (L : Loc), idx keep i = some j → ι[i]? = some L → (subL ι keep)[j]? = some L := by
    intro i j L hi hL
    rw [sg, idx_get hi]; exact hL
  have hok : C.Ok (subL ι keep) w.heap.size := by
    intro b m hm
    obtain ⟨q1, q2, q3, q4, q5⟩ := hst.own b m hm
    refine ⟨q1, q2, q3, q4, fun j L hj hl => ?_⟩
    rw [sg] at hj
    cases hk : keep[j]? with
    | none => rw [hk] at hj; cases hj
    | some i => rw [hk] at hj; simp at hj; exact q5 i L hj hl
  refine ⟨⟨by rw [sl, hl], ?_, ?_, hst.com, hok⟩, hidx, hlt⟩
  · intro j L e hL he
    rw [sg] at hL
    cases hk : keep[j]? with
    | none => rw [hk] at hL; cases hL
    | some i =>
      rw [hk] at hL
      simp at hL
      obtain ⟨e0, h1, h2⟩ := hg j i hk
      rw [h2] at he; cases he
      have h0 := hst.ent i L e0 hL h1
      have := h0.ren (.refl _ _) (g := idx keep) (ι' := subL ι keep) hidx (fun _ => .refl)
      cases e0 <;> exact this
  · intro i j L L' hi hj l1 l2 eb
    rw [sg] at hi hj
    cases hki : keep[i]? with
    | none => rw [hki] at hi; cases hi
    | some a =>
      cases hkj : keep[j]? with
      | none => rw [hkj] at hj; cases hj
      | some b =>
        rw [hki] at hi; rw [hkj] at hj
        simp at hi hj
        have hab := hst.inj a b L L' hi hj l1 l2 eb
        subst hab
        have := idx_of hd hki
        rw [idx_of hd hkj] at this
        cases this; rfl

theorem movedOf_mem : ∀ {keep : List Nat} {Mc : Mem} {i : Nat}, i ∈ movedOf keep Mc ↔ ∃ j, keep[j]? = some i ∧ mvs Mc j
  | [], Mc, i => by simp [movedOf]
  | a :: r, [], i => by simp [movedOf, mvs]
  | a :: r, e :: es, i => by
    have hs : ∀ j, mvs (e :: es) (j + 1) ↔ mvs es j := fun j => by simp [mvs]
    have h0 : mvs (e :: es) 0 ↔ e.mvd = true := by simp [mvs]
    have ih := movedOf_mem (keep := r) (Mc := es) (i := i)
    have key : (∃ j, (a :: r)[j]? = some i ∧ mvs (e :: es) j) ↔ (a = i ∧ mvs (e :: es) 0) ∨ ∃ j, r[j]? = some i ∧ mvs es j := by
      constructor
      · rintro ⟨j, h1, h2⟩
        cases j with
        | zero => simp at h1; exact .inl ⟨h1, h2⟩
        | succ j => exact .inr ⟨j, by simpa using h1, (hs j).1 h2⟩
      · rintro (⟨h1, h2⟩ | ⟨j, h1, h2⟩)
        · exact ⟨0, by simp [h1], h2⟩
        · exact ⟨j + 1, by simpa using h1, (hs j).2 h2⟩
    rw [key, ← ih, h0]
    simp only [movedOf]
    cases e.mvd with
    | false => simp
    | true => simp [eq_comm]

theorem writeBack_get {g : Nat → Option Nat} {keep : List Nat} {Mc : Mem} : ∀ {M : Mem} {i0 i : Nat}, (writeBack g keep Mc i0 M)[i]? = (M[i]?).map fun e => match idx keep (i0 + i) with
      | some j => match getM Mc j with
        | some e' => mergeE g e' e
        | none => e
      | none => e
  | [], _, _ => by simp [writeBack]
  | e :: es, i0, 0 => by simp only [writeBack, List.getElem?_cons_zero, Option.map_some, Nat.add_zero]; rfl
  | e :: es, i0, i + 1 => by
    simp only [writeBack, List.getElem?_cons_succ]
    rw [writeBack_get]
    rw [show i0 + 1 + i = i0 + (i + 1) by omega]
theorem writeBack_len {g : Nat → Option Nat} {keep : List Nat} {Mc : Mem} : ∀ {M : Mem} {i0 : Nat}, (writeBack g keep Mc i0 M).length = M.length
  | [], _ => rfl
  | e :: es, i0 => by simp [writeBack, writeBack_len]

/-- The places behind a call. -/
def backL (keep : List Nat) (ι3 : Locs) : Nat → Locs → Locs
  | _, [] => []
  | i, L :: ι => (match idx keep i with | some j => (ι3[j]?).getD L | none => L) :: backL keep ι3 (i + 1) ι
theorem backL_get {keep : List Nat} {ι3 : Locs} : ∀ {ι : Locs} {i0 i : Nat}, (backL keep ι3 i0 ι)[i]? = (ι[i]?).map fun L => match idx keep (i0 + i) with | some j => (ι3[j]?).getD L | none => L
  | [], _, _ => by simp [backL]
  | L :: ι, i0, 0 => by simp [backL]
  | L :: ι, i0, i + 1 => by
    simp only [backL, List.getElem?_cons_succ]
    rw [backL_get, show i0 + 1 + i = i0 + (i + 1) by omega]
theorem backL_len {keep : List Nat} {ι3 : Locs} : ∀ {ι : Locs} {i0 : Nat}, (backL keep ι3 i0 ι).length = ι.length
  | [], _ => rfl
  | L :: ι, i0 => by simp [backL, backL_len]

theorem EntOk.merge {w : World} {C : Com} {ι : Locs} {L : Loc} {e e0 : Ent} {g : Nat → Option Nat} (h : EntOk w C ι L (e.ren g)) : EntOk w C ι L (mergeE g e e0) := by
  cases e <;> cases e0 <;> exact h
end
end Go.Ev

/-
  The evaluator's calls are the machine's.
-/
namespace Go.Ev
open Go

section
variable {R : Type} {P : Program} {C : Com} {ι : Locs} {M : Mem} {w : World}

theorem Ent.ren_mvd {e : Ent} {g : Nat → Option Nat} : (e.ren g).mvd = e.mvd := by cases e <;> rfl

/-- What a callee did to its part of the store is done to the whole. -/
theorem back_ok (hst : St C ι M w) {keep : List Nat} {S : Mem} (hd : nodupB keep = true) (hS : subM M keep keep = some S) {C3 : Com} {ι3 : Locs} {Mc : Mem} {w' : World} (g3 : Go1 C (subL ι keep) S w C3 ι3 Mc w' (mvs Mc)) (hform : ∀ (j : Nat) (cs : List V) (e : Ent), Mc[j]? = some (.box cs) → S[j]? = some e → ∃ cs0, e = .box cs0) :
    ∃ ι4, Go1 C ι M w C3 ι4 (writeBack (backN keep M.length) keep Mc 0 (killM (movedOf keep Mc) M) ++ (Mc.drop keep.length).map (Ent.ren (backN keep M.length))) w' (· ∈ movedOf keep Mc) ∧
      ∀ (a b : Nat) (L : Loc), backN keep M.length a = some b → ι3[a]? = some L → ι4[b]? = some L := by
  obtain ⟨sst, hidx, hlt⟩ := hst.sub hd hS
  obtain ⟨sl, sg⟩ := subL_get hlt
  obtain ⟨hSl, hSg⟩ := subM_get hS
  have hgrow := g3.grow sst
  have hl3 : ι3.length = Mc.length := g3.st.len
  have hMl : ι.length = M.length := hst.len
  let ks := movedOf keep Mc
  let g := backN keep M.length
  let ι4 : Locs := backL keep ι3 0 ι ++ ι3.drop keep.length
  have hι4l : (backL keep ι3 0 ι).length = M.length := by rw [backL_len, hMl]
  have hM4l : (writeBack g keep Mc 0 (killM ks M)).length = M.length := by rw [writeBack_len, killM_len]
  -- where the callee's entries are now
  have hg : ∀ (a b : Nat) (L : Loc), g a = some b → ι3[a]? = some L → ι4[b]? = some L := by
    intro a b L hab hL
    simp only [g, backN] at hab
    cases hk : keep[a]? with
    | some i =>
      rw [hk] at hab; cases hab
      have hi := hlt b (List.mem_of_getElem? hk)
      rw [List.getElem?_append_left (by rw [hι4l, ← hMl]; exact hi), backL_get]
      simp only [Nat.zero_add, idx_of hd hk, hL, Option.getD_some]
      simp [hi]
    | none =>
      rw [hk] at hab; cases hab
      have hge : keep.length ≤ a := by
        rcases Nat.lt_or_ge a keep.length with h | h
        · simp [h] at hk
        · exact h
      rw [List.getElem?_append_right (by rw [hι4l]; omega), hι4l, List.getElem?_drop]
      rw [show keep.length + (M.length + (a - keep.length) - M.length) = a by omega]
      exact hL
  -- entries by place
  have cases4 : ∀ (i : Nat) (L : Loc), ι4[i]? = some L → (∃ j, ι3[j]? = some L ∧ g j = some i ∧ (i < M.length → keep[j]? = some i)) ∨ (i < M.length ∧ i ∉ keep ∧ ι[i]? = some L) := by
    intro i L hi
    rcases Nat.lt_or_ge i M.length with h | h
    · rw [List.getElem?_append_left (by rw [hι4l]; exact h), backL_get] at hi
      have hi' : i < ι.length := by omega
      simp only [Nat.zero_add] at hi
      cases hx : idx keep i with
      | none =>
        rw [hx] at hi
        simp at hi
        exact .inr ⟨h, idx_none hx, hi⟩
      | some j =>
        rw [hx] at hi
        have hk := idx_get hx
        have hj : j < ι3.length := by
          rw [hl3]; have := lt_of_get hk; omega
        simp [hi', hj] at hi
        subst hi
        exact .inl ⟨j, by simp [hj], by simp [g, backN, hk], fun _ => hk⟩
    · rw [List.getElem?_append_right (by rw [hι4l]; exact h), hι4l, List.getElem?_drop] at hi
      refine .inl ⟨keep.length + (i - M.length), hi, ?_, fun h' => by omega⟩
      simp only [g, backN]
      rw [List.getElem?_eq_none (by omega)]
      simp; omega
  have ent4 : ∀ (i : Nat) (e : Ent), (writeBack g keep Mc 0 (killM ks M) ++ (Mc.drop keep.length).map (Ent.ren g))[i]? = some e → (∀ j, g j = some i → (i < M.length → keep[j]? = some i) → ∃ e', Mc[j]? = some e' ∧ (e = e'.ren g ∨ ∃ e0, e = mergeE g e' e0)) ∧ (i < M.length → i ∉ keep → (killM ks M)[i]? = some e) := by
    intro i e he
    rcases Nat.lt_or_ge i M.length with h | h
    · rw [List.getElem?_append_left (by rw [hM4l]; exact h), writeBack_get] at he
      simp only [Nat.zero_add] at he
      have hk0 : ∃ e0, (killM ks M)[i]? = some e0 := by
        have : i < (killM ks M).length := by rw [killM_len]; exact h
        exact ⟨(killM ks M)[i], by simp [this]⟩
      obtain ⟨e0, hk0⟩ := hk0
      rw [hk0] at he
      simp only [Option.map_some, Option.some.injEq] at he
      refine ⟨fun j hj hij => ?_, fun _ hn => ?_⟩
      · have hk := hij h
        rw [idx_of hd hk] at he
        simp only [getM] at he
        have hj' : j < Mc.length := by have := lt_of_get hk; omega
        have hM : Mc[j]? = some Mc[j] := by simp [hj']
        rw [hM] at he
        exact ⟨_, hM, .inr ⟨e0, he.symm⟩⟩
      · have : idx keep i = none := by
          cases hx : idx keep i with
          | none => rfl
          | some j => exact absurd (idx_mem.1 (by rw [hx]; rfl)) hn
        rw [this] at he
        rw [hk0]; exact congrArg some he
    · rw [List.getElem?_append_right (by rw [hM4l]; exact h), hM4l, List.getElem?_map, List.getElem?_drop] at he
      refine ⟨fun j hj _ => ?_, fun h' => by omega⟩
      have hjk : j = keep.length + (i - M.length) := by
        simp only [g, backN] at hj
        cases hk : keep[j]? with
        | some a =>
          rw [hk] at hj; cases hj
          have := hlt i (List.mem_of_getElem? hk); omega
        | none =>
          rw [hk] at hj
          simp at hj
          have hge : keep.length ≤ j := by
            rcases Nat.lt_or_ge j keep.length with h | h
            · simp [h] at hk
            · exact h
          omega
      subst hjk
      cases hM : Mc[keep.length + (i - M.length)]? with
      | none => rw [hM] at he; cases he
      | some e' => rw [hM] at he; simp at he; exact ⟨e', rfl, .inl he.symm⟩
  -- what the callee had is none of what it had not
  have apart : ∀ (i : Nat) (L : Loc), i ∉ keep → ι[i]? = some L → L.located → ∀ (j : Nat) (L' : Loc), (subL ι keep)[j]? = some L' → L'.located → L'.b ≠ L.b := by
    intro i L hn hL hl j L' hj hl' eb
    rw [sg] at hj
    cases hk : keep[j]? with
    | none => rw [hk] at hj; cases hj
    | some a =>
      rw [hk] at hj; simp at hj
      have := hst.inj a i L' L hj hL hl' hl eb
      subst this
      exact hn (List.mem_of_getElem? hk)
  have same4 : ∀ (i : Nat) (L : Loc), ι[i]? = some L → i ∉ ks → ι4[i]? = some L := by
    intro i L hi hn
    have hiM : i < M.length := by rw [← hMl]; exact lt_of_get hi
    rw [List.getElem?_append_left (by rw [hι4l]; exact hiM), backL_get, hi]
    simp only [Nat.zero_add, Option.map_some]
    cases hx : idx keep i with
    | none => rfl
    | some j =>
      have hk := idx_get hx
      have hm : ¬ mvs Mc j := fun h => hn (movedOf_mem.2 ⟨j, hk, h⟩)
      have h3 := g3.stp.same j L (hidx i j L hx hi) hm
      simp [h3]
  -- blocks
  have hsub : ∀ b, Has C (subL ι keep) b → Has C ι b := by
    rintro b (⟨j, L, hj, hl, hc⟩ | h)
    · rw [sg] at hj
      cases hk : keep[j]? with
      | none => rw [hk] at hj; cases hj
      | some a => rw [hk] at hj; simp at hj; exact .inl ⟨a, L, hj, hl, hc⟩
    · exact .inr h
  have hnot : ∀ (i : Nat) (L : Loc), i ∉ keep → ι[i]? = some L → L.located → ¬ Has C (subL ι keep) L.b := by
    rintro i L hn hL hl (⟨j, L', hj, hl', hc | hc⟩ | ⟨X, _, hc⟩)
    · exact apart i L hn hL hl j L' hj hl' hc
    · exact (hst.own _ _ hc).2.2.2.2 i L hL hl rfl
    · exact (hst.own _ _ hc).2.2.2.2 i L hL hl rfl
  have hnot2 : ∀ (i : Nat) (L : Loc), i ∉ keep → ι[i]? = some L → L.located → ∀ b', C.own b' = some L.b → ¬ Has C (subL ι keep) b' := by
    rintro i L hn hL hl b' hb' (⟨j, L', hj, hl', hc | hc⟩ | ⟨X, hX, hc⟩)
    · rw [sg] at hj
      cases hk : keep[j]? with
      | none => rw [hk] at hj; cases hj
      | some a => rw [hk] at hj; simp at hj; exact (hst.own _ _ hb').2.2.2.2 a L' hj hl' hc
    · rw [hb'] at hc
      exact apart i L hn hL hl j L' hj hl' (Option.some.inj hc).symm
    · rw [hb'] at hc
      cases hc
      exact (hst.own _ _ hX).2.2.2.2 i L hL hl rfl
  have hstay : ∀ (i : Nat) (L : Loc), i ∉ keep → ι[i]? = some L → L.located → Stays w C w' C3 L.b := by
    intro i L hn hL hl
    obtain ⟨e1, e2, e3⟩ := g3.stp.out L.b (hst.blt hL hl) (hnot i L hn hL hl)
    refine ⟨e1, e2, fun b' hb' => (g3.stp.out b' (hst.own.some hb').2 (hnot2 i L hn hL hl b' hb')).1, fun b' => ⟨fun h => ?_, fun h => ?_⟩⟩
    · rcases g3.stp.ownc b' _ h with q | q | q
      · exact q
      · have := hst.blt hL hl; omega
      · exact absurd q (hnot i L hn hL hl)
    · rw [(g3.stp.out b' (hst.own.some h).2 (hnot2 i L hn hL hl b' h)).2.2]; exact h
  have hok : C3.Ok ι4 w'.heap.size := by
    intro b m hm
    obtain ⟨q1, q2, q3, q4, q5⟩ := g3.st.own b m hm
    refine ⟨q1, q2, q3, q4, fun i L hi hl e => ?_⟩
    rcases cases4 i L hi with ⟨j, hj, _, _⟩ | ⟨_, hn, hL⟩
    · exact q5 j L hj hl e
    · subst e
      have := (g3.stp.out L.b (hst.blt hL hl) (hnot i L hn hL hl)).2.2
      rw [hm] at this
      exact (hst.own _ _ this.symm).2.2.2.2 i L hL hl rfl
  refine ⟨ι4, ⟨⟨(by have h1 := hM4l; simp only [g, ks] at h1; simp only [ι4, List.length_append, hι4l, h1, List.length_drop, List.length_map, hl3]), ?_, ?_, g3.st.com, hok⟩, ⟨g3.stp.os, g3.stp.tape, g3.stp.output, g3.stp.size, hst.own, ?_, ?_, g3.stp.keeps, same4, ?_, ?_⟩, ?_⟩, hg⟩
  · intro i L e hi he
    obtain ⟨h1, h2⟩ := ent4 i e he
    rcases cases4 i L hi with ⟨j, hj, hgj, hij⟩ | ⟨hlt', hn, hL⟩
    · obtain ⟨e', hM, hcase⟩ := h1 j hgj hij
      have h0 := (g3.st.ent j L e' hj hM).ren (.refl _ _) (g := g) (ι' := ι4) hg (fun _ => .refl)
      rcases hcase with rfl | ⟨e0, rfl⟩
      · exact h0
      · exact h0.merge
    · have hk := h2 hlt' hn
      rw [killM_get] at hk
      cases hM : M[i]? with
      | none => rw [hM] at hk; cases hk
      | some e0 =>
        rw [hM] at hk
        have h0 := hst.ent i L e0 hL hM
        have hb : L.located → Stays w C w' C3 L.b := hstay i L hn hL
        by_cases hks : ks = []
        · rw [hks] at hk
          simp at hk
          subst hk
          exact h0.mono g3.stp.keeps (fun a La ha => same4 a La ha (by rw [hks]; simp)) hb
        · have : e0.ren (notIn ks) = e := by
            cases hks' : ks with
            | nil => exact absurd hks' hks
            | cons a r => rw [hks'] at hk; simpa using hk
          subst this
          refine h0.ren g3.stp.keeps (fun a b La hab ha => ?_) hb
          by_cases hmem : a ∈ ks
          · rw [notIn_none hmem] at hab; cases hab
          · rw [notIn_some hmem] at hab; cases hab
            exact same4 a La ha hmem
  · intro i j L L' hi hj l1 l2 eb
    rcases cases4 i L hi with ⟨a, ha, hga, hia⟩ | ⟨hlt1, hn1, hL1⟩
    · rcases cases4 j L' hj with ⟨b, hb, hgb, hjb⟩ | ⟨hlt2, hn2, hL2⟩
      · have := g3.st.inj a b L L' ha hb l1 l2 eb
        subst this
        rw [hga] at hgb; cases hgb; rfl
      · rcases g3.stp.blk ha l1 with hh | hge
        · rw [eb] at hh; exact absurd hh (hnot j L' hn2 hL2 l2)
        · have := hst.blt hL2 l2; omega
    · rcases cases4 j L' hj with ⟨b, hb, hgb, hjb⟩ | ⟨hlt2, hn2, hL2⟩
      · rcases g3.stp.blk hb l2 with hh | hge
        · rw [← eb] at hh; exact absurd hh (hnot i L hn1 hL1 l1)
        · have := hst.blt hL1 l1; omega
      · exact hst.inj i j L L' hL1 hL2 l1 l2 eb
  · intro b hb hn
    exact g3.stp.out b hb (fun hh => hn (hsub b hh))
  · intro b m hm
    rcases g3.stp.ownc b m hm with q | q | q
    · exact .inl q
    · exact .inr (.inl q)
    · exact .inr (.inr (hsub m q))
  · intro i L hi hmem
    obtain ⟨j, hk, hm⟩ := movedOf_mem.1 hmem
    obtain ⟨L1, e1, e2, e3, e4⟩ := g3.stp.moved j L (hidx i j L (idx_of hd hk) hi) hm
    exact ⟨L1, hg j i L1 (by simp [g, backN, hk]) e1, e2, e3, fun hl => (e4 hl).imp (hsub _) (fun h => h)⟩
  · intro i L hge hi hl
    rcases cases4 i L hi with ⟨j, hj, hgj, hij⟩ | ⟨hlt', _, _⟩
    · rcases g3.stp.blk hj hl with h | h
      · exact .inl (hsub _ h)
      · exact .inr h
    · omega
  · intro i hi hm
    have hlen : i < (writeBack g keep Mc 0 (killM ks M)).length := by rw [hM4l]; exact hi
    unfold mvs
    rw [List.getElem?_append_left hlen, writeBack_get]
    simp only [Nat.zero_add]
    have hMi : M[i]? = some M[i] := by simp [hi]
    obtain ⟨e0, hk0, hk1⟩ : ∃ e0, (killM ks M)[i]? = some e0 ∧ (M[i].mvd = true → e0.mvd = true) := by
      rw [killM_get, hMi]
      refine ⟨_, rfl, fun h => ?_⟩
      cases ks with
      | nil => exact h
      | cons a r => show (M[i].ren (notIn (a :: r))).mvd = true; rw [Ent.ren_mvd]; exact h
    rw [hk0]
    simp only [Option.map_some, Option.some.injEq]
    cases hx : idx keep i with
    | none =>
      have hni : i ∉ ks := fun hm' => by
        obtain ⟨j, hk, _⟩ := movedOf_mem.1 hm'
        exact idx_none hx (List.mem_of_getElem? hk)
      rcases hm with ⟨a, hm, hmd⟩ | hm
      · rw [hMi] at hm; cases hm
        exact ⟨e0, rfl, hk1 hmd⟩
      · exact absurd hm hni
    | some j =>
      have hk := idx_get hx
      have hj : j < Mc.length := by have := lt_of_get hk; omega
      have hMj : Mc[j]? = some Mc[j] := by simp [hj]
      simp only [getM, hMj]
      refine ⟨_, rfl, ?_⟩
      rcases hm with ⟨a, hm, hmd⟩ | hm
      · rw [hMi] at hm; cases hm
        obtain ⟨e', h1, h2⟩ := hSg j i hk
        rw [hMi] at h1; cases h1
        cases hc : Mc[j] with
        | box cs =>
          rw [hc] at hMj
          obtain ⟨cs0, hcs⟩ := hform j cs _ hMj h2
          cases hMi' : M[i] with
          | box cs => rw [hMi'] at hmd; cases hmd
          | row a b c m d => rw [hMi'] at hcs; cases hcs
          | lrow a b m d => rw [hMi'] at hcs; cases hcs
          | hole a b m d p q v => rw [hMi'] at hcs; cases hcs
        | row a b c m d => simp [mergeE, Ent.mvd]; exact .inr (hk1 hmd)
        | lrow a b m d => simp [mergeE, Ent.mvd]; exact .inr (hk1 hmd)
        | hole a b m d p q v => simp [mergeE, Ent.mvd]; exact .inr (hk1 hmd)
      · obtain ⟨j', hk', a, hm', hmd⟩ := movedOf_mem.1 hm
        have : j' = j := by
          have := idx_of hd hk'
          rw [hx] at this; cases this; rfl
        subst this
        rw [hMj] at hm'; cases hm'
        cases hc : Mc[j'] with
        | box cs => rw [hc] at hmd; cases hmd
        | row a b c m d => rw [hc] at hmd; simp [Ent.mvd] at hmd; simp [mergeE, Ent.mvd, hmd]
        | lrow a b m d => rw [hc] at hmd; simp [Ent.mvd] at hmd; simp [mergeE, Ent.mvd, hmd]
        | hole a b m d p q v => rw [hc] at hmd; simp [Ent.mvd] at hmd; simp [mergeE, Ent.mvd, hmd]
end
end Go.Ev
