import Derived.Test.YtkgabahlbmonfaaDoorEvOp1
set_option linter.unusedVariables false
set_option linter.unusedSimpArgs false
/-
  How the store and what is told of memory turn: an entry is written, an entry comes, what nobody writes any more comes.
-/
namespace Go.Ev
open Go

theorem lt_of_get {α : Type} {l : List α} {i : Nat} {x : α} (h : l[i]? = some x) : i < l.length := by
  rcases Nat.lt_or_ge i l.length with g | g
  · exact g
  · rw [List.getElem?_eq_none g] at h; cases h

mutual
theorem LT.mono {w w' : World} : ∀ {v : Value} (x : D) {F : List Nat}, (∀ b ∈ F, w'.heap[b]? = w.heap[b]?) → LT w v x F → LT w' v x F
  | v, .int k n, F, _, r => by unfold LT at r ⊢; exact r
  | v, .bool b, F, _, r => by unfold LT at r ⊢; exact r
  | v, .str s, F, _, r => by unfold LT at r ⊢; exact r
  | v, .sl full sz n es, F, h, r => by
    unfold LT at r ⊢
    obtain ⟨a, cap, e, h1, h0, h2, h3, h4⟩ := r
    refine ⟨a, cap, e, h1, h0, h2, h3, h4.imp id ?_⟩
    rintro ⟨b, off, F', rfl, ea, us, T, fr, hh, hs, hz, he⟩
    exact ⟨b, off, F', rfl, ea, us, T, fr, (h b (by simp)).trans hh, hs, hz, LEs.mono es (fun b hb => h b (by simp [hb])) he⟩
theorem LEs.mono {w w' : World} {g : Nat → Option Value} : ∀ (es : List (List D)) {off : Nat} {F : List Nat}, (∀ b ∈ F, w'.heap[b]? = w.heap[b]?) → LEs w g off es F → LEs w' g off es F
  | [], _, F, _, r => by unfold LEs at r ⊢; exact r
  | c :: es, off, F, h, r => by
    unfold LEs at r ⊢
    obtain ⟨F1, F2, rfl, r1, r2⟩ := r
    exact ⟨F1, F2, rfl, LCs.mono c (fun b hb => h b (by simp [hb])) r1, LEs.mono es (fun b hb => h b (by simp [hb])) r2⟩
theorem LCs.mono {w w' : World} {g : Nat → Option Value} : ∀ (xs : List D) {off : Nat} {F : List Nat}, (∀ b ∈ F, w'.heap[b]? = w.heap[b]?) → LCs w g off xs F → LCs w' g off xs F
  | [], _, F, _, r => by unfold LCs at r ⊢; exact r
  | x :: xs, off, F, h, r => by
    unfold LCs at r ⊢
    obtain ⟨F1, F2, rfl, ⟨u, hu, r1⟩, r2⟩ := r
    exact ⟨F1, F2, rfl, ⟨u, hu, LT.mono x (fun b hb => h b (by simp [hb])) r1⟩, LCs.mono xs (fun b hb => h b (by simp [hb])) r2⟩
end

/-- A block and what belongs to it stay as they were. -/
structure Stays (w : World) (C : Com) (w' : World) (C' : Com) (b : Nat) : Prop where
  heap : w'.heap[b]? = w.heap[b]?
  lim : C' b = C b
  sub : ∀ b', C.own b' = some b → w'.heap[b']? = w.heap[b']?
  own : ∀ b', C'.own b' = some b ↔ C.own b' = some b
theorem Stays.refl {w : World} {C : Com} {b : Nat} : Stays w C w C b := ⟨rfl, rfl, fun _ _ => rfl, fun _ => .rfl⟩

theorem EntOk.ren {w : World} {C : Com} {ι : Locs} {w' : World} {C' : Com} {ι' : Locs} {L : Loc} {e : Ent} (h : EntOk w C ι L e) (hk : Keeps w C w' C') {g : Nat → Option Nat} (hg : ∀ (i j : Nat) (L : Loc), g i = some j → ι[i]? = some L → ι'[j]? = some L)
    (hb : L.located → Stays w C w' C' L.b) : EntOk w' C' ι' L (e.ren g) := by
  cases e with
  | box cs =>
    obtain ⟨hr, hc, us, T, fr, hh, hs, hv⟩ := h
    have hq := hb hr.loc
    have hv' := RVs.ren hk hg _ hv
    exact ⟨hr.to (hv.length.symm.trans hv'.length) (fun b => (hq.own b).1), hq.lim.trans hc, us, T, fr, hq.heap.trans hh, hs, hv'⟩
  | row sz n fz mv es =>
    obtain ⟨hr, h1, h2, h3, h4, h5, h6⟩ := h
    refine ⟨hr, h1, h2, h3, h4, h5, ?_⟩
    rcases h6 with h6 | ⟨us, T, fr, hh, hs, hz, hc, he⟩
    · exact .inl h6
    by_cases h0 : L.cap = 0
    · exact .inl h0
    have hq := hb (.inr h0)
    exact .inr ⟨us, T, fr, hq.heap.trans hh, hs, hz, hq.lim ▸ hc, REs.mono hk es (N := L.base + es.length * sz) (fun _ _ _ _ h => h) h5 (Nat.le_refl _) he⟩
  | lrow sz n mv es =>
    obtain ⟨hr, h1, h2, h3, h4, h5, h6⟩ := h
    refine ⟨hr, h1, h2, h3, h4, h5, ?_⟩
    rcases h6 with h6 | ⟨us, T, fr, F, hh, hs, hz, hc, hn, ho, he⟩
    · exact .inl h6
    by_cases h0 : L.cap = 0
    · exact .inl h0
    have hq := hb (.inr h0)
    exact .inr ⟨us, T, fr, F, hq.heap.trans hh, hs, hz, hq.lim.trans hc, hn, fun b => (hq.own b).trans (ho b), LEs.mono es (fun b hb => hq.sub b ((ho b).2 hb)) he⟩
  | hole sz n mv es i j v =>
    obtain ⟨hr, h1, h2, h3, h4, h5, hi, hj, us, T, fr, F, hh, hs, hz, hc, hn, ho, he, u, hu, hv⟩ := h
    have hq := hb (.inr (by omega))
    exact ⟨hr, h1, h2, h3, h4, h5, hi, hj, us, T, fr, F, hq.heap.trans hh, hs, hz, hq.lim.trans hc, hn, fun b => (hq.own b).trans (ho b), LEs.mono _ (fun b hb => hq.sub b ((ho b).2 hb)) he, u, hu, RV.ren hk hg _ hv⟩
theorem EntOk.mono {w : World} {C : Com} {ι : Locs} {w' : World} {C' : Com} {ι' : Locs} {L : Loc} {e : Ent} (h : EntOk w C ι L e) (hk : Keeps w C w' C') (hg : ∀ (i : Nat) (L : Loc), ι[i]? = some L → ι'[i]? = some L)
    (hb : L.located → Stays w C w' C' L.b) : EntOk w' C' ι' L e := by
  cases e with
  | box cs =>
    obtain ⟨hr, hc, us, T, fr, hh, hs, hv⟩ := h
    have hq := hb hr.loc
    exact ⟨hr.to rfl (fun b => (hq.own b).1), hq.lim.trans hc, us, T, fr, hq.heap.trans hh, hs, RVs.mono hk hg _ hv⟩
  | row sz n fz mv es => exact EntOk.ren (e := .row sz n fz mv es) (g := some) h hk (fun i j L e hi => by cases e; exact hg i L hi) hb
  | lrow sz n mv es => exact EntOk.ren (e := .lrow sz n mv es) (g := some) h hk (fun i j L e hi => by cases e; exact hg i L hi) hb
  | hole sz n mv es i j v =>
    obtain ⟨hr, h1, h2, h3, h4, h5, hi, hj, us, T, fr, F, hh, hs, hz, hc, hn, ho, he, u, hu, hv⟩ := h
    have hq := hb (.inr (by omega))
    exact ⟨hr, h1, h2, h3, h4, h5, hi, hj, us, T, fr, F, hq.heap.trans hh, hs, hz, hq.lim.trans hc, hn, fun b => (hq.own b).trans (ho b), LEs.mono _ (fun b hb => hq.sub b ((ho b).2 hb)) he, u, hu, RV.mono hk hg _ hv⟩

theorem EntOk.lt {w : World} {C : Com} {ι : Locs} {L : Loc} {e : Ent} (h : EntOk w C ι L e) (hl : L.located) : L.b < w.heap.size := by
  have key : ∀ {o : Obj}, w.heap[L.b]? = some o → L.b < w.heap.size := fun hh => (Array.getElem?_eq_some_iff.1 hh).1
  have hc : L.row = true → L.cap ≠ 0 := fun hr => by
    rcases hl with hl | hl
    · rw [hr] at hl; cases hl
    · exact hl
  cases e with
  | box cs => obtain ⟨_, _, us, T, fr, hh, _⟩ := h; exact key hh
  | row sz n fz mv es =>
    obtain ⟨hr, _, _, _, _, _, h6⟩ := h
    rcases h6 with h6 | ⟨us, T, fr, hh, _⟩
    · exact absurd h6 (hc hr)
    · exact key hh
  | lrow sz n mv es =>
    obtain ⟨hr, _, _, _, _, _, h6⟩ := h
    rcases h6 with h6 | ⟨us, T, fr, F, hh, _⟩
    · exact absurd h6 (hc hr)
    · exact key hh
  | hole sz n mv es i j v =>
    obtain ⟨hr, _, _, _, _, _, _, _, us, T, fr, F, hh, _⟩ := h
    exact key hh

theorem St.get {C : Com} {ι : Locs} {M : Mem} {w : World} (h : St C ι M w) {i : Nat} {e : Ent} (he : M[i]? = some e) : ∃ L : Loc, ι[i]? = some L ∧ EntOk w C ι L e := by
  have hi : i < ι.length := by rw [h.len]; exact lt_of_get he
  exact ⟨ι[i], by simp [hi], h.ent i _ _ (by simp [hi]) he⟩
theorem St.get' {C : Com} {ι : Locs} {M : Mem} {w : World} (h : St C ι M w) {i : Nat} {L : Loc} (hL : ι[i]? = some L) : ∃ e : Ent, M[i]? = some e ∧ EntOk w C ι L e := by
  have hi : i < M.length := by rw [← h.len]; exact lt_of_get hL
  exact ⟨M[i], by simp [hi], h.ent i _ _ hL (by simp [hi])⟩
theorem St.blt {C : Com} {ι : Locs} {M : Mem} {w : World} (h : St C ι M w) {i : Nat} {L : Loc} (hL : ι[i]? = some L) (hl : L.located) : L.b < w.heap.size := by
  obtain ⟨e, _, he⟩ := h.get' hL
  exact he.lt hl
theorem St.czero {C : Com} {ι : Locs} {M : Mem} {w : World} (h : St C ι M w) {b : Nat} (hb : w.heap.size ≤ b) : C b = 0 := by
  rcases h.com b with h0 | ⟨us, T, fr, hh, _⟩
  · exact h0
  · rw [Array.getElem?_eq_none hb] at hh; cases hh

/-- Only the block of one entry is written (or the entry gets a new one); what belongs to it may turn. -/
structure UpdG (C : Com) (ι : Locs) (w : World) (id : Nat) (L L' : Loc) (C' : Com) (w' : World) : Prop where
  pre : C.Ok ι w.heap.size
  ok : C'.Ok (ι.set id L') w'.heap.size
  outo : ∀ b, b < w.heap.size → ¬ Has C ι b → C'.own b = C.own b
  ownc : ∀ b m, C'.own b = some m → C.own b = some m ∨ w.heap.size ≤ m ∨ Has C ι m
  stay : ∀ (i : Nat) (L1 : Loc), ι[i]? = some L1 → L1.located → i ≠ id → ∀ b', C'.own b' = some L1.b ↔ C.own b' = some L1.b
  os : w'.os = w.os
  tape : w'.tape = w.tape
  output : w'.output = w.output
  size : w.heap.size ≤ w'.heap.size
  hid : ι[id]? = some L
  keeps : Keeps w C w' C'
  out : ∀ b : Nat, b < w.heap.size → (L.located → b ≠ L.b) → w'.heap[b]? = w.heap[b]? ∧ C' b = C b
  blk : L'.located → (L.located ∧ L'.b = L.b) ∨ w.heap.size ≤ L'.b
  row : L'.row = L.row
  sz : L'.sz = L.sz
  com : ∀ b, C' b = 0 ∨ ∃ us T fr, w'.heap[b]? = some (.cells us T fr) ∧ C' b ≤ us.size

/-- The other entries stay as they were. -/
theorem UpdG.stays {C : Com} {ι : Locs} {w : World} {id : Nat} {L L' : Loc} {C' : Com} {w' : World} (u : UpdG C ι w id L L' C' w') {i : Nat} {L1 : Loc} (hi : ι[i]? = some L1) (hl : L1.located) (hne : i ≠ id) (hb : L1.b < w.heap.size) (hn : L.located → L1.b ≠ L.b) : Stays w C w' C' L1.b := by
  obtain ⟨e1, e2⟩ := u.out L1.b hb hn
  refine ⟨e1, e2, fun b' hb' => ?_, u.stay i L1 hi hl hne⟩
  obtain ⟨h1, h2, h3, h4, h5⟩ := u.pre b' _ hb'
  exact (u.out b' h2 (fun hl e => h5 id L u.hid hl e.symm)).1
theorem UpdG.stp {C : Com} {ι : Locs} {w : World} {id : Nat} {L L' : Loc} {C' : Com} {w' : World} (u : UpdG C ι w id L L' C' w') {ks : Nat → Prop} (hk : L' = L ∨ ks id) : Stp C ι w C' (ι.set id L') w' ks := by
  have hlt := lt_of_get u.hid
  refine ⟨u.os, u.tape, u.output, u.size, u.pre, ?_, u.ownc, u.keeps, ?_, ?_, ?_⟩
  · intro b hb hn
    obtain ⟨e1, e2⟩ := u.out b hb (fun hl e => hn (.inl ⟨id, L, u.hid, hl, .inl e.symm⟩))
    exact ⟨e1, e2, u.outo b hb hn⟩
  · intro i L1 hi hn
    by_cases e : i = id
    · subst e
      have := u.hid.symm.trans hi; cases this
      rcases hk with hk | hk
      · subst hk; simp [hlt]
      · exact absurd hk hn
    · rw [List.getElem?_set_ne (fun h => e h.symm)]; exact hi
  · intro i L1 hi _
    by_cases e : i = id
    · subst e
      have := u.hid.symm.trans hi; cases this
      exact ⟨L', by simp [hlt], u.row, u.sz, fun hl => (u.blk hl).imp (fun h => .inl ⟨_, _, hi, h.1, .inl h.2.symm⟩) (fun h => h)⟩
    · exact ⟨L1, by rw [List.getElem?_set_ne (fun h => e h.symm)]; exact hi, rfl, rfl, fun hl => .inl (.inl ⟨_, _, hi, hl, .inl rfl⟩)⟩
  · intro i L1 hge hi _
    rw [List.getElem?_eq_none (by simpa using hge)] at hi; cases hi

theorem killM_get {ks : List Nat} {M : Mem} {i : Nat} : (killM ks M)[i]? = (M[i]?).map (fun e => match ks with | [] => e | _ => e.ren (notIn ks)) := by
  cases ks with
  | nil => simp [killM]
  | cons a r => simp [killM]
theorem killM_len {ks : List Nat} {M : Mem} : (killM ks M).length = M.length := by
  cases ks <;> simp [killM]

theorem UpdG.st {C : Com} {ι : Locs} {M : Mem} {w : World} (h : St C ι M w) {id : Nat} {L L' : Loc} {C' : Com} {w' : World} (u : UpdG C ι w id L L' C' w') (e' : Ent) (hrow : (∃ sz n fz mv es, e' = .row sz n fz mv es) ∨ ∃ sz n mv es, e' = .lrow sz n mv es)
    (hent : EntOk w' C' (ι.set id L') L' e') : St C' (ι.set id L') (killM [id] (M.set id e')) w' := by
  have hlt := lt_of_get u.hid
  have hltM : id < M.length := by rw [← h.len]; exact hlt
  refine ⟨by simp [killM_len, h.len], ?_, ?_, u.com, u.ok⟩
  · intro i L1 e1 hi he
    rw [killM_get] at he
    by_cases e : i = id
    · subst e
      rw [List.getElem?_set_self hlt] at hi; cases hi
      rw [List.getElem?_set_self hltM] at he
      rcases hrow with ⟨sz, n, fz, mv, es, rfl⟩ | ⟨sz, n, mv, es, rfl⟩
      · simp [Ent.ren] at he
        subst he
        exact hent
      · simp [Ent.ren] at he
        subst he
        exact hent
    · rw [List.getElem?_set_ne (fun h => e h.symm)] at hi he
      cases hM : M[i]? with
      | none => rw [hM] at he; cases he
      | some e0 =>
        rw [hM] at he; simp at he; subst he
        have h0 := h.ent i L1 e0 hi hM
        refine h0.ren u.keeps (fun a b L2 hg hL2 => ?_) (fun hl => ?_)
        · by_cases ha : a = id
          · subst ha; rw [notIn_none (by simp)] at hg; cases hg
          · rw [notIn_some (by simp [ha])] at hg; cases hg
            rw [List.getElem?_set_ne (fun h => ha h.symm)]; exact hL2
        · exact u.stays hi hl e (h.blt hi hl) (fun hl' eb => e (h.inj i id L1 L hi u.hid hl hl' eb))
  · intro i j L1 L2 hi hj l1 l2 eb
    by_cases e1 : i = id
    · by_cases e2 : j = id
      · rw [e1, e2]
      · subst e1
        rw [List.getElem?_set_self hlt] at hi; cases hi
        rw [List.getElem?_set_ne (fun h => e2 h.symm)] at hj
        rcases u.blk l1 with ⟨hl, eb'⟩ | hge
        · exact h.inj i j L L2 u.hid hj hl l2 (eb'.symm.trans eb)
        · have := h.blt hj l2; omega
    · rw [List.getElem?_set_ne (fun h => e1 h.symm)] at hi
      by_cases e2 : j = id
      · subst e2
        rw [List.getElem?_set_self hlt] at hj; cases hj
        rcases u.blk l2 with ⟨hl, eb'⟩ | hge
        · exact h.inj i j L1 L hi u.hid l1 hl (eb.trans eb')
        · have := h.blt hi l1; omega
      · rw [List.getElem?_set_ne (fun h => e2 h.symm)] at hj
        exact h.inj i j L1 L2 hi hj l1 l2 eb

theorem set_same {α : Type} {l : List α} {i : Nat} {x : α} (h : l[i]? = some x) : l.set i x = l := by
  apply List.ext_getElem?
  intro j
  by_cases e : i = j
  · subst e; rw [List.getElem?_set_self (lt_of_get h)]; exact h.symm
  · rw [List.getElem?_set_ne e]

/-- The entry keeps its place. -/
theorem UpdG.st0 {C : Com} {ι : Locs} {M : Mem} {w : World} (h : St C ι M w) {id : Nat} {L : Loc} {C' : Com} {w' : World} (u : UpdG C ι w id L L C' w') (e' : Ent) (hent : EntOk w' C' ι L e') : St C' ι (M.set id e') w' := by
  have hlt := lt_of_get u.hid
  have hltM : id < M.length := by rw [← h.len]; exact hlt
  refine ⟨by simp [h.len], ?_, h.inj, u.com, by have := u.ok; rwa [set_same u.hid] at this⟩
  intro i L1 e1 hi he
  by_cases e : i = id
  · subst e
    have := u.hid.symm.trans hi; cases this
    rw [List.getElem?_set_self hltM] at he; cases he
    exact hent
  · rw [List.getElem?_set_ne (fun h => e h.symm)] at he
    refine (h.ent i L1 e1 hi he).mono u.keeps (fun _ _ h => h) (fun hl => ?_)
    exact u.stays hi hl e (h.blt hi hl) (fun hl' eb => e (h.inj i id L1 L hi u.hid hl hl' eb))
theorem UpdG.stp0 {C : Com} {ι : Locs} {w : World} {id : Nat} {L : Loc} {C' : Com} {w' : World} (u : UpdG C ι w id L L C' w') {ks : Nat → Prop} : Stp C ι w C' ι w' ks := by
  have := u.stp (ks := ks) (.inl rfl)
  rwa [set_same u.hid] at this

/-- Only the block of one entry is written (or the entry gets a new one). -/
structure Upd (C : Com) (ι : Locs) (w : World) (id : Nat) (L L' : Loc) (C' : Com) (w' : World) : Prop where
  own : C'.own = C.own
  pre : C.Ok ι w.heap.size
  os : w'.os = w.os
  tape : w'.tape = w.tape
  output : w'.output = w.output
  size : w.heap.size ≤ w'.heap.size
  hid : ι[id]? = some L
  keeps : Keeps w C w' C'
  out : ∀ b : Nat, b < w.heap.size → (L.located → b ≠ L.b) → w'.heap[b]? = w.heap[b]? ∧ C' b = C b
  blk : L'.located → (L.located ∧ L'.b = L.b) ∨ w.heap.size ≤ L'.b
  row : L'.row = L.row
  sz : L'.sz = L.sz
  com : ∀ b, C' b = 0 ∨ ∃ us T fr, w'.heap[b]? = some (.cells us T fr) ∧ C' b ≤ us.size
theorem Upd.g {C : Com} {ι : Locs} {w : World} {id : Nat} {L L' : Loc} {C' : Com} {w' : World} (u : Upd C ι w id L L' C' w') : UpdG C ι w id L L' C' w' := by
  refine ⟨u.pre, ?_, fun b _ _ => by rw [u.own], fun b m hm => .inl (by rw [← u.own]; exact hm), fun _ _ _ _ _ b' => by rw [u.own], u.os, u.tape, u.output, u.size, u.hid, u.keeps, u.out, u.blk, u.row, u.sz, u.com⟩
  intro b m hm
  rw [u.own] at hm
  obtain ⟨h1, h2, h3, h4, h5⟩ := u.pre b m hm
  have hs := u.size
  refine ⟨by omega, by omega, ?_, by rw [u.own]; exact h4, ?_⟩
  · obtain ⟨_, e⟩ := u.out b h2 (fun hl e => h5 id L u.hid hl e.symm)
    rw [e]; exact h3
  · intro i L1 hi hl e
    by_cases ei : i = id
    · subst ei
      rw [List.getElem?_set_self (lt_of_get u.hid)] at hi; cases hi
      rcases u.blk hl with ⟨q1, q2⟩ | q
      · exact h5 i L u.hid q1 (q2.symm.trans e)
      · omega
    · rw [List.getElem?_set_ne (fun h => ei h.symm)] at hi
      exact h5 i L1 hi hl e
theorem Upd.stp {C : Com} {ι : Locs} {w : World} {id : Nat} {L L' : Loc} {C' : Com} {w' : World} (u : Upd C ι w id L L' C' w') {ks : Nat → Prop} (hk : L' = L ∨ ks id) : Stp C ι w C' (ι.set id L') w' ks := u.g.stp hk
theorem Upd.st {C : Com} {ι : Locs} {M : Mem} {w : World} (h : St C ι M w) {id : Nat} {L L' : Loc} {C' : Com} {w' : World} (u : Upd C ι w id L L' C' w') (e' : Ent) (hrow : (∃ sz n fz mv es, e' = .row sz n fz mv es) ∨ ∃ sz n mv es, e' = .lrow sz n mv es)
    (hent : EntOk w' C' (ι.set id L') L' e') : St C' (ι.set id L') (killM [id] (M.set id e')) w' := u.g.st h e' hrow hent
theorem Upd.st0 {C : Com} {ι : Locs} {M : Mem} {w : World} (h : St C ι M w) {id : Nat} {L : Loc} {C' : Com} {w' : World} (u : Upd C ι w id L L C' w') (e' : Ent) (hent : EntOk w' C' ι L e') : St C' ι (M.set id e') w' := u.g.st0 h e' hent
theorem Upd.stp0 {C : Com} {ι : Locs} {w : World} {id : Nat} {L : Loc} {C' : Com} {w' : World} (u : Upd C ι w id L L C' w') {ks : Nat → Prop} : Stp C ι w C' ι w' ks := u.g.stp0

/-! A new block -/
def World.more (w : World) (o : Obj) : World := { w with heap := w.heap.push o }
theorem more_old {w : World} {o : Obj} {b : Nat} (h : b < w.heap.size) : (World.more w o).heap[b]? = w.heap[b]? := by
  simp only [World.more, Array.getElem?_push]; rw [if_neg (by omega)]
theorem more_new {w : World} {o : Obj} : (World.more w o).heap[w.heap.size]? = some o := by
  show (w.heap.push o)[w.heap.size]? = some o; simp
theorem cell_of_heap {w w' : World} {b o : Nat} (h : w'.heap[b]? = w.heap[b]?) : w'.cell? ⟨b, o, none⟩ = w.cell? ⟨b, o, none⟩ := by
  simp only [World.cell?, h]
theorem St.clt {C : Com} {ι : Locs} {M : Mem} {w : World} (h : St C ι M w) {b o : Nat} (ho : o < C b) : b < w.heap.size := by
  rcases Nat.lt_or_ge b w.heap.size with g | g
  · exact g
  · rw [h.czero g] at ho; omega
theorem St.keeps_more {C : Com} {ι : Locs} {M : Mem} {w : World} (h : St C ι M w) (o : Obj) : Keeps w C (World.more w o) C :=
  ⟨fun _ _ ho => cell_of_heap (more_old (h.clt ho)), fun _ => Nat.le_refl _⟩
theorem grow_get {ι : Locs} {L : Loc} {i : Nat} {L1 : Loc} (h : ι[i]? = some L1) : (ι ++ [L])[i]? = some L1 := by
  rw [List.getElem?_append_left (lt_of_get h)]; exact h

theorem Com.Ok.more {C : Com} {ι : Locs} {n n' : Nat} (h : C.Ok ι n) (hn : n ≤ n') {L : Loc} (hL : L.located → n ≤ L.b) : C.Ok (ι ++ [L]) n' := by
  intro b m hm
  obtain ⟨h1, h2, h3, h4, h5⟩ := h b m hm
  refine ⟨by omega, by omega, h3, h4, fun i L1 hi hl e => ?_⟩
  rcases Nat.lt_or_ge i ι.length with g | g
  · rw [List.getElem?_append_left g] at hi; exact h5 i L1 hi hl e
  · rw [List.getElem?_append_right g] at hi
    have := lt_of_get hi
    simp at this
    rw [show i - ι.length = 0 by omega] at hi; simp at hi; subst hi
    have := hL hl; omega
theorem Com.Ok.le {C : Com} {ι : Locs} {n n' : Nat} (h : C.Ok ι n) (hn : n ≤ n') : C.Ok ι n' := by
  intro b m hm
  obtain ⟨h1, h2, h3, h4, h5⟩ := h b m hm
  exact ⟨by omega, by omega, h3, h4, h5⟩
theorem Com.Ok.some {C : Com} {ι : Locs} {n : Nat} (h : C.Ok ι n) {b m : Nat} (hm : C.own b = some m) : m < n ∧ b < n := ⟨(h b m hm).1, (h b m hm).2.1⟩
theorem St.stays_more {C : Com} {ι : Locs} {M : Mem} {w : World} (h : St C ι M w) (o : Obj) {b : Nat} (hb : b < w.heap.size) : Stays w C (World.more w o) C b :=
  ⟨more_old hb, rfl, fun b' hb' => more_old (h.own.some hb').2, fun _ => .rfl⟩

/-- A new entry in a new block. -/
theorem St.more {C : Com} {ι : Locs} {M : Mem} {w : World} (h : St C ι M w) (us : Array Value) (T : TypeId) (fr : Nat × Nat) (L : Loc) (e : Ent) (hL : L.located → L.b = w.heap.size)
    (hent : EntOk (World.more w (.cells us T fr)) C (ι ++ [L]) L e) :
    St C (ι ++ [L]) (M ++ [e]) (World.more w (.cells us T fr)) ∧ ∀ ks : Nat → Prop, Stp C ι w C (ι ++ [L]) (World.more w (.cells us T fr)) ks := by
  have hk := h.keeps_more (.cells us T fr)
  have cs : ∀ (i : Nat) (L1 : Loc), (ι ++ [L])[i]? = some L1 → ι[i]? = some L1 ∨ (i = ι.length ∧ L1 = L) := by
    intro i L1 hi
    rcases Nat.lt_or_ge i ι.length with g | g
    · rw [List.getElem?_append_left g] at hi; exact .inl hi
    · rw [List.getElem?_append_right g] at hi
      have := lt_of_get hi
      simp at this
      have e : i = ι.length := by omega
      subst e; simp at hi; exact .inr ⟨rfl, hi.symm⟩
  refine ⟨⟨by simp [h.len], ?_, ?_, ?_, h.own.more (by simp [World.more]) (fun hl => by rw [hL hl]; exact Nat.le_refl _)⟩, fun ks => ⟨rfl, rfl, rfl, by simp [World.more], h.own, ?_, fun _ _ h => .inl h, hk, ?_, ?_, ?_⟩⟩
  · intro i L1 e1 hi he
    rcases cs i L1 hi with hi | ⟨rfl, rfl⟩
    · rw [List.getElem?_append_left (by rw [← h.len]; exact lt_of_get hi)] at he
      exact (h.ent i L1 e1 hi he).mono hk (fun _ _ h => grow_get h) (fun hl => h.stays_more _ (h.blt hi hl))
    · rw [h.len] at he; simp at he; subst he; exact hent
  · intro i j L1 L2 hi hj l1 l2 eb
    rcases cs i L1 hi with hi' | ⟨e1, e2⟩
    · rcases cs j L2 hj with hj' | ⟨e3, e4⟩
      · exact h.inj i j L1 L2 hi' hj' l1 l2 eb
      · subst e4; have := h.blt hi' l1; have := hL l2; omega
    · rcases cs j L2 hj with hj' | ⟨e3, e4⟩
      · subst e2; have := h.blt hj' l2; have := hL l1; omega
      · omega
  · intro b
    rcases h.com b with h0 | ⟨us', T', fr', hh, hc⟩
    · exact .inl h0
    · exact .inr ⟨us', T', fr', (more_old (Array.getElem?_eq_some_iff.1 hh).1).trans hh, hc⟩
  · intro b hb _; exact ⟨more_old hb, rfl, rfl⟩
  · intro i L1 hi _; exact grow_get hi
  · intro i L1 hi _; exact ⟨L1, grow_get hi, rfl, rfl, fun hl => .inl (.inl ⟨_, _, hi, hl, .inl rfl⟩)⟩
  · intro i L1 hge hi hl
    rcases cs i L1 hi with hi | ⟨rfl, rfl⟩
    · have := lt_of_get hi; omega
    · exact .inr (Nat.le_of_eq (hL hl).symm)

/-- An entry without a block. -/
theorem St.nilE {C : Com} {ι : Locs} {M : Mem} {w : World} (h : St C ι M w) (sz : Nat) (e : Ent) (he : ∀ ι', EntOk w C ι' ⟨true, sz, 0, 0, 0, 0⟩ e) : St C (ι ++ [⟨true, sz, 0, 0, 0, 0⟩]) (M ++ [e]) w ∧ ∀ ks : Nat → Prop, Stp C ι w C (ι ++ [⟨true, sz, 0, 0, 0, 0⟩]) w ks := by
  have hn : ¬ (⟨true, sz, 0, 0, 0, 0⟩ : Loc).located := by simp [Loc.located]
  have cs : ∀ (i : Nat) (L1 : Loc), (ι ++ [⟨true, sz, 0, 0, 0, 0⟩])[i]? = some L1 → ι[i]? = some L1 ∨ (i = ι.length ∧ L1 = ⟨true, sz, 0, 0, 0, 0⟩) := by
    intro i L1 hi
    rcases Nat.lt_or_ge i ι.length with g | g
    · rw [List.getElem?_append_left g] at hi; exact .inl hi
    · rw [List.getElem?_append_right g] at hi
      have := lt_of_get hi
      simp at this
      have e : i = ι.length := by omega
      subst e; simp at hi; exact .inr ⟨rfl, hi.symm⟩
  refine ⟨⟨by simp [h.len], ?_, ?_, h.com, h.own.more (Nat.le_refl _) (fun hl => absurd hl hn)⟩, fun ks => ⟨rfl, rfl, rfl, Nat.le_refl _, h.own, fun _ _ _ => ⟨rfl, rfl, rfl⟩, fun _ _ h => .inl h, .refl _ _, ?_, ?_, ?_⟩⟩
  · intro i L1 e1 hi he1
    rcases cs i L1 hi with hi | ⟨rfl, rfl⟩
    · rw [List.getElem?_append_left (by rw [← h.len]; exact lt_of_get hi)] at he1
      exact (h.ent i L1 e1 hi he1).mono (.refl _ _) (fun _ _ h => grow_get h) (fun _ => .refl)
    · rw [h.len] at he1; simp at he1; subst he1
      exact he _
  · intro i j L1 L2 hi hj l1 l2 eb
    rcases cs i L1 hi with hi' | ⟨e1, e2⟩
    · rcases cs j L2 hj with hj' | ⟨e3, e4⟩
      · exact h.inj i j L1 L2 hi' hj' l1 l2 eb
      · subst e4; exact absurd l2 hn
    · subst e2; exact absurd l1 hn
  · intro i L1 hi _; exact grow_get hi
  · intro i L1 hi _; exact ⟨L1, grow_get hi, rfl, rfl, fun hl => .inl (.inl ⟨_, _, hi, hl, .inl rfl⟩)⟩
  · intro i L1 hge hi hl
    rcases cs i L1 hi with hi | ⟨rfl, rfl⟩
    · have := lt_of_get hi; omega
    · exact absurd hl hn
theorem St.nil {C : Com} {ι : Locs} {M : Mem} {w : World} (h : St C ι M w) (sz : Nat) (fz mv : Bool) : St C (ι ++ [⟨true, sz, 0, 0, 0, 0⟩]) (M ++ [.row sz 0 fz mv []]) w ∧ ∀ ks : Nat → Prop, Stp C ι w C (ι ++ [⟨true, sz, 0, 0, 0, 0⟩]) w ks :=
  h.nilE sz _ fun _ => ⟨rfl, rfl, rfl, Nat.le_refl _, rfl, fun c hc => by simp at hc, .inl rfl⟩
/-- The size that a nil list's row has. -/
def nilSz (sz : Nat) : Nat := bif Nat.ble 1000 sz then sz - 1000 else sz
theorem St.nilEnt {C : Com} {ι : Locs} {M : Mem} {w : World} (h : St C ι M w) (sz : Nat) : St C (ι ++ [⟨true, nilSz sz, 0, 0, 0, 0⟩]) (M ++ [Go.Ev.nilEnt sz]) w ∧ ∀ ks : Nat → Prop, Stp C ι w C (ι ++ [⟨true, nilSz sz, 0, 0, 0, 0⟩]) w ks := by
  refine h.nilE _ _ fun _ => ?_
  unfold Go.Ev.nilEnt nilSz
  cases Nat.ble 1000 sz with
  | true => exact ⟨rfl, rfl, rfl, Nat.le_refl _, rfl, fun c hc => by simp at hc, .inl rfl⟩
  | false => exact ⟨rfl, rfl, rfl, Nat.le_refl _, rfl, fun c hc => by simp at hc, .inl rfl⟩

/-- A new block that nobody will write. -/
theorem St.fixed {C : Com} {ι : Locs} {M : Mem} {w : World} (h : St C ι M w) (us : Array Value) (T : TypeId) (fr : Nat × Nat) :
    St ⟨fun b => if b = w.heap.size then us.size else C b, C.own⟩ ι M (World.more w (.cells us T fr)) ∧ ∀ ks : Nat → Prop, Stp C ι w ⟨fun b => if b = w.heap.size then us.size else C b, C.own⟩ ι (World.more w (.cells us T fr)) ks := by
  have hk : Keeps w C (World.more w (.cells us T fr)) ⟨fun b => if b = w.heap.size then us.size else C b, C.own⟩ :=
    ⟨fun b o' ho => cell_of_heap (more_old (h.clt ho)), fun b => by
      by_cases e : b = w.heap.size
      · simp [e, h.czero (Nat.le_refl _)]
      · simp [e]⟩
  have hc : ∀ b, b < w.heap.size → (⟨fun b => if b = w.heap.size then us.size else C b, C.own⟩ : Com) b = C b := fun b hb => by
    have : b ≠ w.heap.size := by omega
    simp [this]
  have hok : (⟨fun b => if b = w.heap.size then us.size else C b, C.own⟩ : Com).Ok ι (World.more w (.cells us T fr)).heap.size := by
    intro b m hm
    obtain ⟨h1, h2, h3, h4, h5⟩ := h.own b m hm
    have hs : (World.more w (.cells us T fr)).heap.size = w.heap.size + 1 := by simp [World.more]
    exact ⟨by omega, by omega, (hc b h2).trans h3, h4, h5⟩
  refine ⟨⟨h.len, ?_, h.inj, ?_, hok⟩, fun ks => ⟨rfl, rfl, rfl, by simp [World.more], h.own, fun b hb _ => ⟨more_old hb, hc b hb, rfl⟩, fun _ _ h => .inl h, hk, fun _ _ h _ => h, fun i L1 hi _ => ⟨L1, hi, rfl, rfl, fun hl => .inl (.inl ⟨_, _, hi, hl, .inl rfl⟩)⟩, fun i L1 hge hi _ => ?_⟩⟩
  · intro i L1 e1 hi he
    exact (h.ent i L1 e1 hi he).mono hk (fun _ _ h => h) (fun hl => ⟨more_old (h.blt hi hl), hc _ (h.blt hi hl), fun b' hb' => more_old (h.own.some hb').2, fun _ => .rfl⟩)
  · intro b
    by_cases e : b = w.heap.size
    · subst e; exact .inr ⟨us, T, fr, more_new, by simp⟩
    · simp only [e, if_false]
      rcases h.com b with h0 | ⟨us', T', fr', hh, hc⟩
      · exact .inl h0
      · exact .inr ⟨us', T', fr', (more_old (Array.getElem?_eq_some_iff.1 hh).1).trans hh, hc⟩
  · rw [List.getElem?_eq_none hge] at hi; cases hi

/-- A draw. -/
theorem St.of_heap {C : Com} {ι : Locs} {M : Mem} {w w' : World} (h : St C ι M w) (e : w'.heap = w.heap) (e1 : w'.os = w.os) (e2 : w'.tape = w.tape) (e3 : w'.output = w.output) : St C ι M w' ∧ ∀ ks : Nat → Prop, Stp C ι w C ι w' ks := by
  have hk : Keeps w C w' C := ⟨fun b o _ => cell_of_heap (by rw [e]), fun _ => Nat.le_refl _⟩
  refine ⟨⟨h.len, fun i L1 e0 hi he => (h.ent i L1 e0 hi he).mono hk (fun _ _ h => h) (fun _ => ⟨by rw [e], rfl, fun _ _ => by rw [e], fun _ => .rfl⟩), h.inj, fun b => by rw [e]; exact h.com b, by rw [e]; exact h.own⟩, fun ks => ⟨e1, e2, e3, by rw [e]; exact Nat.le_refl _, h.own, fun b _ _ => ⟨by rw [e], rfl, rfl⟩, fun _ _ h => .inl h, hk, fun _ _ h _ => h, fun i L1 hi _ => ⟨L1, hi, rfl, rfl, fun hl => .inl (.inl ⟨_, _, hi, hl, .inl rfl⟩)⟩, fun i L1 hge hi _ => ?_⟩⟩
  rw [List.getElem?_eq_none hge] at hi; cases hi

/-- A row is told as data. -/
theorem St.freeze {C : Com} {ι : Locs} {M : Mem} {w : World} (h : St C ι M w) {id : Nat} {sz n : Nat} {fz mv : Bool} {es : List (List D)} (hM : M[id]? = some (.row sz n fz mv es)) :
    ∃ C', St C' ι (M.set id (.row sz n true mv es)) w ∧ (∀ ks : Nat → Prop, Stp C ι w C' ι w ks) ∧ ∀ L : Loc, ι[id]? = some L → L.cap = 0 ∨ (L.base + n * sz ≤ C' L.b ∧ REs w C' (fun o => w.cell? ⟨L.b, o, none⟩) L.base es) := by
  obtain ⟨L, hL, he⟩ := h.get hM
  obtain ⟨hr, h1, h2, h3, h4, h5, h6⟩ := he
  by_cases h0 : L.cap = 0
  · have u : Upd C ι w id L L C w := ⟨rfl, h.own, rfl, rfl, rfl, Nat.le_refl _, hL, .refl _ _, fun _ _ _ => ⟨rfl, rfl⟩, fun hl => .inl ⟨hl, rfl⟩, rfl, rfl, h.com⟩
    exact ⟨C, u.st0 h _ ⟨hr, h1, h2, h3, h4, h5, .inl h0⟩, fun ks => u.stp0, fun L1 e => by rw [hL] at e; cases e; exact .inl h0⟩
  rcases h6 with h6 | ⟨us, T, fr, hh, hs, hz, hc, he⟩
  · exact absurd h6 h0
  let C' : Com := ⟨fun b => if b = L.b then max (C b) (L.base + n * sz) else C b, C.own⟩
  have hle : ∀ b, C b ≤ C' b := fun b => by by_cases e : b = L.b <;> simp [C', e]; omega
  have hk : Keeps w C w C' := ⟨fun _ _ _ => rfl, hle⟩
  have hnc : n * sz ≤ L.cap * sz := Nat.mul_le_mul_right _ h3
  have hCb : C' L.b = L.base + n * sz := by
    simp only [C', if_true]
    have : C L.b ≤ L.base + n * sz := by cases fz <;> simp at hc <;> omega
    omega
  have u : Upd C ι w id L L C' w := by
    refine ⟨rfl, h.own, rfl, rfl, rfl, Nat.le_refl _, hL, hk, fun b _ hb => ⟨rfl, ?_⟩, fun hl => .inl ⟨hl, rfl⟩, rfl, rfl, fun b => ?_⟩
    · have := hb (.inr h0); simp [C', this]
    · by_cases e : b = L.b
      · subst e; exact .inr ⟨us, T, fr, hh, by rw [hCb]; omega⟩
      · have : C' b = C b := by simp [C', e]
        rw [this]; exact h.com b
  have he' : REs w C' (fun o => us[o]?) L.base es := REs.mono hk es (N := L.base + es.length * sz) (fun _ _ _ _ h => h) h5 (Nat.le_refl _) he
  refine ⟨C', u.st0 h _ ⟨hr, h1, h2, h3, h4, h5, .inr ⟨us, T, fr, hh, hs, hz, by simp [hCb], he'⟩⟩, fun ks => u.stp0, fun L1 e => ?_⟩
  rw [hL] at e; cases e
  refine .inr ⟨Nat.le_of_eq hCb.symm, ?_⟩
  exact REs.mono (.refl _ _) es (N := L.base + es.length * sz) (fun o _ _ u hu => by show w.cell? _ = _; simp only [World.cell?, hh]; simpa using hu) h5 (Nat.le_refl _) he'

mutual
theorem LT.rd {w : World} {C : Com} : ∀ {v : Value} (x : D) {F : List Nat}, (∀ b ∈ F, ∀ us T fr, w.heap[b]? = some (.cells us T fr) → us.size ≤ C b) → LT w v x F → RD w C v x
  | v, .int k n, F, _, r => by unfold LT at r; unfold RD; exact r.1
  | v, .bool b, F, _, r => by unfold LT at r; unfold RD; exact r.1
  | v, .str s, F, _, r => by unfold LT at r; unfold RD; exact r.1
  | v, .sl full sz n es, F, h, r => by
    unfold LT at r
    unfold RD
    obtain ⟨a, cap, e, h1, h0, h2, h3, h4⟩ := r
    refine ⟨a, cap, e, h1, h0, h2, h3, ?_⟩
    rcases h4 with ⟨h4, _⟩ | ⟨b, off, F', rfl, ea, us, T, fr, hh, hs, hz, he⟩
    · exact .inl (by omega)
    · have hb := h b (by simp) us T fr hh
      have hnc : n * sz ≤ cap * sz := Nat.mul_le_mul_right _ h1
      refine .inr ⟨b, off, ea, by omega, ?_⟩
      have := LEs.rd es (fun b hb => h b (by simp [hb])) he
      exact REs.mono (.refl _ _) es (N := off + es.length * sz) (fun o _ _ u hu => by show w.cell? _ = _; simp only [World.cell?, hh]; simpa using hu) h3 (Nat.le_refl _) this
theorem LEs.rd {w : World} {C : Com} {g : Nat → Option Value} : ∀ (es : List (List D)) {off : Nat} {F : List Nat}, (∀ b ∈ F, ∀ us T fr, w.heap[b]? = some (.cells us T fr) → us.size ≤ C b) → LEs w g off es F → REs w C g off es
  | [], _, F, _, r => by unfold REs; trivial
  | c :: es, off, F, h, r => by
    unfold LEs at r
    unfold REs
    obtain ⟨F1, F2, rfl, r1, r2⟩ := r
    exact ⟨LCs.rd c (fun b hb => h b (by simp [hb])) r1, LEs.rd es (fun b hb => h b (by simp [hb])) r2⟩
theorem LCs.rd {w : World} {C : Com} {g : Nat → Option Value} : ∀ (xs : List D) {off : Nat} {F : List Nat}, (∀ b ∈ F, ∀ us T fr, w.heap[b]? = some (.cells us T fr) → us.size ≤ C b) → LCs w g off xs F → RCs w C g off xs
  | [], _, F, _, r => by unfold RCs; trivial
  | x :: xs, off, F, h, r => by
    unfold LCs at r
    unfold RCs
    obtain ⟨F1, F2, rfl, ⟨u, hu, r1⟩, r2⟩ := r
    exact ⟨⟨u, hu, LT.rd x (fun b hb => h b (by simp [hb])) r1⟩, LCs.rd xs (fun b hb => h b (by simp [hb])) r2⟩
end

def blkSize (w : World) (b : Nat) : Nat := match w.heap[b]? with
  | some (.cells us _ _) => us.size
  | _ => 0
/-- A row and its trees are told as data. -/
theorem St.lfreeze {C : Com} {ι : Locs} {M : Mem} {w : World} (h : St C ι M w) {id : Nat} {sz n : Nat} {mv : Bool} {es : List (List D)} (hM : M[id]? = some (.lrow sz n mv es)) :
    ∃ C', St C' ι (M.set id (.row sz n true mv es)) w ∧ (∀ ks : Nat → Prop, Stp C ι w C' ι w ks) ∧ ∀ L : Loc, ι[id]? = some L → L.cap = 0 ∨ (L.base + n * sz ≤ C' L.b ∧ REs w C' (fun o => w.cell? ⟨L.b, o, none⟩) L.base es) := by
  obtain ⟨L, hL, he⟩ := h.get hM
  obtain ⟨hr, h1, h2, h3, h4, h5, h6⟩ := he
  have hlt := lt_of_get hM
  by_cases h0 : L.cap = 0
  · have u : Upd C ι w id L L C w := ⟨rfl, h.own, rfl, rfl, rfl, Nat.le_refl _, hL, .refl _ _, fun _ _ _ => ⟨rfl, rfl⟩, fun hl => .inl ⟨hl, rfl⟩, rfl, rfl, h.com⟩
    exact ⟨C, u.st0 h _ ⟨hr, h1, h2, h3, h4, h5, .inl h0⟩, fun ks => u.stp0, fun L1 e => by rw [hL] at e; cases e; exact .inl h0⟩
  rcases h6 with h6 | ⟨us, T, fr, F, hh, hs, hz, hc, hn, ho, he⟩
  · exact absurd h6 h0
  have hloc : L.located := .inr h0
  let C' : Com := ⟨fun b => if b = L.b then L.base + n * sz else if C.own b = some L.b then blkSize w b else C b, fun b => if C.own b = some L.b then none else C.own b⟩
  have hnc : n * sz ≤ L.cap * sz := Nat.mul_le_mul_right _ h3
  have hCb : C' L.b = L.base + n * sz := by simp [C']
  have hne : ∀ b, C.own b = some L.b → b ≠ L.b := fun b hb e => (h.own b _ hb).2.2.2.2 id L hL hloc e.symm
  have hnL : ∀ m, C.own L.b ≠ some m := fun m hm => (h.own L.b m hm).2.2.2.2 id L hL hloc rfl
  have hCo : ∀ b, b ≠ L.b → C.own b ≠ some L.b → C' b = C b ∧ C'.own b = C.own b := fun b h1 h2 => by simp [C', h1, h2]
  have hle : ∀ b, C b ≤ C' b := fun b => by
    by_cases e : b = L.b
    · subst e; rw [hc]; omega
    · by_cases e2 : C.own b = some L.b
      · rw [(h.own b _ e2).2.2.1]; omega
      · rw [(hCo b e e2).1]; omega
  have hk : Keeps w C w C' := ⟨fun _ _ _ => rfl, hle⟩
  have hst : ∀ (i : Nat) (L1 : Loc), ι[i]? = some L1 → L1.located → i ≠ id → Stays w C w C' L1.b := by
    intro i L1 hi hl e
    have hb : L1.b ≠ L.b := fun eb => e (h.inj i id L1 L hi hL hl hloc eb)
    have hb2 : C.own L1.b ≠ some L.b := fun hm => (h.own _ _ hm).2.2.2.2 i L1 hi hl rfl
    refine ⟨rfl, (hCo _ hb hb2).1, fun _ _ => rfl, fun b' => ?_⟩
    by_cases e2 : C.own b' = some L.b
    · have : C'.own b' = none := by simp [C', e2]
      rw [this, e2]; simp; exact fun h => hb h.symm
    · have : C'.own b' = C.own b' := by simp [C', e2]
      rw [this]
  have hF : ∀ b ∈ F, ∀ us T fr, w.heap[b]? = some (.cells us T fr) → us.size ≤ C' b := by
    intro b hb us T fr hbh
    have e2 := (ho b).2 hb
    have : C' b = blkSize w b := by simp [C', e2, hne b e2]
    rw [this]; unfold blkSize; rw [hbh]; exact Nat.le_refl _
  have hre : REs w C' (fun o => us[o]?) L.base es := LEs.rd es hF he
  refine ⟨C', ⟨by simp [h.len], ?_, h.inj, ?_, ?_⟩, fun ks => ⟨rfl, rfl, rfl, Nat.le_refl _, h.own, ?_, ?_, hk, fun _ _ h _ => h, fun i L1 hi _ => ⟨L1, hi, rfl, rfl, fun hl => .inl (.inl ⟨_, _, hi, hl, .inl rfl⟩)⟩, fun i L1 hge hi _ => ?_⟩, fun L1 e => ?_⟩
  · intro i L1 e1 hi he1
    by_cases e : i = id
    · subst e
      rw [hL] at hi; cases hi
      rw [List.getElem?_set_self hlt] at he1; cases he1
      exact ⟨hr, h1, h2, h3, h4, h5, .inr ⟨us, T, fr, hh, hs, hz, by simp [hCb], hre⟩⟩
    · rw [List.getElem?_set_ne (fun h => e h.symm)] at he1
      exact (h.ent i L1 e1 hi he1).mono hk (fun _ _ h => h) (fun hl => hst i L1 hi hl e)
  · intro b
    by_cases e : b = L.b
    · subst e; exact .inr ⟨us, T, fr, hh, by rw [hCb]; omega⟩
    · by_cases e2 : C.own b = some L.b
      · have : C' b = blkSize w b := by simp [C', e2, e]
        rw [this]
        unfold blkSize
        split
        · rename_i us' T' fr' hb'; exact .inr ⟨us', T', fr', hb', Nat.le_refl _⟩
        · exact .inl rfl
      · rw [(hCo b e e2).1]; exact h.com b
  · intro b m hm
    have e2 : C.own b ≠ some L.b := fun e2 => by have : C'.own b = none := by simp [C', e2]
                                                 rw [this] at hm; cases hm
    have e : b ≠ L.b := fun e => by subst e; have : C'.own L.b = C.own L.b := by simp [C', e2]
                                    rw [this] at hm; exact hnL m hm
    rw [(hCo b e e2).2] at hm
    obtain ⟨q1, q2, q3, q4, q5⟩ := h.own b m hm
    refine ⟨q1, q2, (hCo b e e2).1.trans q3, ?_, q5⟩
    rcases q4 with q4 | q4
    · left; simp [C', q4]
    · right
      have : m ≠ L.b := fun em => by subst em; exact hnL _ q4
      simp [C', q4]; exact this
  · intro b hb hnh
    have e : b ≠ L.b := fun e => hnh (.inl ⟨id, L, hL, hloc, .inl e.symm⟩)
    have e2 : C.own b ≠ some L.b := fun e2 => hnh (.inl ⟨id, L, hL, hloc, .inr e2⟩)
    exact ⟨rfl, (hCo b e e2).1, (hCo b e e2).2⟩
  · intro b m hm
    left
    by_cases e2 : C.own b = some L.b
    · have : C'.own b = none := by simp [C', e2]
      rw [this] at hm; cases hm
    · have : C'.own b = C.own b := by simp [C', e2]
      rw [← this]; exact hm
  · rw [List.getElem?_eq_none hge] at hi; cases hi
  · rw [hL] at e; cases e
    refine .inr ⟨Nat.le_of_eq hCb.symm, ?_⟩
    exact REs.mono (.refl _ _) es (N := L.base + es.length * sz) (fun o _ _ u hu => by show w.cell? _ = _; simp only [World.cell?, hh]; simpa using hu) h5 (Nat.le_refl _) hre
end Go.Ev
