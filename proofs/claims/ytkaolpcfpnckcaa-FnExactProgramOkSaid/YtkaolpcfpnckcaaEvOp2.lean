/-
  How the store and what is told of memory turn: an entry is written, an entry comes, what nobody writes any more comes.
-/
import Derived.Test.YtkaolpcfpnckcaaEvOp1
set_option linter.unusedVariables false
set_option linter.unusedSimpArgs false
namespace Go.Ev
open Go

theorem lt_of_get {α : Type} {l : List α} {i : Nat} {x : α} (h : l[i]? = some x) : i < l.length := by
  rcases Nat.lt_or_ge i l.length with g | g
  · exact g
  · rw [List.getElem?_eq_none g] at h; cases h

theorem EntOk.ren {w : World} {C : Com} {ι : Locs} {w' : World} {C' : Com} {ι' : Locs} {L : Loc} {e : Ent} (h : EntOk w C ι L e) (hk : Keeps w C w' C') {g : Nat → Option Nat} (hg : ∀ (i j : Nat) (L : Loc), g i = some j → ι[i]? = some L → ι'[j]? = some L)
    (hb : L.located → w'.heap[L.b]? = w.heap[L.b]? ∧ C' L.b = C L.b) : EntOk w' C' ι' L (e.ren g) := by
  cases e with
  | box cs =>
    obtain ⟨hr, hc, us, T, fr, hh, hs, hv⟩ := h
    obtain ⟨e1, e2⟩ := hb (.inl hr)
    exact ⟨hr, e2.trans hc, us, T, fr, e1.trans hh, hs, RVs.ren hk hg _ hv⟩
  | row sz n fz mv es =>
    obtain ⟨hr, h1, h2, h3, h4, h5, h6⟩ := h
    refine ⟨hr, h1, h2, h3, h4, h5, ?_⟩
    rcases h6 with h6 | ⟨us, T, fr, hh, hs, hz, hc, he⟩
    · exact .inl h6
    by_cases h0 : L.cap = 0
    · exact .inl h0
    obtain ⟨e1, e2⟩ := hb (.inr h0)
    exact .inr ⟨us, T, fr, e1.trans hh, hs, hz, e2 ▸ hc, REs.mono hk es (N := L.base + es.length * sz) (fun _ _ _ _ h => h) h5 (Nat.le_refl _) he⟩
theorem EntOk.mono {w : World} {C : Com} {ι : Locs} {w' : World} {C' : Com} {ι' : Locs} {L : Loc} {e : Ent} (h : EntOk w C ι L e) (hk : Keeps w C w' C') (hg : ∀ (i : Nat) (L : Loc), ι[i]? = some L → ι'[i]? = some L)
    (hb : L.located → w'.heap[L.b]? = w.heap[L.b]? ∧ C' L.b = C L.b) : EntOk w' C' ι' L e := by
  cases e with
  | box cs =>
    obtain ⟨hr, hc, us, T, fr, hh, hs, hv⟩ := h
    obtain ⟨e1, e2⟩ := hb (.inl hr)
    exact ⟨hr, e2.trans hc, us, T, fr, e1.trans hh, hs, RVs.mono hk hg _ hv⟩
  | row sz n fz mv es =>
    obtain ⟨hr, h1, h2, h3, h4, h5, h6⟩ := h
    refine ⟨hr, h1, h2, h3, h4, h5, ?_⟩
    rcases h6 with h6 | ⟨us, T, fr, hh, hs, hz, hc, he⟩
    · exact .inl h6
    by_cases h0 : L.cap = 0
    · exact .inl h0
    obtain ⟨e1, e2⟩ := hb (.inr h0)
    exact .inr ⟨us, T, fr, e1.trans hh, hs, hz, e2 ▸ hc, REs.mono hk es (N := L.base + es.length * sz) (fun _ _ _ _ h => h) h5 (Nat.le_refl _) he⟩

theorem EntOk.lt {w : World} {C : Com} {ι : Locs} {L : Loc} {e : Ent} (h : EntOk w C ι L e) (hl : L.located) : L.b < w.heap.size := by
  cases e with
  | box cs => obtain ⟨_, _, us, T, fr, hh, _⟩ := h; exact (Array.getElem?_eq_some_iff.1 hh).1
  | row sz n fz mv es =>
    obtain ⟨hr, _, _, _, _, _, h6⟩ := h
    rcases h6 with h6 | ⟨us, T, fr, hh, _⟩
    · rcases hl with hl | hl
      · rw [hr] at hl; cases hl
      · exact absurd h6 hl
    · exact (Array.getElem?_eq_some_iff.1 hh).1

theorem St.get {C : Com} {ι : Locs} {M : Mem} {w : World} (h : St C ι M w) {i : Nat} {e : Ent} (he : M[i]? = some e) : ∃ L : Loc, ι[i]? = some L ∧ EntOk w C ι L e := by
  have hi : i < ι.length := by rw [h.len]; exact lt_of_get he
  exact ⟨ι[i], by simp [hi], h.ent i _ _ (by simp [hi]) he⟩
theorem St.get' {C : Com} {ι : Locs} {M : Mem} {w : World} (h : St C ι M w) {i : Nat} {L : Loc} (hL : ι[i]? = some L) : ∃ e : Ent, M[i]? = some e ∧ EntOk w C ι L e := by
  have hi : i < M.length := by rw [← h.len]; exact lt_of_get hL
  exact ⟨M[i], by simp [hi], h.ent i _ _ hL (by simp [hi])⟩
theorem St.blt {C : Com} {ι : Locs} {M : Mem} {w : World} (h : St C ι M w) {i : Nat} {L : Loc} (hL : ι[i]? = some L) (hl : L.located) : L.b < w.heap.size := by
  obtain ⟨e, _, he⟩ := h.get' hL
  exact he.lt hl
theorem St.czero {C : Com} {ι : Locs} {M : Mem} {w : World} (h : St C ι M w) {b : Nat} (hb : w.heap.size ≤ b) : C b = 0 := by
  rcases h.com b with h0 | ⟨us, T, fr, hh, _⟩
  · exact h0
  · rw [Array.getElem?_eq_none hb] at hh; cases hh

/-- Only the block of one entry is written (or the entry gets a new one). -/
structure Upd (C : Com) (ι : Locs) (w : World) (id : Nat) (L L' : Loc) (C' : Com) (w' : World) : Prop where
  os : w'.os = w.os
  tape : w'.tape = w.tape
  output : w'.output = w.output
  size : w.heap.size ≤ w'.heap.size
  hid : ι[id]? = some L
  keeps : Keeps w C w' C'
  out : ∀ b : Nat, b < w.heap.size → (L.located → b ≠ L.b) → w'.heap[b]? = w.heap[b]? ∧ C' b = C b
  blk : L'.located → (L.located ∧ L'.b = L.b) ∨ w.heap.size ≤ L'.b
  row : L'.row = L.row
  sz : L'.sz = L.sz
  com : ∀ b, C' b = 0 ∨ ∃ us T fr, w'.heap[b]? = some (.cells us T fr) ∧ C' b ≤ us.size

theorem Upd.stp {C : Com} {ι : Locs} {w : World} {id : Nat} {L L' : Loc} {C' : Com} {w' : World} (u : Upd C ι w id L L' C' w') {ks : Nat → Prop} (hk : L' = L ∨ ks id) : Stp C ι w C' (ι.set id L') w' ks := by
  have hlt := lt_of_get u.hid
  refine ⟨u.os, u.tape, u.output, u.size, ?_, u.keeps, ?_, ?_, ?_⟩
  · intro b hb hn
    exact u.out b hb (fun hl e => hn id L u.hid hl e.symm)
  · intro i L1 hi hn
    by_cases e : i = id
    · subst e
      have := u.hid.symm.trans hi; cases this
      rcases hk with hk | hk
      · subst hk; simp [hlt]
      · exact absurd hk hn
    · rw [List.getElem?_set_ne (fun h => e h.symm)]; exact hi
  · intro i L1 hi _
    by_cases e : i = id
    · subst e
      have := u.hid.symm.trans hi; cases this
      exact ⟨L', by simp [hlt], u.row, u.sz, u.blk⟩
    · exact ⟨L1, by rw [List.getElem?_set_ne (fun h => e h.symm)]; exact hi, rfl, rfl, fun hl => .inl ⟨hl, rfl⟩⟩
  · intro i L1 hge hi _
    rw [List.getElem?_eq_none (by simpa using hge)] at hi; cases hi

theorem killM_get {ks : List Nat} {M : Mem} {i : Nat} : (killM ks M)[i]? = (M[i]?).map (fun e => match ks with | [] => e | _ => e.ren (notIn ks)) := by
  cases ks with
  | nil => simp [killM]
  | cons a r => simp [killM]
theorem killM_len {ks : List Nat} {M : Mem} : (killM ks M).length = M.length := by
  cases ks <;> simp [killM]

theorem Upd.st {C : Com} {ι : Locs} {M : Mem} {w : World} (h : St C ι M w) {id : Nat} {L L' : Loc} {C' : Com} {w' : World} (u : Upd C ι w id L L' C' w') (e' : Ent) (hrow : ∃ sz n fz mv es, e' = .row sz n fz mv es)
    (hent : EntOk w' C' (ι.set id L') L' e') : St C' (ι.set id L') (killM [id] (M.set id e')) w' := by
  have hlt := lt_of_get u.hid
  have hltM : id < M.length := by rw [← h.len]; exact hlt
  refine ⟨by simp [killM_len, h.len], ?_, ?_, u.com⟩
  · intro i L1 e1 hi he
    rw [killM_get] at he
    by_cases e : i = id
    · subst e
      rw [List.getElem?_set_self hlt] at hi; cases hi
      rw [List.getElem?_set_self hltM] at he
      obtain ⟨sz, n, fz, mv, es, rfl⟩ := hrow
      simp [Ent.ren] at he
      subst he
      exact hent
    · rw [List.getElem?_set_ne (fun h => e h.symm)] at hi he
      cases hM : M[i]? with
      | none => rw [hM] at he; cases he
      | some e0 =>
        rw [hM] at he; simp at he; subst he
        have h0 := h.ent i L1 e0 hi hM
        refine h0.ren u.keeps (fun a b L2 hg hL2 => ?_) (fun hl => ?_)
        · by_cases ha : a = id
          · subst ha; rw [notIn_none (by simp)] at hg; cases hg
          · rw [notIn_some (by simp [ha])] at hg; cases hg
            rw [List.getElem?_set_ne (fun h => ha h.symm)]; exact hL2
        · exact u.out _ (h.blt hi hl) (fun hl' eb => e (h.inj i id L1 L hi u.hid hl hl' eb))
  · intro i j L1 L2 hi hj l1 l2 eb
    by_cases e1 : i = id
    · by_cases e2 : j = id
      · rw [e1, e2]
      · subst e1
        rw [List.getElem?_set_self hlt] at hi; cases hi
        rw [List.getElem?_set_ne (fun h => e2 h.symm)] at hj
        rcases u.blk l1 with ⟨hl, eb'⟩ | hge
        · exact h.inj i j L L2 u.hid hj hl l2 (eb'.symm.trans eb)
        · have := h.blt hj l2; omega
    · rw [List.getElem?_set_ne (fun h => e1 h.symm)] at hi
      by_cases e2 : j = id
      · subst e2
        rw [List.getElem?_set_self hlt] at hj; cases hj
        rcases u.blk l2 with ⟨hl, eb'⟩ | hge
        · exact h.inj i j L1 L hi u.hid l1 hl (eb.trans eb')
        · have := h.blt hi l1; omega
      · rw [List.getElem?_set_ne (fun h => e2 h.symm)] at hj
        exact h.inj i j L1 L2 hi hj l1 l2 eb

theorem set_same {α : Type} {l : List α} {i : Nat} {x : α} (h : l[i]? = some x) : l.set i x = l := by
  apply List.ext_getElem?
  intro j
  by_cases e : i = j
  · subst e; rw [List.getElem?_set_self (lt_of_get h)]; exact h.symm
  · rw [List.getElem?_set_ne e]

/-- The entry keeps its place. -/
theorem Upd.st0 {C : Com} {ι : Locs} {M : Mem} {w : World} (h : St C ι M w) {id : Nat} {L : Loc} {C' : Com} {w' : World} (u : Upd C ι w id L L C' w') (e' : Ent) (hent : EntOk w' C' ι L e') : St C' ι (M.set id e') w' := by
  have hlt := lt_of_get u.hid
  have hltM : id < M.length := by rw [← h.len]; exact hlt
  refine ⟨by simp [h.len], ?_, h.inj, u.com⟩
  intro i L1 e1 hi he
  by_cases e : i = id
  · subst e
    have := u.hid.symm.trans hi; cases this
    rw [List.getElem?_set_self hltM] at he; cases he
    exact hent
  · rw [List.getElem?_set_ne (fun h => e h.symm)] at he
    refine (h.ent i L1 e1 hi he).mono u.keeps (fun _ _ h => h) (fun hl => ?_)
    exact u.out _ (h.blt hi hl) (fun hl' eb => e (h.inj i id L1 L hi u.hid hl hl' eb))
theorem Upd.stp0 {C : Com} {ι : Locs} {w : World} {id : Nat} {L : Loc} {C' : Com} {w' : World} (u : Upd C ι w id L L C' w') {ks : Nat → Prop} : Stp C ι w C' ι w' ks := by
  have := u.stp (ks := ks) (.inl rfl)
  rwa [set_same u.hid] at this

/-! A new block -/
def World.more (w : World) (o : Obj) : World := { w with heap := w.heap.push o }
theorem more_old {w : World} {o : Obj} {b : Nat} (h : b < w.heap.size) : (World.more w o).heap[b]? = w.heap[b]? := by
  simp only [World.more, Array.getElem?_push]; rw [if_neg (by omega)]
theorem more_new {w : World} {o : Obj} : (World.more w o).heap[w.heap.size]? = some o := by
  show (w.heap.push o)[w.heap.size]? = some o; simp
theorem cell_of_heap {w w' : World} {b o : Nat} (h : w'.heap[b]? = w.heap[b]?) : w'.cell? ⟨b, o, none⟩ = w.cell? ⟨b, o, none⟩ := by
  simp only [World.cell?, h]
theorem St.clt {C : Com} {ι : Locs} {M : Mem} {w : World} (h : St C ι M w) {b o : Nat} (ho : o < C b) : b < w.heap.size := by
  rcases Nat.lt_or_ge b w.heap.size with g | g
  · exact g
  · rw [h.czero g] at ho; omega
theorem St.keeps_more {C : Com} {ι : Locs} {M : Mem} {w : World} (h : St C ι M w) (o : Obj) : Keeps w C (World.more w o) C :=
  ⟨fun _ _ ho => cell_of_heap (more_old (h.clt ho)), fun _ => Nat.le_refl _⟩
theorem grow_get {ι : Locs} {L : Loc} {i : Nat} {L1 : Loc} (h : ι[i]? = some L1) : (ι ++ [L])[i]? = some L1 := by
  rw [List.getElem?_append_left (lt_of_get h)]; exact h

/-- A new entry in a new block. -/
theorem St.more {C : Com} {ι : Locs} {M : Mem} {w : World} (h : St C ι M w) (us : Array Value) (T : TypeId) (fr : Nat × Nat) (L : Loc) (e : Ent) (hL : L.located → L.b = w.heap.size)
    (hent : EntOk (World.more w (.cells us T fr)) C (ι ++ [L]) L e) :
    St C (ι ++ [L]) (M ++ [e]) (World.more w (.cells us T fr)) ∧ ∀ ks : Nat → Prop, Stp C ι w C (ι ++ [L]) (World.more w (.cells us T fr)) ks := by
  have hk := h.keeps_more (.cells us T fr)
  have cs : ∀ (i : Nat) (L1 : Loc), (ι ++ [L])[i]? = some L1 → ι[i]? = some L1 ∨ (i = ι.length ∧ L1 = L) := by
    intro i L1 hi
    rcases Nat.lt_or_ge i ι.length with g | g
    · rw [List.getElem?_append_left g] at hi; exact .inl hi
    · rw [List.getElem?_append_right g] at hi
      have := lt_of_get hi
      simp at this
      have e : i = ι.length := by omega
      subst e; simp at hi; exact .inr ⟨rfl, hi.symm⟩
  refine ⟨⟨by simp [h.len], ?_, ?_, ?_⟩, fun ks => ⟨rfl, rfl, rfl, by simp [World.more], ?_, hk, ?_, ?_, ?_⟩⟩
  · intro i L1 e1 hi he
    rcases cs i L1 hi with hi | ⟨rfl, rfl⟩
    · rw [List.getElem?_append_left (by rw [← h.len]; exact lt_of_get hi)] at he
      exact (h.ent i L1 e1 hi he).mono hk (fun _ _ h => grow_get h) (fun hl => ⟨more_old (h.blt hi hl), rfl⟩)
    · rw [h.len] at he; simp at he; subst he; exact hent
  · intro i j L1 L2 hi hj l1 l2 eb
    rcases cs i L1 hi with hi' | ⟨e1, e2⟩
    · rcases cs j L2 hj with hj' | ⟨e3, e4⟩
      · exact h.inj i j L1 L2 hi' hj' l1 l2 eb
      · subst e4; have := h.blt hi' l1; have := hL l2; omega
    · rcases cs j L2 hj with hj' | ⟨e3, e4⟩
      · subst e2; have := h.blt hj' l2; have := hL l1; omega
      · omega
  · intro b
    rcases h.com b with h0 | ⟨us', T', fr', hh, hc⟩
    · exact .inl h0
    · exact .inr ⟨us', T', fr', (more_old (Array.getElem?_eq_some_iff.1 hh).1).trans hh, hc⟩
  · intro b hb _; exact ⟨more_old hb, rfl⟩
  · intro i L1 hi _; exact grow_get hi
  · intro i L1 hi _; exact ⟨L1, grow_get hi, rfl, rfl, fun hl => .inl ⟨hl, rfl⟩⟩
  · intro i L1 hge hi hl
    rcases cs i L1 hi with hi | ⟨rfl, rfl⟩
    · have := lt_of_get hi; omega
    · exact Nat.le_of_eq (hL hl).symm

/-- An entry without a block. -/
theorem St.nil {C : Com} {ι : Locs} {M : Mem} {w : World} (h : St C ι M w) (sz : Nat) (fz mv : Bool) : St C (ι ++ [⟨true, sz, 0, 0, 0, 0⟩]) (M ++ [.row sz 0 fz mv []]) w ∧ ∀ ks : Nat → Prop, Stp C ι w C (ι ++ [⟨true, sz, 0, 0, 0, 0⟩]) w ks := by
  have hn : ¬ (⟨true, sz, 0, 0, 0, 0⟩ : Loc).located := by simp [Loc.located]
  have cs : ∀ (i : Nat) (L1 : Loc), (ι ++ [⟨true, sz, 0, 0, 0, 0⟩])[i]? = some L1 → ι[i]? = some L1 ∨ (i = ι.length ∧ L1 = ⟨true, sz, 0, 0, 0, 0⟩) := by
    intro i L1 hi
    rcases Nat.lt_or_ge i ι.length with g | g
    · rw [List.getElem?_append_left g] at hi; exact .inl hi
    · rw [List.getElem?_append_right g] at hi
      have := lt_of_get hi
      simp at this
      have e : i = ι.length := by omega
      subst e; simp at hi; exact .inr ⟨rfl, hi.symm⟩
  refine ⟨⟨by simp [h.len], ?_, ?_, h.com⟩, fun ks => ⟨rfl, rfl, rfl, Nat.le_refl _, fun _ _ _ => ⟨rfl, rfl⟩, .refl _ _, ?_, ?_, ?_⟩⟩
  · intro i L1 e1 hi he
    rcases cs i L1 hi with hi | ⟨rfl, rfl⟩
    · rw [List.getElem?_append_left (by rw [← h.len]; exact lt_of_get hi)] at he
      exact (h.ent i L1 e1 hi he).mono (.refl _ _) (fun _ _ h => grow_get h) (fun _ => ⟨rfl, rfl⟩)
    · rw [h.len] at he; simp at he; subst he
      exact ⟨rfl, rfl, rfl, Nat.le_refl _, rfl, fun c hc => by simp at hc, .inl rfl⟩
  · intro i j L1 L2 hi hj l1 l2 eb
    rcases cs i L1 hi with hi' | ⟨e1, e2⟩
    · rcases cs j L2 hj with hj' | ⟨e3, e4⟩
      · exact h.inj i j L1 L2 hi' hj' l1 l2 eb
      · subst e4; exact absurd l2 hn
    · subst e2; exact absurd l1 hn
  · intro i L1 hi _; exact grow_get hi
  · intro i L1 hi _; exact ⟨L1, grow_get hi, rfl, rfl, fun hl => .inl ⟨hl, rfl⟩⟩
  · intro i L1 hge hi hl
    rcases cs i L1 hi with hi | ⟨rfl, rfl⟩
    · have := lt_of_get hi; omega
    · exact absurd hl hn

/-- A new block that nobody will write. -/
theorem St.fixed {C : Com} {ι : Locs} {M : Mem} {w : World} (h : St C ι M w) (us : Array Value) (T : TypeId) (fr : Nat × Nat) :
    St (fun b => if b = w.heap.size then us.size else C b) ι M (World.more w (.cells us T fr)) ∧ ∀ ks : Nat → Prop, Stp C ι w (fun b => if b = w.heap.size then us.size else C b) ι (World.more w (.cells us T fr)) ks := by
  have hk : Keeps w C (World.more w (.cells us T fr)) (fun b => if b = w.heap.size then us.size else C b) :=
    ⟨fun b o' ho => cell_of_heap (more_old (h.clt ho)), fun b => by
      by_cases e : b = w.heap.size
      · simp [e, h.czero (Nat.le_refl _)]
      · simp [e]⟩
  have hc : ∀ b, b < w.heap.size → (fun b => if b = w.heap.size then us.size else C b) b = C b := fun b hb => by
    have : b ≠ w.heap.size := by omega
    simp [this]
  refine ⟨⟨h.len, ?_, h.inj, ?_⟩, fun ks => ⟨rfl, rfl, rfl, by simp [World.more], fun b hb _ => ⟨more_old hb, hc b hb⟩, hk, fun _ _ h _ => h, fun i L1 hi _ => ⟨L1, hi, rfl, rfl, fun hl => .inl ⟨hl, rfl⟩⟩, fun i L1 hge hi _ => ?_⟩⟩
  · intro i L1 e1 hi he
    exact (h.ent i L1 e1 hi he).mono hk (fun _ _ h => h) (fun hl => ⟨more_old (h.blt hi hl), hc _ (h.blt hi hl)⟩)
  · intro b
    by_cases e : b = w.heap.size
    · subst e; exact .inr ⟨us, T, fr, more_new, by simp⟩
    · simp only [e, if_false]
      rcases h.com b with h0 | ⟨us', T', fr', hh, hc⟩
      · exact .inl h0
      · exact .inr ⟨us', T', fr', (more_old (Array.getElem?_eq_some_iff.1 hh).1).trans hh, hc⟩
  · rw [List.getElem?_eq_none hge] at hi; cases hi

/-- A draw. -/
theorem St.of_heap {C : Com} {ι : Locs} {M : Mem} {w w' : World} (h : St C ι M w) (e : w'.heap = w.heap) (e1 : w'.os = w.os) (e2 : w'.tape = w.tape) (e3 : w'.output = w.output) : St C ι M w' ∧ ∀ ks : Nat → Prop, Stp C ι w C ι w' ks := by
  have hk : Keeps w C w' C := ⟨fun b o _ => cell_of_heap (by rw [e]), fun _ => Nat.le_refl _⟩
  refine ⟨⟨h.len, fun i L1 e0 hi he => (h.ent i L1 e0 hi he).mono hk (fun _ _ h => h) (fun _ => ⟨by rw [e], rfl⟩), h.inj, fun b => by rw [e]; exact h.com b⟩, fun ks => ⟨e1, e2, e3, by rw [e]; exact Nat.le_refl _, fun b _ _ => ⟨by rw [e], rfl⟩, hk, fun _ _ h _ => h, fun i L1 hi _ => ⟨L1, hi, rfl, rfl, fun hl => .inl ⟨hl, rfl⟩⟩, fun i L1 hge hi _ => ?_⟩⟩
  rw [List.getElem?_eq_none hge] at hi; cases hi

/-- A row is told as data. -/
theorem St.freeze {C : Com} {ι : Locs} {M : Mem} {w : World} (h : St C ι M w) {id : Nat} {sz n : Nat} {fz mv : Bool} {es : List (List D)} (hM : M[id]? = some (.row sz n fz mv es)) :
    ∃ C', St C' ι (M.set id (.row sz n true mv es)) w ∧ (∀ ks : Nat → Prop, Stp C ι w C' ι w ks) ∧ ∀ L : Loc, ι[id]? = some L → L.cap = 0 ∨ (L.base + n * sz ≤ C' L.b ∧ REs w C' (fun o => w.cell? ⟨L.b, o, none⟩) L.base es) := by
  obtain ⟨L, hL, he⟩ := h.get hM
  obtain ⟨hr, h1, h2, h3, h4, h5, h6⟩ := he
  by_cases h0 : L.cap = 0
  · have u : Upd C ι w id L L C w := ⟨rfl, rfl, rfl, Nat.le_refl _, hL, .refl _ _, fun _ _ _ => ⟨rfl, rfl⟩, fun hl => .inl ⟨hl, rfl⟩, rfl, rfl, h.com⟩
    exact ⟨C, u.st0 h _ ⟨hr, h1, h2, h3, h4, h5, .inl h0⟩, fun ks => u.stp0, fun L1 e => by rw [hL] at e; cases e; exact .inl h0⟩
  rcases h6 with h6 | ⟨us, T, fr, hh, hs, hz, hc, he⟩
  · exact absurd h6 h0
  let C' : Com := fun b => if b = L.b then max (C b) (L.base + n * sz) else C b
  have hle : ∀ b, C b ≤ C' b := fun b => by by_cases e : b = L.b <;> simp [C', e]; omega
  have hk : Keeps w C w C' := ⟨fun _ _ _ => rfl, hle⟩
  have hnc : n * sz ≤ L.cap * sz := Nat.mul_le_mul_right _ h3
  have hCb : C' L.b = L.base + n * sz := by
    simp only [C', if_true]
    have : C L.b ≤ L.base + n * sz := by cases fz <;> simp at hc <;> omega
    omega
  have u : Upd C ι w id L L C' w := by
    refine ⟨rfl, rfl, rfl, Nat.le_refl _, hL, hk, fun b _ hb => ⟨rfl, ?_⟩, fun hl => .inl ⟨hl, rfl⟩, rfl, rfl, fun b => ?_⟩
    · have := hb (.inr h0); simp [C', this]
    · by_cases e : b = L.b
      · subst e; exact .inr ⟨us, T, fr, hh, by rw [hCb]; omega⟩
      · have : C' b = C b := by simp [C', e]
        rw [this]; exact h.com b
  have he' : REs w C' (fun o => us[o]?) L.base es := REs.mono hk es (N := L.base + es.length * sz) (fun _ _ _ _ h => h) h5 (Nat.le_refl _) he
  refine ⟨C', u.st0 h _ ⟨hr, h1, h2, h3, h4, h5, .inr ⟨us, T, fr, hh, hs, hz, by simp [hCb], he'⟩⟩, fun ks => u.stp0, fun L1 e => ?_⟩
  rw [hL] at e; cases e
  refine .inr ⟨Nat.le_of_eq hCb.symm, ?_⟩
  exact REs.mono (.refl _ _) es (N := L.base + es.length * sz) (fun o _ _ u hu => by show w.cell? _ = _; simp only [World.cell?, hh]; simpa using hu) h5 (Nat.le_refl _) he'
end Go.Ev
