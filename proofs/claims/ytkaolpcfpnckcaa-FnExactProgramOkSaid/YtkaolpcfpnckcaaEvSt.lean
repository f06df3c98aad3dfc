/-
  The store told in memory: which blocks its entries have, and what a step leaves as it was.
-/
import Derived.Test.YtkaolpcfpnckcaaEvRel
set_option linter.unusedVariables false
set_option linter.unusedSimpArgs false
namespace Go.Ev
open Go

/-! Rows by place -/
theorem RCs.drop {w C g} : ∀ {xs : List D} {off : Nat} (j : Nat), RCs w C g off xs → RCs w C g (off + j) (xs.drop j)
  | _, _, 0, h => by simpa using h
  | [], _, _ + 1, _ => by simp [RCs]
  | x :: xs, off, j + 1, h => by
    unfold RCs at h
    have := RCs.drop (xs := xs) (off := off + 1) j h.2
    simpa [Nat.add_assoc, Nat.add_comm 1 j] using this
theorem RCs.take {w C g} : ∀ {xs : List D} {off : Nat} (j : Nat), RCs w C g off xs → RCs w C g off (xs.take j)
  | _, _, 0, _ => by simp [RCs]
  | [], _, _ + 1, _ => by simp [RCs]
  | x :: xs, off, j + 1, h => by
    unfold RCs at h
    simp only [List.take_succ_cons]
    unfold RCs
    exact ⟨h.1, RCs.take j h.2⟩
theorem RCs.append {w C g} : ∀ {xs ys : List D} {off : Nat}, RCs w C g off xs → RCs w C g (off + xs.length) ys → RCs w C g off (xs ++ ys)
  | [], _, _, _, h => by simpa using h
  | x :: xs, ys, off, h, h' => by
    unfold RCs at h
    simp only [List.cons_append]
    unfold RCs
    exact ⟨h.1, RCs.append h.2 (by simpa [Nat.add_assoc, Nat.add_comm 1] using h')⟩
theorem REs.drop {w C g} {sz : Nat} : ∀ {es : List (List D)} {off : Nat} (j : Nat), (∀ c ∈ es, c.length = sz) → j ≤ es.length → REs w C g off es → REs w C g (off + j * sz) (es.drop j)
  | _, _, 0, _, _, h => by simpa using h
  | [], _, j + 1, _, hj, _ => by simp at hj
  | c :: es, off, j + 1, hl, hj, h => by
    unfold REs at h
    have hc := hl c (by simp)
    rw [hc] at h
    have := REs.drop (es := es) (off := off + sz) j (fun c' h' => hl c' (by simp [h'])) (by simpa using hj) h.2
    rw [List.drop_succ_cons, Nat.add_mul, Nat.one_mul]
    rwa [show off + (j * sz + sz) = off + sz + j * sz by omega]
theorem REs.take {w C g} : ∀ {es : List (List D)} {off : Nat} (j : Nat), REs w C g off es → REs w C g off (es.take j)
  | _, _, 0, _ => by simp [REs]
  | [], _, _ + 1, _ => by simp [REs]
  | c :: es, off, j + 1, h => by
    unfold REs at h
    simp only [List.take_succ_cons]
    unfold REs
    exact ⟨h.1, REs.take j h.2⟩
theorem REs.append {w C g} {sz : Nat} : ∀ {es fs : List (List D)} {off : Nat}, (∀ c ∈ es, c.length = sz) → REs w C g off es → REs w C g (off + es.length * sz) fs → REs w C g off (es ++ fs)
  | [], _, _, _, _, h => by simpa using h
  | c :: es, fs, off, hl, h, h' => by
    unfold REs at h
    have hc := hl c (by simp)
    simp only [List.cons_append]
    unfold REs
    refine ⟨h.1, REs.append (sz := sz) (fun c' h' => hl c' (by simp [h'])) h.2 ?_⟩
    rw [hc]
    simp only [List.length_cons, Nat.add_mul, Nat.one_mul] at h'
    rwa [show off + sz + es.length * sz = off + (es.length * sz + sz) by omega]
theorem REs.at {w C g} {sz : Nat} : ∀ {es : List (List D)} {off : Nat} (j : Nat), (∀ c ∈ es, c.length = sz) → j < es.length → REs w C g off es → RCs w C g (off + j * sz) (es.getD j []) ∧ (es.getD j []).length = sz
  | [], _, _, _, hj, _ => by simp at hj
  | c :: es, off, 0, hl, _, h => by
    unfold REs at h
    simpa using ⟨h.1, hl c (by simp)⟩
  | c :: es, off, j + 1, hl, hj, h => by
    unfold REs at h
    have hc := hl c (by simp)
    rw [hc] at h
    have := REs.at (es := es) (off := off + sz) j (fun c' h' => hl c' (by simp [h'])) (by simpa using hj) h.2
    rw [show off + (j + 1) * sz = off + sz + j * sz by rw [Nat.add_mul, Nat.one_mul]; omega]
    simpa using this
/-- A row whose cells are all there. -/
theorem REs.flat {w C g} {sz : Nat} : ∀ {es : List (List D)} {off : Nat}, (∀ c ∈ es, c.length = sz) → REs w C g off es → RCs w C g off es.flatten
  | [], _, _, _ => by simp [RCs]
  | c :: es, off, hl, h => by
    unfold REs at h
    simp only [List.flatten_cons]
    exact RCs.append h.1 (REs.flat (fun c' h' => hl c' (by simp [h'])) h.2)
theorem REs.of_flat {w C g} : ∀ {es : List (List D)} {off : Nat}, RCs w C g off es.flatten → REs w C g off es
  | [], _, _ => by simp [REs]
  | c :: es, off, h => by
    simp only [List.flatten_cons] at h
    unfold REs
    refine ⟨?_, REs.of_flat ?_⟩
    · have := RCs.take c.length h
      simpa using this
    · have := RCs.drop c.length h
      simpa using this
theorem RCs.get {w C g} {xs : List D} {off j : Nat} (h : RCs w C g off xs) (hj : j < xs.length) : ∃ u, g (off + j) = some u ∧ RD w C u xs[j] := by
  have := RCs.drop j h
  rw [List.drop_eq_getElem_cons hj] at this
  unfold RCs at this
  exact this.1
theorem RCs.of_get {w C g} : ∀ {xs : List D} {off : Nat}, (∀ j (hj : j < xs.length), ∃ u, g (off + j) = some u ∧ RD w C u xs[j]) → RCs w C g off xs
  | [], _, _ => by simp [RCs]
  | x :: xs, off, h => by
    unfold RCs
    refine ⟨h 0 (by simp), RCs.of_get fun j hj => ?_⟩
    have := h (j + 1) (by simpa using hj)
    simpa [Nat.add_assoc, Nat.add_comm 1 j] using this

/-! Values -/
mutual
def RV (w : World) (C : Com) (ι : Locs) : Value → V → Prop
  | _, .undef => True
  | v, .d x => RD w C v x
  | v, .kb b => v = .bool b
  | v, .agg xs => ∃ cs, v = .agg cs ∧ RVs w C ι cs.toList xs
  | v, .tup xs => ∃ cs, v = .tuple cs ∧ RVs w C ι cs.toList xs
  | v, .own id => ∃ L : Loc, ι[id]? = some L ∧ L.row = true ∧ ∃ a, v = .slice a L.n L.cap ∧ (L.cap = 0 ∨ a = some ⟨L.b, L.base, none⟩)
  | v, .ref id off n => ∃ L : Loc, ι[id]? = some L ∧ L.row = true ∧ off + n ≤ L.n ∧ ∃ a c, v = .slice a n c ∧ n ≤ c ∧ (c = 0 ∨ (c + off = L.cap ∧ a = some ⟨L.b, L.base + off * L.sz, none⟩))
  | v, .ptr id off => ∃ L : Loc, ι[id]? = some L ∧ L.row = false ∧ v = .pointer (some ⟨L.b, off, none⟩)
  | v, .ep id i j => ∃ L : Loc, ι[id]? = some L ∧ L.row = true ∧ i < L.n ∧ v = .pointer (some ⟨L.b, L.base + i * L.sz + j, none⟩)
  | v, .rp c j => ∃ b off, v = .pointer (some ⟨b, off + j, none⟩) ∧ off + c.length ≤ C b ∧ RCs w C (fun o => w.cell? ⟨b, o, none⟩) off c
  | v, .fn f xs => ∃ cs, v = .func (.func f) #[] cs ∧ RVs w C ι cs.toList xs
def RVs (w : World) (C : Com) (ι : Locs) : List Value → List V → Prop
  | [], [] => True
  | u :: us, x :: xs => RV w C ι u x ∧ RVs w C ι us xs
  | _, _ => False
end

def Loc.located (L : Loc) : Prop := L.row = false ∨ L.cap ≠ 0

/-- No cell of a block is one that may not be written. -/
def Soft (us : Array Value) (fr : Nat × Nat) : Prop := fr.1 = fr.2 ∨ us.size ≤ fr.1
theorem Soft.at {us : Array Value} {fr : Nat × Nat} (h : Soft us fr) (j : Nat) (hj : j < us.size) : ¬ (fr.1 ≤ j ∧ j < fr.2) := by unfold Soft at h; omega
theorem Soft.of_size {us us' : Array Value} {fr : Nat × Nat} (h : Soft us fr) (e : us'.size = us.size) : Soft us' fr := by unfold Soft at *; omega

def EntOk (w : World) (C : Com) (ι : Locs) (L : Loc) : Ent → Prop
  | .box cs => L.row = false ∧ C L.b = 0 ∧ ∃ us T fr, w.heap[L.b]? = some (.cells us T fr) ∧ Soft us fr ∧ RVs w C ι us.toList cs
  | .row sz n fz _ es => L.row = true ∧ L.sz = sz ∧ L.n = n ∧ n ≤ L.cap ∧ es.length = n ∧ (∀ c ∈ es, c.length = sz) ∧
      (L.cap = 0 ∨ ∃ us T fr, w.heap[L.b]? = some (.cells us T fr) ∧ Soft us fr ∧ L.base + L.cap * sz ≤ us.size ∧ C L.b ≤ (if fz then L.base + n * sz else L.base) ∧ REs w C (fun o => us[o]?) L.base es)

structure St (C : Com) (ι : Locs) (M : Mem) (w : World) : Prop where
  len : ι.length = M.length
  ent : ∀ (i : Nat) (L : Loc) (e : Ent), ι[i]? = some L → M[i]? = some e → EntOk w C ι L e
  inj : ∀ (i j : Nat) (L L' : Loc), ι[i]? = some L → ι[j]? = some L' → L.located → L'.located → L.b = L'.b → i = j
  com : ∀ b, C b = 0 ∨ ∃ us T fr, w.heap[b]? = some (.cells us T fr) ∧ C b ≤ us.size

/-- What a step leaves as it was; ks: the rows that were laid anew. -/
structure Stp (C : Com) (ι : Locs) (w : World) (C' : Com) (ι' : Locs) (w' : World) (ks : Nat → Prop) : Prop where
  os : w'.os = w.os
  tape : w'.tape = w.tape
  output : w'.output = w.output
  size : w.heap.size ≤ w'.heap.size
  out : ∀ b : Nat, b < w.heap.size → (∀ (i : Nat) (L : Loc), ι[i]? = some L → L.located → L.b ≠ b) → w'.heap[b]? = w.heap[b]? ∧ C' b = C b
  keeps : Keeps w C w' C'
  same : ∀ (i : Nat) (L : Loc), ι[i]? = some L → ¬ ks i → ι'[i]? = some L
  moved : ∀ (i : Nat) (L : Loc), ι[i]? = some L → ks i → ∃ L' : Loc, ι'[i]? = some L' ∧ L'.row = L.row ∧ L'.sz = L.sz ∧ (L'.located → (L.located ∧ L'.b = L.b) ∨ w.heap.size ≤ L'.b)
  new : ∀ (i : Nat) (L' : Loc), ι.length ≤ i → ι'[i]? = some L' → L'.located → w.heap.size ≤ L'.b

theorem Stp.refl (C : Com) (ι : Locs) (w : World) (ks : Nat → Prop) : Stp C ι w C ι w ks :=
  ⟨rfl, rfl, rfl, Nat.le_refl _, fun _ _ _ => ⟨rfl, rfl⟩, .refl _ _, fun _ _ h _ => h, fun i L h _ => ⟨L, h, rfl, rfl, fun hl => .inl ⟨hl, rfl⟩⟩, fun i L h h' => by
    rw [List.getElem?_eq_none h] at h'; cases h'⟩

theorem Stp.row {C : Com} {ι : Locs} {w : World} {C' : Com} {ι' : Locs} {w' : World} {ks : Nat → Prop} (h : Stp C ι w C' ι' w' ks) {i : Nat} {L : Loc} (hi : ι[i]? = some L) : ∃ L' : Loc, ι'[i]? = some L' ∧ L'.row = L.row ∧ L'.sz = L.sz := by
  by_cases hk : ks i
  · obtain ⟨L', h1, h2, h3, _⟩ := h.moved i L hi hk
    exact ⟨L', h1, h2, h3⟩
  · exact ⟨L, h.same i L hi hk, rfl, rfl⟩

theorem Stp.grow {C : Com} {ι : Locs} {w : World} {C' : Com} {ι' : Locs} {w' : World} {ks : Nat → Prop} (h : Stp C ι w C' ι' w' ks) : ι.length ≤ ι'.length := by
  rcases Nat.lt_or_ge ι'.length ι.length with hl | hl
  · obtain ⟨L', h1, _⟩ := h.row (i := ι'.length) (L := ι[ι'.length]) (by simp [hl])
    rw [List.getElem?_eq_none (Nat.le_refl _)] at h1; cases h1
  · exact hl

theorem Stp.trans {C0 C1 C2 : Com} {ι0 ι1 ι2 : Locs} {w0 w1 w2 : World} {k1 k2 k : Nat → Prop} (h : Stp C0 ι0 w0 C1 ι1 w1 k1) (h' : Stp C1 ι1 w1 C2 ι2 w2 k2) (h1 : ∀ i, i < ι0.length → k1 i → k i) (h2 : ∀ i, i < ι0.length → k2 i → k i) :
    Stp C0 ι0 w0 C2 ι2 w2 k := by
  have lt : ∀ {i : Nat} {L : Loc} {l : Locs}, l[i]? = some L → i < l.length := fun {i L l} hi => by
    rcases Nat.lt_or_ge i l.length with g | g
    · exact g
    · rw [List.getElem?_eq_none g] at hi; cases hi
  have blk : ∀ (i : Nat) (L' : Loc), ι1[i]? = some L' → L'.located → (∃ L : Loc, ι0[i]? = some L ∧ L.located ∧ L'.b = L.b) ∨ w0.heap.size ≤ L'.b := by
    intro i L' hi hl
    rcases Nat.lt_or_ge i ι0.length with hlt | hge
    · have hi0 : ι0[i]? = some ι0[i] := by simp [hlt]
      by_cases hk : k1 i
      · obtain ⟨L2, e, _, _, hb⟩ := h.moved i _ hi0 hk
        rw [hi] at e; cases e
        rcases hb hl with ⟨hb, e⟩ | hb
        · exact .inl ⟨_, hi0, hb, e⟩
        · exact .inr hb
      · have e := h.same i _ hi0 hk
        rw [hi] at e; cases e
        exact .inl ⟨_, hi0, hl, rfl⟩
    · exact .inr (h.new i L' hge hi hl)
  refine ⟨h'.os.trans h.os, h'.tape.trans h.tape, h'.output.trans h.output, Nat.le_trans h.size h'.size, ?_, h.keeps.trans h'.keeps, ?_, ?_, ?_⟩
  · intro b hb hn
    obtain ⟨e1, c1⟩ := h.out b hb hn
    obtain ⟨e2, c2⟩ := h'.out b (Nat.lt_of_lt_of_le hb h.size) (by
      intro i L' hi hl e
      rcases blk i L' hi hl with ⟨L, hL, hlL, eb⟩ | hge
      · exact hn i L hL hlL (eb.symm.trans e)
      · omega)
    exact ⟨e2.trans e1, c2.trans c1⟩
  · intro i L hi hk
    exact h'.same i L (h.same i L hi (fun h0 => hk (h1 i (lt hi) h0))) (fun h0 => hk (h2 i (lt hi) h0))
  · intro i L hi _
    obtain ⟨L1, hi1, r1, s1⟩ := h.row hi
    obtain ⟨L2, hi2, r2, s2⟩ := h'.row hi1
    refine ⟨L2, hi2, r2.trans r1, s2.trans s1, fun hl => ?_⟩
    have q : (L1.located ∧ L2.b = L1.b) ∨ w1.heap.size ≤ L2.b := by
      by_cases hk2 : k2 i
      · obtain ⟨L2', e, _, _, hb⟩ := h'.moved i _ hi1 hk2
        rw [hi2] at e; cases e
        exact hb hl
      · have e := h'.same i _ hi1 hk2
        rw [hi2] at e; cases e
        exact .inl ⟨hl, rfl⟩
    rcases q with ⟨hl1, e⟩ | q
    · rcases blk i L1 hi1 hl1 with ⟨L0, e0, hl0, eb⟩ | hge
      · rw [hi] at e0; cases e0
        exact .inl ⟨hl0, e.trans eb⟩
      · exact .inr (by omega)
    · exact .inr (Nat.le_trans h.size q)
  · intro i L2 hge hi2 hl
    rcases Nat.lt_or_ge i ι1.length with hlt | hge1
    · have hi1 : ι1[i]? = some ι1[i] := by simp [hlt]
      have q : (ι1[i].located ∧ L2.b = ι1[i].b) ∨ w1.heap.size ≤ L2.b := by
        by_cases hk2 : k2 i
        · obtain ⟨L2', e, _, _, hb⟩ := h'.moved i _ hi1 hk2
          rw [hi2] at e; cases e
          exact hb hl
        · have e := h'.same i _ hi1 hk2
          rw [hi2] at e; cases e
          exact .inl ⟨hl, rfl⟩
      rcases q with ⟨hl1, e⟩ | q
      · rw [e]; exact h.new i _ hge hi1 hl1
      · exact Nat.le_trans h.size q
    · exact Nat.le_trans h.size (h'.new i L2 hge1 hi2 hl)

/-! A value's facts behind a step -/
theorem idx_mem : ∀ {ks : List Nat} {i : Nat}, (idx ks i).isSome = true ↔ i ∈ ks
  | [], i => by simp [idx]
  | m :: r, i => by
    unfold idx
    by_cases h : m = i
    · subst h; simp
    · have hb : Nat.beq m i = false := by rw [Bool.eq_false_iff]; intro e; exact h (Nat.eq_of_beq_eq_true e)
      rw [hb]
      have ih := idx_mem (ks := r) (i := i)
      cases hr : idx r i <;> simp [hr] at ih ⊢
      · exact ⟨fun e => h e.symm, ih⟩
      · exact .inr ih
theorem notIn_some {ks : List Nat} {i : Nat} (h : i ∉ ks) : notIn ks i = some i := by
  unfold notIn
  cases hr : idx ks i with
  | none => rfl
  | some j => exact absurd (idx_mem.1 (by rw [hr]; rfl)) h
theorem notIn_none {ks : List Nat} {i : Nat} (h : i ∈ ks) : notIn ks i = none := by
  unfold notIn
  have := idx_mem.2 h
  cases hr : idx ks i with
  | none => rw [hr] at this; cases this
  | some j => rfl

mutual
theorem RV.ren {w : World} {C : Com} {ι : Locs} {w' : World} {C' : Com} {ι' : Locs} (hk : Keeps w C w' C') {g : Nat → Option Nat} (hg : ∀ (i j : Nat) (L : Loc), g i = some j → ι[i]? = some L → ι'[j]? = some L) : ∀ {v : Value} (x : V), RV w C ι v x → RV w' C' ι' v (x.ren g)
  | _, .undef, _ => by simp [V.ren, RV]
  | _, .d x, h => by simp only [V.ren]; unfold RV at h ⊢; exact h.mono hk
  | _, .kb b, h => by simp only [V.ren]; unfold RV at h ⊢; exact h
  | _, .agg xs, h => by
    simp only [V.ren]; unfold RV at h ⊢
    obtain ⟨cs, e, r⟩ := h
    exact ⟨cs, e, RVs.ren hk hg xs r⟩
  | _, .tup xs, h => by
    simp only [V.ren]; unfold RV at h ⊢
    obtain ⟨cs, e, r⟩ := h
    exact ⟨cs, e, RVs.ren hk hg xs r⟩
  | _, .fn f xs, h => by
    simp only [V.ren]; unfold RV at h ⊢
    obtain ⟨cs, e, r⟩ := h
    exact ⟨cs, e, RVs.ren hk hg xs r⟩
  | _, .own id, h => by
    simp only [V.ren]; cases hgi : g id with
    | none => simp [RV]
    | some j =>
      unfold RV at h ⊢
      obtain ⟨L, hL, r⟩ := h
      exact ⟨L, hg _ _ _ hgi hL, r⟩
  | _, .ref id o n, h => by
    simp only [V.ren]; cases hgi : g id with
    | none => simp [RV]
    | some j =>
      unfold RV at h ⊢
      obtain ⟨L, hL, r⟩ := h
      exact ⟨L, hg _ _ _ hgi hL, r⟩
  | _, .ptr id o, h => by
    simp only [V.ren]; cases hgi : g id with
    | none => simp [RV]
    | some j =>
      unfold RV at h ⊢
      obtain ⟨L, hL, r⟩ := h
      exact ⟨L, hg _ _ _ hgi hL, r⟩
  | _, .ep id i o, h => by
    simp only [V.ren]; cases hgi : g id with
    | none => simp [RV]
    | some j =>
      unfold RV at h ⊢
      obtain ⟨L, hL, r⟩ := h
      exact ⟨L, hg _ _ _ hgi hL, r⟩
  | _, .rp c j, h => by
    simp only [V.ren]; unfold RV at h ⊢
    obtain ⟨b, off, e, hc, r⟩ := h
    exact ⟨b, off, e, Nat.le_trans hc (hk.le b), RCs.mono hk c (N := off + c.length) (fun o _ ho u hu => by show w'.cell? _ = _; rw [hk.cell b o (by omega)]; exact hu) (Nat.le_refl _) r⟩
theorem RVs.ren {w : World} {C : Com} {ι : Locs} {w' : World} {C' : Com} {ι' : Locs} (hk : Keeps w C w' C') {g : Nat → Option Nat} (hg : ∀ (i j : Nat) (L : Loc), g i = some j → ι[i]? = some L → ι'[j]? = some L) : ∀ {vs : List Value} (xs : List V), RVs w C ι vs xs → RVs w' C' ι' vs (V.ren.go g xs)
  | [], [], _ => by simp [V.ren.go, RVs]
  | [], _ :: _, h => by simp [RVs] at h
  | _ :: _, [], h => by simp [RVs] at h
  | v :: vs, x :: xs, h => by
    unfold RVs at h
    simp only [V.ren.go]
    unfold RVs
    exact ⟨RV.ren hk hg x h.1, RVs.ren hk hg xs h.2⟩
end
mutual
theorem RV.mono {w : World} {C : Com} {ι : Locs} {w' : World} {C' : Com} {ι' : Locs} (hk : Keeps w C w' C') (hg : ∀ (i : Nat) (L : Loc), ι[i]? = some L → ι'[i]? = some L) : ∀ {v : Value} (x : V), RV w C ι v x → RV w' C' ι' v x
  | _, .undef, _ => by simp [RV]
  | _, .d x, h => by unfold RV at h ⊢; exact h.mono hk
  | _, .kb b, h => by unfold RV at h ⊢; exact h
  | _, .agg xs, h => by
    unfold RV at h ⊢
    obtain ⟨cs, e, r⟩ := h
    exact ⟨cs, e, RVs.mono hk hg xs r⟩
  | _, .tup xs, h => by
    unfold RV at h ⊢
    obtain ⟨cs, e, r⟩ := h
    exact ⟨cs, e, RVs.mono hk hg xs r⟩
  | _, .fn f xs, h => by
    unfold RV at h ⊢
    obtain ⟨cs, e, r⟩ := h
    exact ⟨cs, e, RVs.mono hk hg xs r⟩
  | _, .own id, h => by
    unfold RV at h ⊢
    obtain ⟨L, hL, r⟩ := h
    exact ⟨L, hg _ _ hL, r⟩
  | _, .ref id o n, h => by
    unfold RV at h ⊢
    obtain ⟨L, hL, r⟩ := h
    exact ⟨L, hg _ _ hL, r⟩
  | _, .ptr id o, h => by
    unfold RV at h ⊢
    obtain ⟨L, hL, r⟩ := h
    exact ⟨L, hg _ _ hL, r⟩
  | _, .ep id i o, h => by
    unfold RV at h ⊢
    obtain ⟨L, hL, r⟩ := h
    exact ⟨L, hg _ _ hL, r⟩
  | _, .rp c j, h => by
    unfold RV at h ⊢
    obtain ⟨b, off, e, hc, r⟩ := h
    exact ⟨b, off, e, Nat.le_trans hc (hk.le b), RCs.mono hk c (N := off + c.length) (fun o _ ho u hu => by show w'.cell? _ = _; rw [hk.cell b o (by omega)]; exact hu) (Nat.le_refl _) r⟩
theorem RVs.mono {w : World} {C : Com} {ι : Locs} {w' : World} {C' : Com} {ι' : Locs} (hk : Keeps w C w' C') (hg : ∀ (i : Nat) (L : Loc), ι[i]? = some L → ι'[i]? = some L) : ∀ {vs : List Value} (xs : List V), RVs w C ι vs xs → RVs w' C' ι' vs xs
  | [], [], _ => by simp [RVs]
  | [], _ :: _, h => by simp [RVs] at h
  | _ :: _, [], h => by simp [RVs] at h
  | v :: vs, x :: xs, h => by
    unfold RVs at h ⊢
    exact ⟨RV.mono hk hg x h.1, RVs.mono hk hg xs h.2⟩
end
end Go.Ev
