import Derived.Test.YtkgabahlbmonfaaDoorEvDef
set_option linter.unusedVariables false
set_option linter.unusedSimpArgs false
/-
  What it means that values in memory stand for what the evaluator tells, and how such facts outlast what is written elsewhere.
-/
namespace Go.Ev
open Go

structure Loc where
  row : Bool
  sz : Nat
  n : Nat
  b : Nat
  base : Nat
  cap : Nat

abbrev Locs := List Loc
/-- lim: so many of a block's first cells are data that nobody writes any more; own: the block of the row that a block belongs to. -/
structure Com where
  lim : Nat → Nat
  own : Nat → Option Nat
instance : CoeFun Com fun _ => Nat → Nat := ⟨Com.lim⟩

mutual
def RD (w : World) (C : Com) : Value → D → Prop
  | v, .int k n => v = .int k n
  | v, .bool b => v = .bool b
  | v, .str s => v = .string s
  | v, .sl full sz n es => ∃ a cap, v = .slice a n cap ∧ n ≤ cap ∧ (full = true → cap = n) ∧ es.length = n ∧ (∀ c ∈ es, c.length = sz) ∧ (n = 0 ∨ ∃ b off, a = some ⟨b, off, none⟩ ∧ off + n * sz ≤ C b ∧ REs w C (fun o => w.cell? ⟨b, o, none⟩) off es)
def REs (w : World) (C : Com) (g : Nat → Option Value) : Nat → List (List D) → Prop
  | _, [] => True
  | off, c :: es => RCs w C g off c ∧ REs w C g (off + c.length) es
def RCs (w : World) (C : Com) (g : Nat → Option Value) : Nat → List D → Prop
  | _, [] => True
  | off, x :: xs => (∃ u, g off = some u ∧ RD w C u x) ∧ RCs w C g (off + 1) xs
end

/-- Nothing that counts as data turns. -/
structure Keeps (w : World) (C : Com) (w' : World) (C' : Com) : Prop where
  cell : ∀ b o, o < C b → w'.cell? ⟨b, o, none⟩ = w.cell? ⟨b, o, none⟩
  le : ∀ b, C b ≤ C' b

theorem Keeps.refl (w C) : Keeps w C w C := ⟨fun _ _ _ => rfl, fun _ => Nat.le_refl _⟩
theorem Keeps.trans {w C w1 C1 w2 C2} (h : Keeps w C w1 C1) (k : Keeps w1 C1 w2 C2) : Keeps w C w2 C2 :=
  ⟨fun b o ho => (k.cell b o (Nat.lt_of_lt_of_le ho (h.le b))).trans (h.cell b o ho), fun b => Nat.le_trans (h.le b) (k.le b)⟩

mutual
theorem RD.mono {w C w' C'} (h : Keeps w C w' C') : ∀ {v : Value} {x : D}, RD w C v x → RD w' C' v x
  | v, .int k n, r => by simpa [RD] using r
  | v, .bool b, r => by simpa [RD] using r
  | v, .str s, r => by simpa [RD] using r
  | v, .sl full sz n es, r => by
    unfold RD at r ⊢
    obtain ⟨a, cap, e, h1, h2, h3, h4, h5⟩ := r
    refine ⟨a, cap, e, h1, h2, h3, h4, h5.imp id ?_⟩
    rintro ⟨b, off, ea, hc, hr⟩
    refine ⟨b, off, ea, Nat.le_trans hc (h.le b), ?_⟩
    exact REs.mono h es (N := off + n * sz) (fun o _ ho u hu => by show w'.cell? _ = _; rw [h.cell b o (Nat.lt_of_lt_of_le ho hc)]; exact hu) h4 (by rw [h3]; exact Nat.le_refl _) hr
theorem REs.mono {w C w' C'} (h : Keeps w C w' C') {g g' : Nat → Option Value} : ∀ (es : List (List D)) {off N sz : Nat}, (∀ o, off ≤ o → o < N → ∀ u, g o = some u → g' o = some u) → (∀ c ∈ es, c.length = sz) → off + es.length * sz ≤ N → REs w C g off es → REs w' C' g' off es
  | [], _, _, _, _, _, _, _ => by unfold REs; trivial
  | c :: es, off, N, sz, hg, hl, hN, r => by
    unfold REs at r ⊢
    have hc := hl c (by simp)
    have hN' : off + sz + es.length * sz ≤ N := by simp only [List.length_cons, Nat.add_mul, Nat.one_mul] at hN; omega
    refine ⟨RCs.mono h c (N := N) hg (by omega) r.1, ?_⟩
    refine REs.mono h es (N := N) (sz := sz) (fun o h1 => hg o (by omega)) (fun c' hc' => hl c' (by simp [hc'])) (by rw [hc]; exact hN') r.2
theorem RCs.mono {w C w' C'} (h : Keeps w C w' C') {g g' : Nat → Option Value} : ∀ (xs : List D) {off N : Nat}, (∀ o, off ≤ o → o < N → ∀ u, g o = some u → g' o = some u) → off + xs.length ≤ N → RCs w C g off xs → RCs w' C' g' off xs
  | [], _, _, _, _, _ => by unfold RCs; trivial
  | x :: xs, off, N, hg, hN, r => by
    unfold RCs at r ⊢
    simp only [List.length_cons] at hN
    obtain ⟨⟨u, hu, hx⟩, hr⟩ := r
    exact ⟨⟨u, hg off (Nat.le_refl _) (by omega) u hu, RD.mono h hx⟩, RCs.mono h xs (fun o h1 => hg o (by omega)) (by omega) hr⟩
end

end Go.Ev

/-
  The store told in memory: which blocks its entries have, and what a step leaves as it was.
-/
namespace Go.Ev
open Go

/-! Rows by place -/
theorem RCs.drop {w C g} : ∀ {xs : List D} {off : Nat} (j : Nat), RCs w C g off xs → RCs w C g (off + j) (xs.drop j)
  | _, _, 0, h => by simpa using h
  | [], _, _ + 1, _ => by simp [RCs]
  | x :: xs, off, j + 1, h => by
    unfold RCs at h
    have := RCs.drop (xs := xs) (off := off + 1) j h.2
    simpa [Nat.add_assoc, Nat.add_comm 1 j] using this
theorem RCs.take {w C g} : ∀ {xs : List D} {off : Nat} (j : Nat), RCs w C g off xs → RCs w C g off (xs.take j)
  | _, _, 0, _ => by simp [RCs]
  | [], _, _ + 1, _ => by simp [RCs]
  | x :: xs, off, j + 1, h => by
    unfold RCs at h
    simp only [List.take_succ_cons]
    unfold RCs
    exact ⟨h.1, RCs.take j h.2⟩
theorem RCs.append {w C g} : ∀ {xs ys : List D} {off : Nat}, RCs w C g off xs → RCs w C g (off + xs.length) ys → RCs w C g off (xs ++ ys)
  | [], _, _, _, h => by simpa using h
  | x :: xs, ys, off, h, h' => by
    unfold RCs at h
    simp only [List.cons_append]
    unfold RCs
    exact ⟨h.1, RCs.append h.2 (by simpa [Nat.add_assoc, Nat.add_comm 1] using h')⟩
theorem REs.drop {w C g} {sz : Nat} : ∀ {es : List (List D)} {off : Nat} (j : Nat), (∀ c ∈ es, c.length = sz) → j ≤ es.length → REs w C g off es → REs w C g (off + j * sz) (es.drop j)
  | _, _, 0, _, _, h => by simpa using h
  | [], _, j + 1, _, hj, _ => by simp at hj
  | c :: es, off, j + 1, hl, hj, h => by
    unfold REs at h
    have hc := hl c (by simp)
    rw [hc] at h
    have := REs.drop (es := es) (off := off + sz) j (fun c' h' => hl c' (by simp [h'])) (by simpa using hj) h.2
    rw [List.drop_succ_cons, Nat.add_mul, Nat.one_mul]
    rwa [show off + (j * sz + sz) = off + sz + j * sz by omega]
theorem REs.take {w C g} : ∀ {es : List (List D)} {off : Nat} (j : Nat), REs w C g off es → REs w C g off (es.take j)
  | _, _, 0, _ => by simp [REs]
  | [], _, _ + 1, _ => by simp [REs]
  | c :: es, off, j + 1, h => by
    unfold REs at h
    simp only [List.take_succ_cons]
    unfold REs
    exact ⟨h.1, REs.take j h.2⟩
theorem REs.append {w C g} {sz : Nat} : ∀ {es fs : List (List D)} {off : Nat}, (∀ c ∈ es, c.length = sz) → REs w C g off es → REs w C g (off + es.length * sz) fs → REs w C g off (es ++ fs)
  | [], _, _, _, _, h => by simpa using h
  | c :: es, fs, off, hl, h, h' => by
    unfold REs at h
    have hc := hl c (by simp)
    simp only [List.cons_append]
    unfold REs
    refine ⟨h.1, REs.append (sz := sz) (fun c' h' => hl c' (by simp [h'])) h.2 ?_⟩
    rw [hc]
    simp only [List.length_cons, Nat.add_mul, Nat.one_mul] at h'
    rwa [show off + sz + es.length * sz = off + (es.length * sz + sz) by omega]
theorem REs.at {w C g} {sz : Nat} : ∀ {es : List (List D)} {off : Nat} (j : Nat), (∀ c ∈ es, c.length = sz) → j < es.length → REs w C g off es → RCs w C g (off + j * sz) (es.getD j []) ∧ (es.getD j []).length = sz
  | [], _, _, _, hj, _ => by simp at hj
  | c :: es, off, 0, hl, _, h => by
    unfold REs at h
    simpa using ⟨h.1, hl c (by simp)⟩
  | c :: es, off, j + 1, hl, hj, h => by
    unfold REs at h
    have hc := hl c (by simp)
    rw [hc] at h
    have := REs.at (es := es) (off := off + sz) j (fun c' h' => hl c' (by simp [h'])) (by simpa using hj) h.2
    rw [show off + (j + 1) * sz = off + sz + j * sz by rw [Nat.add_mul, Nat.one_mul]; omega]
    simpa using this
/-- A row whose cells are all there. -/
theorem REs.flat {w C g} {sz : Nat} : ∀ {es : List (List D)} {off : Nat}, (∀ c ∈ es, c.length = sz) → REs w C g off es → RCs w C g off es.flatten
  | [], _, _, _ => by simp [RCs]
  | c :: es, off, hl, h => by
    unfold REs at h
    simp only [List.flatten_cons]
    exact RCs.append h.1 (REs.flat (fun c' h' => hl c' (by simp [h'])) h.2)
theorem REs.of_flat {w C g} : ∀ {es : List (List D)} {off : Nat}, RCs w C g off es.flatten → REs w C g off es
  | [], _, _ => by simp [REs]
  | c :: es, off, h => by
    simp only [List.flatten_cons] at h
    unfold REs
    refine ⟨?_, REs.of_flat ?_⟩
    · have := RCs.take c.length h
      simpa using this
    · have := RCs.drop c.length h
      simpa using this
theorem RCs.get {w C g} {xs : List D} {off j : Nat} (h : RCs w C g off xs) (hj : j < xs.length) : ∃ u, g (off + j) = some u ∧ RD w C u xs[j] := by
  have := RCs.drop j h
  rw [List.drop_eq_getElem_cons hj] at this
  unfold RCs at this
  exact this.1
theorem RCs.of_get {w C g} : ∀ {xs : List D} {off : Nat}, (∀ j (hj : j < xs.length), ∃ u, g (off + j) = some u ∧ RD w C u xs[j]) → RCs w C g off xs
  | [], _, _ => by simp [RCs]
  | x :: xs, off, h => by
    unfold RCs
    refine ⟨h 0 (by simp), RCs.of_get fun j hj => ?_⟩
    have := h (j + 1) (by simpa using hj)
    simpa [Nat.add_assoc, Nat.add_comm 1 j] using this

/-! Values -/
mutual
def RV (w : World) (C : Com) (ι : Locs) : Value → V → Prop
  | _, .undef => True
  | v, .d x => RD w C v x
  | v, .kb b => v = .bool b
  | v, .agg xs => ∃ cs, v = .agg cs ∧ RVs w C ι cs.toList xs
  | v, .tup xs => ∃ cs, v = .tuple cs ∧ RVs w C ι cs.toList xs
  | v, .own id => ∃ L : Loc, ι[id]? = some L ∧ L.row = true ∧ ∃ a, v = .slice a L.n L.cap ∧ (L.cap = 0 ∨ a = some ⟨L.b, L.base, none⟩)
  | v, .ref id off n => ∃ L : Loc, ι[id]? = some L ∧ L.row = true ∧ off + n ≤ L.n ∧ ∃ a c, v = .slice a n c ∧ n ≤ c ∧ (c = 0 ∨ (c + off = L.cap ∧ a = some ⟨L.b, L.base + off * L.sz, none⟩))
  | v, .ptr id off => ∃ L : Loc, ι[id]? = some L ∧ L.row = false ∧ v = .pointer (some ⟨L.b, off, none⟩)
  | v, .ep id i j => ∃ L : Loc, ι[id]? = some L ∧ L.row = true ∧ i < L.n ∧ v = .pointer (some ⟨L.b, L.base + i * L.sz + j, none⟩)
  | v, .rp c j => ∃ b off, v = .pointer (some ⟨b, off + j, none⟩) ∧ off + c.length ≤ C b ∧ RCs w C (fun o => w.cell? ⟨b, o, none⟩) off c
  | v, .fn f xs => ∃ cs, v = .func (.func f) #[] cs ∧ RVs w C ι cs.toList xs
def RVs (w : World) (C : Com) (ι : Locs) : List Value → List V → Prop
  | [], [] => True
  | u :: us, x :: xs => RV w C ι u x ∧ RVs w C ι us xs
  | _, _ => False
end

theorem RVs.length {w C ι} : ∀ {us : List Value} {xs : List V}, RVs w C ι us xs → us.length = xs.length
  | [], [], _ => rfl
  | [], _ :: _, h => by simp [RVs] at h
  | _ :: _, [], h => by simp [RVs] at h
  | u :: us, x :: xs, h => by unfold RVs at h; simp [RVs.length h.2]

def Loc.located (L : Loc) : Prop := L.row = false ∨ L.cap ≠ 0

/-- No cell of a block is one that may not be written. -/
def Soft (us : Array Value) (fr : Nat × Nat) : Prop := fr.1 = fr.2 ∨ us.size ≤ fr.1
theorem Soft.at {us : Array Value} {fr : Nat × Nat} (h : Soft us fr) (j : Nat) (hj : j < us.size) : ¬ (fr.1 ≤ j ∧ j < fr.2) := by unfold Soft at h; omega
theorem Soft.of_size {us us' : Array Value} {fr : Nat × Nat} (h : Soft us fr) (e : us'.size = us.size) : Soft us' fr := by unfold Soft at *; omega

mutual
/-- A tree that nobody else has; F: its blocks. -/
def LT (w : World) : Value → D → List Nat → Prop
  | v, .int k n, F => v = .int k n ∧ F = []
  | v, .bool b, F => v = .bool b ∧ F = []
  | v, .str s, F => v = .string s ∧ F = []
  | v, .sl full sz n es, F => ∃ a cap, v = .slice a n cap ∧ n ≤ cap ∧ (full = true → cap = n) ∧ es.length = n ∧ (∀ c ∈ es, c.length = sz) ∧ ((cap = 0 ∧ F = []) ∨ ∃ b off F', F = b :: F' ∧ a = some ⟨b, off, none⟩ ∧ ∃ us T fr, w.heap[b]? = some (.cells us T fr) ∧ Soft us fr ∧ off + cap * sz ≤ us.size ∧ LEs w (fun o => us[o]?) off es F')
def LEs (w : World) (g : Nat → Option Value) : Nat → List (List D) → List Nat → Prop
  | _, [], F => F = []
  | off, c :: es, F => ∃ F1 F2, F = F1 ++ F2 ∧ LCs w g off c F1 ∧ LEs w g (off + c.length) es F2
def LCs (w : World) (g : Nat → Option Value) : Nat → List D → List Nat → Prop
  | _, [], F => F = []
  | off, x :: xs, F => ∃ F1 F2, F = F1 ++ F2 ∧ (∃ u, g off = some u ∧ LT w u x F1) ∧ LCs w g (off + 1) xs F2
end

/-- A box is behind a pointer, or is the one element of a list that nothing has looked at yet. -/
def Loc.bx (L : Loc) (C : Com) (k : Nat) : Prop := L.row = false ∨ (L.row = true ∧ L.sz = k ∧ L.n = 1 ∧ L.cap = 1 ∧ L.base = 0 ∧ ∀ b, C.own b ≠ some L.b)
theorem Loc.bx.loc {L : Loc} {C : Com} {k : Nat} (h : L.bx C k) : L.located := h.elim .inl fun h => .inr (by omega)
theorem Loc.bx.to {L : Loc} {C C' : Com} {k k' : Nat} (h : L.bx C k) (e : k = k') (ho : ∀ b, C'.own b = some L.b → C.own b = some L.b) : L.bx C' k' := by
  subst e
  rcases h with h | ⟨h1, h2, h3, h4, h5, h6⟩
  · exact .inl h
  · exact .inr ⟨h1, h2, h3, h4, h5, fun b hb => h6 b (ho b hb)⟩
theorem Loc.bx.len {L : Loc} {C : Com} {k k' : Nat} (h : L.bx C k) (e : k = k') : L.bx C k' := e ▸ h

def EntOk (w : World) (C : Com) (ι : Locs) (L : Loc) : Ent → Prop
  | .lrow sz n _ es => L.row = true ∧ L.sz = sz ∧ L.n = n ∧ n ≤ L.cap ∧ es.length = n ∧ (∀ c ∈ es, c.length = sz) ∧
      (L.cap = 0 ∨ ∃ us T fr F, w.heap[L.b]? = some (.cells us T fr) ∧ Soft us fr ∧ L.base + L.cap * sz ≤ us.size ∧ C L.b = 0 ∧ F.Nodup ∧ (∀ b, C.own b = some L.b ↔ b ∈ F) ∧ LEs w (fun o => us[o]?) L.base es F)
  | .hole sz n _ es i j v => L.row = true ∧ L.sz = sz ∧ L.n = n ∧ n ≤ L.cap ∧ es.length = n ∧ (∀ c ∈ es, c.length = sz) ∧ i < n ∧ j < sz ∧
      (∃ us T fr F, w.heap[L.b]? = some (.cells us T fr) ∧ Soft us fr ∧ L.base + L.cap * sz ≤ us.size ∧ C L.b = 0 ∧ F.Nodup ∧ (∀ b, C.own b = some L.b ↔ b ∈ F) ∧
        LEs w (fun o => if o = L.base + i * sz + j then some (.bool false) else us[o]?) L.base (es.set i ((es.getD i []).set j (.bool false))) F ∧ ∃ u, us[L.base + i * sz + j]? = some u ∧ RV w C ι u v)
  | .box cs => L.bx C cs.length ∧ C L.b = 0 ∧ ∃ us T fr, w.heap[L.b]? = some (.cells us T fr) ∧ Soft us fr ∧ RVs w C ι us.toList cs
  | .row sz n fz _ es => L.row = true ∧ L.sz = sz ∧ L.n = n ∧ n ≤ L.cap ∧ es.length = n ∧ (∀ c ∈ es, c.length = sz) ∧
      (L.cap = 0 ∨ ∃ us T fr, w.heap[L.b]? = some (.cells us T fr) ∧ Soft us fr ∧ L.base + L.cap * sz ≤ us.size ∧ C L.b ≤ (if fz then L.base + n * sz else L.base) ∧ REs w C (fun o => us[o]?) L.base es)

/-- What belongs to a row belongs to no other, and is no data. -/
def Com.Ok (C : Com) (ι : Locs) (size : Nat) : Prop := ∀ b m, C.own b = some m → m < size ∧ b < size ∧ C b = 0 ∧ (C.own m = none ∨ C.own m = some m) ∧ ∀ (i : Nat) (L : Loc), ι[i]? = some L → L.located → L.b ≠ b
/-- The blocks of entries, and what belongs to them; also what is under way from one to another (its label has itself for a label). -/
def Has (C : Com) (ι : Locs) (b : Nat) : Prop := (∃ (i : Nat) (L : Loc), ι[i]? = some L ∧ L.located ∧ (L.b = b ∨ C.own b = some L.b)) ∨ ∃ X, C.own X = some X ∧ C.own b = some X

structure St (C : Com) (ι : Locs) (M : Mem) (w : World) : Prop where
  len : ι.length = M.length
  ent : ∀ (i : Nat) (L : Loc) (e : Ent), ι[i]? = some L → M[i]? = some e → EntOk w C ι L e
  inj : ∀ (i j : Nat) (L L' : Loc), ι[i]? = some L → ι[j]? = some L' → L.located → L'.located → L.b = L'.b → i = j
  com : ∀ b, C b = 0 ∨ ∃ us T fr, w.heap[b]? = some (.cells us T fr) ∧ C b ≤ us.size
  own : C.Ok ι w.heap.size

/-- What a step leaves as it was; ks: the rows that were laid anew. -/
structure Stp (C : Com) (ι : Locs) (w : World) (C' : Com) (ι' : Locs) (w' : World) (ks : Nat → Prop) : Prop where
  os : w'.os = w.os
  tape : w'.tape = w.tape
  output : w'.output = w.output
  size : w.heap.size ≤ w'.heap.size
  pre : C.Ok ι w.heap.size
  out : ∀ b : Nat, b < w.heap.size → ¬ Has C ι b → w'.heap[b]? = w.heap[b]? ∧ C' b = C b ∧ C'.own b = C.own b
  ownc : ∀ b m, C'.own b = some m → C.own b = some m ∨ w.heap.size ≤ m ∨ Has C ι m
  keeps : Keeps w C w' C'
  same : ∀ (i : Nat) (L : Loc), ι[i]? = some L → ¬ ks i → ι'[i]? = some L
  moved : ∀ (i : Nat) (L : Loc), ι[i]? = some L → ks i → ∃ L' : Loc, ι'[i]? = some L' ∧ L'.row = L.row ∧ L'.sz = L.sz ∧ (L'.located → Has C ι L'.b ∨ w.heap.size ≤ L'.b)
  new : ∀ (i : Nat) (L' : Loc), ι.length ≤ i → ι'[i]? = some L' → L'.located → Has C ι L'.b ∨ w.heap.size ≤ L'.b

theorem Stp.refl {C : Com} {ι : Locs} {w : World} (h : C.Ok ι w.heap.size) (ks : Nat → Prop) : Stp C ι w C ι w ks :=
  ⟨rfl, rfl, rfl, Nat.le_refl _, h, fun _ _ _ => ⟨rfl, rfl, rfl⟩, fun _ _ h => .inl h, .refl _ _, fun _ _ h _ => h, fun i L h _ => ⟨L, h, rfl, rfl, fun hl => .inl (.inl ⟨_, _, h, hl, .inl rfl⟩)⟩, fun i L h h' => by
    rw [List.getElem?_eq_none h] at h'; cases h'⟩

theorem Stp.row {C : Com} {ι : Locs} {w : World} {C' : Com} {ι' : Locs} {w' : World} {ks : Nat → Prop} (h : Stp C ι w C' ι' w' ks) {i : Nat} {L : Loc} (hi : ι[i]? = some L) : ∃ L' : Loc, ι'[i]? = some L' ∧ L'.row = L.row ∧ L'.sz = L.sz := by
  by_cases hk : ks i
  · obtain ⟨L', h1, h2, h3, _⟩ := h.moved i L hi hk
    exact ⟨L', h1, h2, h3⟩
  · exact ⟨L, h.same i L hi hk, rfl, rfl⟩

theorem Stp.grow {C : Com} {ι : Locs} {w : World} {C' : Com} {ι' : Locs} {w' : World} {ks : Nat → Prop} (h : Stp C ι w C' ι' w' ks) : ι.length ≤ ι'.length := by
  rcases Nat.lt_or_ge ι'.length ι.length with hl | hl
  · obtain ⟨L', h1, _⟩ := h.row (i := ι'.length) (L := ι[ι'.length]) (by simp [hl])
    rw [List.getElem?_eq_none (Nat.le_refl _)] at h1; cases h1
  · exact hl

/-- Where the entries' blocks behind a step come from. -/
theorem Stp.blk {C : Com} {ι : Locs} {w : World} {C' : Com} {ι' : Locs} {w' : World} {ks : Nat → Prop} (h : Stp C ι w C' ι' w' ks) {i : Nat} {L' : Loc} (hi : ι'[i]? = some L') (hl : L'.located) : Has C ι L'.b ∨ w.heap.size ≤ L'.b := by
  rcases Nat.lt_or_ge i ι.length with hlt | hge
  · have hi0 : ι[i]? = some ι[i] := by simp [hlt]
    by_cases hk : ks i
    · obtain ⟨L2, e, _, _, hb⟩ := h.moved i _ hi0 hk
      rw [hi] at e; cases e
      exact hb hl
    · have e := h.same i _ hi0 hk
      rw [hi] at e; cases e
      exact .inl (.inl ⟨i, _, hi0, hl, .inl rfl⟩)
  · exact h.new i L' hge hi hl
theorem Stp.has {C : Com} {ι : Locs} {w : World} {C' : Com} {ι' : Locs} {w' : World} {ks : Nat → Prop} (h : Stp C ι w C' ι' w' ks) {b : Nat} (hb : b < w.heap.size) (hh : Has C' ι' b) : Has C ι b := by
  have key : ∀ m, C.own b = some m → Has C ι m → Has C ι b := by
    intro m hc hm
    obtain ⟨q1, _, _, q2, _⟩ := h.pre b _ hc
    rcases hm with ⟨i0, L0, hi0, hl0, hL0 | hL0⟩ | ⟨Y, hY, hm⟩
    · exact .inl ⟨i0, L0, hi0, hl0, .inr (by rw [hL0]; exact hc)⟩
    · rcases q2 with q2 | q2
      · rw [q2] at hL0; cases hL0
      · have e : m = L0.b := by rw [q2] at hL0; exact Option.some.inj hL0
        exact absurd e.symm ((h.pre _ _ q2).2.2.2.2 i0 L0 hi0 hl0)
    · rcases q2 with q2 | q2
      · rw [q2] at hm; cases hm
      · exact .inr ⟨m, q2, hc⟩
  rcases hh with ⟨i, L1, hi, hl, hc⟩ | ⟨X, hX, hc⟩
  · rcases hc with hc | hc
    · rcases h.blk hi hl with h1 | h1
      · rwa [hc] at h1
      · omega
    · refine Classical.byContradiction fun hn => ?_
      obtain ⟨_, _, e⟩ := h.out b hb hn
      rw [e] at hc
      rcases h.blk hi hl with h1 | h1
      · exact hn (key _ hc h1)
      · have := (h.pre b _ hc).1; omega
  · refine Classical.byContradiction fun hn => ?_
    obtain ⟨_, _, e⟩ := h.out b hb hn
    rw [e] at hc
    have hXs := (h.pre b _ hc).1
    by_cases hx : Has C ι X
    · exact hn (key _ hc hx)
    · obtain ⟨_, _, e2⟩ := h.out X hXs hx
      rw [e2] at hX
      exact hn (.inr ⟨X, hX, hc⟩)

theorem Stp.trans {C0 C1 C2 : Com} {ι0 ι1 ι2 : Locs} {w0 w1 w2 : World} {k1 k2 k : Nat → Prop} (h : Stp C0 ι0 w0 C1 ι1 w1 k1) (h' : Stp C1 ι1 w1 C2 ι2 w2 k2) (h1 : ∀ i, i < ι0.length → k1 i → k i) (h2 : ∀ i, i < ι0.length → k2 i → k i) :
    Stp C0 ι0 w0 C2 ι2 w2 k := by
  have lt : ∀ {i : Nat} {L : Loc} {l : Locs}, l[i]? = some L → i < l.length := fun {i L l} hi => by
    rcases Nat.lt_or_ge i l.length with g | g
    · exact g
    · rw [List.getElem?_eq_none g] at hi; cases hi
  refine ⟨h'.os.trans h.os, h'.tape.trans h.tape, h'.output.trans h.output, Nat.le_trans h.size h'.size, h.pre, ?_, ?_, h.keeps.trans h'.keeps, ?_, ?_, ?_⟩
  · intro b hb hn
    obtain ⟨e1, c1, o1⟩ := h.out b hb hn
    obtain ⟨e2, c2, o2⟩ := h'.out b (Nat.lt_of_lt_of_le hb h.size) (fun hh => hn (h.has hb hh))
    exact ⟨e2.trans e1, c2.trans c1, o2.trans o1⟩
  · intro b m hm
    rcases h'.ownc b m hm with q | q | q
    · exact h.ownc b m q
    · exact .inr (.inl (Nat.le_trans h.size q))
    · rcases Nat.lt_or_ge m w0.heap.size with g | g
      · exact .inr (.inr (h.has g q))
      · exact .inr (.inl g)
  · intro i L hi hk
    exact h'.same i L (h.same i L hi (fun h0 => hk (h1 i (lt hi) h0))) (fun h0 => hk (h2 i (lt hi) h0))
  · intro i L hi _
    have up : ∀ {i : Nat} {L2 : Loc}, ι2[i]? = some L2 → L2.located → Has C0 ι0 L2.b ∨ w0.heap.size ≤ L2.b := by
      intro i L2 hi2 hl
      rcases h'.blk hi2 hl with q | q
      · rcases Nat.lt_or_ge L2.b w0.heap.size with g | g
        · exact .inl (h.has g q)
        · exact .inr g
      · exact .inr (Nat.le_trans h.size q)
    obtain ⟨L1, hi1, r1, s1⟩ := h.row hi
    obtain ⟨L2, hi2, r2, s2⟩ := h'.row hi1
    exact ⟨L2, hi2, r2.trans r1, s2.trans s1, fun hl => up hi2 hl⟩
  · intro i L2 hge hi2 hl
    rcases h'.blk hi2 hl with q | q
    · rcases Nat.lt_or_ge L2.b w0.heap.size with g | g
      · exact .inl (h.has g q)
      · exact .inr g
    · exact .inr (Nat.le_trans h.size q)

/-! A value's facts behind a step -/
theorem idx_mem : ∀ {ks : List Nat} {i : Nat}, (idx ks i).isSome = true ↔ i ∈ ks
  | [], i => by simp [idx]
  | m :: r, i => by
    unfold idx
    by_cases h : m = i
    · subst h; simp
    · have hb : Nat.beq m i = false := by rw [Bool.eq_false_iff]; intro e; exact h (Nat.eq_of_beq_eq_true e)
      rw [hb]
      have ih := idx_mem (ks := r) (i := i)
      cases hr : idx r i <;> simp [hr] at ih ⊢
      · exact ⟨fun e => h e.symm, ih⟩
      · exact .inr ih
theorem notIn_some {ks : List Nat} {i : Nat} (h : i ∉ ks) : notIn ks i = some i := by
  unfold notIn
  cases hr : idx ks i with
  | none => rfl
  | some j => exact absurd (idx_mem.1 (by rw [hr]; rfl)) h
theorem notIn_none {ks : List Nat} {i : Nat} (h : i ∈ ks) : notIn ks i = none := by
  unfold notIn
  have := idx_mem.2 h
  cases hr : idx ks i with
  | none => rw [hr] at this; cases this
  | some j => rfl

mutual
theorem RV.ren {w : World} {C : Com} {ι : Locs} {w' : World} {C' : Com} {ι' : Locs} (hk : Keeps w C w' C') {g : Nat → Option Nat} (hg : ∀ (i j : Nat) (L : Loc), g i = some j → ι[i]? = some L → ι'[j]? = some L) : ∀ {v : Value} (x : V), RV w C ι v x → RV w' C' ι' v (x.ren g)
  | _, .undef, _ => by simp [V.ren, RV]
  | _, .d x, h => by simp only [V.ren]; unfold RV at h ⊢; exact h.mono hk
  | _, .kb b, h => by simp only [V.ren]; unfold RV at h ⊢; exact h
  | _, .agg xs, h => by
    simp only [V.ren]; unfold RV at h ⊢
    obtain ⟨cs, e, r⟩ := h
    exact ⟨cs, e, RVs.ren hk hg xs r⟩
  | _, .tup xs, h => by
    simp only [V.ren]; unfold RV at h ⊢
    obtain ⟨cs, e, r⟩ := h
    exact ⟨cs, e, RVs.ren hk hg xs r⟩
  | _, .fn f xs, h => by
    simp only [V.ren]; unfold RV at h ⊢
    obtain ⟨cs, e, r⟩ := h
    exact ⟨cs, e, RVs.ren hk hg xs r⟩
  | _, .own id, h => by
    simp only [V.ren]; cases hgi : g id with
    | none => simp [RV]
    | some j =>
      unfold RV at h ⊢
      obtain ⟨L, hL, r⟩ := h
      exact ⟨L, hg _ _ _ hgi hL, r⟩
  | _, .ref id o n, h => by
    simp only [V.ren]; cases hgi : g id with
    | none => simp [RV]
    | some j =>
      unfold RV at h ⊢
      obtain ⟨L, hL, r⟩ := h
      exact ⟨L, hg _ _ _ hgi hL, r⟩
  | _, .ptr id o, h => by
    simp only [V.ren]; cases hgi : g id with
    | none => simp [RV]
    | some j =>
      unfold RV at h ⊢
      obtain ⟨L, hL, r⟩ := h
      exact ⟨L, hg _ _ _ hgi hL, r⟩
  | _, .ep id i o, h => by
    simp only [V.ren]; cases hgi : g id with
    | none => simp [RV]
    | some j =>
      unfold RV at h ⊢
      obtain ⟨L, hL, r⟩ := h
      exact ⟨L, hg _ _ _ hgi hL, r⟩
  | _, .rp c j, h => by
    simp only [V.ren]; unfold RV at h ⊢
    obtain ⟨b, off, e, hc, r⟩ := h
    exact ⟨b, off, e, Nat.le_trans hc (hk.le b), RCs.mono hk c (N := off + c.length) (fun o _ ho u hu => by show w'.cell? _ = _; rw [hk.cell b o (by omega)]; exact hu) (Nat.le_refl _) r⟩
theorem RVs.ren {w : World} {C : Com} {ι : Locs} {w' : World} {C' : Com} {ι' : Locs} (hk : Keeps w C w' C') {g : Nat → Option Nat} (hg : ∀ (i j : Nat) (L : Loc), g i = some j → ι[i]? = some L → ι'[j]? = some L) : ∀ {vs : List Value} (xs : List V), RVs w C ι vs xs → RVs w' C' ι' vs (V.ren.go g xs)
  | [], [], _ => by simp [V.ren.go, RVs]
  | [], _ :: _, h => by simp [RVs] at h
  | _ :: _, [], h => by simp [RVs] at h
  | v :: vs, x :: xs, h => by
    unfold RVs at h
    simp only [V.ren.go]
    unfold RVs
    exact ⟨RV.ren hk hg x h.1, RVs.ren hk hg xs h.2⟩
end
mutual
theorem RV.mono {w : World} {C : Com} {ι : Locs} {w' : World} {C' : Com} {ι' : Locs} (hk : Keeps w C w' C') (hg : ∀ (i : Nat) (L : Loc), ι[i]? = some L → ι'[i]? = some L) : ∀ {v : Value} (x : V), RV w C ι v x → RV w' C' ι' v x
  | _, .undef, _ => by simp [RV]
  | _, .d x, h => by unfold RV at h ⊢; exact h.mono hk
  | _, .kb b, h => by unfold RV at h ⊢; exact h
  | _, .agg xs, h => by
    unfold RV at h ⊢
    obtain ⟨cs, e, r⟩ := h
    exact ⟨cs, e, RVs.mono hk hg xs r⟩
  | _, .tup xs, h => by
    unfold RV at h ⊢
    obtain ⟨cs, e, r⟩ := h
    exact ⟨cs, e, RVs.mono hk hg xs r⟩
  | _, .fn f xs, h => by
    unfold RV at h ⊢
    obtain ⟨cs, e, r⟩ := h
    exact ⟨cs, e, RVs.mono hk hg xs r⟩
  | _, .own id, h => by
    unfold RV at h ⊢
    obtain ⟨L, hL, r⟩ := h
    exact ⟨L, hg _ _ hL, r⟩
  | _, .ref id o n, h => by
    unfold RV at h ⊢
    obtain ⟨L, hL, r⟩ := h
    exact ⟨L, hg _ _ hL, r⟩
  | _, .ptr id o, h => by
    unfold RV at h ⊢
    obtain ⟨L, hL, r⟩ := h
    exact ⟨L, hg _ _ hL, r⟩
  | _, .ep id i o, h => by
    unfold RV at h ⊢
    obtain ⟨L, hL, r⟩ := h
    exact ⟨L, hg _ _ hL, r⟩
  | _, .rp c j, h => by
    unfold RV at h ⊢
    obtain ⟨b, off, e, hc, r⟩ := h
    exact ⟨b, off, e, Nat.le_trans hc (hk.le b), RCs.mono hk c (N := off + c.length) (fun o _ ho u hu => by show w'.cell? _ = _; rw [hk.cell b o (by omega)]; exact hu) (Nat.le_refl _) r⟩
theorem RVs.mono {w : World} {C : Com} {ι : Locs} {w' : World} {C' : Com} {ι' : Locs} (hk : Keeps w C w' C') (hg : ∀ (i : Nat) (L : Loc), ι[i]? = some L → ι'[i]? = some L) : ∀ {vs : List Value} (xs : List V), RVs w C ι vs xs → RVs w' C' ι' vs xs
  | [], [], _ => by simp [RVs]
  | [], _ :: _, h => by simp [RVs] at h
  | _ :: _, [], h => by simp [RVs] at h
  | v :: vs, x :: xs, h => by
    unfold RVs at h ⊢
    exact ⟨RV.mono hk hg x h.1, RVs.mono hk hg xs h.2⟩
end
end Go.Ev

namespace Go.Ev
open Go
/-- The row of an entry that is laid anew. -/
def mvs (M : Mem) (i : Nat) : Prop := ∃ e, M[i]? = some e ∧ e.mvd = true
theorem Stp.weaken {C : Com} {ι : Locs} {w : World} {C' : Com} {ι' : Locs} {w' : World} {k k' : Nat → Prop} (h : Stp C ι w C' ι' w' k) (e : ∀ i, k i → k' i) : Stp C ι w C' ι' w' k' :=
  ⟨h.os, h.tape, h.output, h.size, h.pre, h.out, h.ownc, h.keeps, fun i L hi hn => h.same i L hi (fun hk => hn (e i hk)), fun i L hi _ => by
    by_cases hk : k i
    · exact h.moved i L hi hk
    · exact ⟨L, h.same i L hi hk, rfl, rfl, fun hl => .inl (.inl ⟨_, _, hi, hl, .inl rfl⟩)⟩, h.new⟩
end Go.Ev

/-
  Values in their forms.
-/
namespace Go.Ev
open Go

theorem bif_some' {R : Type} {c : Bool} {x : Option R} {r : R} (h : (bif c then x else none) = some r) : c = true ∧ x = some r := by
  cases c <;> simp at h ⊢; exact h
theorem ocall_some {R : Type} {s : Sh} {m : List ES} {x : Option (V × Mem)} {f : s.T → ES.Ts m → Option R} {r : R} (h : ocall s m x f = some r) : ∃ v M t u, x = some (v, M) ∧ s.dec v = some t ∧ ES.decs m M = some u ∧ f t u = some r := by
  unfold ocall at h
  split at h
  · split at h
    · exact ⟨_, _, _, _, rfl, by assumption, by assumption, h⟩
    · cases h
  · cases h
theorem onil_some {R : Type} {n : Nat} {x y : Option R} {r : R} (h : onil n x y = some r) : (n = 0 ∧ x = some r ∧ y = some r) ∨ (n ≠ 0 ∧ y = some r) := by
  unfold onil at h
  split at h
  · split at h
    · rename_i h0 h1; exact .inl ⟨h0, h, h1 ▸ h⟩
    · cases h
  · rename_i h0; exact .inr ⟨h0, h⟩
theorem onil_pos {R : Type} {n : Nat} {x y : Option R} (h : n ≠ 0) : onil n x y = y := by unfold onil; rw [if_neg h]
theorem onil_same {R : Type} {n : Nat} {x : Option R} : onil n x x = x := by unfold onil; split <;> simp
theorem ocells_some {R : Type} {l : List LS} {c : List D} {f : LS.Ts l → Option R} {r : R} (h : ocells l c f = some r) : ∃ t, LS.decD l c = some t ∧ f t = some r := by
  unfold ocells at h
  split at h
  · exact ⟨_, by assumption, h⟩
  · cases h
theorem oat_some {R : Type} {l : List LS} {n : Nat} {es : List (List D)} {i : Int} {f : LS.Ts l → Option R} {r : R} (h : oat l n es i f = some r) : (0 ≤ i ∧ i < n) ∧ ∃ t, LS.decD l (es.getD i.toNat []) = some t ∧ f t = some r := by
  unfold oat at h
  cases hd : decide (0 ≤ i ∧ i < n) with
  | false => rw [hd] at h; cases h
  | true =>
    rw [hd] at h
    simp only [cond_true] at h
    split at h
    · exact ⟨of_decide_eq_true hd, _, by assumption, h⟩
    · cases h

theorem ocall_t {R : Type} {s : Sh} {m : List ES} {x : Option (V × Mem)} {f : s.T → ES.Ts m → Option R} {v : V} {M : Mem} {t : s.T} {u : ES.Ts m} (h : x = some (v, M)) (h1 : s.dec v = some t) (h2 : ES.decs m M = some u) : ocall s m x f = f t u := by
  unfold ocall; rw [h]; simp only [h1, h2]
theorem ocells_t {R : Type} {l : List LS} {c : List D} {f : LS.Ts l → Option R} {t : LS.Ts l} (h : LS.decD l c = some t) : ocells l c f = f t := by
  unfold ocells; simp only [h]
theorem oat_t {R : Type} {l : List LS} {n : Nat} {es : List (List D)} {i : Int} {f : LS.Ts l → Option R} {t : LS.Ts l} (hi : 0 ≤ i ∧ i < n) (h : LS.decD l (es.getD i.toNat []) = some t) : oat l n es i f = f t := by
  unfold oat; rw [decide_eq_true hi]; simp only [cond_true, h]

section
variable {w : World} {C : Com} {ι : Locs}
theorem LS.dec_ok (s : LS) {v : V} {t : s.T} {u : Value} (h : s.dec v = some t) (hu : RV w C ι u v) : RV w C ι u (s.enc t) := by
  cases s with
  | int k =>
    simp only [LS.dec] at h
    split at h
    · split at h
      · rename_i hk; cases h; subst hk; exact hu
      · cases h
    · cases h
  | bool =>
    simp only [LS.dec] at h
    split at h
    · cases h; exact hu
    · cases h; unfold RV at hu; show RV w C ι u (.d (.bool _)); unfold RV RD; exact hu
    · cases h
  | str =>
    simp only [LS.dec] at h
    split at h
    · cases h; exact hu
    · cases h
  | sl sz =>
    simp only [LS.dec] at h
    split at h
    · rename_i f sz' n es
      obtain ⟨hb, h⟩ := bif_some' h
      cases h
      have := Nat.eq_of_beq_eq_true hb
      subst this
      show RV w C ι u (.d (.sl false _ _ _))
      unfold RV RD at hu ⊢
      obtain ⟨a, cap, e, h1, _, h3, h4, h5⟩ := hu
      exact ⟨a, cap, e, h1, (fun h => by cases h), h3, h4, h5⟩
    · cases h
  | own i =>
    simp only [LS.dec] at h
    split at h
    · obtain ⟨hb, h⟩ := bif_some' h
      have := Nat.eq_of_beq_eq_true hb
      subst this
      exact hu
    · cases h
  | ptr i o =>
    simp only [LS.dec] at h
    split at h
    · obtain ⟨hb, h⟩ := bif_some' h
      simp only [Bool.and_eq_true] at hb
      have h1 := Nat.eq_of_beq_eq_true hb.1
      have h2 := Nat.eq_of_beq_eq_true hb.2
      subst h1 h2
      exact hu
    · cases h
  | undef => show RV w C ι u .undef; simp [RV]
theorem LS.decs_ok : ∀ (l : List LS) {vs : List V} {t : LS.Ts l} {us : List Value}, LS.decs l vs = some t → RVs w C ι us vs → RVs w C ι us (LS.encs l t)
  | [], vs, t, us, h, hu => by
    simp only [LS.decs] at h
    split at h
    · exact hu
    · cases h
  | s :: l, vs, t, us, h, hu => by
    simp only [LS.decs] at h
    split at h
    · rename_i v vs
      split at h
      · rename_i t1 t2 h1 h2
        cases h
        cases us with
        | nil => simp [RVs] at hu
        | cons u us =>
          unfold RVs at hu
          show RVs w C ι (u :: us) (s.enc t1 :: LS.encs l t2)
          unfold RVs
          exact ⟨LS.dec_ok s h1 hu.1, LS.decs_ok l h2 hu.2⟩
      · cases h
    · cases h
theorem MS.dec_ok (s : MS) {v : V} {t : s.T} {u : Value} (h : s.dec v = some t) (hu : RV w C ι u v) : RV w C ι u (s.enc t) := by
  cases s with
  | one s => exact LS.dec_ok s h hu
  | agg l =>
    cases v with
    | agg vs =>
      have h : LS.decs l vs = some t := h
      show RV w C ι u (.agg (LS.encs l t))
      unfold RV at hu ⊢
      obtain ⟨cs, e, hv⟩ := hu
      exact ⟨cs, e, LS.decs_ok l h hv⟩
    | _ =>
      have h : (none : Option (LS.Ts l)) = some t := h
      exact nomatch h
  | fn f l =>
    cases v with
    | fn f' vs =>
      have h : (bif Nat.beq f' f then LS.decs l vs else none) = some t := h
      obtain ⟨hb, h⟩ := bif_some' h
      have hf := Nat.eq_of_beq_eq_true hb
      subst hf
      show RV w C ι u (.fn f' (LS.encs l t))
      unfold RV at hu ⊢
      obtain ⟨cs, e, hv⟩ := hu
      exact ⟨cs, e, LS.decs_ok l h hv⟩
    | _ =>
      have h : (none : Option (LS.Ts l)) = some t := h
      exact nomatch h
theorem MS.decs_ok : ∀ (l : List MS) {vs : List V} {t : MS.Ts l} {us : List Value}, MS.decs l vs = some t → RVs w C ι us vs → RVs w C ι us (MS.encs l t)
  | [], vs, t, us, h, hu => by
    simp only [MS.decs] at h
    split at h
    · exact hu
    · cases h
  | s :: l, vs, t, us, h, hu => by
    simp only [MS.decs] at h
    split at h
    · rename_i v vs
      split at h
      · rename_i t1 t2 h1 h2
        cases h
        cases us with
        | nil => simp [RVs] at hu
        | cons u us =>
          unfold RVs at hu
          show RVs w C ι (u :: us) (s.enc t1 :: MS.encs l t2)
          unfold RVs
          exact ⟨MS.dec_ok s h1 hu.1, MS.decs_ok l h2 hu.2⟩
      · cases h
    · cases h
theorem Sh.dec_ok (s : Sh) {v : V} {t : s.T} {u : Value} (h : s.dec v = some t) (hu : RV w C ι u v) : RV w C ι u (s.enc t) := by
  cases s with
  | m s => exact MS.dec_ok s h hu
  | tup l =>
    cases v with
    | tup vs =>
      have h : MS.decs l vs = some t := h
      show RV w C ι u (.tup (MS.encs l t))
      unfold RV at hu ⊢
      obtain ⟨cs, e, hv⟩ := hu
      exact ⟨cs, e, MS.decs_ok l h hv⟩
    | _ =>
      have h : (none : Option (MS.Ts l)) = some t := h
      exact nomatch h

theorem decD_eq : ∀ (l : List LS) (xs : List D), LS.decD l xs = LS.decs l (toVs xs)
  | [], [] => rfl
  | [], _ :: _ => rfl
  | _ :: _, [] => rfl
  | s :: l, x :: xs => by
    simp only [LS.decD, toVs, LS.decs]
    rw [decD_eq l xs]

theorem LS.encs_len : ∀ (l : List LS) (t : LS.Ts l), (LS.encs l t).length = l.length
  | [], _ => rfl
  | s :: l, t => by
    show (s.enc t.1 :: LS.encs l t.2).length = _
    simp [LS.encs_len l t.2]
theorem ES.dec_ok (s : ES) {e : Ent} {t : s.T} (h : s.dec e = some t) : (∀ {L : Loc}, EntOk w C ι L e → EntOk w C ι L (s.enc t)) ∧ (e.mvd = true → (s.enc t).mvd = true) := by
  cases s with
  | box l =>
    cases e with
    | box vs =>
      have h : LS.decs l vs = some t := h
      refine ⟨fun {L} he => ?_, fun h => nomatch h⟩
      show EntOk w C ι L (.box (LS.encs l t))
      obtain ⟨h1, h2, us, T, fr, h3, h4, h5⟩ := he
      have h6 := LS.decs_ok l h h5
      exact ⟨h1.len (h5.length.symm.trans h6.length), h2, us, T, fr, h3, h4, h6⟩
    | _ => exact nomatch (show (none : Option (LS.Ts l)) = some t from h)
  | row sz fz mv =>
    cases e with
    | row sz' n fz' mv' es =>
      have h : (bif Nat.beq sz' sz && ((fz || !fz') && (mv || !mv')) then some (n, es) else none) = some t := h
      obtain ⟨hb, h⟩ := bif_some' h
      cases h
      simp only [Bool.and_eq_true] at hb
      obtain ⟨h1, h2, h3⟩ := hb
      have h1 := Nat.eq_of_beq_eq_true h1
      subst h1
      refine ⟨fun {L} he => ?_, ?_⟩
      · obtain ⟨q1, q2, q3, q4, q5, q6, q7⟩ := he
        refine ⟨q1, q2, q3, q4, q5, q6, q7.imp id ?_⟩
        rintro ⟨us, T, fr, h1, h2', h3', h4, h5⟩
        refine ⟨us, T, fr, h1, h2', h3', ?_, h5⟩
        cases fz <;> cases fz' <;> simp at h2 h4 ⊢ <;> first | exact h4 | omega
      · intro e
        have e : mv' = true := e
        subst e
        show mv = true
        simpa using h3
    | _ => exact nomatch (show (none : Option (Nat × List (List D))) = some t from h)
  | lrow sz mv =>
    cases e with
    | lrow sz' n mv' es =>
      have h : (bif Nat.beq sz' sz && (mv || !mv') then some (n, es) else none) = some t := h
      obtain ⟨hb, h⟩ := bif_some' h
      cases h
      simp only [Bool.and_eq_true] at hb
      obtain ⟨h1, h3⟩ := hb
      have h1 := Nat.eq_of_beq_eq_true h1
      subst h1
      refine ⟨fun {L} he => he, ?_⟩
      intro e
      have e : mv' = true := e
      subst e
      show mv = true
      simpa using h3
    | _ => exact nomatch (show (none : Option (Nat × List (List D))) = some t from h)
theorem ES.decs_ok' : ∀ (l : List ES) {M : Mem} {u : ES.Ts l}, ES.decs l M = some u → (ES.encs l u).length = M.length ∧ ∀ (i : Nat) (e : Ent), M[i]? = some e → ∃ e', (ES.encs l u)[i]? = some e' ∧ (∀ {L : Loc}, EntOk w C ι L e → EntOk w C ι L e') ∧ (e.mvd = true → e'.mvd = true)
  | [], M, u, h => by
    cases M with
    | nil => exact ⟨rfl, fun i e h => by simp at h⟩
    | cons e M => exact nomatch (show (none : Option Unit) = some u from h)
  | s :: l, M, u, h => by
    cases M with
    | nil => exact nomatch (show (none : Option (ES.Ts (s :: l))) = some u from h)
    | cons e M =>
      have h : (match s.dec e, ES.decs l M with
        | some t, some ts => some (t, ts)
        | _, _ => none) = some u := h
      split at h
      · rename_i t1 t2 h1 h2
        cases h
        obtain ⟨i1, i2⟩ := ES.decs_ok' l h2
        refine ⟨?_, fun i e' he' => ?_⟩
        · show (s.enc t1 :: ES.encs l t2).length = _
          simp [i1]
        · show ∃ e'', (s.enc t1 :: ES.encs l t2)[i]? = some e'' ∧ _
          cases i with
          | zero =>
            simp at he'
            subst he'
            exact ⟨_, rfl, (ES.dec_ok s h1).1, (ES.dec_ok (w := w) (C := C) (ι := ι) s h1).2⟩
          | succ i => exact i2 i e' (by simpa using he')
      · exact nomatch h
theorem ES.decs_ok (l : List ES) {M : Mem} {u : ES.Ts l} (h : ES.decs l M = some u) (hst : St C ι M w) : St C ι (ES.encs l u) w ∧ ∀ i, mvs M i → mvs (ES.encs l u) i := by
  obtain ⟨h1, h2⟩ := ES.decs_ok' (w := w) (C := C) (ι := ι) l h
  refine ⟨⟨by rw [h1]; exact hst.len, fun i L e' hL he' => ?_, hst.inj, hst.com, hst.own⟩, ?_⟩
  · have hlt : i < M.length := by rw [← hst.len]; exact (List.getElem?_eq_some_iff.1 hL).1
    obtain ⟨e'', q1, q2, _⟩ := h2 i M[i] (List.getElem?_eq_getElem hlt)
    rw [q1] at he'; cases he'
    exact q2 (hst.ent i L _ hL (List.getElem?_eq_getElem hlt))
  · rintro i ⟨e, hi, hm⟩
    obtain ⟨e'', q1, _, q3⟩ := h2 i _ hi
    exact ⟨e'', q1, q3 hm⟩

/-- What is told of data is data. -/
theorem dec_data {s : LS} {x : D} {t : s.T} (h : s.dec (.d x) = some t) : (∃ y, s.enc t = .d y) ∨ s.enc t = .undef := by
  cases s with
  | int k => exact .inl ⟨_, rfl⟩
  | bool => exact .inl ⟨_, rfl⟩
  | str => exact .inl ⟨_, rfl⟩
  | sl sz => exact .inl ⟨_, rfl⟩
  | undef => exact .inr rfl
  | _ => simp [LS.dec] at h
/-- The cells of an element, told in their form. -/
theorem cells_ok {g : Nat → Option Value} : ∀ (l : List LS) {c : List D} {t : LS.Ts l} {off : Nat}, LS.decD l c = some t → leafs (LS.encs l t) = true → RCs w C g off c → RCs w C g off (vDs (LS.encs l t)) ∧ LS.encs l t = toVs (vDs (LS.encs l t))
  | [], c, t, off, h, _, hr => ⟨by show RCs w C g off []; simp [RCs], rfl⟩
  | s :: l, c, t, off, h, hl, hr => by
    cases c with
    | nil => simp [LS.decD] at h
    | cons x c =>
      simp only [LS.decD] at h
      split at h
      · rename_i t1 t2 h1 h2
        cases h
        have hl' : leafs (s.enc t1 :: LS.encs l t2) = true := hl
        simp only [leafs, Bool.and_eq_true] at hl'
        unfold RCs at hr
        obtain ⟨hu, hr'⟩ := hr
        obtain ⟨i1, i2⟩ := cells_ok l (t := t2) h2 hl'.2 hr'
        obtain ⟨u, hg, hx⟩ := hu
        have hv : RV w C [] u (s.enc t1) := LS.dec_ok s h1 (by unfold RV; exact hx)
        rcases dec_data h1 with ⟨y, hy⟩ | hy
        · have e : vDs (LS.encs (s :: l) (t1, t2)) = y :: vDs (LS.encs l t2) := by
            show vD (s.enc t1) :: vDs (LS.encs l t2) = _
            rw [hy]; rfl
          refine ⟨?_, ?_⟩
          · rw [e]; unfold RCs
            refine ⟨⟨u, hg, ?_⟩, i1⟩
            rw [hy] at hv; unfold RV at hv; exact hv
          · rw [e]
            show s.enc t1 :: LS.encs l t2 = _
            rw [hy]
            simp only [toVs]
            rw [← i2]
        · rw [hy] at hl'; simp [V.leaf] at hl'
      · cases h
theorem alld_leafs : ∀ (l : List LS) (t : LS.Ts l), LS.alld l = true → leafs (LS.encs l t) = true
  | [], _, _ => rfl
  | s :: l, t, h => by
    have h' : (s.isD && LS.alld l) = true := h
    rw [Bool.and_eq_true] at h'
    show ((s.enc t.1).leaf && leafs (LS.encs l t.2)) = true
    rw [Bool.and_eq_true]
    refine ⟨?_, alld_leafs l t.2 h'.2⟩
    cases s <;> first | rfl | exact nomatch h'.1
theorem vDs_len : ∀ (vs : List V), (vDs vs).length = vs.length
  | [] => rfl
  | v :: vs => by simp [vDs, vDs_len vs]
end
end Go.Ev
