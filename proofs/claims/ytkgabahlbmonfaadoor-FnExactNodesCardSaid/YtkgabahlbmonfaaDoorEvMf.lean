import Derived.Test.YtkgabahlbmonfaaDoorEvMe
set_option linter.unusedVariables false
set_option linter.unusedSimpArgs false
/-
  Rows that all their trees belong to: what is made, what is put behind them.
-/
namespace Go.Ev
open Go

section
variable {R : Type} {P : Program} {C : Com} {ι : Locs} {M : Mem} {w : World}

/-- A new row, to which what is under way belongs. -/
theorem St.moreL (h : St C ι M w) {F F' : List Nat} (pd : Pd C F) (hF : ∀ b ∈ F', b ∈ F) {w1 : World} (hw : w1.heap = w.heap) (e1 : w1.os = w.os) (e2 : w1.tape = w.tape) (e3 : w1.output = w.output) (us : Array Value) (T : TypeId) (fr : Nat × Nat) (L : Loc) (hLb : L.b = w.heap.size) (e : Ent)
    (hent : EntOk (World.more w1 (.cells us T fr)) (C.relab F F' w.heap.size) (ι ++ [L]) L e) :
    St (C.relab F F' w.heap.size) (ι ++ [L]) (M ++ [e]) (World.more w1 (.cells us T fr)) ∧ ∀ ks : Nat → Prop, Stp C ι w (C.relab F F' w.heap.size) (ι ++ [L]) (World.more w1 (.cells us T fr)) ks := by
  have hold : ∀ b, b < w.heap.size → (World.more w1 (.cells us T fr)).heap[b]? = w.heap[b]? := fun b hb => by rw [more_old (by rw [hw]; exact hb), hw]
  have hsize : (World.more w1 (.cells us T fr)).heap.size = w.heap.size + 1 := by simp [World.more, hw]
  have hk : Keeps w C (World.more w1 (.cells us T fr)) (C.relab F F' w.heap.size) := ⟨fun b o ho => cell_of_heap (hold b (h.clt ho)), fun _ => Nat.le_refl _⟩
  have hbig : C.own w.heap.size = none := by
    cases hc : C.own w.heap.size with
    | none => rfl
    | some m => have := (h.own _ _ hc).2.1; omega
  have hcls : Cls C F w.heap.size := ⟨fun b hb => by obtain ⟨X, p1, p2, p3⟩ := pd.cls b hb; exact ⟨X, p1, .inr p2, p3⟩⟩
  have cs : ∀ (i : Nat) (L1 : Loc), (ι ++ [L])[i]? = some L1 → ι[i]? = some L1 ∨ (i = ι.length ∧ L1 = L) := by
    intro i L1 hi
    rcases Nat.lt_or_ge i ι.length with g | g
    · rw [List.getElem?_append_left g] at hi; exact .inl hi
    · rw [List.getElem?_append_right g] at hi
      have := lt_of_get hi
      simp at this
      have e : i = ι.length := by omega
      subst e; simp at hi; exact .inr ⟨rfl, hi.symm⟩
  have hok : (C.relab F F' w.heap.size).Ok (ι ++ [L]) (World.more w1 (.cells us T fr)).heap.size := by
    refine hcls.ok h.own hbig hF (by omega) (by omega) hbig (fun i L1 hi hl => ?_)
    rcases cs i L1 hi with hi | ⟨_, rfl⟩
    · exact .inr ⟨i, L1, hi, hl, rfl⟩
    · exact .inl hLb
  refine ⟨⟨by simp [h.len], ?_, ?_, ?_, hok⟩, fun ks => ⟨e1, e2, e3, by omega, h.own, ?_, ?_, hk, ?_, ?_, ?_⟩⟩
  · intro i L1 e1 hi he
    rcases cs i L1 hi with hi | ⟨rfl, rfl⟩
    · rw [List.getElem?_append_left (by rw [← h.len]; exact lt_of_get hi)] at he
      refine (h.ent i L1 e1 hi he).mono hk (fun _ _ h => grow_get h) (fun hl => ⟨hold _ (h.blt hi hl), rfl, fun b' hb' => hold _ (h.own.some hb').2, ?_⟩)
      have := h.blt hi hl
      exact hcls.stay h.own hF hi hl (by omega) (by omega)
    · rw [h.len] at he; simp at he; subst he; exact hent
  · intro i j L1 L2 hi hj l1 l2 eb
    rcases cs i L1 hi with hi' | ⟨e1, e2⟩
    · rcases cs j L2 hj with hj' | ⟨e3, e4⟩
      · exact h.inj i j L1 L2 hi' hj' l1 l2 eb
      · subst e4; have := h.blt hi' l1; omega
    · rcases cs j L2 hj with hj' | ⟨e3, e4⟩
      · subst e2; have := h.blt hj' l2; omega
      · omega
  · intro b
    rcases h.com b with h0 | ⟨us', T', fr', hh, hc⟩
    · exact .inl h0
    · exact .inr ⟨us', T', fr', (hold _ (Array.getElem?_eq_some_iff.1 hh).1).trans hh, hc⟩
  · intro b hb hn
    exact ⟨hold b hb, rfl, hcls.outo hF (fun b hb => by have := (h.own _ _ hb).1; omega) b hn⟩
  · intro b m hm
    rcases relab_some hF hm with ⟨_, rfl⟩ | ⟨_, h⟩
    · exact .inr (.inl (Nat.le_refl _))
    · exact .inl h
  · intro i L1 hi _; exact grow_get hi
  · intro i L1 hi _; exact ⟨L1, grow_get hi, rfl, rfl, fun hl => .inl (.inl ⟨_, _, hi, hl, .inl rfl⟩)⟩
  · intro i L1 hge hi hl
    rcases cs i L1 hi with hi | ⟨rfl, rfl⟩
    · have := lt_of_get hi; omega
    · exact .inr (Nat.le_of_eq hLb.symm)

theorem relab_new (h : St C ι M w) {F F' : List Nat} (hF : ∀ b ∈ F', b ∈ F) (b : Nat) : (C.relab F F' w.heap.size).own b = some w.heap.size ↔ b ∈ F' :=
  relab_iff hF (fun b hb => by have := (h.own _ _ hb).1; omega) b

/-- A row with its trees, in a block of its own. -/
theorem EntOk.freshL (hst : St C ι M w) {ι' : Locs} {F F' : List Nat} (pd : Pd C F) (hF : ∀ b ∈ F', b ∈ F) (hnd : F'.Nodup) {vs rest : List Value} {es : List (List D)} {sz n cap : Nat} {mv : Bool} (hv : LVs w vs es.flatten F') (hl : ∀ c ∈ es, c.length = sz) (hn : es.length = n) (hc : n ≤ cap) (hr : vs.length + rest.length = cap * sz) (T : TypeId) {w1 : World} (hw : w1.heap = w.heap) :
    EntOk (World.more w1 (.cells (vs ++ rest).toArray T (0, 0))) (C.relab F F' w.heap.size) ι' ⟨true, sz, n, w.heap.size, 0, cap⟩ (.lrow sz n mv es) := by
  have hin : ∀ b ∈ F', b < w.heap.size := fun b hb => by obtain ⟨X, p1, _⟩ := pd.cls b (hF b hb); exact (hst.own.some p1).2
  refine ⟨rfl, rfl, rfl, hc, hn, hl, .inr ⟨(vs ++ rest).toArray, T, (0, 0), F', ?_, soft0 _, ?_, hst.czero (Nat.le_refl _), hnd, relab_new hst hF, ?_⟩⟩
  · have := more_new (w := w1) (o := .cells (vs ++ rest).toArray T (0, 0))
    rwa [hw] at this
  · simp; omega
  · refine LEs.of_flat (LCs.of_LVs (hv.mono (fun b hb => by rw [more_old (by rw [hw]; exact hin b hb), hw])) (fun j u hj => ?_))
    have := lt_of_get hj
    simp only [Nat.zero_add, List.getElem?_toArray]
    rw [List.getElem?_append_left this]; exact hj

theorem zero_LVs : ∀ {vs : List V} {z : List D} {M' : Mem} {us : List Value}, zeroL vs = true → freezeL [] vs = some (z, M') → RVs w C ι us vs → LVs w us z []
  | [], z, M', us, _, h, hu => by
    simp [freezeL] at h; obtain ⟨rfl, rfl⟩ := h
    cases us with
    | nil => unfold LVs; rfl
    | cons u us => simp [RVs] at hu
  | v :: vs, z, M', [], _, h, hu => by simp [RVs] at hu
  | v :: vs, z, M', u :: us, hz, h, hu => by
    unfold RVs at hu
    have key : ∀ {x : D}, v = .d x → LT w u x.wk [] → zeroL vs = true → LVs w (u :: us) z [] := by
      intro x hx hl hzz
      subst hx
      simp only [freezeL, freeze1] at h
      cases h1 : freezeL [] vs with
      | none => rw [h1] at h; cases h
      | some p =>
        obtain ⟨ys, M1⟩ := p
        rw [h1] at h; simp at h
        obtain ⟨rfl, _⟩ := h
        unfold LVs
        exact ⟨[], [], rfl, hl, zero_LVs hzz h1 hu.2⟩
    have h1 := hu.1
    unfold zeroL at hz
    split at hz
    · rename_i e; cases e
    · rename_i sz vs' e
      cases e
      refine key rfl ?_ hz
      unfold RV RD at h1
      obtain ⟨a, cap, rfl, h2, h3, h4, h5, _⟩ := h1
      have := h3 rfl; subst this
      show LT w _ (.sl false sz 0 []) []
      unfold LT
      exact ⟨a, 0, rfl, Nat.le_refl _, fun _ => rfl, rfl, h5, .inl ⟨rfl, rfl⟩⟩
    · rename_i e; cases e
      refine key rfl ?_ hz
      unfold RV at h1; exact h1.lt rfl
    · rename_i e; cases e
      refine key rfl ?_ hz
      unfold RV at h1; exact h1.lt rfl
    · rename_i e; cases e
      refine key rfl ?_ hz
      unfold RV at h1; exact h1.lt rfl
    · cases hz

theorem zeros_LVs {z : Array Value} {zd : List D} (hz : LVs w z.toList zd []) : ∀ (k m : Nat), LVs w ((List.range' (m * z.size) (k * z.size)).map fun i => z[i % z.size]!) (List.replicate k zd).flatten []
  | 0, m => by simp [LVs]
  | k + 1, m => by
    have hr : List.range' (m * z.size) ((k + 1) * z.size) = List.range' (m * z.size) z.size ++ List.range' ((m + 1) * z.size) (k * z.size) := by
      rw [show (k + 1) * z.size = z.size + k * z.size by rw [Nat.add_mul, Nat.one_mul]; omega, show (m + 1) * z.size = m * z.size + 1 * z.size by rw [Nat.add_mul]]
      have := List.range'_append (s := m * z.size) (m := z.size) (n := k * z.size) (step := 1)
      simp
    rw [hr, List.map_append, List.replicate_succ, List.flatten_cons]
    refine LVs.append (F := []) (G := []) ?_ (zeros_LVs hz k (m + 1))
    have e : (List.range' (m * z.size) z.size).map (fun i => z[i % z.size]!) = z.toList := by
      apply List.ext_getElem
      · simp
      · intro i h1 h2
        simp at h1
        simp only [List.getElem_map, List.getElem_range', Nat.one_mul]
        rw [Nat.mul_comm, Nat.mul_add_mod, Nat.mod_eq_of_lt h1]
        simp [h1]
    rw [e]; exact hz

theorem make_lrow {t e : TypeId} {T E : TI} (hT : TIok P t T) (hk : T.kind = .sl e) (hE : TIok P e E) (hst : St C ι M w) {n : Int} (hn0 : 0 ≤ n) (hnb : n * E.bytes ≤ maxBytes) {z : List D} {M' : Mem} (hz : freezeL [] E.zero = some (z, M')) (hz0 : zeroL E.zero = true) {k : V → Mem → List Nat → Option R} {r : R}
    (h : k (.own M.length) (M ++ [.lrow E.size n.toNat false (List.replicate n.toNat z)]) [] = some r) {Nx : Value → World → Prop} (hn : Nxt C ι M w k r Nx) :
    ∃ u w', (Instr.makeSlice t (.int .i64 n) (.int .i64 n)).run P w = .ok u w' ∧ Nx u w' := by
  obtain ⟨us, hrun, hus, hzl, _, _, zv, hzv, hzr, heq⟩ := make_run hT hk hE hst hn0 hnb hz
  have lz := zero_LVs (w := w) hz0 hz (hzr w C ι)
  have lv : LVs w us.toList (List.replicate n.toNat z).flatten [] := by
    rw [heq]
    have := zeros_LVs lz n.toNat 0
    simpa using this
  have hent := EntOk.freshL (ι' := ι ++ [⟨true, E.size, n.toNat, w.heap.size, 0, n.toNat⟩]) (mv := false) (vs := us.toList) (rest := []) (es := List.replicate n.toNat z) (sz := E.size) (n := n.toNat) (cap := n.toNat) hst (Pd.nil (C := C)) (F' := []) (fun b hb => hb) (by simp) lv (fun c hc => by rw [List.eq_of_mem_replicate hc]; exact hzl) (by simp) (Nat.le_refl _) (by simp [hus]) e (w1 := w) rfl
  simp only [List.append_nil] at hent
  obtain ⟨s1, s2⟩ := hst.moreL (Pd.nil (C := C)) (F' := []) (fun b hb => hb) (w1 := w) rfl rfl rfl rfl us e (0, 0) ⟨true, E.size, n.toNat, w.heap.size, 0, n.toNat⟩ rfl _ (by simpa using hent)
  refine ⟨_, _, hrun, hn.go h ⟨s1, s2 _, fun i _ hm => mvs_more (hm.elim (fun h => h) False.elim)⟩ ?_⟩
  unfold RV
  rw [← hst.len]
  exact ⟨⟨true, E.size, n.toNat, w.heap.size, 0, n.toNat⟩, by simp, rfl, _, rfl, .inr rfl⟩

/-- A literal's rows. -/
theorem litEsL_ok {sz id : Nat} {M0 : Mem} {C0 : Com} {ι0 : Locs} (h0 : St C0 ι0 M0 w) : ∀ {parts : List (Nat × V)} {vals : List (Nat × Value)} {i : Nat} {ks0 : List Nat} {M : Mem} {es : List (List D)} {M' : Mem} {ks : List Nat} {C : Com} {ι : Locs} {us : Array Value} {done : List D} {Fd : List Nat}, litEsL sz M id i ks0 parts = some (es, M', ks) → vals.map (·.1) = parts.map (·.1) → St C ι M w → Go1 C0 ι0 M0 w C ι M w (· ∈ ks0) → RVs w C0 ι0 (vals.map (·.2)) (parts.map (·.2)) →
      us.size = (i + parts.length) * sz → LVs w (us.toList.take (i * sz)) done Fd → Pd C Fd → (∀ k ∈ ks0, k ≠ id) →
      ∃ (us' : Array Value) (C' : Com) (ι' : Locs) (F' : List Nat), Instr.fill (fun i => some (i * sz, sz)) us vals = some us' ∧ Go1 C0 ι0 M0 w C' ι' M' w (· ∈ ks) ∧ us'.size = us.size ∧ LVs w us'.toList (done ++ es.flatten) F' ∧ Pd C' F' ∧ es.length = parts.length ∧ (∀ c ∈ es, c.length = sz) ∧ M'.length = M.length
  | [], [], i, ks0, M, es, M', ks, C, ι, us, done, Fd, h, _, hst, g, _, hs, hd, pd, _ => by
    simp [litEsL] at h; obtain ⟨rfl, rfl, rfl⟩ := h
    refine ⟨us, C, ι, Fd, rfl, g, rfl, ?_, pd, rfl, fun c hc => by simp at hc, rfl⟩
    simp at hs
    have : us.toList.take (i * sz) = us.toList := List.take_of_length_le (by simp [hs])
    rw [this] at hd
    simpa using hd
  | [], _ :: _, _, _, _, _, _, _, _, _, _, _, _, _, h, _, _, _, _, _, _, _ => by simp at h
  | _ :: _, [], _, _, _, _, _, _, _, _, _, _, _, _, h, _, _, _, _, _, _, _ => by simp at h
  | (j, v) :: parts, (j', u) :: vals, i, ks0, M, es, M', ks, C, ι, us, done, Fd, h, he, hst, g, hv, hs, hd, pd, hks => by
    simp only [List.map_cons, List.cons.injEq] at he
    obtain ⟨hij, he⟩ := he
    try simp only at hij
    subst hij
    simp only [List.map_cons] at hv
    unfold RVs at hv
    simp only [litEsL] at h
    obtain ⟨hc, h'⟩ := bif_some h
    clear h
    have h := h'
    clear h'
    simp only [Bool.and_eq_true] at hc
    obtain ⟨h1, h2, h3, h4⟩ := hc
    have h1 := Nat.eq_of_beq_eq_true h1
    have h3 := Nat.eq_of_beq_eq_true h3
    subst h1
    cases hf : absorbL M id ks0 v.cells with
    | none => rw [hf] at h; cases h
    | some p =>
      obtain ⟨c, M1, ks1⟩ := p
      rw [hf] at h; simp only at h
      cases hr : litEsL sz M1 id (i + 1) ks1 parts with
      | none => rw [hr] at h; cases h
      | some q =>
        obtain ⟨es1, M2, ks2⟩ := q
        rw [hr] at h
        simp only [Option.some.injEq, Prod.mk.injEq] at h
        obtain ⟨rfl, rfl, rfl⟩ := h
        have hcells := hv.1.cells h2
        have hlen := hcells.length
        obtain ⟨C1, ι1, F1, g1, r1, p1, l1, k1, m1⟩ := absorbL_ok hf h0 hst g hcells pd hks
        have hst1 := g1.st
        have hus : us.size = i * sz + sz + parts.length * sz := by rw [hs]; simp only [List.length_cons, Nat.add_mul, Nat.one_mul]; omega
        have hput := putW_eq u.cells.toList us.toList (i * sz) (by simp at hlen ⊢; omega)
        have hcl : u.cells.size = sz := by simp at hlen; omega
        let us1 : Array Value := u.cells.zipIdx.foldl (fun (cs : Array Value) (c, j) => cs.setIfInBounds (i * sz + j) c) us
        have hus1 : us1.toList = us.toList.take (i * sz) ++ u.cells.toList ++ us.toList.drop (i * sz + u.cells.toList.length) := by
          rw [← hput]; exact fill_cells _ _ _
        have hus1s : us1.size = us.size := by
          have := congrArg List.length hus1
          simp at this ⊢; omega
        obtain ⟨us', C2, ι2, F2, e1, g2, e2, e3, e3', e4, e5, e6⟩ := litEsL_ok h0 hr he hst1 g1 hv.2 (us := us1) (done := done ++ c) (Fd := Fd ++ F1) (by rw [hus1s, hs]; simp only [List.length_cons, Nat.add_mul, Nat.one_mul]; omega) (by
          rw [hus1, show (i + 1) * sz = i * sz + sz by rw [Nat.add_mul, Nat.one_mul]]
          have e0 : (us.toList.take (i * sz) ++ u.cells.toList).length = i * sz + sz := by simp; omega
          rw [List.take_append_of_le_length (by omega), List.take_of_length_le (by omega)]
          exact LVs.append hd r1) p1 k1
        have hcl2 : c.length = sz := by have := r1.length; simp at this; omega
        refine ⟨us', C2, ι2, F2, ?_, g2, e2.trans hus1s, by simpa using e3, e3', by simp [e4], ?_, e6.trans m1⟩
        · simp only [Instr.fill]
          rw [if_neg (by simp; omega)]
          exact e1
        · intro c' hc'
          cases hc' with
          | head => exact hcl2
          | tail _ hc' => exact e5 c' hc'

/-- The cells of a list that is under way. -/
theorem LT.cells {u : Value} {f : Bool} {sz n : Nat} {es : List (List D)} {F : List Nat} (h : LT w u (.sl f sz n es) F) (hnd : F.Nodup) :
    es.length = n ∧ (∀ c ∈ es, c.length = sz) ∧ (∀ w' : World, (Builtin.lenOf u).run P w' = .ok n w') ∧ ∃ (news : List Value) (Fn : List Nat), (∀ w' : World, w'.heap = w.heap → (Builtin.firstCells sz n u).run P w' = .ok news.toArray w') ∧ news.length = n * sz ∧ LVs w news es.flatten Fn ∧ Fn.Nodup ∧ ∀ b ∈ Fn, b ∈ F := by
  unfold LT at h
  obtain ⟨a, cap, rfl, h1, _, h3, h4, h5⟩ := h
  refine ⟨h3, h4, fun _ => rfl, ?_⟩
  rcases h5 with ⟨hc, rfl⟩ | ⟨b, off, F', rfl, rfl, us, T, fr, hh, _, hz, he⟩
  · have hn : n = 0 := by omega
    subst hn
    have : es = [] := List.eq_nil_of_length_eq_zero h3
    subst this
    exact ⟨[], [], fun w' _ => by cases a <;> simp [Builtin.firstCells, loadCells, loadCellsFrom] <;> rfl, by simp, by simp [LVs], by simp, fun b hb => hb⟩
  · obtain ⟨news, l1, l2⟩ := LVs.of_LCs (LEs.flat h4 he)
    have hlen : news.length = n * sz := by rw [l1.length, flat_len h4, h3]
    refine ⟨news, F', fun w' hw => ?_, hlen, l1, (List.nodup_cons.1 hnd).2, fun b hb => by simp [hb]⟩
    show (loadCells ⟨b, off, none⟩ (n * sz)).run P w' = _
    rw [← hlen]
    exact run_loadCells_list w' _ news (fun j v hj => by
      rw [add_at]
      have := l2 j v hj
      simp only [World.cell?, hw, hh]; simpa using this)

theorem append_l {t e : TypeId} {T E : TI} (hT : TIok P t T) (hk : T.kind = .sl e) (hE : TIok P e E) {ts : Array TypeId} {ty : TypeId} (hts : ts[0]? = some t) (hz : ∃ u d, ts[1]? = some u ∧ (∀ w, (underlying u).run P w = .ok d w) ∧ (∀ k, d ≠ .int k))
    (hst : St C ι M w) {id sz n : Nat} {mv : Bool} {es : List (List D)} (hM : M[id]? = some (.lrow sz n mv es)) (hsz : sz = E.size) {L : Loc} (hL : ι[id]? = some L) {a : Option Addr} (ha : L.cap = 0 ∨ a = some ⟨L.b, L.base, none⟩)
    {x : Value} {m : Nat} {xs : List (List D)} (hxl : xs.length = m) (hx5 : ∀ c ∈ xs, c.length = sz) (hlx : ∀ w', (Builtin.lenOf x).run P w' = .ok m w') {news : List Value} (hnew : ∀ w' : World, w'.heap = w.heap → (Builtin.firstCells sz m x).run P w' = .ok news.toArray w') (hn : news.length = m * sz)
    {Fp Fn : List Nat} (pd : Pd C Fp) (hFn : ∀ b ∈ Fn, b ∈ Fp) (hnd : Fn.Nodup) (lv : LVs w news xs.flatten Fn)
    (hb : (n + m) * E.bytes ≤ maxBytes) :
    ∃ u C' ι' w', (Builtin.append_ ts ty #[.slice a n L.cap, x]).run P w = .ok u w' ∧ Go1 C ι M w C' ι' (killM [id] (M.set id (.lrow sz (n + m) true (es ++ xs)))) w' (· ∈ [id]) ∧ RV w' C' ι' u (.own id) := by
  obtain ⟨hrow, q1, q2, q3, q4, q5, q6⟩ := hst.ent id L _ hL hM
  have hltid := lt_of_get hL
  have hxe : ∀ c ∈ es ++ xs, c.length = sz := fun c' hc' => by
    rcases List.mem_append.1 hc' with h | h
    · exact q5 c' h
    · exact hx5 c' h
  by_cases hin : n + m ≤ L.cap
  · obtain ⟨u, d, hu, hd, hnd'⟩ := hz
    have hni : (match d with | .int _ => true | _ => false) = false := by
      cases d <;> first | rfl | exact absurd rfl (hnd' _)
    have hrun : (Builtin.append_ ts ty #[.slice a n L.cap, x]).run P w = ((match a with | some a => storeCells (a.add (n * sz)) news | none => pure () : Sem Unit).run P w).andThen fun _ w' => .ok (.slice a (n + m) L.cap) w' := by
      unfold Builtin.append_
      simp only [hts, hu, List.getElem?_toArray, List.getElem?_cons_zero, List.getElem?_cons_succ, Sem.run_bind, Sem.run_pure, Result.andThen_ok, hT.sl hk, hE.size, hd]
      simp only [hni, Bool.false_eq_true, if_false, Result.andThen_ok, Bool.not_false, if_true, Sem.run_bind, hlx]
      rw [if_pos hin]
      simp only [Sem.run_bind]
      rw [← hsz, hnew w rfl]
      cases a with
      | none => rfl
      | some a => simp only [Result.andThen_ok, Sem.run_bind]; rfl
    by_cases hc0 : L.cap = 0
    · have hm0 : m = 0 := by omega
      have hn0 : n = 0 := by omega
      subst hm0 hn0
      have hxs : xs = [] := List.eq_nil_of_length_eq_zero hxl
      have hes : es = [] := List.eq_nil_of_length_eq_zero q4
      have hnews : news = [] := List.eq_nil_of_length_eq_zero (by omega)
      subst hxs hnews hes
      let L' : Loc := ⟨true, sz, 0, 0, 0, 0⟩
      have hnl : ¬ L'.located := by simp [Loc.located, L']
      have u' : Upd C ι w id L L' C w := ⟨rfl, hst.own, rfl, rfl, rfl, Nat.le_refl _, hL, .refl _ _, fun _ _ _ => ⟨rfl, rfl⟩, fun hl => absurd hl hnl, hrow.symm, q1.symm, hst.com⟩
      have hres : (Builtin.append_ ts ty #[.slice a 0 L.cap, x]).run P w = .ok (.slice a 0 L.cap) w := by
        rw [hrun]; cases a <;> rfl
      rw [hc0] at hres ⊢
      refine ⟨_, C, ι.set id L', w, hres, ⟨u'.st hst _ (.inr ⟨_, _, _, _, rfl⟩) ?_, u'.stp (.inr (by simp)), fun i _ hm => mvs_kill hM rfl hm⟩, ?_⟩
      · exact ⟨rfl, rfl, rfl, Nat.le_refl _, by simp, fun c hc => by simp at hc, .inl rfl⟩
      · unfold RV
        exact ⟨L', by simp [hltid], rfl, a, rfl, .inl rfl⟩
    · have ha := ha.resolve_left hc0
      subst ha
      rcases q6 with q6 | ⟨us, T', fr, F, hh, hsoft, hz', hC, hndF, ho, hre⟩
      · exact absurd q6 hc0
      have hloc : L.located := .inr hc0
      have hcb : (n + m) * sz ≤ L.cap * sz := Nat.mul_le_mul_right _ hin
      rw [Nat.add_mul] at hcb
      obtain ⟨w', hr, e1, e2, e3, e4, e5, e6⟩ := run_storeCells' (P := P) L.b (L.base + n * sz) T' fr news 0 us w hh hsoft (by omega) lv.one
      simp only [Nat.add_zero] at e6
      have hsz' : (us.toList.take (L.base + n * sz) ++ news ++ us.toList.drop (L.base + n * sz + news.length)).toArray.size = us.size := by simp; omega
      have gg : ∀ o, (us.toList.take (L.base + n * sz) ++ news ++ us.toList.drop (L.base + n * sz + news.length)).toArray[o]? = if L.base + n * sz ≤ o ∧ o < L.base + n * sz + news.length then news[o - (L.base + n * sz)]? else us[o]? := by
        intro o
        have := seg_get (us := us.toList) (vs := news) (off := L.base + n * sz) (o := o) (by simp; omega)
        simpa using this
      let S := F ++ Fp
      let F' := F ++ Fn
      have hF : ∀ b ∈ F', b ∈ S := fun b hb => by
        rcases List.mem_append.1 hb with hb | hb
        · exact List.mem_append.2 (.inl hb)
        · exact List.mem_append.2 (.inr (hFn b hb))
      have hcls : Cls C S L.b := by
        refine ⟨fun c hc => ?_⟩
        rcases List.mem_append.1 hc with hc | hc
        · exact ⟨L.b, (ho c).2 hc, .inl rfl, fun b' hb' => List.mem_append.2 (.inl ((ho b').1 hb'))⟩
        · obtain ⟨X, p1, p2, p3⟩ := pd.cls c hc
          exact ⟨X, p1, .inr p2, fun b' hb' => List.mem_append.2 (.inr (p3 b' hb'))⟩
      have hne : ∀ b ∈ S, b ≠ L.b := by
        intro b hb e
        obtain ⟨X, p1, _⟩ := hcls.cls b hb
        exact (hst.own _ _ p1).2.2.2.2 id L hL hloc e.symm
      let L' : Loc := ⟨true, sz, n + m, L.b, L.base, L.cap⟩
      have u' : UpdG C ι w id L L' (C.relab S F' L.b) w' := lput hst hL hcls hF (.inl ⟨hloc, rfl⟩) (.inl ⟨hloc, rfl⟩) (fun _ => rfl) (fun _ => hC) hrow.symm q1.symm e1 e2 e3 (by omega) (fun b _ hb => e5 b (hb hloc))
      have hS : ∀ b, C.own b = some L.b → b ∈ S := fun b hb => List.mem_append.2 (.inl ((ho b).1 hb))
      have hnd2 : F'.Nodup := by
        rw [List.nodup_append]
        refine ⟨hndF, hnd, fun c hc b hb e => ?_⟩
        subst e
        obtain ⟨X, p1, p2, _⟩ := pd.cls c (hFn c hb)
        rw [(ho c).2 hc] at p1
        cases p1
        exact (hst.own _ _ p2).2.2.2.2 id L hL hloc rfl
      have hres : (Builtin.append_ ts ty #[.slice (some ⟨L.b, L.base, none⟩) n L.cap, x]).run P w = .ok (.slice (some ⟨L.b, L.base, none⟩) (n + m) L.cap) w' := by
        rw [hrun]; simp only [add_at, hr, Result.andThen_ok]
      refine ⟨_, _, ι.set id L', w', hres, ⟨u'.st hst _ (.inr ⟨_, _, _, _, rfl⟩) ?_, u'.stp (.inr (by simp)), fun i _ hm => mvs_kill hM rfl hm⟩, ?_⟩
      · refine ⟨rfl, rfl, rfl, hin, by simp [q4, hxl], hxe, .inr ⟨_, T', fr, F', e6, hsoft.of_size hsz', by rw [hsz']; exact hz', hC, hnd2, relab_iff hF hS, ?_⟩⟩
        refine (LEs.append (sz := sz) q5).2 ⟨F, Fn, rfl, ?_, ?_⟩
        · refine LEs.cong (sz := sz) (g := fun o => us[o]?) q5 (fun o o1 o2 => ?_) (hre.mono _ (fun b hb => e5 b (hne b (List.mem_append.2 (.inl hb)))))
          rw [q4] at o2
          have o2 : o < L.base + n * sz := o2
          show _ = _; rw [gg, if_neg (by omega)]
        · refine LEs.of_flat (LCs.of_LVs (lv.mono (fun b hb => e5 b (hne b (List.mem_append.2 (.inr (hFn b hb)))))) (fun q v hq => ?_))
          have hql := lt_of_get hq
          rw [q4]
          show (List.toArray _)[L.base + n * sz + q]? = _
          rw [gg, if_pos (by omega), show L.base + n * sz + q - (L.base + n * sz) = q by omega]; exact hq
      · unfold RV
        exact ⟨L', by simp [hltid], rfl, _, rfl, .inr rfl⟩
  · -- a new block
    obtain ⟨olds, F, ho1, ho2, ho3, hndF, hFo, hcap0⟩ : ∃ (olds : List Value) (F : List Nat), (∀ w' : World, w'.heap = w.heap → (Builtin.firstCells sz n (.slice a n L.cap)).run P w' = .ok olds.toArray w') ∧ olds.length = n * sz ∧ LVs w olds es.flatten F ∧ F.Nodup ∧ ((L.cap = 0 ∧ F = []) ∨ (L.cap ≠ 0 ∧ ∀ b, C.own b = some L.b ↔ b ∈ F)) ∧ (L.located → C L.b = 0) := by
      by_cases hc0 : L.cap = 0
      · have hn0 : n = 0 := by omega
        subst hn0
        have hes : es = [] := List.eq_nil_of_length_eq_zero q4
        subst hes
        refine ⟨[], [], fun w' _ => by cases a <;> simp [Builtin.firstCells, loadCells, loadCellsFrom] <;> rfl, by simp, by simp [LVs], by simp, .inl ⟨hc0, rfl⟩, fun hl => ?_⟩
        rcases hl with hl | hl
        · rw [hrow] at hl; cases hl
        · exact absurd hc0 hl
      · have ha := ha.resolve_left hc0
        subst ha
        rcases q6 with q6 | ⟨us, T', fr, F, hh, hsoft, hz', hC, hndF, ho, hre⟩
        · exact absurd q6 hc0
        obtain ⟨olds, l1, l2⟩ := LVs.of_LCs (LEs.flat q5 hre)
        have hlen : olds.length = n * sz := by rw [l1.length, flat_len q5, q4]
        refine ⟨olds, F, fun w' hw => ?_, hlen, l1, hndF, .inr ⟨hc0, ho⟩, fun _ => hC⟩
        show (loadCells ⟨L.b, L.base, none⟩ (n * sz)).run P w' = _
        rw [← hlen]
        exact run_loadCells_list w' _ olds (fun j v hj => by
          rw [add_at]
          have := l2 j v hj
          simp only [World.cell?, hw, hh]; simpa using this)
    subst hsz
    obtain ⟨cap, rest, hcge, hrl, hrun⟩ := run_append_grow (P := P) (w := w) hT hk hE (ts := ts) (ty := ty) hts hz (a := a) (n := n) (c := L.cap) hlx ho1 hnew (by omega) hb ho2 hn
    let L' : Loc := ⟨true, E.size, n + m, w.heap.size, 0, cap⟩
    let S := F ++ Fp
    let F' := F ++ Fn
    have hF : ∀ b ∈ F', b ∈ S := fun b hb => by
      rcases List.mem_append.1 hb with hb | hb
      · exact List.mem_append.2 (.inl hb)
      · exact List.mem_append.2 (.inr (hFn b hb))
    have hlive : F ≠ [] → L.cap ≠ 0 ∧ ∀ b, C.own b = some L.b ↔ b ∈ F := fun hf => by
      rcases hFo with ⟨_, h⟩ | h
      · exact absurd h hf
      · exact h
    -- the old label, if there is one
    let B1 : Nat := if L.cap = 0 then w.heap.size else L.b
    have hB1 : (L.located ∧ B1 = L.b) ∨ w.heap.size ≤ B1 := by
      by_cases hc0 : L.cap = 0
      · exact .inr (by simp [B1, hc0])
      · exact .inl ⟨.inr hc0, by simp [B1, hc0]⟩
    have hcls : Cls C S B1 := by
      refine ⟨fun c hc => ?_⟩
      rcases List.mem_append.1 hc with hc | hc
      · obtain ⟨h1, h2⟩ := hlive (fun e => by rw [e] at hc; simp at hc)
        exact ⟨L.b, (h2 c).2 hc, .inl (by simp [B1, h1]), fun b' hb' => List.mem_append.2 (.inl ((h2 b').1 hb'))⟩
      · obtain ⟨X, p1, p2, p3⟩ := pd.cls c hc
        exact ⟨X, p1, .inr p2, fun b' hb' => List.mem_append.2 (.inr (p3 b' hb'))⟩
    have hnewl : ∀ b, (C.relab S F' w.heap.size).own b = some w.heap.size ↔ b ∈ F' := relab_iff hF (fun b hb => by have := (hst.own _ _ hb).1; omega)
    have hSlt : ∀ b ∈ S, b < w.heap.size := fun b hb => by obtain ⟨X, p1, _⟩ := hcls.cls b hb; exact (hst.own.some p1).2
    have hheap : ∀ b, b < w.heap.size → (World.more (World.drew1 w) (.cells (olds ++ news ++ rest).toArray e (0, 0))).heap[b]? = w.heap[b]? := fun b hb => more_old (w := World.drew1 w) hb
    have hsize : (World.more (World.drew1 w) (.cells (olds ++ news ++ rest).toArray e (0, 0))).heap.size = w.heap.size + 1 := by simp [World.more, World.drew1]
    have u' : UpdG C ι w id L L' (C.relab S F' w.heap.size) (World.more (World.drew1 w) (.cells (olds ++ news ++ rest).toArray e (0, 0))) :=
      lput hst hL hcls hF hB1 (.inr ⟨Nat.le_refl _, by omega⟩) (fun _ => rfl) hcap0 hrow.symm q1.symm rfl rfl rfl (by omega) (fun b hb _ => hheap b hb)
    have hnd2 : F'.Nodup := by
      rw [List.nodup_append]
      refine ⟨hndF, hnd, fun c hc b hb e => ?_⟩
      subst e
      obtain ⟨X, p1, p2, _⟩ := pd.cls c (hFn c hb)
      obtain ⟨h1, h2⟩ := hlive (fun e => by rw [e] at hc; simp at hc)
      rw [(h2 c).2 hc] at p1
      cases p1
      exact (hst.own _ _ p2).2.2.2.2 id L hL (.inr h1) rfl
    have hlen2 : (olds ++ news).length + rest.length = cap * E.size := by
      rw [List.length_append, ho2, hn, hrl, ← Nat.add_mul, ← Nat.add_mul]; congr 1; omega
    refine ⟨_, _, ι.set id L', _, hrun, ⟨u'.st hst _ (.inr ⟨_, _, _, _, rfl⟩) ?_, u'.stp (.inr (by simp)), fun i _ hm => mvs_kill hM rfl hm⟩, ?_⟩
    · refine ⟨rfl, rfl, rfl, hcge, by simp [q4, hxl], hxe, .inr ⟨(olds ++ news ++ rest).toArray, e, (0, 0), F', more_new (w := World.drew1 w), soft0 _, ?_, hst.czero (Nat.le_refl _), hnd2, hnewl, ?_⟩⟩
      · show 0 + cap * E.size ≤ _
        simp at hlen2 ⊢; omega
      · refine LEs.of_flat ?_
        rw [List.flatten_append]
        refine LCs.of_LVs ((LVs.append ho3 lv).mono (fun b hb => hheap b (hSlt b (hF b hb)))) (fun q v hq => ?_)
        have hql := lt_of_get hq
        show (List.toArray _)[0 + q]? = _
        simp only [Nat.zero_add, List.getElem?_toArray]
        rw [List.getElem?_append_left hql]; exact hq
    · unfold RV
      exact ⟨L', by simp [hltid], rfl, _, rfl, .inr rfl⟩
end
end Go.Ev

/-
  Rows that all their trees belong to: append told whole.
-/
namespace Go.Ev
open Go

theorem flatL_append : ∀ {a b : List D}, flatL (a ++ b) = (flatL a && flatL b)
  | [], _ => rfl
  | x :: a, b => by simp [flatL, flatL_append (a := a), Bool.and_assoc]
theorem flatEs_flat : ∀ {es : List (List D)}, flatEs es = true → flatL es.flatten = true
  | [], _ => rfl
  | c :: es, h => by
    simp only [flatEs, Bool.and_eq_true] at h
    simp only [List.flatten_cons]
    rw [flatL_append, h.1, flatEs_flat h.2]; rfl

section
variable {R : Type} {P : Program} {C : Com} {ι : Locs} {M : Mem} {w : World}

/-- Something is put behind nothing. -/
theorem append_nil {t e : TypeId} {T E : TI} (hT : TIok P t T) (hk : T.kind = .sl e) (hE : TIok P e E) {ts : Array TypeId} {ty : TypeId} (hts : ts[0]? = some t) (hz : ∃ u d, ts[1]? = some u ∧ (∀ w, (underlying u).run P w = .ok d w) ∧ (∀ k, d ≠ .int k))
    (hst : St C ι M w) {szz : Nat} {ess : List (List D)} {sv : Value} (hs : RV w C ι sv (.d (.sl true szz 0 ess)))
    {x : Value} {m : Nat} {xs : List (List D)} (hxl : xs.length = m) (hx5 : ∀ c ∈ xs, c.length = E.size) (hlx : ∀ w', (Builtin.lenOf x).run P w' = .ok m w') {news : List Value} (hnew : ∀ w' : World, w'.heap = w.heap → (Builtin.firstCells E.size m x).run P w' = .ok news.toArray w') (hn : news.length = m * E.size)
    {Fp Fn : List Nat} (pd : Pd C Fp) (hFn : ∀ b ∈ Fn, b ∈ Fp) (hnd : Fn.Nodup) (lv : LVs w news xs.flatten Fn)
    (hb : m * E.bytes ≤ maxBytes) :
    ∃ u C' ι' w', (Builtin.append_ ts ty #[sv, x]).run P w = .ok u w' ∧ Go1 C ι M w C' ι' (M ++ [.lrow E.size m false xs]) w' (fun _ => False) ∧ RV w' C' ι' u (.own M.length) := by
  unfold RV RD at hs
  obtain ⟨a, c, rfl, _, hf, _⟩ := hs
  have hc0 := hf rfl; subst hc0
  by_cases hm : m = 0
  · subst hm
    have hxs : xs = [] := List.eq_nil_of_length_eq_zero hxl
    have hnews : news = [] := List.eq_nil_of_length_eq_zero (by omega)
    subst hxs hnews
    obtain ⟨u, d, hu, hd, hnd⟩ := hz
    have hni : (match d with | .int _ => true | _ => false) = false := by
      cases d <;> first | rfl | exact absurd rfl (hnd _)
    have hrun : (Builtin.append_ ts ty #[.slice a 0 0, x]).run P w = .ok (.slice a 0 0) w := by
      unfold Builtin.append_
      simp only [hts, hu, List.getElem?_toArray, List.getElem?_cons_zero, List.getElem?_cons_succ, Sem.run_bind, Sem.run_pure, Result.andThen_ok, hT.sl hk, hE.size, hd]
      simp only [hni, Bool.false_eq_true, if_false, Result.andThen_ok, Bool.not_false, if_true, Sem.run_bind, hlx]
      rw [if_pos (Nat.le_refl _)]
      simp only [Sem.run_bind, hnew w rfl]
      cases a <;> rfl
    obtain ⟨s1, s2⟩ := hst.nilE E.size (.lrow E.size 0 false []) (fun _ => ⟨rfl, rfl, rfl, Nat.le_refl _, rfl, fun c hc => by simp at hc, .inl rfl⟩)
    refine ⟨_, _, _, w, hrun, ⟨s1, s2 _, fun i _ hm => mvs_more (hm.elim (fun h => h) False.elim)⟩, ?_⟩
    unfold RV
    rw [← hst.len]
    exact ⟨⟨true, E.size, 0, 0, 0, 0⟩, by simp, rfl, a, rfl, .inl rfl⟩
  · obtain ⟨cap, rest, hcge, hrl, hrun⟩ := run_append_grow (P := P) (w := w) hT hk hE (ts := ts) (ty := ty) hts hz (a := a) (n := 0) (c := 0) hlx (olds := []) (fun w' _ => by cases a <;> simp [Builtin.firstCells, loadCells, loadCellsFrom] <;> rfl) hnew (by omega) (by simpa using hb) (by simp) hn
    simp only [Nat.zero_add, List.nil_append] at hrun hcge hrl
    have hent := EntOk.freshL (ι' := ι ++ [⟨true, E.size, m, w.heap.size, 0, cap⟩]) (mv := false) (rest := rest) hst pd hFn hnd lv hx5 hxl hcge (by rw [hn, hrl, ← Nat.add_mul]; congr 1; omega) e (w1 := World.drew1 w) rfl
    obtain ⟨s1, s2⟩ := hst.moreL pd hFn (w1 := World.drew1 w) rfl rfl rfl rfl (news ++ rest).toArray e (0, 0) ⟨true, E.size, m, w.heap.size, 0, cap⟩ rfl _ hent
    refine ⟨_, _, _, _, hrun, ⟨s1, s2 _, fun i _ hm => mvs_more (hm.elim (fun h => h) False.elim)⟩, ?_⟩
    unfold RV
    rw [← hst.len]
    exact ⟨⟨true, E.size, m, w.heap.size, 0, cap⟩, by simp, rfl, _, rfl, .inr rfl⟩

theorem evAppendL_ok {t e : TypeId} {T E : TI} (hT : TIok P t T) (hk : T.kind = .sl e) (hE : TIok P e E) {ts : Array TypeId} {ty : TypeId} (hts : ts[0]? = some t) (hz : ∃ u d, ts[1]? = some u ∧ (∀ w, (underlying u).run P w = .ok d w) ∧ (∀ k, d ≠ .int k))
    (hst : St C ι M w) {s x : V} {k : V → Mem → List Nat → Option R} {r : R} (h : evAppendL E M s x k = some r) {sv xv : Value} (hs : RV w C ι sv s) (hx : RV w C ι xv x) :
    ∃ u v M' ks C' ι' w', (Builtin.append_ ts ty #[sv, xv]).run P w = .ok u w' ∧ Go1 C ι M w C' ι' M' w' (· ∈ ks) ∧ RV w' C' ι' u v ∧ k v M' ks = some r := by
  unfold evAppendL at h
  split at h
  · rename_i j
    simp only [getM] at h
    split at h
    · rename_i sz m mvj xs hMj
      obtain ⟨hsz, h'⟩ := bif_some h; clear h; have h := h'; clear h'
      have hsz := Nat.eq_of_beq_eq_true hsz
      obtain ⟨C1, ι1, F1, g1, t1, pd, hlim⟩ := give hst hMj hx Pd.nil
      simp only [List.nil_append] at pd
      obtain ⟨hxl, hx5, hlx, news, Fn, hnew, hn, lv, hnd, hFn⟩ := t1.cells (P := P) pd.nd
      split at h
      · rename_i id
        cases hij : Nat.beq id j with
        | true => rw [hij] at h; cases h
        | false =>
          rw [hij] at h
          simp only [cond_false] at h
          have hij : id ≠ j := fun e => by subst e; rw [Nat.beq_refl] at hij; cases hij
          split at h
          · rename_i sz2 n mv es hM
            obtain ⟨hsz2, h'⟩ := bif_some h; clear h; have h := h'; clear h'
            have hsz2 := Nat.eq_of_beq_eq_true hsz2
            obtain ⟨hb, h'⟩ := oguard_some h; clear h; have h := h'; clear h'
            have hb := of_decide_eq_true hb
            rw [olet_eq] at h
            obtain ⟨L, a, hL, hr, e1, e2, rfl, ha, hnc⟩ := hs.own_lrow hst hM
            have hM1 : (killM [j] (M.set j (.lrow sz 0 true [])))[id]? = some (.lrow sz2 n mv es) := by
              rw [killM_get, List.getElem?_set_ne (fun h => hij h.symm), hM]; rfl
            have hL1 := g1.stp.same id L hL (by simp [hij])
            have hss : sz = sz2 := hsz.trans hsz2.symm
            subst hss
            obtain ⟨u, C2, ι2, w', h1, h2, h3⟩ := append_l (P := P) hT hk hE (ty := ty) hts hz g1.st hM1 hsz2 hL1 (a := a) ha hxl hx5 hlx hnew hn pd hFn hnd lv hb
            exact ⟨u, _, _, _, C2, ι2, w', h1, g1.trans hst h2 (fun i => by simp), h3, h⟩
          · cases h
      · rename_i szz ess
        obtain ⟨hb, h'⟩ := oguard_some h; clear h; have h := h'; clear h'
        have hb := of_decide_eq_true hb
        have hs1 : RV w C1 ι1 sv (.d (.sl true szz 0 ess)) := by
          unfold RV at hs ⊢; exact hs.mono g1.stp.keeps
        obtain ⟨u, C2, ι2, w', h1, h2, h3⟩ := append_nil (P := P) hT hk hE (ty := ty) hts hz g1.st hs1 hxl (fun c hc => (hx5 c hc).trans hsz) hlx (by rw [← hsz]; exact hnew) (by rw [← hsz]; exact hn) pd hFn hnd lv hb
        have hlen : (killM [j] (M.set j (.lrow sz 0 true []))).length = M.length := by simp [killM_len]
        rw [hlen] at h3
        subst hsz
        exact ⟨u, _, _, _, C2, ι2, w', h1, g1.trans hst h2 (fun i => by simp), h3, h⟩
      · cases h
    · rename_i cs hMj
      obtain ⟨hc, h'⟩ := bif_some h; clear h; have h := h'; clear h'
      rw [Bool.and_eq_true] at hc
      have hcl := Nat.eq_of_beq_eq_true hc.1
      have hx' := hx
      unfold RV at hx'
      obtain ⟨Lj, hLj, hrj, aj, rfl, haj⟩ := hx'
      obtain ⟨hbx, hCj, us, T', fr, hh, hsoft, hv⟩ := hst.ent j Lj _ hLj hMj
      rcases hbx with hbx | ⟨_, b1, b2, b3, b4, b5⟩
      · rw [hrj] at hbx; cases hbx
      have haj := haj.resolve_left (by omega)
      subst haj
      rw [b2, b3, b4] at hx ⊢
      have hul := hv.length
      have hlx : ∀ w' : World, (Builtin.lenOf (.slice (some ⟨Lj.b, 0, none⟩) 1 1)).run P w' = .ok 1 w' := fun _ => rfl
      have hnew : ∀ w' : World, w'.heap = w.heap → (Builtin.firstCells E.size 1 (.slice (some ⟨Lj.b, 0, none⟩) 1 1)).run P w' = .ok us.toList.toArray w' := fun w' hw => by
        show (loadCells ⟨Lj.b, 0, none⟩ (1 * E.size)).run P w' = _
        rw [show 1 * E.size = us.toList.length by omega]
        exact run_loadCells_list w' _ us.toList (fun q v hq => by
          rw [add_at]
          simp only [World.cell?, hw, hh, Nat.zero_add]; simpa using hq)
      split at h
      · rename_i id
        cases hij : Nat.beq id j with
        | true => rw [hij] at h; cases h
        | false =>
          rw [hij] at h
          simp only [cond_false] at h
          cases hf : absorbL M id [] cs with
          | none => rw [hf] at h; cases h
          | some p =>
            obtain ⟨c, M1, ks⟩ := p
            rw [hf] at h
            simp only at h
            obtain ⟨C1, ι1, Fp, g1, lv, pd, hlim, hks, _⟩ := absorbL_ok hf hst hst (Go1.refl' hst) hv Pd.nil (fun k hk => by simp at hk)
            simp only [List.nil_append] at pd
            split at h
            · rename_i sz2 n mv es hM
              obtain ⟨hsz2, h'⟩ := bif_some h; clear h; have h := h'; clear h'
              have hsz2 := Nat.eq_of_beq_eq_true hsz2
              obtain ⟨hb, h'⟩ := oguard_some h; clear h; have h := h'; clear h'
              have hb := of_decide_eq_true hb
              rw [olet_eq] at h
              have hs1 : RV w C1 ι1 sv (.own id) := by
                unfold RV at hs ⊢
                obtain ⟨L, hL, r⟩ := hs
                exact ⟨L, g1.stp.same id L hL (fun hm => hks id hm rfl), r⟩
              obtain ⟨L, a, hL, hr, e1, e2, rfl, ha, hnc⟩ := hs1.own_lrow g1.st hM
              have hcz : c.length = sz2 := by rw [← lv.length, hsz2]; omega
              obtain ⟨u, C2, ι2, w', h1, h2, h3⟩ := append_l (P := P) hT hk hE (ty := ty) hts hz g1.st hM hsz2 hL (a := a) ha (m := 1) (xs := [c]) rfl (fun c' hc' => by rw [List.mem_singleton.1 hc']; exact hcz) hlx (by rw [hsz2]; exact hnew) (by rw [hsz2]; omega) pd (fun b hb => hb) pd.nd (by simpa using lv) hb
              exact ⟨u, _, _, _, C2, ι2, w', h1, g1.trans hst h2 (fun i => by simp), h3, h⟩
            · cases h
      · rename_i szz ess
        cases hf : absorbL M M.length [] cs with
        | none => rw [hf] at h; cases h
        | some p =>
          obtain ⟨c, M1, ks⟩ := p
          rw [hf] at h
          simp only at h
          obtain ⟨C1, ι1, Fp, g1, lv, pd, hlim, hks, _⟩ := absorbL_ok hf hst hst (Go1.refl' hst) hv Pd.nil (fun k hk => by simp at hk)
          simp only [List.nil_append] at pd
          obtain ⟨hb, h'⟩ := oguard_some h; clear h; have h := h'; clear h'
          have hb := of_decide_eq_true hb
          have hs1 : RV w C1 ι1 sv (.d (.sl true szz 0 ess)) := by
            unfold RV at hs ⊢; exact hs.mono g1.stp.keeps
          have hcz : c.length = E.size := by rw [← lv.length]; omega
          obtain ⟨u, C2, ι2, w', h1, h2, h3⟩ := append_nil (P := P) hT hk hE (ty := ty) hts hz g1.st hs1 (m := 1) (xs := [c]) rfl (fun c' hc' => by rw [List.mem_singleton.1 hc']; exact hcz) hlx hnew (by omega) pd (fun b hb => hb) pd.nd (by simpa using lv) hb
          exact ⟨u, _, _, _, C2, ι2, w', h1, g1.trans hst h2 (fun i => by simp), h3, h⟩
      · cases h
    · cases h
  · rename_i hno
    cases hsrc : evSrc M x with
    | none => rw [hsrc] at h; cases h
    | some p =>
      obtain ⟨sx, m, xs⟩ := p
      rw [hsrc] at h
      simp only at h
      obtain ⟨hsx, h'⟩ := bif_some h; clear h; have h := h'; clear h'
      have hsx := Nat.eq_of_beq_eq_true hsx
      obtain ⟨hxl, hx5, hlx, _, news, hnew, hn, hnv⟩ := RV.src (P := P) hst hsrc hx
      subst hsx
      split at h
      · rename_i id
        simp only [getM] at h
        split at h
        · rename_i sz2 n mv es hM
          obtain ⟨hsz2, h'⟩ := bif_some h; clear h; have h := h'; clear h'
          have hsz2 := Nat.eq_of_beq_eq_true hsz2
          obtain ⟨hfl, h'⟩ := oguard_some h; clear h; have h := h'; clear h'; have hfl : flatEs xs = true := hfl
          obtain ⟨hb, h'⟩ := oguard_some h; clear h; have h := h'; clear h'
          have hb := of_decide_eq_true hb
          rw [olet_eq] at h
          obtain ⟨L, a, hL, hr, e1, e2, rfl, ha, hnc⟩ := hs.own_lrow hst hM
          obtain ⟨u, C2, ι2, w', h1, h2, h3⟩ := append_l (P := P) hT hk hE (ty := ty) hts hz hst hM hsz2 hL (a := a) ha hxl (fun c hc => (hx5 c hc).trans hsz2.symm) hlx (by rw [hsz2]; exact hnew) (by rw [hsz2]; exact hn) (Pd.nil (C := C)) (fun b hb => hb) (by simp) (LVs.of_flat (flatEs_flat hfl) hnv) hb
          exact ⟨u, _, _, _, C2, ι2, w', h1, h2, h3, h⟩
        · cases h
      · rename_i szz ess
        obtain ⟨hfl, h'⟩ := oguard_some h; clear h; have h := h'; clear h'; have hfl : flatEs xs = true := hfl
        obtain ⟨hb, h'⟩ := oguard_some h; clear h; have h := h'; clear h'
        have hb := of_decide_eq_true hb
        obtain ⟨u, C2, ι2, w', h1, h2, h3⟩ := append_nil (P := P) hT hk hE (ty := ty) hts hz hst hs hxl hx5 hlx hnew hn (Pd.nil (C := C)) (fun b hb => hb) (by simp) (LVs.of_flat (flatEs_flat hfl) hnv) hb
        exact ⟨u, _, _, _, C2, ι2, w', h1, h2.weak (fun i => by simp), h3, h⟩
      · cases h
end
end Go.Ev

/-
  What is lent to a callee is data till it returns.
-/
namespace Go.Ev
open Go

/-- All cells of all blocks. -/
def allC (w : World) : Com := ⟨fun b => match w.heap[b]? with
  | some (.cells us _ _) => us.size
  | _ => 0, fun _ => none⟩

theorem allC_com (w : World) (b : Nat) : allC w b = 0 ∨ ∃ us T fr, w.heap[b]? = some (.cells us T fr) ∧ allC w b ≤ us.size := by
  unfold allC
  dsimp only
  split
  · rename_i us T fr h; exact .inr ⟨us, T, fr, h, Nat.le_refl _⟩
  · exact .inl rfl
theorem st_all (w : World) : St (allC w) [] [] w :=
  ⟨rfl, fun i L e h => by simp at h, fun i j L L' h => by simp at h, allC_com w, fun b m h => by cases h⟩

theorem allC_size {w : World} {b : Nat} {us : Array Value} {T : TypeId} {fr : Nat × Nat} (h : w.heap[b]? = some (.cells us T fr)) : allC w b = us.size := by
  show (match w.heap[b]? with
    | some (.cells us _ _) => us.size
    | _ => 0) = us.size
  rw [h]

section
variable {C : Com} {ι : Locs} {M : Mem} {w : World}

theorem St.le_all (h : St C ι M w) : Keeps w C w (allC w) := by
  refine ⟨fun _ _ _ => rfl, fun b => ?_⟩
  rcases h.com b with h0 | ⟨us, T, fr, h1, h2⟩
  · rw [h0]; exact Nat.zero_le _
  · rw [allC_size h1]; exact h2

theorem lend1_ok (hst : St C ι M w) {v : V} {x : D} (h : lend1 M v = some x) {u : Value} (hu : RV w C ι u v) : RD w (allC w) u x := by
  have hk := hst.le_all
  cases v with
  | d y => simp [lend1] at h; subst h; unfold RV at hu; exact (hu.mono hk).wk
  | kb b => simp [lend1] at h; subst h; unfold RV at hu; unfold RD; exact hu
  | own id =>
    simp only [lend1, getM] at h
    split at h
    · rename_i sz n fz mv es hM
      cases h
      obtain ⟨L, a, hL, hr, e1, e2, rfl, ha, hnc⟩ := hu.own_row hst hM
      obtain ⟨_, q1, q2, q3, q4, q5, q6⟩ := hst.ent id L _ hL hM
      unfold RD
      refine ⟨a, L.cap, rfl, hnc, (fun h => by cases h), q4, q5, ?_⟩
      rcases q6 with q6 | ⟨us, T, fr, hh, _, hz, _, hre⟩
      · exact .inl (by omega)
      · rcases ha with ha | rfl
        · exact .inl (by omega)
        · have hnn : n * sz ≤ L.cap * sz := Nat.mul_le_mul_right _ hnc
          refine .inr ⟨_, _, rfl, by rw [allC_size hh]; omega, ?_⟩
          exact REs.mono hk es (N := L.base + es.length * sz) (fun o _ _ u hu => by show w.cell? _ = _; simp only [World.cell?, hh]; simpa using hu) q5 (Nat.le_refl _) hre
    · rename_i sz n mv es hM
      cases h
      obtain ⟨L, a, hL, hr, e1, e2, rfl, ha, hnc⟩ := hu.own_lrow hst hM
      obtain ⟨_, q1, q2, q3, q4, q5, q6⟩ := hst.ent id L _ hL hM
      unfold RD
      refine ⟨a, L.cap, rfl, hnc, (fun h => by cases h), q4, q5, ?_⟩
      rcases q6 with q6 | ⟨us, T, fr, F, hh, _, hz, _, _, _, hre⟩
      · exact .inl (by omega)
      · rcases ha with ha | rfl
        · exact .inl (by omega)
        · have hnn : n * sz ≤ L.cap * sz := Nat.mul_le_mul_right _ hnc
          refine .inr ⟨_, _, rfl, by rw [allC_size hh]; omega, ?_⟩
          have hre := LEs.rd (C := allC w) es (fun b _ us T fr hb => by rw [allC_size hb]; exact Nat.le_refl _) hre
          exact REs.mono (.refl _ _) es (N := L.base + es.length * sz) (fun o _ _ u hu => by show w.cell? _ = _; simp only [World.cell?, hh]; simpa using hu) q5 (Nat.le_refl _) hre
    · cases h
  | _ => simp [lend1] at h

theorem lendL_ok (hst : St C ι M w) : ∀ {vs : List V} {xs : List D} {us : List Value}, lendL M vs = some xs → RVs w C ι us vs → RVs w (allC w) [] us (toVs xs)
  | [], xs, us, h, hu => by
    simp [lendL] at h; subst h
    cases us with
    | nil => simp [toVs, RVs]
    | cons u us => simp [RVs] at hu
  | v :: vs, xs, [], h, hu => by simp [RVs] at hu
  | v :: vs, xs, u :: us, h, hu => by
    unfold RVs at hu
    simp only [lendL] at h
    split at h
    · rename_i x ys h1 h2
      cases h
      simp only [toVs]
      unfold RVs
      exact ⟨by unfold RV; exact lend1_ok hst h1 hu.1, lendL_ok hst h2 hu.2⟩
    · cases h

theorem lendV_ok (hst : St C ι M w) {v x : V} (h : lendV M v = some x) {u : Value} (hu : RV w C ι u v) : RV w (allC w) [] u x := by
  have base : ∀ v, (match lend1 M v with | some x => some (V.d x) | none => none) = some x → RV w C ι u v → RV w (allC w) [] u x := by
    intro v h hu
    cases h1 : lend1 M v with
    | none => rw [h1] at h; cases h
    | some y => rw [h1] at h; simp at h; subst h; unfold RV; exact lend1_ok hst h1 hu
  cases v with
  | agg vs =>
    simp only [lendV] at h
    cases h1 : lendL M vs with
    | none => rw [h1] at h; cases h
    | some xs =>
      rw [h1] at h; simp at h; subst h
      unfold RV at hu ⊢
      obtain ⟨cs, e, hv⟩ := hu
      exact ⟨cs, e, lendL_ok hst h1 hv⟩
  | fn f cs =>
    cases cs with
    | nil =>
      simp [lendV] at h; subst h
      unfold RV at hu ⊢
      obtain ⟨cs, e, hv⟩ := hu
      refine ⟨cs, e, ?_⟩
      cases hc : cs.toList with
      | nil => unfold RVs; trivial
      | cons a r => rw [hc] at hv; simp [RVs] at hv
    | cons c cs => simp [lendV, lend1] at h
  | _ => exact base _ (by unfold lendV at h; exact h) hu
theorem lendVs_ok (hst : St C ι M w) : ∀ {vs xs : List V} {us : List Value}, lendVs M vs = some xs → RVs w C ι us vs → RVs w (allC w) [] us xs
  | [], xs, us, h, hu => by
    simp [lendVs] at h; subst h
    cases us with
    | nil => simp [RVs]
    | cons u us => simp [RVs] at hu
  | v :: vs, xs, [], h, hu => by simp [RVs] at hu
  | v :: vs, xs, u :: us, h, hu => by
    unfold RVs at hu
    simp only [lendVs] at h
    split at h
    · rename_i x ys h1 h2
      cases h
      unfold RVs
      exact ⟨lendV_ok hst h1 hu.1, lendVs_ok hst h2 hu.2⟩
    · cases h

theorem RD.flat {C' : Com} {w' : World} {u : Value} {x : D} (hx : x.flat = true) (h : RD w C u x) : RD w' C' u x := by
  cases x with
  | sl f sz n es => cases hx
  | _ => unfold RD at h ⊢; exact h
mutual
theorem RV.clean {C' : Com} {w' : World} {ι' : Locs} {g : Nat → Option Nat} (hg : ∀ (i j : Nat) (L : Loc), g i = some j → ι[i]? = some L → ι'[j]? = some L) : ∀ {u : Value} (v : V), v.clean = true → RV w C ι u v → RV w' C' ι' u (v.ren g)
  | _, .undef, _, _ => by simp [V.ren, RV]
  | _, .d x, hc, h => by simp only [V.ren]; unfold RV at h ⊢; exact RD.flat (by simpa [V.clean] using hc) h
  | _, .kb b, _, h => by simp only [V.ren]; unfold RV at h ⊢; exact h
  | _, .own id, _, h => by
    simp only [V.ren]; cases hgi : g id with
    | none => simp [RV]
    | some j =>
      unfold RV at h ⊢
      obtain ⟨L, hL, r⟩ := h
      exact ⟨L, hg _ _ _ hgi hL, r⟩
  | _, .agg xs, hc, h => by
    simp only [V.ren]; unfold RV at h ⊢
    obtain ⟨cs, e, r⟩ := h
    exact ⟨cs, e, RVs.clean hg xs (by simpa [V.clean] using hc) r⟩
  | _, .tup xs, hc, h => by
    simp only [V.ren]; unfold RV at h ⊢
    obtain ⟨cs, e, r⟩ := h
    exact ⟨cs, e, RVs.clean hg xs (by simpa [V.clean] using hc) r⟩
  | _, .ref _ _ _, hc, _ => by simp [V.clean] at hc
  | _, .ptr _ _, hc, _ => by simp [V.clean] at hc
  | _, .ep _ _ _, hc, _ => by simp [V.clean] at hc
  | _, .rp _ _, hc, _ => by simp [V.clean] at hc
  | _, .fn _ _, hc, _ => by simp [V.clean] at hc
theorem RVs.clean {C' : Com} {w' : World} {ι' : Locs} {g : Nat → Option Nat} (hg : ∀ (i j : Nat) (L : Loc), g i = some j → ι[i]? = some L → ι'[j]? = some L) : ∀ {us : List Value} (vs : List V), V.clean.go vs = true → RVs w C ι us vs → RVs w' C' ι' us (V.ren.go g vs)
  | [], [], _, _ => by simp [V.ren.go, RVs]
  | [], _ :: _, _, h => by simp [RVs] at h
  | _ :: _, [], _, h => by simp [RVs] at h
  | u :: us, v :: vs, hc, h => by
    simp only [V.clean.go, Bool.and_eq_true] at hc
    unfold RVs at h
    simp only [V.ren.go]
    unfold RVs
    exact ⟨RV.clean hg v hc.1 h.1, RVs.clean hg vs hc.2 h.2⟩
end

theorem RCs.flatD {C' : Com} {g : Nat → Option Value} : ∀ {xs : List D} {off : Nat}, flatL xs = true → RCs w C g off xs → RCs w C' g off xs
  | [], _, _, _ => by unfold RCs; trivial
  | x :: xs, off, hf, h => by
    simp only [flatL, Bool.and_eq_true] at hf
    unfold RCs at h ⊢
    obtain ⟨⟨u, hu, hx⟩, hr⟩ := h
    exact ⟨⟨u, hu, RD.flat hf.1 hx⟩, RCs.flatD hf.2 hr⟩
theorem REs.flatD {C' : Com} {g : Nat → Option Value} : ∀ {es : List (List D)} {off : Nat}, flatEs es = true → REs w C g off es → REs w C' g off es
  | [], _, _, _ => by unfold REs; trivial
  | c :: es, off, hf, h => by
    simp only [flatEs, Bool.and_eq_true] at hf
    unfold REs at h ⊢
    exact ⟨RCs.flatD hf.1 h.1, REs.flatD hf.2 h.2⟩

theorem cleanM_some {R : Type} : ∀ {S : Mem} {x : Option R} {r : R}, cleanM S x = some r → x = some r ∧ ∀ (i : Nat) (e : Ent), S[i]? = some e → (∃ sz n fz mv es, e = .row sz n fz mv es ∧ flatEs es = true) ∨ ∃ sz n mv es, e = .lrow sz n mv es
  | [], x, r, h => by unfold cleanM at h; exact ⟨h, fun i e h => by simp at h⟩
  | .row sz n fz mv es :: S, x, r, h => by
    unfold cleanM at h
    obtain ⟨h1, h2⟩ := oguard_some h
    obtain ⟨h3, h4⟩ := cleanM_some h2
    refine ⟨h3, fun i e hi => ?_⟩
    cases i with
    | zero => simp at hi; subst hi; exact .inl ⟨_, _, _, _, _, rfl, h1⟩
    | succ i => exact h4 i e (by simpa using hi)
  | .lrow sz n mv es :: S, x, r, h => by
    unfold cleanM at h
    obtain ⟨h3, h4⟩ := cleanM_some h
    refine ⟨h3, fun i e hi => ?_⟩
    cases i with
    | zero => simp at hi; subst hi; exact .inr ⟨_, _, _, _, rfl⟩
    | succ i => exact h4 i e (by simpa using hi)
  | .box cs :: S, x, r, h => by unfold cleanM at h; cases h
  | .hole a b c d p q v :: S, x, r, h => by unfold cleanM at h; cases h

/-- What was lent comes back. -/
theorem lend_back (hst : St C ι M w) {C3 : Com} {ι3 : Locs} {Mc : Mem} {w' : World} {ks : Nat → Prop} (g3 : Go1 (allC w) [] [] w C3 ι3 Mc w' ks) (hcl : ∀ (i : Nat) (e : Ent), Mc[i]? = some e → (∃ sz n fz mv es, e = .row sz n fz mv es ∧ flatEs es = true) ∨ ∃ sz n mv es, e = .lrow sz n mv es) :
    ∃ C' ι', Go1 C ι M w C' ι' (M ++ Mc.map (Ent.ren (backN [] M.length))) w' (fun _ => False) ∧ ∀ (a b : Nat) (L : Loc), backN [] M.length a = some b → ι3[a]? = some L → ι'[b]? = some L := by
  have hnh : ∀ b, ¬ Has (allC w) [] b := by
    rintro b (⟨i, L, hi, _⟩ | ⟨X, hX, _⟩)
    · simp at hi
    · cases hX
  have hout : ∀ b, b < w.heap.size → w'.heap[b]? = w.heap[b]? ∧ C3.own b = none := fun b hb => by
    obtain ⟨e1, _, e2⟩ := g3.stp.out b hb (hnh b)
    exact ⟨e1, e2⟩
  have hlab : ∀ b m, C3.own b = some m → w.heap.size ≤ m := fun b m hm => by
    rcases g3.stp.ownc b m hm with q | q | q
    · cases q
    · exact q
    · exact absurd q (hnh m)
  have hblk : ∀ (i : Nat) (L : Loc), ι3[i]? = some L → L.located → w.heap.size ≤ L.b := fun i L hi hl => (g3.stp.blk hi hl).resolve_left (hnh _)
  have hlow : ∀ b, b < w.heap.size → C3.own b = none := fun b hb => (hout b hb).2
  let C' : Com := ⟨fun b => if b < w.heap.size then C b else C3 b, fun b => if b < w.heap.size then C.own b else C3.own b⟩
  have l1 : ∀ b, b < w.heap.size → C' b = C b ∧ C'.own b = C.own b := fun b hb => by simp [C', hb]
  have l2 : ∀ b, w.heap.size ≤ b → C' b = C3 b ∧ C'.own b = C3.own b := fun b hb => by
    have : ¬ b < w.heap.size := by omega
    simp [C', this]
  have hk : Keeps w C w' C' := by
    refine ⟨fun b o ho => cell_of_heap (hout b (hst.clt ho)).1, fun b => ?_⟩
    rcases Nat.lt_or_ge b w.heap.size with h | h
    · rw [(l1 b h).1]; exact Nat.le_refl _
    · rw [hst.czero h]; exact Nat.zero_le _
  have hM : ι.length = M.length := hst.len
  have cs : ∀ (i : Nat) (L : Loc), (ι ++ ι3)[i]? = some L → ι[i]? = some L ∨ (M.length ≤ i ∧ ι3[i - M.length]? = some L) := by
    intro i L hi
    rcases Nat.lt_or_ge i ι.length with g | g
    · rw [List.getElem?_append_left g] at hi; exact .inl hi
    · rw [List.getElem?_append_right g, hM] at hi; exact .inr ⟨by omega, hi⟩
  have hg : ∀ (a b : Nat) (L : Loc), backN [] M.length a = some b → ι3[a]? = some L → (ι ++ ι3)[b]? = some L := by
    intro a b L hab ha
    simp [backN] at hab
    subst hab
    rw [List.getElem?_append_right (by omega), hM, Nat.add_sub_cancel_left]; exact ha
  have stay_old : ∀ (i : Nat) (L : Loc), ι[i]? = some L → L.located → Stays w C w' C' L.b := by
    intro i L hi hl
    have hb := hst.blt hi hl
    refine ⟨(hout _ hb).1, (l1 _ hb).1, fun b' hb' => (hout _ (hst.own.some hb').2).1, fun b' => ?_⟩
    rcases Nat.lt_or_ge b' w.heap.size with h | h
    · rw [(l1 b' h).2]
    · rw [(l2 b' h).2]
      constructor
      · intro hm; have := hlab _ _ hm; omega
      · intro hm; have := (hst.own.some hm).2; omega
  refine ⟨C', ι ++ ι3, ⟨⟨by simp [hM, g3.st.len], ?_, ?_, ?_, ?_⟩, ⟨g3.stp.os, g3.stp.tape, g3.stp.output, g3.stp.size, hst.own, ?_, ?_, hk, ?_, ?_, ?_⟩, ?_⟩, hg⟩
  · intro i L e hi he
    rcases cs i L hi with hi | ⟨hge, hi⟩
    · rw [List.getElem?_append_left (by rw [← hM]; exact lt_of_get hi)] at he
      exact (hst.ent i L e hi he).mono hk (fun j L hj => by rw [List.getElem?_append_left (lt_of_get hj)]; exact hj) (fun hl => stay_old i L hi hl)
    · rw [List.getElem?_append_right hge, List.getElem?_map] at he
      cases hMc : Mc[i - M.length]? with
      | none => rw [hMc] at he; cases he
      | some e0 =>
        rw [hMc] at he; simp at he; subst he
        have h0 := g3.st.ent _ L e0 hi hMc
        rcases hcl _ _ hMc with ⟨sz, n, fz, mv, es, rfl, hf⟩ | ⟨sz, n, mv, es, rfl⟩
        · obtain ⟨q1, q2, q3, q4, q5, q6, q7⟩ := h0
          refine ⟨q1, q2, q3, q4, q5, q6, ?_⟩
          by_cases hc0 : L.cap = 0
          · exact .inl hc0
          rcases q7 with q7 | ⟨us, T, fr, hh, hs, hz, hc, hre⟩
          · exact .inl q7
          · exact .inr ⟨us, T, fr, hh, hs, hz, by rw [(l2 _ (hblk _ L hi (.inr hc0))).1]; exact hc, REs.flatD hf hre⟩
        · obtain ⟨q1, q2, q3, q4, q5, q6, q7⟩ := h0
          refine ⟨q1, q2, q3, q4, q5, q6, ?_⟩
          by_cases hc0 : L.cap = 0
          · exact .inl hc0
          rcases q7 with q7 | ⟨us, T, fr, F, hh, hs, hz, hc, hnd, ho, hre⟩
          · exact .inl q7
          · have hb := hblk _ L hi (.inr hc0)
            refine .inr ⟨us, T, fr, F, hh, hs, hz, by rw [(l2 _ hb).1]; exact hc, hnd, fun b => ?_, hre⟩
            rcases Nat.lt_or_ge b w.heap.size with h | h
            · rw [(l1 b h).2, ← ho b, hlow b h]
              constructor
              · intro hm; have := (hst.own.some hm).1; omega
              · intro hm; cases hm
            · rw [(l2 b h).2]; exact ho b
  · intro i j L L' hi hj h1 h2 eb
    rcases cs i L hi with hi' | ⟨g1, hi'⟩
    · rcases cs j L' hj with hj' | ⟨g2, hj'⟩
      · exact hst.inj i j L L' hi' hj' h1 h2 eb
      · have := hst.blt hi' h1; have := hblk _ L' hj' h2; omega
    · rcases cs j L' hj with hj' | ⟨g2, hj'⟩
      · have := hst.blt hj' h2; have := hblk _ L hi' h1; omega
      · have := g3.st.inj _ _ L L' hi' hj' h1 h2 eb; omega
  · intro b
    rcases Nat.lt_or_ge b w.heap.size with h | h
    · rw [(l1 b h).1]
      rcases hst.com b with h0 | ⟨us, T, fr, h1, h2⟩
      · exact .inl h0
      · exact .inr ⟨us, T, fr, (hout b h).1.trans h1, h2⟩
    · rw [(l2 b h).1]; exact g3.st.com b
  · intro b m hm
    have hs := g3.stp.size
    rcases Nat.lt_or_ge b w.heap.size with h | h
    · rw [(l1 b h).2] at hm
      obtain ⟨p1, p2, p3, p4, p5⟩ := hst.own b m hm
      refine ⟨by omega, by omega, (l1 b h).1.trans p3, by rw [(l1 m p1).2]; exact p4, fun i L hi hl => ?_⟩
      rcases cs i L hi with hi | ⟨_, hi⟩
      · exact p5 i L hi hl
      · have := hblk _ L hi hl; omega
    · rw [(l2 b h).2] at hm
      obtain ⟨p1, p2, p3, p4, p5⟩ := g3.st.own b m hm
      have hml := hlab b m hm
      refine ⟨p1, p2, (l2 b h).1.trans p3, by rw [(l2 m hml).2]; exact p4, fun i L hi hl => ?_⟩
      rcases cs i L hi with hi | ⟨_, hi⟩
      · have := hst.blt hi hl; omega
      · exact p5 _ L hi hl
  · intro b hb _
    exact ⟨(hout b hb).1, (l1 b hb).1, (l1 b hb).2⟩
  · intro b m hm
    rcases Nat.lt_or_ge b w.heap.size with h | h
    · rw [(l1 b h).2] at hm; exact .inl hm
    · rw [(l2 b h).2] at hm; exact .inr (.inl (hlab b m hm))
  · intro i L hi _
    rw [List.getElem?_append_left (lt_of_get hi)]; exact hi
  · intro i L hi _
    exact ⟨L, by rw [List.getElem?_append_left (lt_of_get hi)]; exact hi, rfl, rfl, fun hl => .inl (.inl ⟨_, _, hi, hl, .inl rfl⟩)⟩
  · intro i L hge hi hl
    rcases cs i L hi with hi | ⟨_, hi⟩
    · have := lt_of_get hi; omega
    · exact .inr (hblk _ L hi hl)
  · intro i hi hm
    rcases hm with ⟨e, h1, h2⟩ | hm
    · exact ⟨e, by rw [List.getElem?_append_left hi]; exact h1, h2⟩
    · exact hm.elim
end
end Go.Ev
