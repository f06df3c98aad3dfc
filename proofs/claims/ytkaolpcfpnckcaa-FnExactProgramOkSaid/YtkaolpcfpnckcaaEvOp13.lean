/-
  The evaluator's operations are the machine's: all but calls, put together.
-/
import Derived.Test.YtkaolpcfpnckcaaEvOp12
set_option linter.unusedVariables false
set_option linter.unusedSimpArgs false
namespace Go.Ev
open Go

section
variable {R : Type} {P : Program} {C : Com} {ι : Locs} {M : Mem} {w : World}

theorem bytes_row (hst : St C ι M w) {e : TypeId} (s : ByteArray) {k : V → Mem → List Nat → Option R} {r : R} (h : k (.own M.length) (M ++ [.row 1 s.size false false (byteEs s)]) [] = some r) {Nx : Value → World → Prop} (hn : Nxt C ι M w k r Nx) :
    ∃ u w', (Conv.stringToBytes e s).run P w = .ok u w' ∧ Nx u w' := by
  let cap := (Question.appendCap s.size 0 e).cut (w.tape w.drawn (.appendCap s.size 0 e))
  have hcap : s.size ≤ cap := by simp only [cap, Question.cut]; omega
  let vs : List Value := s.data.toList.map fun b => .int .u8 b.toNat
  let rest : List Value := List.replicate (cap - s.size) (.int .u8 0)
  let us : Array Value := (vs ++ rest).toArray
  have hus : us.size = cap := by simp [us, vs, rest]; omega
  have hch : (choose (.appendCap s.size 0 e)).run P w = .ok cap (World.drew1 w) := rfl
  have harr : (s.data.map (fun b => Value.int .u8 b.toNat) ++ Array.replicate (cap - s.size) (.int .u8 0) : Array Value) = us := by
    apply Array.ext'; simp [us, vs, rest]
  have hnew : (newRow e us).run P (World.drew1 w) = .ok ⟨w.heap.size, 0, none⟩ (World.more (World.drew1 w) (.cells us e (0, 0))) := rfl
  have hmark : (markStringish ⟨w.heap.size, 0, none⟩).run P (World.more (World.drew1 w) (.cells us e (0, 0))) = .ok () (World.more (World.drew1 w) (.cells us e (us.size, us.size + 1))) := by
    have hsh : (World.more (World.drew1 w) (.cells us e (0, 0))).shape? w.heap.size = some (e, us.size) := by
      unfold World.shape?
      have := more_new (w := World.drew1 w) (o := .cells us e (0, 0))
      rw [show (World.drew1 w).heap.size = w.heap.size from rfl] at this
      rw [this]
    unfold markStringish
    have h1 : (shape w.heap.size).run P (World.more (World.drew1 w) (.cells us e (0, 0))) = .ok (some (e, us.size)) (World.more (World.drew1 w) (.cells us e (0, 0))) := by
      show Result.ok _ _ = _
      rw [hsh]
    simp only [Sem.run_bind, h1, Result.andThen_ok]
    show Result.ok () _ = _
    congr 1
    unfold World.freeze
    rw [if_neg (by decide)]
    unfold World.more
    congr 1
    apply Array.ext_getElem?
    intro i
    simp only [Array.getElem?_modify, Array.getElem?_push]
    by_cases hi : i = w.heap.size
    · subst hi; simp [World.drew1]
    · rw [if_neg (fun h => hi h.symm)]
      have : ¬ i = (World.drew1 w).heap.size := hi
      rw [if_neg this, if_neg this]
  have g1 := Go1.drew hst
  have hv : RVs w C ι vs (toVs (byteEs s).flatten) := bytes_RVs _
  have g2 := Go1.more g1.st us e (us.size, us.size + 1) ⟨true, 1, s.size, w.heap.size, 0, cap⟩ (.row 1 s.size false false (byteEs s)) (fun _ => rfl)
    (EntOk.fresh (vs := vs) (rest := rest) g1.st (w1 := World.drew1 w) (g1.rvs hv) (fun c hc => by simp [byteEs] at hc; obtain ⟨_, _, rfl⟩ := hc; rfl) (by simp [byteEs]) hcap (by simp [vs, rest]; omega) e (.inr (Nat.le_refl _)) rfl)
  refine ⟨.slice (some ⟨w.heap.size, 0, none⟩) s.size cap, _, ?_, hn.go h (g1.trans hst g2 (fun i => by simp)) ?_⟩
  · unfold Conv.stringToBytes
    simp only [Sem.run_bind, hch, Result.andThen_ok, Sem.run_pure]
    rw [harr, hnew]
    simp only [Result.andThen_ok, Sem.run_bind, hmark, Sem.run_pure]
  · unfold RV
    rw [← hst.len]
    exact ⟨⟨true, 1, s.size, w.heap.size, 0, cap⟩, by simp, rfl, _, rfl, .inr rfl⟩

/-- A constant's bytes are marked. -/
theorem mark_row (hst : St C ι M w) {id sz n : Nat} {fz mv : Bool} {es : List (List D)} (hM : M[id]? = some (.row sz (n + 1) fz mv es)) {u : Value} (hu : RV w C ι u (.own id)) :
    ∃ w', (∃ a m c, u = .slice (some a) m c) ∧ (match u with | .slice (some a) _ _ => (markStringish a).run P w = .ok () w' | _ => True) ∧ Go1 C ι M w C ι M w' (fun _ => False) := by
  unfold RV at hu
  obtain ⟨L, hL, hrow, a, rfl, ha⟩ := hu
  have hE := hst.ent id L _ hL hM
  obtain ⟨q0, q1, q2, q3, q4, q5, q6⟩ := hE
  have hc : L.cap ≠ 0 := by omega
  have ha := ha.resolve_left hc
  subst ha
  rcases q6 with q6 | ⟨us, T', fr, hh, hsoft, hz, hC, hre⟩
  · exact absurd q6 hc
  have hlt : L.b < w.heap.size := (Array.getElem?_eq_some_iff.1 hh).1
  let w' := w.freeze ⟨L.b, us.size, none⟩ 1
  let fr' : Nat × Nat := if fr.1 == fr.2 then (us.size, us.size + 1) else (min fr.1 us.size, max fr.2 (us.size + 1))
  have hh' : w'.heap[L.b]? = some (.cells us T' fr') := by
    simp only [w', World.freeze]
    rw [if_neg (by decide)]
    simp [Array.getElem?_modify, hh, fr']
  have ho : ∀ b, b ≠ L.b → w'.heap[b]? = w.heap[b]? := fun b hb => by
    simp only [w', World.freeze]
    rw [if_neg (by decide)]
    simp only [Array.getElem?_modify]
    rw [if_neg (fun h => hb (Eq.symm h))]
  have hso : Soft us fr' := by
    simp only [fr']
    unfold Soft at hsoft ⊢
    split
    · exact .inr (Nat.le_refl _)
    · rename_i hne
      have hne : fr.1 ≠ fr.2 := by simpa using hne
      simp only; omega
  have hkp : Keeps w C w' C := by
    refine ⟨fun b o _ => ?_, fun _ => Nat.le_refl _⟩
    by_cases e : b = L.b
    · subst e; rw [cell_of_row hh', cell_of_row hh]
    · exact cell_of_heap (ho b e)
  have hu1 : Upd C ι w id L L C w' := by
    refine ⟨rfl, rfl, rfl, by simp [w', World.freeze], hL, hkp, fun b _ hb => ⟨ho b (hb (.inr hc)), rfl⟩, fun hl => .inl ⟨hl, rfl⟩, rfl, rfl, fun b => ?_⟩
    by_cases e : b = L.b
    · subst e
      rcases hst.com L.b with h | ⟨us2, T2, fr2, h1, h2⟩
      · exact .inl h
      · rw [hh] at h1; cases h1
        exact .inr ⟨us, T', fr', hh', h2⟩
    · rw [ho b e]; exact hst.com b
  have hset : M.set id (.row sz (n + 1) fz mv es) = M := by
    apply List.ext_getElem?
    intro j
    by_cases e : id = j
    · subst e; rw [List.getElem?_set_self (lt_of_get hM), hM]
    · rw [List.getElem?_set_ne e]
  have hsh : w.shape? L.b = some (T', us.size) := by unfold World.shape?; rw [hh]
  refine ⟨w', ⟨_, _, _, rfl⟩, ?_, ?_⟩
  · show (markStringish ⟨L.b, L.base, none⟩).run P w = _
    unfold markStringish
    have h1 : (shape L.b).run P w = .ok (some (T', us.size)) w := by
      show Result.ok _ _ = _
      rw [hsh]
    simp only [Sem.run_bind, h1, Result.andThen_ok]
    rfl
  · have g := hu1.st0 hst (.row sz (n + 1) fz mv es) ⟨hrow, q1, q2, q3, q4, q5, .inr ⟨us, T', fr', hh', hso, hz, hC, REs.mono hkp es (N := L.base + es.length * sz) (fun _ _ _ _ h => h) q5 (Nat.le_refl _) hre⟩⟩
    rw [hset] at g
    exact ⟨g, hu1.stp0, fun i _ hm => hm.elim (fun h => h) False.elim⟩

theorem make_row {t e : TypeId} {T E : TI} (hT : TIok P t T) (hk : T.kind = .sl e) (hE : TIok P e E) (hst : St C ι M w) {n : Int} (hn0 : 0 ≤ n) (hnb : n * E.bytes ≤ maxBytes) {z : List D} {M' : Mem} (hz : freezeL [] E.zero = some (z, M')) {k : V → Mem → List Nat → Option R} {r : R}
    (h : k (.own M.length) (M ++ [.row E.size n.toNat false false (List.replicate n.toNat z)]) [] = some r) {Nx : Value → World → Prop} (hn : Nxt C ι M w k r Nx) :
    ∃ u w', (Instr.makeSlice t (.int .i64 n) (.int .i64 n)).run P w = .ok u w' ∧ Nx u w' := by
  obtain ⟨bi, hbi, hbe⟩ := hE.bytes
  obtain ⟨zv, hzv, hzs, hzr⟩ := hE.zero
  have hb1 := hE.bpos
  have hnle : n ≤ maxBytes := by
    have : n * 1 ≤ n * E.bytes := Int.mul_le_mul_of_nonneg_left (by omega) hn0
    omega
  have hwrap : IntKind.i64.wrap n = n := by
    unfold maxBytes at hnle
    simp only [IntKind.wrap, IntKind.bits, IntKind.signed]
    simp
    omega
  let us : Array Value := (Array.range (n.toNat * E.size)).map (zv.cells[· % zv.cells.size]!)
  have hzl : z.length = E.size ∧ RVs w C ι zv.cells.toList (toVs z) := by
    obtain ⟨h1, h2⟩ := freezeL_nil hz hst.com (us := zv.cells.toList) (fun w C ι => hzr w C ι)
    refine ⟨?_, h1⟩
    have := h1.length
    rw [toVs_len] at this
    simp at this; omega
  have hv : RVs w C ι us.toList (toVs (List.replicate n.toNat z).flatten) := by
    have := zeros_RVs hzl.2 n.toNat 0
    simp only [Nat.zero_mul] at this
    have e : us.toList = (List.range' 0 (n.toNat * zv.cells.size)).map (fun i => zv.cells[i % zv.cells.size]!) := by
      simp [us, hzs, List.range_eq_range']
    rw [e]; exact this
  have hrow : ∃ a, (Instr.makeSlice t (.int .i64 n) (.int .i64 n)).run P w = .ok (.slice (some ⟨w.heap.size, 0, none⟩) n.toNat n.toNat) (World.more w (.cells us e (0, 0))) ∧ a = 0 := by
    refine ⟨0, ?_, rfl⟩
    unfold Instr.makeSlice asInt asIntOf
    simp only [Sem.run_bind, Sem.run_pure, Result.andThen_ok, hT.sl hk, hbi, hwrap]
    have htl : (n < 0 || (bi.bytes : Int) * n > 2 ^ 48) = false := by
      rw [hbe, Int.mul_comm]
      unfold maxBytes at hnb
      simp; omega
    have hcond : ¬ (((n < 0 || (bi.bytes : Int) * n > 2 ^ 48) || decide (n < 0) || decide (n > n)) = true) := by
      rw [htl]; simp; omega
    have hask : (askRoom (n.toNat * bi.bytes)).run P w = .ok () w := by unfold askRoom; split <;> rfl
    rw [if_neg (by simpa using hcond)]
    simp only [Sem.run_bind, hask, Result.andThen_ok, hE.size]
    by_cases h0 : n.toNat * E.size = 0
    · have hus : us = #[] := by simp [us, h0]
      rw [if_pos h0, hus, h0]
      have hr : ∀ zero : Array Value, Array.map (fun x => zero[x % zero.size]!) (Array.range 0) = #[] := fun zero => by simp
      simp only [Sem.run_bind, Sem.run_pure, Result.andThen_ok, hr]
      rfl
    · rw [if_neg h0]
      simp only [Sem.run_bind, hzv, Result.andThen_ok, Sem.run_pure]
      rfl
  obtain ⟨_, hrun, _⟩ := hrow
  have g := Go1.more hst us e (0, 0) ⟨true, E.size, n.toNat, w.heap.size, 0, n.toNat⟩ (.row E.size n.toNat false false (List.replicate n.toNat z)) (fun _ => rfl)
    (by
      have := EntOk.fresh (vs := us.toList) (rest := []) (ι' := ι ++ [⟨true, E.size, n.toNat, w.heap.size, 0, n.toNat⟩]) (es := List.replicate n.toNat z) (sz := E.size) (n := n.toNat) (cap := n.toNat) (fz := false) (mv := false) hst hv (fun c hc => by rw [List.eq_of_mem_replicate hc]; exact hzl.1) (by simp) (Nat.le_refl _) (by simp [us]) e (fr := (0, 0)) (soft0 _) (w1 := w) rfl
      simpa using this)
  refine ⟨_, _, hrun, hn.go h g ?_⟩
  unfold RV
  rw [← hst.len]
  exact ⟨⟨true, E.size, n.toNat, w.heap.size, 0, n.toNat⟩, by simp, rfl, _, rfl, .inr rfl⟩

/-- Zeros behind nothing. -/
theorem zeros_row {t e u0 : TypeId} {T E : TI} (hT : TIok P t T) (hk : T.kind = .sl e) (hE : TIok P e E) {ik : IntKind} {ts : Array TypeId} {ty : TypeId} (hts : ts[0]? = some t) (hu : ts[1]? = some u0) (hd : ∀ w, (underlying u0).run P w = .ok (.int ik) w)
    (hst : St C ι M w) {s x : V} {k : V → Mem → List Nat → Option R} {r : R} (h : evZeros E M s x k = some r) {sv xv : Value} (hs : RV w C ι sv s) (hx : RV w C ι xv x) {Nx : Value → World → Prop} (hn : Nxt C ι M w k r Nx) :
    ∃ u w', (Builtin.append_ ts ty #[sv, xv]).run P w = .ok u w' ∧ Nx u w' := by
  unfold evZeros at h
  split at h
  · rename_i szz ess n
    obtain ⟨hg, h'⟩ := oguard_some h; clear h; have h := h'; clear h'
    obtain ⟨hn0, hnb⟩ := of_decide_eq_true hg
    split at h
    · rename_i z M' hz
      rw [olet_eq] at h
      unfold RV RD at hs hx
      obtain ⟨a, c, rfl, _, hf, _⟩ := hs
      have hc0 := hf rfl; subst hc0
      subst hx
      obtain ⟨bi, hbi, hbe⟩ := hE.bytes
      obtain ⟨zv, hzv, hzs, hzr⟩ := hE.zero
      have hb1 := hE.bpos
      have hnle : n ≤ maxBytes := by
        have : n * 1 ≤ n * E.bytes := Int.mul_le_mul_of_nonneg_left (by omega) hn0
        omega
      have hwrap : IntKind.i64.wrap n = n := by
        unfold maxBytes at hnle
        simp only [IntKind.wrap, IntKind.bits, IntKind.signed]
        simp
        omega
      have hzl : z.length = E.size ∧ RVs w C ι zv.cells.toList (toVs z) := by
        obtain ⟨h1, h2⟩ := freezeL_nil hz hst.com (us := zv.cells.toList) (fun w C ι => hzr w C ι)
        refine ⟨?_, h1⟩
        have := h1.length
        rw [toVs_len] at this
        simp at this; omega
      have hasx : ∀ w' : World, (asInt (.int .i64 n)).run P w' = .ok n w' := fun w' => rfl
      by_cases hz0 : n.toNat = 0
      · -- none
        have hn00 : n = 0 := by omega
        subst hn00
        have hrun : (Builtin.append_ ts ty #[.slice a 0 0, .int .i64 0]).run P w = .ok (.slice a 0 0) w := by
          unfold Builtin.append_
          simp only [hts, hu, List.getElem?_toArray, List.getElem?_cons_zero, List.getElem?_cons_succ, Sem.run_bind, Sem.run_pure, Result.andThen_ok, hT.sl hk, hE.size, hd, if_true, hasx, hwrap]
          have q1 : ¬ ((0 : Int) * (bi.bytes : Int) > 2 ^ 48) := by omega
          simp only [show ¬ ((0 : Int) < 0) by omega, if_false, Sem.run_bind, Sem.run_pure, Result.andThen_ok, hbi, q1]
          rw [if_pos (show 0 + Int.toNat 0 ≤ 0 by decide)]
          have q2 : Int.toNat 0 * E.size = 0 := by simp
          rw [if_neg (by simp), if_pos q2]
          simp only [Sem.run_bind, Sem.run_pure, Result.andThen_ok]
          cases a <;> rfl
        obtain ⟨s1, s2⟩ := hst.nil E.size false false
        have g1 : Go1 C ι M w C (ι ++ [⟨true, E.size, 0, 0, 0, 0⟩]) (M ++ [.row E.size 0 false false []]) w (fun _ => False) := ⟨s1, s2 _, fun i _ hm => mvs_more (hm.elim (fun h => h) False.elim)⟩
        refine ⟨_, _, hrun, hn.go h g1 ?_⟩
        unfold RV
        rw [← hst.len]
        exact ⟨⟨true, E.size, 0, 0, 0, 0⟩, by simp, rfl, a, rfl, .inl rfl⟩
      · -- a new block
        let news : List Value := (Builtin.zeroCells zv.cells n.toNat).toList
        have hnl : news.length = n.toNat * E.size := by simp [news, Builtin.zeroCells, hzs]
        have hv : RVs w C ι news (toVs (List.replicate n.toNat z).flatten) := by
          have := zeros_RVs hzl.2 n.toNat 0
          simp only [Nat.zero_mul] at this
          have e : news = (List.range' 0 (n.toNat * zv.cells.size)).map (fun i => zv.cells[i % zv.cells.size]!) := by
            simp [news, Builtin.zeroCells, List.range_eq_range']
          rw [e]; exact this
        have hq : (Question.appendCap (0 + n.toNat) 0 e).forced = false := rfl
        let cap := (Question.appendCap (0 + n.toNat) 0 e).cut (w.tape w.drawn (.appendCap (0 + n.toNat) 0 e))
        have hcapge : n.toNat ≤ cap := by simp only [cap, Question.cut]; omega
        have hrun : (Builtin.append_ ts ty #[.slice a 0 0, .int .i64 n]).run P w = .ok (.slice (some ⟨w.heap.size, 0, none⟩) (0 + n.toNat) cap) (World.more (World.drew1 w) (.cells (news ++ (Builtin.zeroCells zv.cells (cap - (0 + n.toNat))).toList).toArray e (0, 0))) := by
          unfold Builtin.append_
          simp only [hts, hu, List.getElem?_toArray, List.getElem?_cons_zero, List.getElem?_cons_succ, Sem.run_bind, Sem.run_pure, Result.andThen_ok, hT.sl hk, hE.size, hd, if_true, hasx, hwrap]
          have q1 : ¬ (n * (bi.bytes : Int) > 2 ^ 48) := by rw [hbe]; unfold maxBytes at hnb; omega
          simp only [show ¬ (n < 0) by omega, if_false, Sem.run_bind, Sem.run_pure, Result.andThen_ok, hbi, q1]
          rw [if_neg (show ¬ 0 + n.toNat ≤ 0 by omega)]
          have h1 : ¬ (((0 + n.toNat : Nat) : Int) > IntKind.i64.max ∧ (True ∨ bi.bytes = 0)) := by
            rintro ⟨h, _⟩
            have : IntKind.i64.max = 9223372036854775807 := by decide
            unfold maxBytes at hnle
            omega
          simp only [Sem.run_bind, hbi, Result.andThen_ok]
          rw [if_neg (by simpa using h1)]
          have h2 : ¬ (Builtin.nextslicecap (0 + n.toNat) 0 * bi.bytes > 2 ^ 48) := by
            have : Builtin.nextslicecap (0 + n.toNat) 0 = n.toNat := by unfold Builtin.nextslicecap; rw [if_pos (by omega)]; omega
            rw [this, hbe]
            unfold maxBytes at hnb
            have : ((n.toNat * E.bytes : Nat) : Int) = n * E.bytes := by rw [Int.natCast_mul, Int.toNat_of_nonneg hn0]
            omega
          simp only [Sem.run_bind, Sem.run_pure, Result.andThen_ok, hbi]
          rw [if_neg h2]
          simp only [Sem.run_bind, Sem.run_pure, Result.andThen_ok]
          have hask : ∀ w' : World, (askRoom (cap * bi.bytes)).run P w' = .ok () w' := by
            intro w'; unfold askRoom; split <;> rfl
          have hch' : (choose (.appendCap (0 + n.toNat) 0 e)).run P w = .ok cap (World.drew1 w) := rfl
          have hold : ∀ w' : World, (Builtin.firstCells E.size 0 (.slice a 0 0)).run P w' = .ok #[] w' := by
            intro w'; cases a <;> simp [Builtin.firstCells, loadCells, loadCellsFrom] <;> rfl
          simp only [hch', Result.andThen_ok, Sem.run_bind, hbi, hask, hold, hzv]
          have hnew : ∀ w' : World, ((if n.toNat * E.size = 0 then pure #[] else zeroValue e >>= fun z => pure (Builtin.zeroCells z.cells n.toNat) : Sem (Array Value))).run P w' = .ok news.toArray w' := by
            intro w'
            by_cases h0 : n.toNat * E.size = 0
            · rw [if_pos h0]
              have : news = [] := List.eq_nil_of_length_eq_zero (by omega)
              rw [this]; rfl
            · rw [if_neg h0]
              simp only [Sem.run_bind, hzv, Result.andThen_ok, news]
              rfl
          simp only [Bool.not_true, Bool.false_eq_true, if_false, hnew, Result.andThen_ok]
          have hA : #[] ++ news.toArray ++ Builtin.zeroCells zv.cells (cap - (0 + n.toNat)) = (news ++ (Builtin.zeroCells zv.cells (cap - (0 + n.toNat))).toList).toArray := by
            apply Array.ext'; simp
          rw [hA]
          rfl
        have g := Go1.drew hst
        have hst1 := g.st
        have g2 := Go1.more hst1 (news ++ (Builtin.zeroCells zv.cells (cap - (0 + n.toNat))).toList).toArray e (0, 0) ⟨true, E.size, n.toNat, w.heap.size, 0, cap⟩ (.row E.size n.toNat false false (List.replicate n.toNat z)) (fun _ => rfl)
          (EntOk.fresh hst (hv) (fun c hc => by rw [List.eq_of_mem_replicate hc]; exact hzl.1) (by simp) hcapge (by simp [news, Builtin.zeroCells, hzs]; rw [← Nat.add_mul]; congr 1; omega) e (soft0 _) (w1 := World.drew1 w) rfl)
        refine ⟨_, _, hrun, hn.go h (g.trans hst g2 (fun i => by simp)) ?_⟩
        unfold RV
        rw [← hst.len, Nat.zero_add]
        exact ⟨⟨true, E.size, n.toNat, w.heap.size, 0, cap⟩, by simp, rfl, _, rfl, .inr rfl⟩
    · cases h
  · cases h
end
end Go.Ev
