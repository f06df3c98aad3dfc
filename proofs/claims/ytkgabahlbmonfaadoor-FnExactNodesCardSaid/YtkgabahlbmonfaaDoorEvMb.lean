import Derived.Test.YtkgabahlbmonfaaDoorEvOp3
set_option linter.unusedVariables false
set_option linter.unusedSimpArgs false
/-
  The evaluator's operations are the machine's: stores.
-/
namespace Go.Ev
open Go

theorem putAt_eq : ∀ (vs cs : List V) (off : Nat), off + vs.length ≤ cs.length → putAt cs off vs = cs.take off ++ vs ++ cs.drop (off + vs.length)
  | [], cs, off, _ => by simp [putAt]
  | v :: vs, cs, off, h => by
    simp only [List.length_cons] at h
    unfold putAt
    rw [putAt_eq vs (cs.set off v) (off + 1) (by simp; omega)]
    have h1 : (cs.set off v).take (off + 1) = cs.take off ++ [v] := by
      rw [List.take_set, List.take_add_one]
      rw [List.set_append_right _ _ (by simp; omega)]
      simp
      rw [Nat.min_eq_left (by omega)]
      simp [show off < cs.length by omega]
    have h2 : (cs.set off v).drop (off + 1 + vs.length) = cs.drop (off + (v :: vs).length) := by
      rw [List.drop_set_of_lt (by omega)]
      simp [Nat.add_assoc, Nat.add_comm 1]
    rw [h1, h2]; simp
theorem putD_eq : ∀ (vs cs : List D) (off : Nat), off + vs.length ≤ cs.length → putD cs off vs = cs.take off ++ vs ++ cs.drop (off + vs.length)
  | [], cs, off, _ => by simp [putD]
  | v :: vs, cs, off, h => by
    simp only [List.length_cons] at h
    unfold putD
    rw [putD_eq vs (cs.set off v) (off + 1) (by simp; omega)]
    have h1 : (cs.set off v).take (off + 1) = cs.take off ++ [v] := by
      rw [List.take_set, List.take_add_one]
      rw [List.set_append_right _ _ (by simp; omega)]
      simp
      rw [Nat.min_eq_left (by omega)]
      simp [show off < cs.length by omega]
    have h2 : (cs.set off v).drop (off + 1 + vs.length) = cs.drop (off + (v :: vs).length) := by
      rw [List.drop_set_of_lt (by omega)]
      simp [Nat.add_assoc, Nat.add_comm 1]
    rw [h1, h2]; simp

theorem RCs.of_RVs {w : World} {C : Com} {ι : Locs} {g : Nat → Option Value} : ∀ {ds : List D} {us : List Value} {off : Nat}, RVs w C ι us (toVs ds) → (∀ j u, us[j]? = some u → g (off + j) = some u) → RCs w C g off ds
  | [], _, _, _, _ => by simp [RCs]
  | _ :: _, [], _, h, _ => by simp [toVs, RVs] at h
  | x :: xs, u :: us, off, h, hg => by
    simp only [toVs] at h
    unfold RVs at h
    unfold RCs
    refine ⟨⟨u, hg 0 u rfl, by have := h.1; unfold RV at this; exact this⟩, RCs.of_RVs h.2 fun j u hj => ?_⟩
    have := hg (j + 1) u (by simpa using hj)
    rwa [show off + 1 + j = off + (j + 1) by omega]

theorem toVs_len : ∀ {ds : List D}, (toVs ds).length = ds.length
  | [] => rfl
  | _ :: ds => by simp [toVs, toVs_len (ds := ds)]

theorem REs.set {w : World} {C : Com} {g g' : Nat → Option Value} {sz : Nat} {c' : List D} : ∀ {es : List (List D)} {off i : Nat}, REs w C g off es → (∀ c ∈ es, c.length = sz) → i < es.length → c'.length = sz → RCs w C g' (off + i * sz) c' →
    (∀ o, (o < off + i * sz ∨ off + (i + 1) * sz ≤ o) → g' o = g o) → REs w C g' off (es.set i c')
  | [], _, _, _, _, hi, _, _, _ => by simp at hi
  | c :: es, off, 0, h, hl, _, hc, hr, hg => by
    unfold REs at h
    have e := hl c (by simp)
    simp only [List.set_cons_zero]
    unfold REs
    refine ⟨by simpa using hr, ?_⟩
    rw [hc]; rw [e] at h
    exact REs.mono (.refl _ _) es (N := off + sz + es.length * sz) (sz := sz) (fun o ho _ u hu => by rw [hg o (.inr (by omega))]; exact hu) (fun c hc => hl c (by simp [hc])) (Nat.le_refl _) h.2
  | c :: es, off, i + 1, h, hl, hi, hc, hr, hg => by
    unfold REs at h
    have e := hl c (by simp)
    simp only [List.set_cons_succ]
    unfold REs
    have e1 : off + (i + 1) * sz = off + sz + i * sz := by rw [Nat.add_mul, Nat.one_mul]; omega
    have e2 : off + (i + 1 + 1) * sz = off + sz + (i + 1) * sz := by rw [Nat.add_mul (i + 1), Nat.one_mul]; omega
    refine ⟨RCs.mono (.refl _ _) c (N := off + sz) (fun o ho1 ho u hu => by rw [hg o (.inl (by omega))]; exact hu) (by omega) h.1, ?_⟩
    rw [e] at h ⊢
    exact REs.set h.2 (fun c hc => hl c (by simp [hc])) (by simpa using hi) hc (by rw [← e1]; exact hr) (fun o ho => hg o (by rw [e1, e2]; exact ho))

theorem cell_of_row {w : World} {b o : Nat} {us : Array Value} {T : TypeId} {fr : Nat × Nat} (h : w.heap[b]? = some (.cells us T fr)) : w.cell? ⟨b, o, none⟩ = us[o]? := by
  simp [World.cell?, h]

theorem seg_get {us vs : List Value} {off o : Nat} (h : off + vs.length ≤ us.length) : (us.take off ++ vs ++ us.drop (off + vs.length))[o]? = if off ≤ o ∧ o < off + vs.length then vs[o - off]? else us[o]? := by
  have ht : (us.take off).length = off := by simp; omega
  split
  · rename_i hc
    rw [List.append_assoc, List.getElem?_append_right (by omega), ht, List.getElem?_append_left (by omega)]
  · rename_i hc
    rcases Nat.lt_or_ge o off with g | g
    · rw [List.append_assoc, List.getElem?_append_left (by omega), List.getElem?_take, if_pos g]
    · rw [List.getElem?_append_right (by simp; omega), List.getElem?_drop]
      congr 1
      simp; omega

theorem evStore_ok {R : Type} {P : Program} {t : TypeId} {T : TI} (hT : TIok P t T) {C : Com} {ι : Locs} {M : Mem} {w : World} (hst : St C ι M w) {a x : V} {k : Mem → Option R} {r : R} (h : evStore T M a x k = some r) {av xv : Value} (ha : RV w C ι av a) (hx : RV w C ι xv x) :
    ∃ M' C' w', (Instr.storeAt t av xv).run P w = .ok () w' ∧ Go1 C ι M w C' ι M' w' (fun _ => False) ∧ k M' = some r := by
  unfold evStore at h
  obtain ⟨hc, h⟩ := bif_some h
  simp only [Bool.and_eq_true] at hc
  obtain ⟨hl, hs, hlf⟩ := hc
  have hl := Nat.eq_of_beq_eq_true hl
  have hcells := hx.cells hs
  have hone := hcells.one hlf
  have hclen := hcells.length
  have hvs : xv.cells.size = T.size := by rw [← hl, ← hclen]; simp
  have pre : ∀ (b o : Nat), av = .pointer (some ⟨b, o, none⟩) → (Instr.storeAt t av xv).run P w = (storeCells ⟨b, o, none⟩ xv.cells.toList).run P w := by
    intro b o e; subst e
    unfold Instr.storeAt Instr.sureAddr storeVar
    simp only [Sem.run_bind, Sem.run_pure, Result.andThen_ok, hT.size, hvs, ne_eq, not_true_eq_false, if_false]
  cases a with
  | ptr id off =>
    simp only [getM] at h
    cases hM : M[id]? with
    | none => rw [hM] at h; cases h
    | some e =>
      rw [hM] at h
      cases e with
      | row => cases h
      | lrow => cases h
      | hole => cases h
      | box cs =>
        simp only at h
        obtain ⟨hle, hk⟩ := bif_some h
        have hle := Nat.le_of_ble_eq_true hle
        have ha' := ha
        unfold RV at ha'
        obtain ⟨L, hL, hrow, rfl⟩ := ha'
        obtain ⟨_, hC0, us, T', fr, hh, hsoft, hv⟩ := hst.ent id L _ hL hM
        have hlen := hv.length
        simp at hlen
        have hsz : xv.cells.toList.length = T.size := by simpa using hvs
        obtain ⟨w', hr, e1, e2, e3, e4, e5, e6⟩ := run_storeCells' (P := P) L.b off T' fr xv.cells.toList 0 us w hh hsoft (by omega) hone
        simp only [Nat.add_zero] at e6
        have hkp : Keeps w C w' C := by
          refine ⟨fun b o ho => ?_, fun _ => Nat.le_refl _⟩
          by_cases e : b = L.b
          · subst e; omega
          · exact cell_of_heap (e5 b e)
        have u : Upd C ι w id L L C w' := by
          refine ⟨rfl, hst.own, e1, e2, e3, by omega, hL, hkp, fun b _ hb => ⟨e5 b (hb (.inl hrow)), rfl⟩, fun hl => .inl ⟨hl, rfl⟩, rfl, rfl, fun b => ?_⟩
          by_cases e : b = L.b
          · subst e; exact .inl hC0
          · rw [e5 b e]; exact hst.com b
        refine ⟨_, C, w', (pre _ _ rfl).trans hr, ⟨u.st0 hst (.box (putAt cs off x.cells)) ⟨.inl hrow, hC0, _, T', fr, e6, ?_, ?_⟩, u.stp0, fun i _ hm => ?_⟩, hk⟩
        · refine hsoft.of_size ?_
          simp
          omega
        · rw [putAt_eq _ _ _ (by omega)]
          have hm := RVs.mono hkp (fun _ _ h => h) _ hv
          have hm' := RVs.mono hkp (fun _ _ h => h) _ hcells
          have := RVs.append (RVs.append (hm.take off) hm') (hm.drop (off + xv.cells.toList.length))
          rw [show xv.cells.toList.length = x.cells.length by omega] at this ⊢
          simpa using this
        · rcases hm with hm | hm
          · exact mvs_setE (e' := .box (putAt cs off x.cells)) hM (fun h => h) hm
          · exact hm.elim
  | ep id i j =>
    simp only at h
    cases hf : freezeL M x.cells with
    | none => rw [hf] at h; cases h
    | some p =>
      obtain ⟨ds, M1⟩ := p
      rw [hf] at h
      simp only [getM] at h
      obtain ⟨C1, g1, hds, hl1, hdl⟩ := freezeL_ok hf hst hcells
      cases hM : M1[id]? with
      | none => rw [hM] at h; cases h
      | some e =>
        rw [hM] at h
        cases e with
        | box => cases h
        | lrow => cases h
        | hole => cases h
        | row sz n fz mv es =>
          cases fz with
          | true => cases h
          | false =>
            simp only at h
            obtain ⟨hle, hk⟩ := bif_some h
            clear h
            have hle := Nat.le_of_ble_eq_true hle
            rw [olet_eq] at hk
            have ha' := ha
            unfold RV at ha'
            obtain ⟨L, hL, hrow, hi, rfl⟩ := ha'
            obtain ⟨_, q1, q2, q3, q4, q5, q6⟩ := g1.st.ent id L _ hL hM
            subst q1 q2
            rcases q6 with q6 | ⟨us, T', fr, hh, hsoft, hz, hC, hre⟩
            · omega
            simp only [Bool.false_eq_true, if_false] at hC
            have hsz : xv.cells.toList.length = T.size := by simpa using hvs
            have hin : (i + 1) * L.sz ≤ L.cap * L.sz := Nat.mul_le_mul_right _ (by omega)
            rw [Nat.add_mul, Nat.one_mul] at hin
            obtain ⟨w', hr, e1, e2, e3, e4, e5, e6⟩ := run_storeCells' (P := P) L.b (L.base + i * L.sz + j) T' fr xv.cells.toList 0 us w hh hsoft (by omega) hone
            simp only [Nat.add_zero] at e6
            have hg : ∀ o, w'.cell? ⟨L.b, o, none⟩ = if L.base + i * L.sz + j ≤ o ∧ o < L.base + i * L.sz + j + T.size then xv.cells.toList[o - (L.base + i * L.sz + j)]? else us[o]? := by
              intro o
              rw [cell_of_row e6]
              have := seg_get (us := us.toList) (vs := xv.cells.toList) (off := L.base + i * L.sz + j) (o := o) (by simp at hsz ⊢; omega)
              rw [hsz] at this
              simpa [hsz] using this
            have hkp : Keeps w C1 w' C1 := by
              refine ⟨fun b o ho => ?_, fun _ => Nat.le_refl _⟩
              by_cases e : b = L.b
              · subst e; rw [hg, if_neg (by omega), cell_of_row hh]
              · exact cell_of_heap (e5 b e)
            have hsz' : (us.toList.take (L.base + i * L.sz + j) ++ xv.cells.toList ++ us.toList.drop (L.base + i * L.sz + j + xv.cells.toList.length)).toArray.size = us.size := by simp at hsz ⊢; omega
            have u : Upd C1 ι w id L L C1 w' := by
              refine ⟨rfl, g1.st.own, e1, e2, e3, by omega, hL, hkp, fun b _ hb => ⟨e5 b (hb (.inr (by omega))), rfl⟩, fun hl => .inl ⟨hl, rfl⟩, rfl, rfl, fun b => ?_⟩
              by_cases e : b = L.b
              · subst e
                exact .inr ⟨_, T', fr, e6, by rw [hsz']; omega⟩
              · rw [e5 b e]; exact g1.st.com b
            have hci := REs.at i q5 (by omega) hre
            have hdl' : ds.length = T.size := by omega
            have hput := putD_eq ds (es.getD i []) j (by rw [hci.2]; omega)
            have hnew : REs w' C1 (fun o => (us.toList.take (L.base + i * L.sz + j) ++ xv.cells.toList ++ us.toList.drop (L.base + i * L.sz + j + xv.cells.toList.length)).toArray[o]?) L.base (es.set i (putD (es.getD i []) j ds)) := by
              have hre' : REs w' C1 (fun o => us[o]?) L.base es := REs.mono hkp es (N := L.base + es.length * L.sz) (fun _ _ _ _ h => h) q5 (Nat.le_refl _) hre
              have hci' := REs.at i q5 (by omega) hre'
              have gg : ∀ o, (us.toList.take (L.base + i * L.sz + j) ++ xv.cells.toList ++ us.toList.drop (L.base + i * L.sz + j + xv.cells.toList.length)).toArray[o]? = if L.base + i * L.sz + j ≤ o ∧ o < L.base + i * L.sz + j + T.size then xv.cells.toList[o - (L.base + i * L.sz + j)]? else us[o]? := by
                intro o; rw [← cell_of_row e6]; exact hg o
              refine REs.set hre' q5 (by omega) (by rw [hput]; simp [-List.getD_eq_getElem?_getD]; rw [hci.2]; omega) ?_ (fun o ho => ?_)
              · rw [hput]
                refine RCs.append (RCs.append ?_ ?_) ?_
                · exact RCs.mono (.refl _ _) _ (N := L.base + i * L.sz + j) (fun o h1 h2 u hu => by show _ = _; rw [gg, if_neg (by omega)]; exact hu) (by simp [-List.getD_eq_getElem?_getD]; omega) (RCs.take j hci'.1)
                · have : (List.take j (es.getD i [])).length = j := by rw [List.length_take, hci.2]; omega
                  rw [this]
                  refine RCs.of_RVs (ι := ι) (RVs.mono hkp (fun _ _ h => h) _ hds) (fun q v hq => ?_)
                  have hql := lt_of_get hq
                  show _ = _
                  rw [gg, if_pos (by omega), show L.base + i * L.sz + j + q - (L.base + i * L.sz + j) = q by omega]; exact hq
                · have h1 : (List.take j (es.getD i []) ++ ds).length = j + T.size := by rw [List.length_append, List.length_take, hci.2, hdl']; omega
                  rw [h1, hdl']
                  have := RCs.drop (j + T.size) hci'.1
                  exact RCs.mono (.refl _ _) _ (N := L.base + i * L.sz + L.sz) (fun o h1 h2 u hu => by show _ = _; rw [gg, if_neg (by omega)]; exact hu) (by rw [List.length_drop, hci.2]; omega) this
              · rw [Nat.add_mul, Nat.one_mul] at ho
                show _ = _; rw [gg, if_neg (by omega)]
            have go2 : Go1 C1 ι M1 w C1 ι (M1.set id (.row L.sz L.n false mv (es.set i (putD (es.getD i []) j ds)))) w' (fun _ => False) := by
              refine ⟨u.st0 g1.st _ ⟨hrow, rfl, rfl, q3, by simpa using q4, ?_, .inr ⟨_, T', fr, e6, ?_, by rw [hsz']; omega, by simpa using hC, hnew⟩⟩, u.stp0, fun i' _ hm => mvs_set hM (hm.elim (fun h => h) False.elim)⟩
              · intro c hc
                rcases List.mem_or_eq_of_mem_set hc with hc | hc
                · exact q5 c hc
                · rw [hc, hput]; simp [-List.getD_eq_getElem?_getD]; rw [hci.2]; omega
              · exact hsoft.of_size hsz'
            exact ⟨_, C1, w', (pre _ _ rfl).trans hr, g1.trans hst go2 (fun i => by simp), hk⟩
  | _ => simp at h
end Go.Ev

/-
  The evaluator's operations are the machine's: numbers, lengths, places, parts of slices.
-/
namespace Go.Ev
open Go

theorem find_elem {cx : Cx} {t : TypeId} {E : TI} (h : elemTI cx t = some E) : ∃ T e, find cx.ty t = some T ∧ T.kind = .sl e ∧ find cx.ty e = some E := by
  unfold elemTI at h
  cases hT : find cx.ty t with
  | none => rw [hT] at h; cases h
  | some T =>
    rw [hT] at h; simp only at h
    cases hk : T.kind with
    | sl e => rw [hk] at h; exact ⟨T, e, rfl, hk, h⟩
    | _ => rw [hk] at h; cases h

/-- What is asked of the translation. -/
structure TyOk (P : Program) (cx : Cx) : Prop where
  ty : ∀ t T, find cx.ty t = some T → TIok P t T

section
variable {R : Type} {P : Program} {C : Com} {ι : Locs} {M : Mem} {w : World}

theorem TIok.sl {t : TypeId} {T : TI} {e : TypeId} (h : TIok P t T) (hk : T.kind = .sl e) (w : World) : (underlying t).run P w = .ok (.slice e) w := by
  have := h.kind; rw [hk] at this; exact this w
theorem TIok.str {t : TypeId} {T : TI} (h : TIok P t T) (hk : T.kind = .str) (w : World) : (underlying t).run P w = .ok .string w := by
  have := h.kind; rw [hk] at this; exact this w

/-- A slice of one's own as the machine has it. -/
theorem RV.own_row (hst : St C ι M w) {v : Value} {id : Nat} {sz n : Nat} {fz mv : Bool} {es : List (List D)} (h : RV w C ι v (.own id)) (hM : M[id]? = some (.row sz n fz mv es)) :
    ∃ L a, ι[id]? = some L ∧ L.row = true ∧ L.sz = sz ∧ L.n = n ∧ v = .slice a n L.cap ∧ (L.cap = 0 ∨ a = some ⟨L.b, L.base, none⟩) ∧ n ≤ L.cap := by
  unfold RV at h
  obtain ⟨L, hL, hr, a, rfl, ha⟩ := h
  obtain ⟨_, q1, q2, q3, _⟩ := hst.ent id L _ hL hM
  exact ⟨L, a, hL, hr, q1, q2, by rw [q2], ha, q3⟩

theorem RV.own_lrow (hst : St C ι M w) {v : Value} {id : Nat} {sz n : Nat} {mv : Bool} {es : List (List D)} (h : RV w C ι v (.own id)) (hM : M[id]? = some (.lrow sz n mv es)) :
    ∃ L a, ι[id]? = some L ∧ L.row = true ∧ L.sz = sz ∧ L.n = n ∧ v = .slice a n L.cap ∧ (L.cap = 0 ∨ a = some ⟨L.b, L.base, none⟩) ∧ n ≤ L.cap := by
  unfold RV at h
  obtain ⟨L, hL, hr, a, rfl, ha⟩ := h
  obtain ⟨_, q1, q2, q3, _⟩ := hst.ent id L _ hL hM
  exact ⟨L, a, hL, hr, q1, q2, by rw [q2], ha, q3⟩

theorem evLen_ok {t : TypeId} {T : TI} (hT : TIok P t T) (hst : St C ι M w) {v : V} {k : Int → Option R} {r : R} (h : evLen T M v k = some r) {x : Value} (hx : RV w C ι x v) (ts : Array TypeId) (ty : TypeId) (hts : ts[0]? = some t) :
    ∃ n, (Builtin.len_ ts ty #[x]).run P w = .ok (.int .i64 n) w ∧ k n = some r := by
  unfold evLen at h
  unfold Builtin.len_
  simp only [hts, List.getElem?_toArray, List.getElem?_cons_zero]
  split at h
  · rename_i hk
    unfold RV RD at hx
    obtain ⟨a, cap, rfl, _⟩ := hx
    exact ⟨_, by simp only [Sem.run_bind, hT.sl hk, Result.andThen_ok]; rfl, h⟩
  · rename_i hk
    unfold RV at hx; simp only [RD] at hx; subst hx
    exact ⟨_, by simp only [Sem.run_bind, hT.str hk, Result.andThen_ok]; rfl, h⟩
  · rename_i hk
    simp only [getM] at h
    split at h
    · rename_i hM
      obtain ⟨L, a, _, _, _, _, rfl, _⟩ := hx.own_row hst hM
      exact ⟨_, by simp only [Sem.run_bind, hT.sl hk, Result.andThen_ok]; rfl, h⟩
    · rename_i hM
      obtain ⟨L, a, _, _, _, _, rfl, _⟩ := hx.own_lrow hst hM
      exact ⟨_, by simp only [Sem.run_bind, hT.sl hk, Result.andThen_ok]; rfl, h⟩
    · cases h
  · rename_i hk
    unfold RV at hx
    obtain ⟨L, _, _, _, a, c, rfl, _⟩ := hx
    exact ⟨_, by simp only [Sem.run_bind, hT.sl hk, Result.andThen_ok]; rfl, h⟩
  · cases h

theorem evIndexAddr_ok {t e : TypeId} {T E : TI} (hT : TIok P t T) (hk : T.kind = .sl e) (hE : TIok P e E) (hst : St C ι M w) {v : V} {i : Int} {ik : IntKind} {k : V → Option R} {r : R} (h : evIndexAddr E M v i k = some r) {x : Value} (hx : RV w C ι x v) :
    ∃ u y, (Instr.indexAt t x (.int ik i)).run P w = .ok u w ∧ RV w C ι u y ∧ k y = some r := by
  have run : ∀ (b o n cap : Nat) (a : Option Addr), x = .slice a n cap → (0 ≤ i ∧ i < n) → a = some ⟨b, o, none⟩ → (Instr.indexAt t x (.int ik i)).run P w = .ok (.pointer (some ⟨b, o + i.toNat * E.size, none⟩)) w := by
    intro b o n cap a e hi ea
    subst e ea
    unfold Instr.indexAt asIntOf
    simp only [Sem.run_bind, Sem.run_pure, Result.andThen_ok, hT.sl hk]
    rw [if_pos hi]
    simp only [Sem.run_bind, Sem.run_pure, Result.andThen_ok, hE.size, add_at]
  unfold evIndexAddr at h
  split at h
  · rename_i full sz n es
    obtain ⟨hz, h⟩ := bif_some h
    simp only [Bool.and_eq_true] at hz
    obtain ⟨hz, hsl, hsd⟩ := hz
    have hz := Nat.eq_of_beq_eq_true hz
    have hsl := Nat.eq_of_beq_eq_true hsl
    obtain ⟨hi, t, hdt, h⟩ := oat_some h
    unfold RV RD at hx
    obtain ⟨a, cap, e, h1, _, h3, h4, h5⟩ := hx
    rcases h5 with h5 | ⟨b, off, rfl, hc, hre⟩
    · omega
    obtain ⟨hci, hcl⟩ := REs.at i.toNat h4 (by omega) hre
    obtain ⟨hci', _⟩ := cells_ok E.sh hdt (alld_leafs _ _ hsd) hci
    refine ⟨_, _, run b off n cap _ e hi rfl, ?_, h⟩
    unfold RV
    rw [← hz] at hci' hsl hc
    refine ⟨b, off + i.toNat * E.size, rfl, ?_, hci'⟩
    rw [vDs_len, LS.encs_len, hsl]
    have : (i.toNat + 1) * E.size ≤ n * E.size := Nat.mul_le_mul_right _ (by omega)
    rw [Nat.add_mul, Nat.one_mul] at this; omega
  · simp only [getM] at h
    split at h
    · rename_i sz n fz mv es hM
      obtain ⟨hz, h⟩ := bif_some h
      have hz := Nat.eq_of_beq_eq_true hz
      obtain ⟨hi, h⟩ := oguard_some h
      have hi := of_decide_eq_true hi
      obtain ⟨L, a, hL, hr, e1, e2, e3, ha, hn⟩ := hx.own_row hst hM
      rcases ha with ha | rfl
      · omega
      refine ⟨_, _, run L.b L.base n L.cap _ e3 hi rfl, ?_, h⟩
      unfold RV
      exact ⟨L, hL, hr, by omega, by rw [hz, e1]; rfl⟩
    · rename_i sz n mv es hM
      obtain ⟨hz, h⟩ := bif_some h
      have hz := Nat.eq_of_beq_eq_true hz
      obtain ⟨hi, h⟩ := oguard_some h
      have hi := of_decide_eq_true hi
      obtain ⟨L, a, hL, hr, e1, e2, e3, ha, hn⟩ := hx.own_lrow hst hM
      rcases ha with ha | rfl
      · omega
      refine ⟨_, _, run L.b L.base n L.cap _ e3 hi rfl, ?_, h⟩
      unfold RV
      exact ⟨L, hL, hr, by omega, by rw [hz, e1]; rfl⟩
    · cases h
  · simp only [getM] at h
    split at h
    · rename_i sz n0 fz mv es hM
      obtain ⟨hz, h⟩ := bif_some h
      have hz := Nat.eq_of_beq_eq_true hz
      obtain ⟨hi, h⟩ := oguard_some h
      have hi := of_decide_eq_true hi
      unfold RV at hx
      obtain ⟨L, hL, hr, hle, a, c, e3, hnc, ha⟩ := hx
      obtain ⟨_, q1, q2, q3, _⟩ := hst.ent _ L _ hL hM
      rcases ha with ha | ⟨_, rfl⟩
      · omega
      refine ⟨_, _, run L.b _ _ c _ e3 hi rfl, ?_, h⟩
      unfold RV
      refine ⟨L, hL, hr, by omega, ?_⟩
      rw [hz, ← q1, Nat.add_mul]; simp [Nat.add_assoc]
    · cases h
  · cases h

theorem run_bound {x : Int} {ik : IntKind} {y : Nat} {code : BoundsCode} (h : 0 ≤ x ∧ x ≤ y) : (Instr.sliceBound (.int ik x) y code).run P w = .ok x.toNat w := by
  unfold Instr.sliceBound asIntOf
  simp only [Sem.run_bind, Sem.run_pure, Result.andThen_ok]
  rw [if_pos h]; rfl

/-- The bounds of a slice expression. -/
def bounds (lo hi : Option Int) (n : Nat) : Nat × Nat := ((lo.map Int.toNat).getD 0, (hi.map Int.toNat).getD n)

theorem run_bounds {b : Bool} {lo hi : Option Int} {lv hv : Option Value} {n c : Nat} (hl : ∀ a, lo = some a → ∃ ik, lv = some (.int ik a)) (hl' : lo = none → lv = none) (hh : ∀ a, hi = some a → ∃ ik, hv = some (.int ik a)) (hh' : hi = none → hv = none)
    (hc : n ≤ c) (g1 : ∀ a, hi = some a → 0 ≤ a ∧ a ≤ n) (g2 : ∀ a, lo = some a → 0 ≤ a ∧ a.toNat ≤ (bounds lo hi n).2) :
    (Instr.sliceBounds b n c lv hv none).run P w = .ok ((bounds lo hi n).1, (bounds lo hi n).2, c) w := by
  unfold Instr.sliceBounds
  cases hi with
  | none =>
    rw [hh' rfl]
    cases lo with
    | none => rw [hl' rfl]; rfl
    | some a =>
      obtain ⟨ik, rfl⟩ := hl a rfl
      have := g2 a rfl
      simp only [Sem.run_bind, Sem.run_pure, Result.andThen_ok]
      simp only [bounds, Option.map_none, Option.getD_none] at this
      simp only [bounds, Option.map_none, Option.getD_none, Option.map_some, Option.getD_some]
      rw [run_bound (by omega)]; rfl
  | some d =>
    obtain ⟨ik, rfl⟩ := hh d rfl
    have h1 := g1 d rfl
    cases lo with
    | none =>
      rw [hl' rfl]
      simp only [Sem.run_bind, Sem.run_pure, Result.andThen_ok]
      rw [run_bound (by omega)]; rfl
    | some a =>
      obtain ⟨ik, rfl⟩ := hl a rfl
      have := g2 a rfl
      simp only [bounds, Option.map_some, Option.getD_some] at this
      simp only [Sem.run_bind, Sem.run_pure, Result.andThen_ok]
      rw [run_bound (by omega)]
      simp only [Result.andThen_ok, Sem.run_bind]
      rw [run_bound (by omega)]; rfl
end
end Go.Ev

/-
  The evaluator's operations are the machine's: parts of slices, sums and comparisons.
-/
namespace Go.Ev
open Go

section
variable {R : Type} {P : Program} {C : Com} {ι : Locs} {M : Mem} {w : World}

theorem szIs_eq {E : Option TI} {sz : Nat} (h : szIs E sz = true) : ∃ E', E = some E' ∧ E'.size = sz := by
  cases E with
  | none => cases h
  | some E => exact ⟨E, rfl, Nat.eq_of_beq_eq_true h⟩

/-- A slice expression on a slice, told once. -/
theorem run_sliceAt {t e : TypeId} {T E : TI} (hT : TIok P t T) (hk : T.kind = .sl e) (hE : TIok P e E) {a : Option Addr} {n c : Nat} {lo hi : Option Int} {lv hv : Option Value} (hl : ∀ a, lo = some a → ∃ ik, lv = some (.int ik a)) (hl' : lo = none → lv = none) (hh : ∀ a, hi = some a → ∃ ik, hv = some (.int ik a)) (hh' : hi = none → hv = none)
    (hc : n ≤ c) (g1 : ∀ a, hi = some a → 0 ≤ a ∧ a ≤ n) (g2 : ∀ a, lo = some a → 0 ≤ a ∧ a.toNat ≤ (bounds lo hi n).2) :
    (Instr.sliceAt t (.slice a n c) lv hv none).run P w = .ok (.slice (if c = (bounds lo hi n).1 then a else a.map (·.add ((bounds lo hi n).1 * E.size))) ((bounds lo hi n).2 - (bounds lo hi n).1) (c - (bounds lo hi n).1)) w := by
  unfold Instr.sliceAt
  simp only [Sem.run_bind, Sem.run_pure, Result.andThen_ok, hT.sl hk]
  unfold Instr.slice
  simp only [Sem.run_bind, Sem.run_pure, Result.andThen_ok, hT.sl hk]
  rw [run_bounds (P := P) (w := w) hl hl' hh hh' hc g1 g2]
  simp only [Sem.run_bind, Sem.run_pure, Result.andThen_ok, hE.size]

theorem bnd_le {lo hi : Option Int} {n : Nat} (g1 : ∀ a, hi = some a → 0 ≤ a ∧ a ≤ n) : (bounds lo hi n).2 ≤ n := by
  cases hi with
  | none => simp [bounds]
  | some d => have := g1 d rfl; simp [bounds]; omega
theorem bnd_lo {lo hi : Option Int} {n : Nat} (g2 : ∀ a, lo = some a → 0 ≤ a ∧ a.toNat ≤ (bounds lo hi n).2) : (bounds lo hi n).1 ≤ (bounds lo hi n).2 := by
  cases lo with
  | none => simp [bounds]
  | some a => have := (g2 a rfl).2; simpa [bounds] using this

/-- What a part of data is. -/
theorem RD.part {v : Value} {full : Bool} {sz n : Nat} {es : List (List D)} (h : RD w C v (.sl full sz n es)) {a : Option Addr} {c : Nat} (e : v = .slice a n c) (l m : Nat) (hm : m ≤ n) (hl : l ≤ m) (full' : Bool) (hf : full' = true → full = true ∧ m = n) (es' : List (List D)) (he : es' = (es.take m).drop l) :
    RD w C (.slice (if c = l then a else a.map (·.add (l * sz))) (m - l) (c - l)) (.sl full' sz (m - l) es') := by
  subst e he
  unfold RD at h
  obtain ⟨a', cap, ea, h1, h2, h3, h4, h5⟩ := h
  cases ea
  unfold RD
  refine ⟨_, _, rfl, by omega, fun hf' => ?_, by simp; omega, fun c' hc' => h4 c' (List.take_subset _ _ (List.drop_subset _ _ hc')), ?_⟩
  · obtain ⟨f1, f2⟩ := hf hf'
    have := h2 f1; omega
  · by_cases hlm : m - l = 0
    · exact .inl hlm
    · rcases h5 with h5 | ⟨b, off, rfl, hc, hre⟩
      · omega
      refine .inr ⟨b, off + l * sz, ?_, ?_, ?_⟩
      · rw [if_neg (by omega)]; simp [add_at]
      · have : m * sz ≤ n * sz := Nat.mul_le_mul_right _ hm
        rw [Nat.sub_mul]
        have : l * sz ≤ m * sz := Nat.mul_le_mul_right _ hl
        omega
      · exact REs.drop l (fun c' hc' => h4 c' (List.take_subset _ _ hc')) (by simp; omega) (REs.take m hre)

theorem evSlice_ok {t : TypeId} {cx : Cx} (hcx : TyOk P cx) (hst : St C ι M w) {x : V} {lo hi : Option Int} {k : V → Option R} {r : R} (h : evSlice (elemTI cx t) M x lo hi k = some r) {v : Value} (hx : RV w C ι v x) {lv hv : Option Value} (hl : ∀ a, lo = some a → ∃ ik, lv = some (.int ik a)) (hl' : lo = none → lv = none) (hh : ∀ a, hi = some a → ∃ ik, hv = some (.int ik a)) (hh' : hi = none → hv = none) :
    ∃ u y, (Instr.sliceAt t v lv hv none).run P w = .ok u w ∧ RV w C ι u y ∧ k y = some r := by
  unfold evSlice at h
  split at h
  · rename_i full sz n es
    obtain ⟨hz0, hq⟩ := bif_some h
    clear h
    obtain ⟨E, hE, hz⟩ := szIs_eq hz0
    obtain ⟨T, e, hT, hk, hE'⟩ := find_elem hE
    have hx0 := hx
    unfold RV at hx0
    have hx1 := hx0
    unfold RD at hx1
    obtain ⟨a, c, rfl, hnc, _⟩ := hx1
    have key : ∀ (full' : Bool) (es' : List (List D)), (∀ a, hi = some a → 0 ≤ a ∧ a ≤ n) → (∀ a, lo = some a → 0 ≤ a ∧ a.toNat ≤ (bounds lo hi n).2) → (full' = true → full = true ∧ (bounds lo hi n).2 = n) → es' = (es.take (bounds lo hi n).2).drop (bounds lo hi n).1 →
        ∃ u, (Instr.sliceAt t (.slice a n c) lv hv none).run P w = .ok u w ∧ RV w C ι u (.d (.sl full' sz ((bounds lo hi n).2 - (bounds lo hi n).1) es')) := by
      intro full' es' g1 g2 g3 g4
      refine ⟨_, run_sliceAt (hcx.ty _ _ hT) hk (hcx.ty _ _ hE') hl hl' hh hh' hnc g1 g2, ?_⟩
      unfold RV
      rw [hz]
      exact hx0.part rfl _ _ (bnd_le g1) (bnd_lo g2) full' g3 es' g4
    have elen : es.length = n := by unfold RD at hx0; obtain ⟨_, _, _, _, _, h3, _⟩ := hx0; exact h3
    clear hx
    split at hq
    · obtain ⟨u, h1, h2⟩ := key full es (fun _ h => by cases h) (fun _ h => by cases h) (fun h => ⟨h, rfl⟩) (by simp [bounds, ← elen])
      exact ⟨u, _, h1, by simpa [bounds] using h2, hq⟩
    · rename_i a0
      obtain ⟨hg0, hq⟩ := oguard_some hq
      have hg := of_decide_eq_true hg0
      rw [olet_eq] at hq
      obtain ⟨u, h1, h2⟩ := key full (es.drop a0.toNat) (fun _ h => by cases h) (fun _ h => by cases h; simp [bounds]; omega) (fun h => ⟨h, rfl⟩) (by simp [bounds, ← elen])
      exact ⟨u, _, h1, by simpa [bounds] using h2, hq⟩
    · rename_i b0
      obtain ⟨hg0, hq⟩ := oguard_some hq
      have hg := of_decide_eq_true hg0
      rw [olet_eq] at hq
      obtain ⟨u, h1, h2⟩ := key (full && Nat.beq n 0) (es.take b0.toNat) (fun _ h => by cases h; exact hg) (fun _ h => by cases h) (fun h => by
        simp only [Bool.and_eq_true] at h
        have := Nat.eq_of_beq_eq_true h.2
        exact ⟨h.1, by simp [bounds]; omega⟩) (by simp [bounds])
      exact ⟨u, _, h1, by simpa [bounds] using h2, hq⟩
    · rename_i a0 b0
      obtain ⟨hg0, hq⟩ := oguard_some hq
      have hg := of_decide_eq_true hg0
      rw [olet_eq] at hq
      obtain ⟨u, h1, h2⟩ := key false ((es.take b0.toNat).drop a0.toNat) (fun _ h => by cases h; omega) (fun _ h => by cases h; simp [bounds]; omega) (fun h => by cases h) (by simp [bounds])
      exact ⟨u, _, h1, by simpa [bounds] using h2, hq⟩
  · rename_i id
    simp only [getM] at h
    split at h
    · rename_i sz n fz mv es hM
      obtain ⟨hz0, hq⟩ := bif_some h
      clear h
      obtain ⟨E, hE, hz⟩ := szIs_eq hz0
      obtain ⟨T, e, hT, hk, hE'⟩ := find_elem hE
      obtain ⟨L, a, hL, hr, e1, e2, rfl, ha, hnc⟩ := hx.own_row hst hM
      have key : (∀ a, hi = some a → 0 ≤ a ∧ a ≤ n) → (∀ a, lo = some a → 0 ≤ a ∧ a.toNat ≤ (bounds lo hi n).2) →
          ∃ u, (Instr.sliceAt t (.slice a n L.cap) lv hv none).run P w = .ok u w ∧ RV w C ι u (.ref id (bounds lo hi n).1 ((bounds lo hi n).2 - (bounds lo hi n).1)) := by
        intro g1 g2
        refine ⟨_, run_sliceAt (hcx.ty _ _ hT) hk (hcx.ty _ _ hE') hl hl' hh hh' hnc g1 g2, ?_⟩
        have b1 := bnd_le g1 (lo := lo)
        have b2 := bnd_lo g2
        unfold RV
        refine ⟨L, hL, hr, by omega, _, _, rfl, by omega, ?_⟩
        by_cases hc : L.cap = (bounds lo hi n).1
        · exact .inl (by omega)
        · refine .inr ⟨by omega, ?_⟩
          rw [if_neg hc]
          rcases ha with ha | rfl
          · omega
          · simp [add_at, hz, e1]
      split at hq
      · exact ⟨_, _, by
          have := run_sliceAt (P := P) (w := w) (hcx.ty _ _ hT) hk (hcx.ty _ _ hE') (a := a) (n := n) (c := L.cap) hl hl' hh hh' hnc (fun _ h => by cases h) (fun _ h => by cases h)
          exact this, by
          have h0 := hx
          unfold RV at h0 ⊢
          simp only [bounds, Option.map_none, Option.getD_none, Nat.sub_zero, Nat.zero_mul]
          obtain ⟨L', hL', hr', a', ea, ha'⟩ := h0
          rw [hL] at hL'; cases hL'
          cases ea
          refine ⟨L, hL, hr, _, rfl, ?_⟩
          rcases ha with ha | rfl
          · exact .inl ha
          · refine .inr ?_; split <;> simp [add_at], hq⟩
      · obtain ⟨hg0, hq⟩ := oguard_some hq
        have hg := of_decide_eq_true hg0
        obtain ⟨u, h1, h2⟩ := key (fun _ h => by cases h) (fun _ h => by cases h; simp [bounds]; omega)
        exact ⟨u, _, h1, by simpa [bounds] using h2, hq⟩
      · obtain ⟨hg0, hq⟩ := oguard_some hq
        have hg := of_decide_eq_true hg0
        obtain ⟨u, h1, h2⟩ := key (fun _ h => by cases h; exact hg) (fun _ h => by cases h)
        exact ⟨u, _, h1, by simpa [bounds] using h2, hq⟩
      · obtain ⟨hg0, hq⟩ := oguard_some hq
        have hg := of_decide_eq_true hg0
        obtain ⟨u, h1, h2⟩ := key (fun _ h => by cases h; omega) (fun _ h => by cases h; simp [bounds]; omega)
        exact ⟨u, _, h1, by simpa [bounds] using h2, hq⟩
    · cases h
  · rename_i id off n
    simp only [getM] at h
    split at h
    · rename_i sz n0 fz mv es hM
      obtain ⟨hz0, hq⟩ := bif_some h
      clear h
      obtain ⟨E, hE, hz⟩ := szIs_eq hz0
      obtain ⟨T, e, hT, hk, hE'⟩ := find_elem hE
      have h0 := hx
      unfold RV at h0
      obtain ⟨L, hL, hr, hle, a, c, rfl, hnc, ha⟩ := h0
      obtain ⟨_, q1, q2, q3, _⟩ := hst.ent id L _ hL hM
      have key : (∀ a, hi = some a → 0 ≤ a ∧ a ≤ n) → (∀ a, lo = some a → 0 ≤ a ∧ a.toNat ≤ (bounds lo hi n).2) →
          ∃ u, (Instr.sliceAt t (.slice a n c) lv hv none).run P w = .ok u w ∧ RV w C ι u (.ref id (off + (bounds lo hi n).1) ((bounds lo hi n).2 - (bounds lo hi n).1)) := by
        intro g1 g2
        refine ⟨_, run_sliceAt (hcx.ty _ _ hT) hk (hcx.ty _ _ hE') hl hl' hh hh' hnc g1 g2, ?_⟩
        have b1 := bnd_le g1 (lo := lo)
        have b2 := bnd_lo g2
        unfold RV
        refine ⟨L, hL, hr, by omega, _, _, rfl, by omega, ?_⟩
        by_cases hc : c = (bounds lo hi n).1
        · exact .inl (by omega)
        · rcases ha with ha | ⟨hc0, rfl⟩
          · omega
          refine .inr ⟨by omega, ?_⟩
          rw [if_neg hc]
          simp [add_at, hz, q1, Nat.add_mul, Nat.add_assoc]
      split at hq
      · obtain ⟨u, h1, h2⟩ := key (fun _ h => by cases h) (fun _ h => by cases h)
        exact ⟨u, _, h1, by simpa [bounds] using h2, hq⟩
      · obtain ⟨hg0, hq⟩ := oguard_some hq
        have hg := of_decide_eq_true hg0
        obtain ⟨u, h1, h2⟩ := key (fun _ h => by cases h) (fun _ h => by cases h; simp [bounds]; omega)
        exact ⟨u, _, h1, by simpa [bounds] using h2, hq⟩
      · obtain ⟨hg0, hq⟩ := oguard_some hq
        have hg := of_decide_eq_true hg0
        obtain ⟨u, h1, h2⟩ := key (fun _ h => by cases h; exact hg) (fun _ h => by cases h)
        exact ⟨u, _, h1, by simpa [bounds] using h2, hq⟩
      · obtain ⟨hg0, hq⟩ := oguard_some hq
        have hg := of_decide_eq_true hg0
        obtain ⟨u, h1, h2⟩ := key (fun _ h => by cases h; omega) (fun _ h => by cases h; simp [bounds]; omega)
        exact ⟨u, _, h1, by simpa [bounds] using h2, hq⟩
    · cases h
  · cases h
end
end Go.Ev

/-
  The evaluator's operations are the machine's: sums, comparisons, conversions.
-/
namespace Go.Ev
open Go

section
variable {R : Type} {P : Program} {C : Com} {ι : Locs} {M : Mem} {w : World}

theorem eqGuard_pure {op : BinOp} {t : TypeId} {x y : Operand} {a b : Value} (h : ∀ cs ds, a = .agg cs → b = .agg ds → False) (h' : a = .nilIface → b = .nilIface → False) : (eqGuard op t x y a b).run P w = .ok () w := by
  have key : ∀ (A : Sem Unit) (B : Array Value → Array Value → Sem Unit), (match a, b with | .nilIface, .nilIface => A | .agg c, .agg d => B c d | _, _ => (pure () : Sem Unit)) = pure () := by
    intro A B
    split
    · exact (h' rfl rfl).elim
    · exact (h _ _ rfl rfl).elim
    · rfl
  cases op <;> unfold eqGuard <;> simp only [Bool.not_true, Bool.not_false, Bool.false_eq_true, if_true, if_false, ↓reduceIte] <;> first
    | rfl
    | (rw [key]; rfl)

theorem evBin_ok {t : TypeId} {bt : Bool} (hbt : bt = true → ∀ w, (underlying t).run P w = .ok .bool w) {op : BinOp} {x y : D} {k : D → Option R} {r : R} (h : evBin bt op x y k = some r) {a b : Value} (hx : RD w C a x) (hy : RD w C b y) (ox oy : Operand) :
    ∃ u d, (do eqGuard op t ox oy a b; binOp op t a b : Sem Value).run P w = .ok u w ∧ RD w C u d ∧ k d = some r := by
  have fin : ∀ {u : Value} {d : D}, (∀ cs ds, a = .agg cs → b = .agg ds → False) → (a = .nilIface → b = .nilIface → False) → (binOp op t a b).run P w = .ok u w → RD w C u d → k d = some r → ∃ u d, (do eqGuard op t ox oy a b; binOp op t a b : Sem Value).run P w = .ok u w ∧ RD w C u d ∧ k d = some r := by
    intro u d g1 g2 hr hd hk
    refine ⟨u, d, ?_, hd, hk⟩
    rw [Sem.run_bind, eqGuard_pure g1 g2]
    exact hr
  cases x with
  | int ka na =>
    cases y with
    | int kb nb =>
      simp only [RD] at hx hy
      subst hx hy
      have fin' : ∀ {u : Value} {d : D}, (binOp op t (.int ka na) (.int kb nb)).run P w = .ok u w → RD w C u d → k d = some r → _ := fun {u d} => fin (u := u) (d := d) (fun _ _ h => by cases h) (fun h => by cases h)
      by_cases hkk : ka = kb
      · subst hkk
        cases op <;> simp only [evBin, if_true, intCmp] at h
        case add => exact fin' (d := .int ka (ka.wrap (na + nb))) (by simp [binOp, Op.intArith]; rfl) (by simp [RD]) h
        case sub => exact fin' (d := .int ka (ka.wrap (na - nb))) (by simp [binOp, Op.intArith]; rfl) (by simp [RD]) h
        case mul => exact fin' (d := .int ka (ka.wrap (na * nb))) (by simp [binOp, Op.intArith]; rfl) (by simp [RD]) h
        case quo =>
          obtain ⟨hg, h⟩ := oguard_some h
          have hg : nb ≠ 0 := of_decide_eq_true hg
          exact fin' (d := .int ka (ka.wrap (na.tdiv nb))) (by simp [binOp, Op.intDiv, hg]; rfl) (by simp [RD]) h
        case rem =>
          obtain ⟨hg, h⟩ := oguard_some h
          have hg : nb ≠ 0 := of_decide_eq_true hg
          exact fin' (d := .int ka (na.tmod nb)) (by simp [binOp, Op.intDiv, hg]; rfl) (by simp [RD]) h
        case and => exact fin' (d := .int ka (ka.wrap (BitVec.ofInt ka.bits na &&& BitVec.ofInt ka.bits nb).toNat)) (by simp only [binOp, Op.intBits]; simp; rfl) (by simp [RD]) h
        case or => exact fin' (d := .int ka (ka.wrap (BitVec.ofInt ka.bits na ||| BitVec.ofInt ka.bits nb).toNat)) (by simp only [binOp, Op.intBits]; simp; rfl) (by simp [RD]) h
        case xor => exact fin' (d := .int ka (ka.wrap (BitVec.ofInt ka.bits na ^^^ BitVec.ofInt ka.bits nb).toNat)) (by simp only [binOp, Op.intBits]; simp; rfl) (by simp [RD]) h
        case shl =>
          obtain ⟨hg, h⟩ := oguard_some h
          have hg : ¬ nb < 0 := by have := of_decide_eq_true hg; omega
          exact fin' (d := .int ka (ka.wrap (na * 2 ^ min nb.toNat ka.bits))) (by simp [binOp, Op.shift, hg]; rfl) (by simp [RD]) h
        case shr =>
          obtain ⟨hg, h⟩ := oguard_some h
          have hg : ¬ nb < 0 := by have := of_decide_eq_true hg; omega
          exact fin' (d := .int ka (na.fdiv (2 ^ min nb.toNat ka.bits))) (by simp [binOp, Op.shift, hg]; rfl) (by simp [RD]) h
        case andNot => cases h
        case eql => exact fin' (d := .bool (na == nb)) (by simp [binOp, Op.intCmp]; rfl) (by simp [RD]) h
        case neq => exact fin' (d := .bool (na != nb)) (by simp [binOp, Op.intCmp]; rfl) (by simp [RD]) h
        case lss => exact fin' (d := .bool (decide (na < nb))) (by simp [binOp, Op.intCmp]; rfl) (by simp [RD]) h
        case leq => exact fin' (d := .bool (decide (na ≤ nb))) (by simp [binOp, Op.intCmp]; rfl) (by simp [RD]) h
        case gtr => exact fin' (d := .bool (decide (na > nb))) (by simp [binOp, Op.intCmp]; rfl) (by simp [RD]) h
        case geq => exact fin' (d := .bool (decide (na ≥ nb))) (by simp [binOp, Op.intCmp]; rfl) (by simp [RD]) h
      · cases op <;> simp only [evBin, if_neg hkk] at h <;> try cases h
        case shl =>
          obtain ⟨hg, h⟩ := oguard_some h
          have hg : ¬ nb < 0 := by have := of_decide_eq_true hg; omega
          exact fin' (d := .int ka (ka.wrap (na * 2 ^ min nb.toNat ka.bits))) (by simp [binOp, Op.shift, hg]; rfl) (by simp [RD]) h
        case shr =>
          obtain ⟨hg, h⟩ := oguard_some h
          have hg : ¬ nb < 0 := by have := of_decide_eq_true hg; omega
          exact fin' (d := .int ka (na.fdiv (2 ^ min nb.toNat ka.bits))) (by simp [binOp, Op.shift, hg]; rfl) (by simp [RD]) h
    | _ => simp [evBin] at h
  | bool pa =>
    cases y with
    | bool pb =>
      simp only [RD] at hx hy
      subst hx hy
      simp only [evBin] at h
      obtain ⟨hb, h⟩ := bif_some h
      have hu := hbt hb
      have fin' : ∀ {u : Value} {d : D}, (binOp op t (.bool pa) (.bool pb)).run P w = .ok u w → RD w C u d → k d = some r → _ := fun {u d} => fin (u := u) (d := d) (fun _ _ h => by cases h) (fun h => by cases h)
      have heq : (Op.equal t (.bool pa) (.bool pb)).run P w = .ok (pa == pb) w := by
        show (Op.equalIn (9999 + 1) t (.bool pa) (.bool pb)).run P w = _
        unfold Op.equalIn
        simp only [Sem.run_bind, hu, Result.andThen_ok]; rfl
      cases op <;> simp only at h <;> try cases h
      case eql => exact fin' (d := .bool (pa == pb)) (by simp only [binOp, Sem.run_bind, heq, Result.andThen_ok]; rfl) (by simp [RD]) h
      case neq => exact fin' (d := .bool (!(pa == pb))) (by simp only [binOp, Sem.run_bind, heq, Result.andThen_ok]; rfl) (by simp [RD]) h
    | _ => simp [evBin] at h
  | str sa =>
    cases y with
    | str sb =>
      simp only [RD] at hx hy
      subst hx hy
      have fin' : ∀ {u : Value} {d : D}, (binOp op t (.string sa) (.string sb)).run P w = .ok u w → RD w C u d → k d = some r → _ := fun {u d} => fin (u := u) (d := d) (fun _ _ h => by cases h) (fun h => by cases h)
      simp only [evBin] at h
      cases op <;> simp only at h <;> try cases h
      case add =>
        obtain ⟨hg, h⟩ := oguard_some h
        have hg : sa.size + sb.size ≤ maxBytes := of_decide_eq_true hg
        have hm : ¬ (((sa.size + sb.size : Nat) : Int) > IntKind.i64.max) := by
          have : IntKind.i64.max = 9223372036854775807 := by decide
          unfold maxBytes at hg; omega
        exact fin' (d := .str (sa ++ sb)) (by simp only [binOp, Op.stringOp]; rw [if_neg hm]; rfl) (by simp [RD]) h
      case eql => exact fin' (d := .bool (sa.toList == sb.toList)) (by simp only [binOp, Op.stringOp]; rfl) (by simp [RD]) h
      case neq => exact fin' (d := .bool (!(sa.toList == sb.toList))) (by simp only [binOp, Op.stringOp]; rfl) (by simp [RD]) h
    | _ => simp [evBin] at h
  | sl f sz n es => cases y <;> simp [evBin] at h
end
end Go.Ev

/-
  The evaluator's operations are the machine's: append.
-/
namespace Go.Ev
open Go

theorem flat_len {sz : Nat} : ∀ {xs : List (List D)}, (∀ c ∈ xs, c.length = sz) → xs.flatten.length = xs.length * sz
  | [], _ => by simp
  | c :: xs, h => by
    have := flat_len (xs := xs) (fun c hc => h c (by simp [hc]))
    simp only [List.flatten_cons, List.length_append, this, h c (by simp), List.length_cons, Nat.add_mul, Nat.one_mul]; omega

theorem bytes_RVs {w : World} {C : Com} {ι : Locs} : ∀ l : List UInt8, RVs w C ι (l.map fun b => .int .u8 b.toNat) (toVs (l.map fun b => [D.int .u8 b.toNat]).flatten)
  | [] => by simp [toVs, RVs]
  | b :: l => by
    simp only [List.map_cons, List.flatten_cons, List.singleton_append, toVs]
    unfold RVs
    exact ⟨by unfold RV RD; rfl, bytes_RVs l⟩

section
variable {R : Type} {P : Program} {C : Com} {ι : Locs} {M : Mem} {w : World}

theorem loads_of {w : World} {C : Com} {ι : Locs} {g : Nat → Option Value} {sz off b : Nat} {xs : List (List D)} (hl : ∀ c ∈ xs, c.length = sz) (h : REs w C g off xs) (hg : ∀ o u, off ≤ o → o < off + xs.length * sz → g o = some u → w.cell? ⟨b, o, none⟩ = some u) :
    ∃ news : List Value, (∀ w' : World, w'.heap = w.heap → (loadCells ⟨b, off, none⟩ (xs.length * sz)).run P w' = .ok news.toArray w') ∧ news.length = xs.length * sz ∧ RVs w C ι news (toVs xs.flatten) := by
  obtain ⟨us, e1, e2, e3⟩ := RVs.of_RCs (ι := ι) (REs.flat hl h)
  have e1' : us.length = xs.length * sz := by rw [e1, flat_len hl]
  refine ⟨us, fun w' hw => ?_, e1', e3⟩
  rw [← e1']
  exact run_loadCells_list w' _ us (fun j v hj => by
    have := lt_of_get hj
    rw [add_at]
    have h1 := hg (off + j) v (by omega) (by omega) (e2 j v hj)
    simp only [World.cell?, hw] at h1 ⊢; exact h1)

/-- A slice and the cells of its elements. -/
theorem RV.src (hst : St C ι M w) {v : V} {sz m : Nat} {xs : List (List D)} (h : evSrc M v = some (sz, m, xs)) {u : Value} (hu : RV w C ι u v) :
    xs.length = m ∧ (∀ c ∈ xs, c.length = sz) ∧ (∀ w' : World, (Builtin.lenOf u).run P w' = .ok m w') ∧ ((∃ a c, u = .slice a m c) ∨ ∃ s, u = .string s) ∧
    ∃ news : List Value, (∀ w' : World, w'.heap = w.heap → (Builtin.firstCells sz m u).run P w' = .ok news.toArray w') ∧ news.length = m * sz ∧ RVs w C ι news (toVs xs.flatten) := by
  have zero : ∀ (a : Option Addr) (sz : Nat) (w' : World), (Builtin.firstCells sz 0 (.slice a 0 0)).run P w' = .ok #[] w' := by
    intro a sz w'; cases a <;> simp [Builtin.firstCells, loadCells, loadCellsFrom] <;> rfl
  have zero' : ∀ (a : Option Addr) (sz c : Nat) (w' : World), (Builtin.firstCells sz 0 (.slice a 0 c)).run P w' = .ok #[] w' := by
    intro a sz c w'; cases a <;> simp [Builtin.firstCells, loadCells, loadCellsFrom] <;> rfl
  unfold evSrc at h
  split at h
  · cases h
    unfold RV RD at hu
    obtain ⟨a, c, rfl, h1, h2, h3, h4, h5⟩ := hu
    subst h3
    refine ⟨rfl, h4, fun _ => rfl, .inl ⟨_, _, rfl⟩, ?_⟩
    rcases h5 with h5 | ⟨b, off, rfl, hc, hre⟩
    · have : xs = [] := List.eq_nil_of_length_eq_zero h5
      subst this
      exact ⟨[], fun w' _ => zero' _ _ _ _, by simp, by simp [toVs, RVs]⟩
    · exact loads_of (P := P) (ι := ι) (b := b) h4 hre (fun o u _ _ hg => hg)
  · rename_i s
    cases h
    unfold RV at hu; simp only [RD] at hu; subst hu
    refine ⟨by simp [byteEs], fun c hc => by simp [byteEs] at hc; obtain ⟨_, _, rfl⟩ := hc; rfl, fun _ => rfl, .inr ⟨_, rfl⟩, ?_⟩
    refine ⟨s.data.toList.map fun b => .int .u8 b.toNat, fun w' _ => ?_, by simp, bytes_RVs _⟩
    have e : s.extract 0 s.size = s := by simp
    simp only [Builtin.firstCells, e]
    show Result.ok _ _ = _
    congr 1
    apply Array.ext'
    simp
  · simp only [getM] at h
    split at h
    · rename_i hM
      cases h
      obtain ⟨L, a, hL, hr, e1, e2, rfl, ha, hn⟩ := hu.own_row hst hM
      obtain ⟨_, q1, q2, q3, q4, q5, q6⟩ := hst.ent _ L _ hL hM
      subst q4
      refine ⟨rfl, q5, fun _ => rfl, .inl ⟨_, _, rfl⟩, ?_⟩
      rcases q6 with q6 | ⟨us, T', fr, hh, _, hz, _, hre⟩
      · have : xs = [] := List.eq_nil_of_length_eq_zero (by omega)
        subst this
        exact ⟨[], fun w' _ => zero' _ _ _ _, by simp, by simp [toVs, RVs]⟩
      · rcases ha with ha | rfl
        · have : xs = [] := List.eq_nil_of_length_eq_zero (by omega)
          subst this
          exact ⟨[], fun w' _ => zero' _ _ _ _, by simp, by simp [toVs, RVs]⟩
        · exact loads_of (P := P) (ι := ι) (b := L.b) q5 hre (fun o u _ _ hg => by rw [cell_of_row hh]; exact hg)
    · cases h
  · rename_i id off n
    simp only [getM] at h
    split at h
    · rename_i sz' n0 fz mv es hM
      cases h
      unfold RV at hu
      obtain ⟨L, hL, hr, hle, a, c, rfl, hnc, ha⟩ := hu
      obtain ⟨_, q1, q2, q3, q4, q5, q6⟩ := hst.ent _ L _ hL hM
      have hlen : ((es.drop off).take m).length = m := by simp; omega
      have hq5 : ∀ c ∈ (es.drop off).take m, c.length = sz := fun c' hc' => q5 c' (List.drop_subset _ _ (List.take_subset _ _ hc'))
      refine ⟨hlen, hq5, fun _ => rfl, .inl ⟨_, _, rfl⟩, ?_⟩
      have emp : m = 0 → ∃ news : List Value, (∀ w' : World, w'.heap = w.heap → (Builtin.firstCells sz m (.slice a m c)).run P w' = .ok news.toArray w') ∧ news.length = m * sz ∧ RVs w C ι news (toVs ((es.drop off).take m).flatten) := by
        intro hm; subst hm
        exact ⟨[], fun w' _ => zero' _ _ _ _, by simp, by simp [toVs, RVs]⟩
      rcases ha with ha | ⟨hc0, rfl⟩
      · exact emp (by omega)
      rcases q6 with q6 | ⟨us, T', fr, hh, _, hz, _, hre⟩
      · exact emp (by omega)
      have := loads_of (P := P) (ι := ι) (b := L.b) hq5 (REs.take m (REs.drop off q5 (by omega) hre)) (fun o u _ _ hg => by rw [cell_of_row hh]; exact hg)
      rw [hlen] at this
      rw [← q1] at this ⊢
      exact this
    · cases h
  · cases h

theorem growBy_le {n : Nat} (hn : 256 ≤ n) : ∀ (r c : Nat), 256 ≤ c → c ≤ 2 * n → Builtin.growBy n r c ≤ 2 * n
  | 0, c, _, h => h
  | r + 1, c, h0, h => by
    unfold Builtin.growBy
    split
    · exact h
    · exact growBy_le hn r _ (by omega) (by omega)
theorem nextcap_le {need cap : Nat} (h : cap < need) : Builtin.nextslicecap need cap ≤ 2 * need := by
  unfold Builtin.nextslicecap
  split
  · omega
  · split
    · omega
    · exact growBy_le (by omega) 4 cap (by omega) (by omega)

/-- The room that the model draws. -/
def World.drew1 (w : World) : World := { w with drawn := w.drawn + 1 }

theorem run_append_grow {t e : TypeId} {T E : TI} (hT : TIok P t T) (hk : T.kind = .sl e) (hE : TIok P e E) {ts : Array TypeId} {ty : TypeId} (hts : ts[0]? = some t) (hz : ∃ u d, ts[1]? = some u ∧ (∀ w, (underlying u).run P w = .ok d w) ∧ (∀ k, d ≠ .int k))
    {a : Option Addr} {n c : Nat} {x : Value} {m : Nat} (hlx : ∀ w', (Builtin.lenOf x).run P w' = .ok m w') {olds news : List Value} (hold : ∀ w' : World, w'.heap = w.heap → (Builtin.firstCells E.size n (.slice a n c)).run P w' = .ok olds.toArray w') (hnew : ∀ w' : World, w'.heap = w.heap → (Builtin.firstCells E.size m x).run P w' = .ok news.toArray w')
    (hcap : c < n + m) (hb : (n + m) * E.bytes ≤ maxBytes) (ho : olds.length = n * E.size) (hn : news.length = m * E.size) :
    ∃ cap rest, n + m ≤ cap ∧ rest.length = (cap - (n + m)) * E.size ∧ (Builtin.append_ ts ty #[.slice a n c, x]).run P w = .ok (.slice (some ⟨w.heap.size, 0, none⟩) (n + m) cap) (World.more (World.drew1 w) (.cells (olds ++ news ++ rest).toArray e (0, 0))) := by
  obtain ⟨u, d, hu, hd, hnd⟩ := hz
  obtain ⟨bi, hbi, hbe⟩ := hE.bytes
  obtain ⟨z, hz, hzs, _⟩ := hE.zero
  have hq : (Question.appendCap (n + m) c e).forced = false := rfl
  let cap := (Question.appendCap (n + m) c e).cut (w.tape w.drawn (.appendCap (n + m) c e))
  have hcapge : n + m ≤ cap := by simp only [cap, Question.cut]; omega
  refine ⟨cap, (Builtin.zeroCells z.cells (cap - (n + m))).toList, hcapge, by simp [Builtin.zeroCells, hzs], ?_⟩
  unfold Builtin.append_
  simp only [hts, hu, List.getElem?_toArray, List.getElem?_cons_zero, List.getElem?_cons_succ, Sem.run_bind, Sem.run_pure, Result.andThen_ok, hT.sl hk, hE.size, hd]
  have hni : (match d with | .int _ => true | _ => false) = false := by
    cases d <;> first | rfl | exact absurd rfl (hnd _)
  simp only [hni, Bool.false_eq_true, if_false, Result.andThen_ok, Bool.not_false, if_true, Sem.run_bind, hlx]
  rw [if_neg (show ¬ n + m ≤ c by omega)]
  have h1 : ¬ (((n + m : Nat) : Int) > IntKind.i64.max ∧ (False ∨ bi.bytes = 0)) := by
    rintro ⟨_, h | h⟩
    · exact h
    · have := hE.bpos; omega
  simp only [Sem.run_bind, hbi, Result.andThen_ok]
  rw [if_neg h1]
  simp only [Sem.run_bind, hbi, Sem.run_pure, Result.andThen_ok]
  have h2 : ¬ (Builtin.nextslicecap (n + m) c * bi.bytes > 2 ^ 48) := by
    have := Nat.mul_le_mul_right bi.bytes (nextcap_le hcap)
    rw [hbe] at this ⊢
    unfold maxBytes at hb
    rw [Nat.mul_assoc] at this
    omega
  rw [if_neg h2]
  simp only [Sem.run_bind, Sem.run_pure, Result.andThen_ok]
  have hch : ∀ (k : Nat → Sem Value), ((choose (.appendCap (n + m) c e) >>= k) : Sem Value).run P w = (k cap).run P (World.drew1 w) := by
    intro k; rfl
  have hask : ∀ w' : World, (askRoom (cap * bi.bytes)).run P w' = .ok () w' := by
    intro w'; unfold askRoom; split <;> rfl
  have hch' : (choose (.appendCap (n + m) c e)).run P w = .ok cap (World.drew1 w) := rfl
  simp only [hch', Result.andThen_ok, Sem.run_bind, hbi, hask, hold (World.drew1 w) rfl, hnew (World.drew1 w) rfl, hz]
  have hA : olds.toArray ++ news.toArray ++ Builtin.zeroCells z.cells (cap - (n + m)) = (olds ++ news ++ (Builtin.zeroCells z.cells (cap - (n + m))).toList).toArray := by
    apply Array.ext'; simp
  rw [hA]
  rfl
end
end Go.Ev

/-
  The evaluator's operations are the machine's: append, what it leaves.
-/
namespace Go.Ev
open Go

theorem soft0 (us : Array Value) : Soft us (0, 0) := .inl rfl

theorem toVs_append : ∀ {a b : List D}, toVs (a ++ b) = toVs a ++ toVs b
  | [], _ => rfl
  | x :: a, b => by simp [toVs, toVs_append (a := a)]

section
variable {R : Type} {P : Program} {C : Com} {ι : Locs} {M : Mem} {w : World}

/-- A row in a block of its own. -/
theorem EntOk.fresh (hst : St C ι M w) {ι' : Locs} {vs rest : List Value} {es : List (List D)} {sz n cap : Nat} {fz mv : Bool} (hv : RVs w C ι vs (toVs es.flatten)) (hl : ∀ c ∈ es, c.length = sz) (hn : es.length = n) (hc : n ≤ cap) (hr : vs.length + rest.length = cap * sz) (T : TypeId) {fr : Nat × Nat} (hs : Soft (vs ++ rest).toArray fr) {w1 : World} (hw : w1.heap = w.heap) :
    EntOk (World.more w1 (.cells (vs ++ rest).toArray T fr)) C ι' ⟨true, sz, n, w.heap.size, 0, cap⟩ (.row sz n fz mv es) := by
  have hk : Keeps w C (World.more w1 (.cells (vs ++ rest).toArray T fr)) C := by
    refine ⟨fun b o ho => cell_of_heap ?_, fun _ => Nat.le_refl _⟩
    have := hst.clt ho
    rw [more_old (by rw [hw]; exact this), hw]
  refine ⟨rfl, rfl, rfl, hc, hn, hl, .inr ⟨_, T, fr, ?_, hs, ?_, ?_, ?_⟩⟩
  · have := more_new (w := w1) (o := .cells (vs ++ rest).toArray T fr)
    rwa [hw] at this
  · simp; omega
  · rw [hst.czero (Nat.le_refl _)]; omega
  · refine REs.of_flat (RCs.of_RVs (ι := ι) (RVs.mono hk (fun _ _ h => h) _ hv) (fun j u hj => ?_))
    have := lt_of_get hj
    simp only [Nat.zero_add, List.getElem?_toArray]
    rw [List.getElem?_append_left this]; exact hj

theorem more_upd (hst : St C ι M w) {id : Nat} {L L' : Loc} (hL : ι[id]? = some L) {w1 : World} (hw : w1.heap = w.heap) (e1 : w1.os = w.os) (e2 : w1.tape = w.tape) (e3 : w1.output = w.output) (us : Array Value) (T : TypeId) (fr : Nat × Nat) (hb : L'.located → w.heap.size ≤ L'.b) (hr : L'.row = L.row) (hs : L'.sz = L.sz) :
    Upd C ι w id L L' C (World.more w1 (.cells us T fr)) := by
  refine ⟨rfl, hst.own, e1, e2, e3, by simp [World.more, hw], hL, ⟨fun b o ho => cell_of_heap ?_, fun _ => Nat.le_refl _⟩, fun b hb' _ => ⟨?_, rfl⟩, fun hl => .inr (hb hl), hr, hs, fun b => ?_⟩
  · rw [more_old (by rw [hw]; exact hst.clt ho), hw]
  · rw [more_old (by rw [hw]; exact hb'), hw]
  · rcases hst.com b with h0 | ⟨us', T', fr', hh, hc⟩
    · exact .inl h0
    · refine .inr ⟨us', T', fr', ?_, hc⟩
      rw [more_old (by rw [hw]; exact (Array.getElem?_eq_some_iff.1 hh).1), hw]; exact hh

theorem mvs_killE {ks : List Nat} {M : Mem} {i : Nat} (hm : mvs M i) : mvs (killM ks M) i := by
  obtain ⟨e, h1, h2⟩ := hm
  unfold mvs
  rw [killM_get, h1]
  cases ks with
  | nil => exact ⟨e, rfl, h2⟩
  | cons a r =>
    refine ⟨_, rfl, ?_⟩
    cases e <;> first | exact h2 | cases h2
theorem mvs_kill {id : Nat} {e : Ent} {e' : Ent} (hM : M[id]? = some e) (he : e'.mvd = true) {i : Nat} (hm : mvs M i ∨ i ∈ [id]) : mvs (killM [id] (M.set id e')) i := by
  refine mvs_killE ?_
  rcases hm with hm | hm
  · exact mvs_setE hM (fun _ => he) hm
  · simp at hm; subst hm
    exact ⟨e', List.getElem?_set_self (lt_of_get hM), he⟩

theorem append_row {t e : TypeId} {T E : TI} (hT : TIok P t T) (hk : T.kind = .sl e) (hE : TIok P e E) {ts : Array TypeId} {ty : TypeId} (hts : ts[0]? = some t) (hz : ∃ u d, ts[1]? = some u ∧ (∀ w, (underlying u).run P w = .ok d w) ∧ (∀ k, d ≠ .int k))
    (hst : St C ι M w) {id : Nat} {sz n0 : Nat} {fz mv : Bool} {es : List (List D)} (hM : M[id]? = some (.row sz n0 fz mv es)) (hsz : sz = E.size) {L : Loc} (hL : ι[id]? = some L) {off n c : Nat} {a : Option Addr} (hle : off + n ≤ n0) (hnc : n ≤ c) (ha : c = 0 ∨ (c + off = L.cap ∧ a = some ⟨L.b, L.base + off * sz, none⟩)) (hfz : fz = true → off + n = n0)
    {x : Value} {m : Nat} {xs : List (List D)} (hxl : xs.length = m) (hx5 : ∀ c ∈ xs, c.length = sz) (hlx : ∀ w', (Builtin.lenOf x).run P w' = .ok m w') {news : List Value} (hnew : ∀ w' : World, w'.heap = w.heap → (Builtin.firstCells sz m x).run P w' = .ok news.toArray w') (hn : news.length = m * sz) (hnv : RVs w C ι news (toVs xs.flatten))
    (hb : (n + m) * E.bytes ≤ maxBytes) :
    ∃ u ι' w', (Builtin.append_ ts ty #[.slice a n c, x]).run P w = .ok u w' ∧ Go1 C ι M w C ι' (killM [id] (M.set id (.row sz (n + m) fz true ((es.drop off).take n ++ xs)))) w' (· ∈ [id]) ∧ RV w' C ι' u (.own id) := by
  obtain ⟨hrow, q1, q2, q3, q4, q5, q6⟩ := hst.ent id L _ hL hM
  have hltid := lt_of_get hL
  have hel : ((es.drop off).take n).length = n := by simp; omega
  have he5 : ∀ c ∈ (es.drop off).take n, c.length = sz := fun c' hc' => q5 c' (List.drop_subset _ _ (List.take_subset _ _ hc'))
  have hxe : ∀ c ∈ (es.drop off).take n ++ xs, c.length = sz := fun c' hc' => by
    rcases List.mem_append.1 hc' with h | h
    · exact he5 c' h
    · exact hx5 c' h
  by_cases hin : n + m ≤ c
  · -- there is room
    obtain ⟨u, d, hu, hd, hnd⟩ := hz
    have hni : (match d with | .int _ => true | _ => false) = false := by
      cases d <;> first | rfl | exact absurd rfl (hnd _)
    have hrun : (Builtin.append_ ts ty #[.slice a n c, x]).run P w = ((match a with | some a => storeCells (a.add (n * sz)) news | none => pure () : Sem Unit).run P w).andThen fun _ w' => .ok (.slice a (n + m) c) w' := by
      unfold Builtin.append_
      simp only [hts, hu, List.getElem?_toArray, List.getElem?_cons_zero, List.getElem?_cons_succ, Sem.run_bind, Sem.run_pure, Result.andThen_ok, hT.sl hk, hE.size, hd]
      simp only [hni, Bool.false_eq_true, if_false, Result.andThen_ok, Bool.not_false, if_true, Sem.run_bind, hlx]
      rw [if_pos hin]
      simp only [Sem.run_bind]
      rw [← hsz, hnew w rfl]
      cases a with
      | none => rfl
      | some a => simp only [Result.andThen_ok, Sem.run_bind]; rfl
    by_cases hc0 : c = 0
    · have hm0 : m = 0 := by omega
      have hn0 : n = 0 := by omega
      subst hm0 hn0 hc0
      have hxs : xs = [] := List.eq_nil_of_length_eq_zero hxl
      have hnews : news = [] := List.eq_nil_of_length_eq_zero (by omega)
      subst hxs hnews
      let L' : Loc := ⟨true, sz, 0, 0, 0, 0⟩
      have hnl : ¬ L'.located := by simp [Loc.located, L']
      have u' : Upd C ι w id L L' C w := ⟨rfl, hst.own, rfl, rfl, rfl, Nat.le_refl _, hL, .refl _ _, fun _ _ _ => ⟨rfl, rfl⟩, fun hl => absurd hl hnl, hrow.symm, q1.symm, hst.com⟩
      have hres : (Builtin.append_ ts ty #[.slice a 0 0, x]).run P w = .ok (.slice a 0 0) w := by
        rw [hrun]; cases a <;> rfl
      refine ⟨_, ι.set id L', w, hres, ⟨u'.st hst _ (.inl ⟨_, _, _, _, _, rfl⟩) ?_, u'.stp (.inr (by simp)), fun i _ hm => mvs_kill hM rfl hm⟩, ?_⟩
      · exact ⟨rfl, rfl, rfl, Nat.le_refl _, by simp, fun c hc => by simp at hc, .inl rfl⟩
      · unfold RV
        exact ⟨L', by simp [hltid], rfl, a, rfl, .inl rfl⟩
    · rcases ha with ha | ⟨hcap, rfl⟩
      · exact absurd ha hc0
      rcases q6 with q6 | ⟨us, T', fr, hh, hsoft, hz', hC, hre⟩
      · omega
      have hcb : (n + m) * sz ≤ c * sz := Nat.mul_le_mul_right _ hin
      have hcc : c * sz + off * sz = L.cap * sz := by rw [← Nat.add_mul, hcap]
      have hnm : n * sz + m * sz = (n + m) * sz := by rw [Nat.add_mul]
      obtain ⟨w', hr, e1, e2, e3, e4, e5, e6⟩ := run_storeCells' (P := P) L.b (L.base + off * sz + n * sz) T' fr news 0 us w hh hsoft (by omega) (hnv.one (by
        have : ∀ l : List D, leafs (toVs l) = true := fun l => by induction l with | nil => rfl | cons x l ih => simp [toVs, leafs, V.leaf, ih]
        exact this _))
      simp only [Nat.add_zero] at e6
      have hg : ∀ o, w'.cell? ⟨L.b, o, none⟩ = if L.base + off * sz + n * sz ≤ o ∧ o < L.base + off * sz + n * sz + m * sz then news[o - (L.base + off * sz + n * sz)]? else us[o]? := by
        intro o
        rw [cell_of_row e6]
        have := seg_get (us := us.toList) (vs := news) (off := L.base + off * sz + n * sz) (o := o) (by simp; omega)
        rw [hn] at this
        simpa [hn] using this
      have hofn : off * sz + n * sz = (off + n) * sz := by rw [Nat.add_mul]
      have hCle : C L.b ≤ L.base + off * sz + n * sz := by
        cases fz with
        | true => simp at hC; have := hfz rfl; rw [← this] at hC; omega
        | false => simp at hC; omega
      have hkp : Keeps w C w' C := by
        refine ⟨fun b o ho => ?_, fun _ => Nat.le_refl _⟩
        by_cases e : b = L.b
        · subst e; rw [hg, if_neg (by omega), cell_of_row hh]
        · exact cell_of_heap (e5 b e)
      let L' : Loc := ⟨true, sz, n + m, L.b, L.base + off * sz, c⟩
      have hloc : L.located := .inr (by omega)
      have hsz' : (us.toList.take (L.base + off * sz + n * sz) ++ news ++ us.toList.drop (L.base + off * sz + n * sz + news.length)).toArray.size = us.size := by simp; omega
      have u' : Upd C ι w id L L' C w' := by
        refine ⟨rfl, hst.own, e1, e2, e3, by omega, hL, hkp, fun b _ hb => ⟨e5 b (hb hloc), rfl⟩, fun _ => .inl ⟨hloc, rfl⟩, hrow.symm, q1.symm, fun b => ?_⟩
        by_cases e : b = L.b
        · subst e; exact .inr ⟨_, T', fr, e6, by rw [hsz']; omega⟩
        · rw [e5 b e]; exact hst.com b
      have hres : (Builtin.append_ ts ty #[.slice (some ⟨L.b, L.base + off * sz, none⟩) n c, x]).run P w = .ok (.slice (some ⟨L.b, L.base + off * sz, none⟩) (n + m) c) w' := by
        rw [hrun]; simp only [add_at, hr, Result.andThen_ok]
      refine ⟨_, ι.set id L', w', hres, ⟨u'.st hst _ (.inl ⟨_, _, _, _, _, rfl⟩) ?_, u'.stp (.inr (by simp)), fun i _ hm => mvs_kill hM rfl hm⟩, ?_⟩
      · refine ⟨rfl, rfl, rfl, hin, by simp [hel, hxl], hxe, .inr ⟨_, T', fr, e6, hsoft.of_size hsz', by rw [hsz']; show L.base + off * sz + c * sz ≤ _; omega, ?_, ?_⟩⟩
        · show C L.b ≤ _
          cases fz with
          | true => simp; show C L.b ≤ L.base + off * sz + (n + m) * sz; omega
          | false => simp at hC ⊢; show C L.b ≤ L.base + off * sz; omega
        · have gg : ∀ o, (us.toList.take (L.base + off * sz + n * sz) ++ news ++ us.toList.drop (L.base + off * sz + n * sz + news.length)).toArray[o]? = if L.base + off * sz + n * sz ≤ o ∧ o < L.base + off * sz + n * sz + m * sz then news[o - (L.base + off * sz + n * sz)]? else us[o]? := by
            intro o; rw [← cell_of_row e6]; exact hg o
          show REs w' C _ (L.base + off * sz) _
          refine REs.append (sz := sz) he5 ?_ ?_
          · refine REs.mono hkp _ (N := L.base + off * sz + n * sz) (sz := sz) (fun o h1 h2 u hu => ?_) he5 (by rw [hel]; omega) (REs.take n (REs.drop off q5 (by omega) hre))
            show _ = _; rw [gg, if_neg (by omega)]; exact hu
          · rw [hel]
            refine REs.of_flat (RCs.of_RVs (ι := ι) (RVs.mono hkp (fun _ _ h => h) _ hnv) (fun q v hq => ?_))
            have hql := lt_of_get hq
            show _ = _
            rw [gg, if_pos (by omega), show L.base + off * sz + n * sz + q - (L.base + off * sz + n * sz) = q by omega]; exact hq
      · unfold RV
        exact ⟨L', by simp [hltid], rfl, _, rfl, .inr rfl⟩
  · -- a new block
    have hsrc : ∃ olds : List Value, (∀ w' : World, w'.heap = w.heap → (Builtin.firstCells sz n (.slice a n c)).run P w' = .ok olds.toArray w') ∧ olds.length = n * sz ∧ RVs w C ι olds (toVs ((es.drop off).take n).flatten) := by
      have hrv : RV w C ι (.slice a n c) (.ref id off n) := by
        unfold RV
        exact ⟨L, hL, hrow, by omega, a, c, rfl, hnc, by rw [q1]; exact ha⟩
      have hs : evSrc M (.ref id off n) = some (sz, n, (es.drop off).take n) := by simp [evSrc, getM, hM]
      obtain ⟨_, _, _, _, h⟩ := RV.src (P := P) hst hs hrv
      exact h
    obtain ⟨olds, ho1, ho2, ho3⟩ := hsrc
    subst hsz
    obtain ⟨cap, rest, hcge, hrl, hrun⟩ := run_append_grow (P := P) (w := w) hT hk hE (ts := ts) (ty := ty) hts hz (a := a) (n := n) (c := c) hlx ho1 hnew (by omega) hb ho2 hn
    let L' : Loc := ⟨true, E.size, n + m, w.heap.size, 0, cap⟩
    have hv : RVs w C ι (olds ++ news) (toVs ((es.drop off).take n ++ xs).flatten) := by
      rw [List.flatten_append, toVs_append]; exact RVs.append ho3 hnv
    have hlen2 : (olds ++ news).length + rest.length = cap * E.size := by
      rw [List.length_append, ho2, hn, hrl, ← Nat.add_mul, ← Nat.add_mul]; congr 1; omega
    have u' : Upd C ι w id L L' C (World.more (World.drew1 w) (.cells (olds ++ news ++ rest).toArray e (0, 0))) :=
      more_upd hst hL (w1 := World.drew1 w) rfl rfl rfl rfl _ _ _ (fun _ => Nat.le_refl _) hrow.symm q1.symm
    refine ⟨_, ι.set id L', _, hrun, ⟨u'.st hst _ (.inl ⟨_, _, _, _, _, rfl⟩) ?_, u'.stp (.inr (by simp)), fun i _ hm => mvs_kill hM rfl hm⟩, ?_⟩
    · exact EntOk.fresh hst hv hxe (by simp [hel, hxl]) (by omega) hlen2 e (soft0 _) rfl
    · unfold RV
      exact ⟨L', by simp [hltid], rfl, _, rfl, .inr rfl⟩
end
end Go.Ev

/-
  The evaluator's operations are the machine's: append told whole; what is made.
-/
namespace Go.Ev
open Go

theorem toVs_leaf : ∀ l : List D, leafs (toVs l) = true
  | [] => rfl
  | x :: l => by simp [toVs, leafs, V.leaf, toVs_leaf l]

theorem mvs_more {M : Mem} {e : Ent} {i : Nat} (h : mvs M i) : mvs (M ++ [e]) i := by
  obtain ⟨a, h, h2⟩ := h
  exact ⟨a, by rw [List.getElem?_append_left (lt_of_get h)]; exact h, h2⟩

section
variable {R : Type} {P : Program} {C : Com} {ι : Locs} {M : Mem} {w : World}

theorem Go1.more (hst : St C ι M w) (us : Array Value) (T : TypeId) (fr : Nat × Nat) (L : Loc) (e : Ent) (hL : L.located → L.b = w.heap.size) (hent : EntOk (World.more w (.cells us T fr)) C (ι ++ [L]) L e) :
    Go1 C ι M w C (ι ++ [L]) (M ++ [e]) (World.more w (.cells us T fr)) (fun _ => False) := by
  obtain ⟨h1, h2⟩ := hst.more us T fr L e hL hent
  exact ⟨h1, h2 _, fun i _ hm => mvs_more (hm.elim (fun h => h) False.elim)⟩

theorem Go1.drew (hst : St C ι M w) : Go1 C ι M w C ι M (World.drew1 w) (fun _ => False) := by
  obtain ⟨h1, h2⟩ := hst.of_heap (w' := World.drew1 w) rfl rfl rfl rfl
  exact ⟨h1, h2 _, fun i _ hm => hm.elim (fun h => h) False.elim⟩

theorem evAppend_ok {t e : TypeId} {T E : TI} (hT : TIok P t T) (hk : T.kind = .sl e) (hE : TIok P e E) {ts : Array TypeId} {ty : TypeId} (hts : ts[0]? = some t) (hz : ∃ u d, ts[1]? = some u ∧ (∀ w, (underlying u).run P w = .ok d w) ∧ (∀ k, d ≠ .int k))
    (hst : St C ι M w) {s x : V} {k : V → Mem → List Nat → Option R} {r : R} (h : evAppend E M s x k = some r) {sv xv : Value} (hs : RV w C ι sv s) (hx : RV w C ι xv x) :
    ∃ u v M' ks ι' w', (Builtin.append_ ts ty #[sv, xv]).run P w = .ok u w' ∧ Go1 C ι M w C ι' M' w' (· ∈ ks) ∧ RV w' C ι' u v ∧ k v M' ks = some r := by
  unfold evAppend at h
  cases hsrc : evSrc M x with
  | none => rw [hsrc] at h; cases h
  | some p =>
    obtain ⟨sx, m, xs⟩ := p
    rw [hsrc] at h
    simp only at h
    obtain ⟨hsx, h'⟩ := bif_some h; clear h; have h := h'; clear h'
    have hsx := Nat.eq_of_beq_eq_true hsx
    obtain ⟨hxl, hx5, hlx, _, news, hnew, hn, hnv⟩ := RV.src (P := P) hst hsrc hx
    subst hsx
    split at h
    · rename_i id
      simp only [getM] at h
      split at h
      · rename_i sz n fz mv es hM
        obtain ⟨hz', h'⟩ := bif_some h; clear h; have h := h'; clear h'
        have hz' := Nat.eq_of_beq_eq_true hz'
        obtain ⟨hb, h'⟩ := oguard_some h; clear h; have h := h'; clear h'
        have hb := of_decide_eq_true hb
        rw [olet_eq] at h
        obtain ⟨L, a, hL, hr, e1, e2, rfl, ha, hnc⟩ := hs.own_row hst hM
        obtain ⟨_, _, _, _, q4, _⟩ := hst.ent id L _ hL hM
        obtain ⟨u, ι', w', h1, h2, h3⟩ := append_row (P := P) hT hk hE (ty := ty) hts hz hst hM hz' hL (off := 0) (n := n) (by omega) hnc (by rcases ha with ha | ha; exact .inl ha; exact .inr ⟨by omega, by simpa using ha⟩) (fun _ => by omega) hxl (fun c hc => (hx5 c hc).trans hz'.symm) hlx (by rw [hz']; exact hnew) (by rw [hz']; exact hn) hnv hb
        refine ⟨u, _, _, _, ι', w', h1, h2, h3, ?_⟩
        rw [show (es.drop 0).take n = es by simp [← q4]]; exact h
      · cases h
    · rename_i id off n
      simp only [getM] at h
      split at h
      · rename_i sz n0 fz mv es hM
        obtain ⟨hz', h'⟩ := bif_some h; clear h; have h := h'; clear h'
        have hz' := Nat.eq_of_beq_eq_true hz'
        obtain ⟨hb, h'⟩ := oguard_some h; clear h; have h := h'; clear h'
        simp only [Bool.and_eq_true, decide_eq_true_eq, Bool.or_eq_true, Bool.not_eq_true'] at hb
        obtain ⟨hb, hf⟩ := hb
        rw [olet_eq] at h
        unfold RV at hs
        obtain ⟨L, hL, hr, hle, a, c, rfl, hnc, ha⟩ := hs
        obtain ⟨_, q1, q2, _⟩ := hst.ent id L _ hL hM
        obtain ⟨u, ι', w', h1, h2, h3⟩ := append_row (P := P) hT hk hE (ty := ty) hts hz hst hM hz' hL (off := off) (n := n) (by omega) hnc (by rw [← q1]; exact ha) (fun hft => by rcases hf with hf | hf; (rw [hft] at hf; cases hf); exact hf) hxl (fun c hc => (hx5 c hc).trans hz'.symm) hlx (by rw [hz']; exact hnew) (by rw [hz']; exact hn) hnv hb
        exact ⟨u, _, _, _, ι', w', h1, h2, h3, h⟩
      · cases h
    · obtain ⟨hb, h'⟩ := oguard_some h; clear h; have h := h'; clear h'
      have hb := of_decide_eq_true hb
      unfold RV RD at hs
      obtain ⟨a, c, rfl, _, hf, _⟩ := hs
      have hc0 := hf rfl; subst hc0
      by_cases hm : m = 0
      · subst hm
        have hxs : xs = [] := List.eq_nil_of_length_eq_zero hxl
        have hnews : news = [] := List.eq_nil_of_length_eq_zero (by omega)
        subst hxs hnews
        obtain ⟨u, d, hu, hd, hnd⟩ := hz
        have hni : (match d with | .int _ => true | _ => false) = false := by
          cases d <;> first | rfl | exact absurd rfl (hnd _)
        have hrun : (Builtin.append_ ts ty #[.slice a 0 0, xv]).run P w = .ok (.slice a 0 0) w := by
          unfold Builtin.append_
          simp only [hts, hu, List.getElem?_toArray, List.getElem?_cons_zero, List.getElem?_cons_succ, Sem.run_bind, Sem.run_pure, Result.andThen_ok, hT.sl hk, hE.size, hd]
          simp only [hni, Bool.false_eq_true, if_false, Result.andThen_ok, Bool.not_false, if_true, Sem.run_bind, hlx]
          rw [if_pos (Nat.le_refl _)]
          simp only [Sem.run_bind, hnew w rfl]
          cases a <;> rfl
        obtain ⟨s1, s2⟩ := hst.nil E.size false false
        refine ⟨_, _, _, _, _, w, hrun, ⟨s1, s2 _, fun i _ hm => mvs_more (hm.elim (fun h => h) (fun h => by simp at h))⟩, ?_, h⟩
        unfold RV
        rw [← hst.len]
        exact ⟨⟨true, E.size, 0, 0, 0, 0⟩, by simp, rfl, a, rfl, .inl rfl⟩
      · obtain ⟨cap, rest, hcge, hrl, hrun⟩ := run_append_grow (P := P) (w := w) hT hk hE (ts := ts) (ty := ty) hts hz (a := a) (n := 0) (c := 0) hlx (olds := []) (fun w' _ => by cases a <;> simp [Builtin.firstCells, loadCells, loadCellsFrom] <;> rfl) hnew (by omega) (by simpa using hb) (by simp) hn
        simp only [Nat.zero_add, List.nil_append] at hrun hcge hrl
        have g1 := Go1.drew hst
        have hv := g1.rvs hnv
        have g2 := Go1.more g1.st (news ++ rest).toArray e (0, 0) ⟨true, E.size, m, w.heap.size, 0, cap⟩ (.row E.size m false false xs) (fun _ => rfl) (EntOk.fresh g1.st (w1 := World.drew1 w) hv hx5 hxl hcge (by rw [hn, hrl, ← Nat.add_mul]; congr 1; omega) e (soft0 _) rfl)
        refine ⟨_, _, _, _, _, _, hrun, (g1.trans hst g2 (k := (· ∈ ([] : List Nat))) (fun i => by simp)), ?_, h⟩
        unfold RV
        rw [← hst.len]
        exact ⟨⟨true, E.size, m, w.heap.size, 0, cap⟩, by simp, rfl, _, rfl, .inr rfl⟩
    · rename_i sz n es
      split at h
      · cases h
      · rename_i m _
        obtain ⟨hz', h'⟩ := bif_some h; clear h; have h := h'; clear h'
        have hz' := Nat.eq_of_beq_eq_true hz'
        obtain ⟨hb, h'⟩ := oguard_some h; clear h; have h := h'; clear h'
        have hb := of_decide_eq_true hb
        rw [olet_eq] at h
        have hsrc2 : evSrc M (.d (.sl true sz (n + 1) es)) = some (sz, n + 1, es) := rfl
        obtain ⟨hel, he5, _, _, olds, hold, ho, hov⟩ := RV.src (P := P) hst hsrc2 hs
        unfold RV RD at hs
        obtain ⟨a, c, rfl, _, hf, _⟩ := hs
        have hc0 := hf rfl; subst hc0
        subst hz'
        obtain ⟨cap, rest, hcge, hrl, hrun⟩ := run_append_grow (P := P) (w := w) hT hk hE (ts := ts) (ty := ty) hts hz (a := a) (n := n + 1) (c := n + 1) hlx hold hnew (by omega) hb ho hn
        have g1 := Go1.drew hst
        have hv := g1.rvs (RVs.append hov hnv)
        rw [← toVs_append, ← List.flatten_append] at hv
        have g2 := Go1.more g1.st (olds ++ news ++ rest).toArray e (0, 0) ⟨true, E.size, n + 1 + (m + 1), w.heap.size, 0, cap⟩ (.row E.size (n + 1 + (m + 1)) false false (es ++ xs)) (fun _ => rfl) (EntOk.fresh (vs := olds ++ news) (rest := rest) g1.st (w1 := World.drew1 w) hv (fun c hc => by rcases List.mem_append.1 hc with h | h; exact he5 c h; exact hx5 c h) (by simp [hel, hxl]) hcge (by rw [List.length_append, ho, hn, hrl, ← Nat.add_mul, ← Nat.add_mul]; congr 1; omega) e (soft0 _) rfl)
        refine ⟨_, _, _, _, _, _, hrun, (g1.trans hst g2 (k := (· ∈ ([] : List Nat))) (fun i => by simp)), ?_, h⟩
        unfold RV
        rw [← hst.len]
        exact ⟨⟨true, E.size, n + 1 + (m + 1), w.heap.size, 0, cap⟩, by simp, rfl, _, rfl, .inr rfl⟩
    · cases h
end
end Go.Ev
