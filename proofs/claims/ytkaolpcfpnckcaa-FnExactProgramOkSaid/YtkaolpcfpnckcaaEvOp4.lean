/-
  The evaluator's operations are the machine's: stores.
-/
import Derived.Test.YtkaolpcfpnckcaaEvOp3
set_option linter.unusedVariables false
set_option linter.unusedSimpArgs false
namespace Go.Ev
open Go

theorem putAt_eq : ∀ (vs cs : List V) (off : Nat), off + vs.length ≤ cs.length → putAt cs off vs = cs.take off ++ vs ++ cs.drop (off + vs.length)
  | [], cs, off, _ => by simp [putAt]
  | v :: vs, cs, off, h => by
    simp only [List.length_cons] at h
    unfold putAt
    rw [putAt_eq vs (cs.set off v) (off + 1) (by simp; omega)]
    have h1 : (cs.set off v).take (off + 1) = cs.take off ++ [v] := by
      rw [List.take_set, List.take_add_one]
      rw [List.set_append_right _ _ (by simp; omega)]
      simp
      rw [Nat.min_eq_left (by omega)]
      simp [show off < cs.length by omega]
    have h2 : (cs.set off v).drop (off + 1 + vs.length) = cs.drop (off + (v :: vs).length) := by
      rw [List.drop_set_of_lt (by omega)]
      simp [Nat.add_assoc, Nat.add_comm 1]
    rw [h1, h2]; simp
theorem putD_eq : ∀ (vs cs : List D) (off : Nat), off + vs.length ≤ cs.length → putD cs off vs = cs.take off ++ vs ++ cs.drop (off + vs.length)
  | [], cs, off, _ => by simp [putD]
  | v :: vs, cs, off, h => by
    simp only [List.length_cons] at h
    unfold putD
    rw [putD_eq vs (cs.set off v) (off + 1) (by simp; omega)]
    have h1 : (cs.set off v).take (off + 1) = cs.take off ++ [v] := by
      rw [List.take_set, List.take_add_one]
      rw [List.set_append_right _ _ (by simp; omega)]
      simp
      rw [Nat.min_eq_left (by omega)]
      simp [show off < cs.length by omega]
    have h2 : (cs.set off v).drop (off + 1 + vs.length) = cs.drop (off + (v :: vs).length) := by
      rw [List.drop_set_of_lt (by omega)]
      simp [Nat.add_assoc, Nat.add_comm 1]
    rw [h1, h2]; simp

theorem RCs.of_RVs {w : World} {C : Com} {ι : Locs} {g : Nat → Option Value} : ∀ {ds : List D} {us : List Value} {off : Nat}, RVs w C ι us (toVs ds) → (∀ j u, us[j]? = some u → g (off + j) = some u) → RCs w C g off ds
  | [], _, _, _, _ => by simp [RCs]
  | _ :: _, [], _, h, _ => by simp [toVs, RVs] at h
  | x :: xs, u :: us, off, h, hg => by
    simp only [toVs] at h
    unfold RVs at h
    unfold RCs
    refine ⟨⟨u, hg 0 u rfl, by have := h.1; unfold RV at this; exact this⟩, RCs.of_RVs h.2 fun j u hj => ?_⟩
    have := hg (j + 1) u (by simpa using hj)
    rwa [show off + 1 + j = off + (j + 1) by omega]

theorem toVs_len : ∀ {ds : List D}, (toVs ds).length = ds.length
  | [] => rfl
  | _ :: ds => by simp [toVs, toVs_len (ds := ds)]

theorem REs.set {w : World} {C : Com} {g g' : Nat → Option Value} {sz : Nat} {c' : List D} : ∀ {es : List (List D)} {off i : Nat}, REs w C g off es → (∀ c ∈ es, c.length = sz) → i < es.length → c'.length = sz → RCs w C g' (off + i * sz) c' →
    (∀ o, (o < off + i * sz ∨ off + (i + 1) * sz ≤ o) → g' o = g o) → REs w C g' off (es.set i c')
  | [], _, _, _, _, hi, _, _, _ => by simp at hi
  | c :: es, off, 0, h, hl, _, hc, hr, hg => by
    unfold REs at h
    have e := hl c (by simp)
    simp only [List.set_cons_zero]
    unfold REs
    refine ⟨by simpa using hr, ?_⟩
    rw [hc]; rw [e] at h
    exact REs.mono (.refl _ _) es (N := off + sz + es.length * sz) (sz := sz) (fun o ho _ u hu => by rw [hg o (.inr (by omega))]; exact hu) (fun c hc => hl c (by simp [hc])) (Nat.le_refl _) h.2
  | c :: es, off, i + 1, h, hl, hi, hc, hr, hg => by
    unfold REs at h
    have e := hl c (by simp)
    simp only [List.set_cons_succ]
    unfold REs
    have e1 : off + (i + 1) * sz = off + sz + i * sz := by rw [Nat.add_mul, Nat.one_mul]; omega
    have e2 : off + (i + 1 + 1) * sz = off + sz + (i + 1) * sz := by rw [Nat.add_mul (i + 1), Nat.one_mul]; omega
    refine ⟨RCs.mono (.refl _ _) c (N := off + sz) (fun o ho1 ho u hu => by rw [hg o (.inl (by omega))]; exact hu) (by omega) h.1, ?_⟩
    rw [e] at h ⊢
    exact REs.set h.2 (fun c hc => hl c (by simp [hc])) (by simpa using hi) hc (by rw [← e1]; exact hr) (fun o ho => hg o (by rw [e1, e2]; exact ho))

theorem cell_of_row {w : World} {b o : Nat} {us : Array Value} {T : TypeId} {fr : Nat × Nat} (h : w.heap[b]? = some (.cells us T fr)) : w.cell? ⟨b, o, none⟩ = us[o]? := by
  simp [World.cell?, h]

theorem seg_get {us vs : List Value} {off o : Nat} (h : off + vs.length ≤ us.length) : (us.take off ++ vs ++ us.drop (off + vs.length))[o]? = if off ≤ o ∧ o < off + vs.length then vs[o - off]? else us[o]? := by
  have ht : (us.take off).length = off := by simp; omega
  split
  · rename_i hc
    rw [List.append_assoc, List.getElem?_append_right (by omega), ht, List.getElem?_append_left (by omega)]
  · rename_i hc
    rcases Nat.lt_or_ge o off with g | g
    · rw [List.append_assoc, List.getElem?_append_left (by omega), List.getElem?_take, if_pos g]
    · rw [List.getElem?_append_right (by simp; omega), List.getElem?_drop]
      congr 1
      simp; omega

theorem evStore_ok {R : Type} {P : Program} {t : TypeId} {T : TI} (hT : TIok P t T) {C : Com} {ι : Locs} {M : Mem} {w : World} (hst : St C ι M w) {a x : V} {k : Mem → Option R} {r : R} (h : evStore T M a x k = some r) {av xv : Value} (ha : RV w C ι av a) (hx : RV w C ι xv x) :
    ∃ M' C' w', (Instr.storeAt t av xv).run P w = .ok () w' ∧ Go1 C ι M w C' ι M' w' (fun _ => False) ∧ k M' = some r := by
  unfold evStore at h
  obtain ⟨hc, h⟩ := bif_some h
  simp only [Bool.and_eq_true] at hc
  obtain ⟨hl, hs, hlf⟩ := hc
  have hl := Nat.eq_of_beq_eq_true hl
  have hcells := hx.cells hs
  have hone := hcells.one hlf
  have hclen := hcells.length
  have hvs : xv.cells.size = T.size := by rw [← hl, ← hclen]; simp
  have pre : ∀ (b o : Nat), av = .pointer (some ⟨b, o, none⟩) → (Instr.storeAt t av xv).run P w = (storeCells ⟨b, o, none⟩ xv.cells.toList).run P w := by
    intro b o e; subst e
    unfold Instr.storeAt Instr.sureAddr storeVar
    simp only [Sem.run_bind, Sem.run_pure, Result.andThen_ok, hT.size, hvs, ne_eq, not_true_eq_false, if_false]
  cases a with
  | ptr id off =>
    simp only [getM] at h
    cases hM : M[id]? with
    | none => rw [hM] at h; cases h
    | some e =>
      rw [hM] at h
      cases e with
      | row => cases h
      | box cs =>
        simp only at h
        obtain ⟨hle, hk⟩ := bif_some h
        have hle := Nat.le_of_ble_eq_true hle
        have ha' := ha
        unfold RV at ha'
        obtain ⟨L, hL, hrow, rfl⟩ := ha'
        obtain ⟨_, hC0, us, T', fr, hh, hsoft, hv⟩ := hst.ent id L _ hL hM
        have hlen := hv.length
        simp at hlen
        have hsz : xv.cells.toList.length = T.size := by simpa using hvs
        obtain ⟨w', hr, e1, e2, e3, e4, e5, e6⟩ := run_storeCells' (P := P) L.b off T' fr xv.cells.toList 0 us w hh hsoft (by omega) hone
        simp only [Nat.add_zero] at e6
        have hkp : Keeps w C w' C := by
          refine ⟨fun b o ho => ?_, fun _ => Nat.le_refl _⟩
          by_cases e : b = L.b
          · subst e; omega
          · exact cell_of_heap (e5 b e)
        have u : Upd C ι w id L L C w' := by
          refine ⟨e1, e2, e3, by omega, hL, hkp, fun b _ hb => ⟨e5 b (hb (.inl hrow)), rfl⟩, fun hl => .inl ⟨hl, rfl⟩, rfl, rfl, fun b => ?_⟩
          by_cases e : b = L.b
          · subst e; exact .inl hC0
          · rw [e5 b e]; exact hst.com b
        refine ⟨_, C, w', (pre _ _ rfl).trans hr, ⟨u.st0 hst (.box (putAt cs off x.cells)) ⟨hrow, hC0, _, T', fr, e6, ?_, ?_⟩, u.stp0, fun i _ hm => ?_⟩, hk⟩
        · refine hsoft.of_size ?_
          simp
          omega
        · rw [putAt_eq _ _ _ (by omega)]
          have hm := RVs.mono hkp (fun _ _ h => h) _ hv
          have hm' := RVs.mono hkp (fun _ _ h => h) _ hcells
          have := RVs.append (RVs.append (hm.take off) hm') (hm.drop (off + xv.cells.toList.length))
          rw [show xv.cells.toList.length = x.cells.length by omega] at this ⊢
          simpa using this
        · rcases hm with hm | hm
          · obtain ⟨a1, b1, c1, d1, hm⟩ := hm
            refine ⟨a1, b1, c1, d1, ?_⟩
            by_cases e : id = i
            · subst e; rw [hM] at hm; cases hm
            · rw [List.getElem?_set_ne e]; exact hm
          · exact hm.elim
  | ep id i j =>
    simp only at h
    cases hf : freezeL M x.cells with
    | none => rw [hf] at h; cases h
    | some p =>
      obtain ⟨ds, M1⟩ := p
      rw [hf] at h
      simp only [getM] at h
      obtain ⟨C1, g1, hds, hl1, hdl⟩ := freezeL_ok hf hst hcells
      cases hM : M1[id]? with
      | none => rw [hM] at h; cases h
      | some e =>
        rw [hM] at h
        cases e with
        | box => cases h
        | row sz n fz mv es =>
          cases fz with
          | true => cases h
          | false =>
            simp only at h
            obtain ⟨hle, hk⟩ := bif_some h
            clear h
            have hle := Nat.le_of_ble_eq_true hle
            rw [olet_eq] at hk
            have ha' := ha
            unfold RV at ha'
            obtain ⟨L, hL, hrow, hi, rfl⟩ := ha'
            obtain ⟨_, q1, q2, q3, q4, q5, q6⟩ := g1.st.ent id L _ hL hM
            subst q1 q2
            rcases q6 with q6 | ⟨us, T', fr, hh, hsoft, hz, hC, hre⟩
            · omega
            simp only [Bool.false_eq_true, if_false] at hC
            have hsz : xv.cells.toList.length = T.size := by simpa using hvs
            have hin : (i + 1) * L.sz ≤ L.cap * L.sz := Nat.mul_le_mul_right _ (by omega)
            rw [Nat.add_mul, Nat.one_mul] at hin
            obtain ⟨w', hr, e1, e2, e3, e4, e5, e6⟩ := run_storeCells' (P := P) L.b (L.base + i * L.sz + j) T' fr xv.cells.toList 0 us w hh hsoft (by omega) hone
            simp only [Nat.add_zero] at e6
            have hg : ∀ o, w'.cell? ⟨L.b, o, none⟩ = if L.base + i * L.sz + j ≤ o ∧ o < L.base + i * L.sz + j + T.size then xv.cells.toList[o - (L.base + i * L.sz + j)]? else us[o]? := by
              intro o
              rw [cell_of_row e6]
              have := seg_get (us := us.toList) (vs := xv.cells.toList) (off := L.base + i * L.sz + j) (o := o) (by simp at hsz ⊢; omega)
              rw [hsz] at this
              simpa [hsz] using this
            have hkp : Keeps w C1 w' C1 := by
              refine ⟨fun b o ho => ?_, fun _ => Nat.le_refl _⟩
              by_cases e : b = L.b
              · subst e; rw [hg, if_neg (by omega), cell_of_row hh]
              · exact cell_of_heap (e5 b e)
            have hsz' : (us.toList.take (L.base + i * L.sz + j) ++ xv.cells.toList ++ us.toList.drop (L.base + i * L.sz + j + xv.cells.toList.length)).toArray.size = us.size := by simp at hsz ⊢; omega
            have u : Upd C1 ι w id L L C1 w' := by
              refine ⟨e1, e2, e3, by omega, hL, hkp, fun b _ hb => ⟨e5 b (hb (.inr (by omega))), rfl⟩, fun hl => .inl ⟨hl, rfl⟩, rfl, rfl, fun b => ?_⟩
              by_cases e : b = L.b
              · subst e
                exact .inr ⟨_, T', fr, e6, by rw [hsz']; omega⟩
              · rw [e5 b e]; exact g1.st.com b
            have hci := REs.at i q5 (by omega) hre
            have hdl' : ds.length = T.size := by omega
            have hput := putD_eq ds (es.getD i []) j (by rw [hci.2]; omega)
            have hnew : REs w' C1 (fun o => (us.toList.take (L.base + i * L.sz + j) ++ xv.cells.toList ++ us.toList.drop (L.base + i * L.sz + j + xv.cells.toList.length)).toArray[o]?) L.base (es.set i (putD (es.getD i []) j ds)) := by
              have hre' : REs w' C1 (fun o => us[o]?) L.base es := REs.mono hkp es (N := L.base + es.length * L.sz) (fun _ _ _ _ h => h) q5 (Nat.le_refl _) hre
              have hci' := REs.at i q5 (by omega) hre'
              have gg : ∀ o, (us.toList.take (L.base + i * L.sz + j) ++ xv.cells.toList ++ us.toList.drop (L.base + i * L.sz + j + xv.cells.toList.length)).toArray[o]? = if L.base + i * L.sz + j ≤ o ∧ o < L.base + i * L.sz + j + T.size then xv.cells.toList[o - (L.base + i * L.sz + j)]? else us[o]? := by
                intro o; rw [← cell_of_row e6]; exact hg o
              refine REs.set hre' q5 (by omega) (by rw [hput]; simp [-List.getD_eq_getElem?_getD]; rw [hci.2]; omega) ?_ (fun o ho => ?_)
              · rw [hput]
                refine RCs.append (RCs.append ?_ ?_) ?_
                · exact RCs.mono (.refl _ _) _ (N := L.base + i * L.sz + j) (fun o h1 h2 u hu => by show _ = _; rw [gg, if_neg (by omega)]; exact hu) (by simp [-List.getD_eq_getElem?_getD]; omega) (RCs.take j hci'.1)
                · have : (List.take j (es.getD i [])).length = j := by rw [List.length_take, hci.2]; omega
                  rw [this]
                  refine RCs.of_RVs (ι := ι) (RVs.mono hkp (fun _ _ h => h) _ hds) (fun q v hq => ?_)
                  have hql := lt_of_get hq
                  show _ = _
                  rw [gg, if_pos (by omega), show L.base + i * L.sz + j + q - (L.base + i * L.sz + j) = q by omega]; exact hq
                · have h1 : (List.take j (es.getD i []) ++ ds).length = j + T.size := by rw [List.length_append, List.length_take, hci.2, hdl']; omega
                  rw [h1, hdl']
                  have := RCs.drop (j + T.size) hci'.1
                  exact RCs.mono (.refl _ _) _ (N := L.base + i * L.sz + L.sz) (fun o h1 h2 u hu => by show _ = _; rw [gg, if_neg (by omega)]; exact hu) (by rw [List.length_drop, hci.2]; omega) this
              · rw [Nat.add_mul, Nat.one_mul] at ho
                show _ = _; rw [gg, if_neg (by omega)]
            have go2 : Go1 C1 ι M1 w C1 ι (M1.set id (.row L.sz L.n false mv (es.set i (putD (es.getD i []) j ds)))) w' (fun _ => False) := by
              refine ⟨u.st0 g1.st _ ⟨hrow, rfl, rfl, q3, by simpa using q4, ?_, .inr ⟨_, T', fr, e6, ?_, by rw [hsz']; omega, by simpa using hC, hnew⟩⟩, u.stp0, fun i' _ hm => mvs_set hM (hm.elim (fun h => h) False.elim)⟩
              · intro c hc
                rcases List.mem_or_eq_of_mem_set hc with hc | hc
                · exact q5 c hc
                · rw [hc, hput]; simp [-List.getD_eq_getElem?_getD]; rw [hci.2]; omega
              · exact hsoft.of_size hsz'
            exact ⟨_, C1, w', (pre _ _ rfl).trans hr, g1.trans hst go2 (fun i => by simp), hk⟩
  | _ => simp at h
end Go.Ev
