/-
  A part of a row is written over.
-/
import Derived.Test.YtkaolpcfpnckcaaEvStr
set_option linter.unusedVariables false
set_option linter.unusedSimpArgs false
namespace Go.Ev
open Go

section
variable {R : Type} {P : Program} {C : Com} {ι : Locs} {M : Mem} {w : World}

theorem seg_store (hst : St C ι M w) {id n : Nat} {mv : Bool} {es : List (List D)} {L : Loc} (hL : ι[id]? = some L) (hM : M[id]? = some (.row L.sz n false mv es)) {off : Nat} {xs : List (List D)} (hxl : ∀ c ∈ xs, c.length = L.sz) (hle : off + xs.length ≤ n) {vs : List Value} (hv : RVs w C ι vs (toVs xs.flatten)) (hc : L.cap ≠ 0) :
    ∃ w', (storeCells ⟨L.b, L.base + off * L.sz, none⟩ vs).run P w = .ok () w' ∧ Go1 C ι M w C ι (M.set id (.row L.sz n false mv (es.take off ++ (xs ++ es.drop (off + xs.length))))) w' (fun _ => False) := by
  obtain ⟨hrow, q1, q2, q3, q4, q5, q6⟩ := hst.ent id L _ hL hM
  subst q2
  rcases q6 with q6 | ⟨us, T', fr, hh, hsoft, hz, hC, hre⟩
  · exact absurd q6 hc
  simp only [Bool.false_eq_true, if_false] at hC
  have hone := hv.one (toVs_leaf _)
  have hvl : vs.length = xs.length * L.sz := by rw [hv.length, toVs_len, flat_len hxl]
  have hin : (off + xs.length) * L.sz ≤ L.cap * L.sz := Nat.mul_le_mul_right _ (by omega)
  rw [Nat.add_mul] at hin
  obtain ⟨w', hr, e1, e2, e3, e4, e5, e6⟩ := run_storeCells' (P := P) L.b (L.base + off * L.sz) T' fr vs 0 us w hh hsoft (by omega) hone
  simp only [Nat.add_zero] at e6
  generalize hA : L.base + off * L.sz = A at e6 hr
  have hg : ∀ o, w'.cell? ⟨L.b, o, none⟩ = if A ≤ o ∧ o < A + vs.length then vs[o - A]? else us[o]? := by
    intro o
    rw [cell_of_row e6]
    have := seg_get (us := us.toList) (vs := vs) (off := A) (o := o) (by simp; omega)
    simpa using this
  have hkp : Keeps w C w' C := by
    refine ⟨fun b o ho => ?_, fun _ => Nat.le_refl _⟩
    by_cases e : b = L.b
    · subst e; rw [hg, if_neg (by omega), cell_of_row hh]
    · exact cell_of_heap (e5 b e)
  have hsz' : (us.toList.take A ++ vs ++ us.toList.drop (A + vs.length)).toArray.size = us.size := by simp; omega
  have u : Upd C ι w id L L C w' := by
    refine ⟨e1, e2, e3, by omega, hL, hkp, fun b _ hb => ⟨e5 b (hb (.inr hc)), rfl⟩, fun hl => .inl ⟨hl, rfl⟩, rfl, rfl, fun b => ?_⟩
    by_cases e : b = L.b
    · subst e
      exact .inr ⟨_, T', fr, e6, by rw [hsz']; omega⟩
    · rw [e5 b e]; exact hst.com b
  have gg : ∀ o, (us.toList.take A ++ vs ++ us.toList.drop (A + vs.length)).toArray[o]? = if A ≤ o ∧ o < A + vs.length then vs[o - A]? else us[o]? := by
    intro o; rw [← cell_of_row e6]; exact hg o
  have hre' : REs w' C (fun o => us[o]?) L.base es := REs.mono hkp es (N := L.base + es.length * L.sz) (fun _ _ _ _ h => h) q5 (Nat.le_refl _) hre
  have hnew : REs w' C (fun o => (us.toList.take A ++ vs ++ us.toList.drop (A + vs.length)).toArray[o]?) L.base (es.take off ++ (xs ++ es.drop (off + xs.length))) := by
    have ht : (es.take off).length = off := by simp; omega
    have htl : ∀ c ∈ es.take off, c.length = L.sz := fun c hc => q5 c (List.mem_of_mem_take hc)
    refine REs.append (sz := L.sz) htl ?_ ?_
    · exact REs.mono (.refl _ _) _ (N := A) (sz := L.sz) (fun o h1 h2 u hu => by show _ = _; rw [gg, if_neg (by omega)]; exact hu) htl (by rw [ht]; omega) (REs.take off hre')
    · rw [ht, hA]
      refine REs.append (sz := L.sz) hxl ?_ ?_
      · refine REs.of_flat (RCs.of_RVs (ι := ι) (RVs.mono hkp (fun _ _ h => h) _ hv) (fun q v hq => ?_))
        have hql := lt_of_get hq
        show _ = _
        rw [gg, if_pos (by omega), show A + q - A = q by omega]; exact hq
      · have hd := REs.drop (off + xs.length) q5 (by omega) hre'
        rw [Nat.add_mul] at hd
        rw [show L.base + (off * L.sz + xs.length * L.sz) = A + xs.length * L.sz by omega] at hd
        exact REs.mono (.refl _ _) _ (N := A + xs.length * L.sz + (es.drop (off + xs.length)).length * L.sz) (sz := L.sz) (fun o h1 h2 u hu => by show _ = _; rw [gg, if_neg (by omega)]; exact hu) (fun c hc => q5 c (List.mem_of_mem_drop hc)) (Nat.le_refl _) hd
  refine ⟨w', hr, ⟨u.st0 hst _ ⟨hrow, rfl, rfl, q3, by simp; omega, ?_, .inr ⟨_, T', fr, e6, ?_, by rw [hsz']; omega, by simpa using hC, hnew⟩⟩, u.stp0, fun i' _ hm => mvs_set hM (hm.elim (fun h => h) False.elim)⟩⟩
  · intro c hc
    rcases List.mem_append.1 hc with hc | hc
    · exact q5 c (List.mem_of_mem_take hc)
    · rcases List.mem_append.1 hc with hc | hc
      · exact hxl c hc
      · exact q5 c (List.mem_of_mem_drop hc)
  · exact hsoft.of_size hsz'

theorem zeroCells_RVs {zv : Array Value} {z : List D} (hz : RVs w C ι zv.toList (toVs z)) (n : Nat) : RVs w C ι (Builtin.zeroCells zv n).toList (toVs (List.replicate n z).flatten) := by
  have := zeros_RVs hz n 0
  simp only [Nat.zero_mul] at this
  have e : (Builtin.zeroCells zv n).toList = (List.range' 0 (n * zv.size)).map (fun i => zv[i % zv.size]!) := by
    simp [Builtin.zeroCells, List.range_eq_range']
  rw [e]; exact this

theorem evClear_ok {t e : TypeId} {T E : TI} (hT : TIok P t T) (hk : T.kind = .sl e) (hE : TIok P e E) {ts : Array TypeId} {ty : TypeId} (hts : ts[0]? = some t) (hst : St C ι M w) {z : List D} {M0 : Mem} (hz : freezeL [] E.zero = some (z, M0)) {x : V} {k : Mem → Option R} {r : R} (h : evClear z M x k = some r) {v : Value} (hv : RV w C ι v x) :
    ∃ M' w', (Builtin.clear_ ts ty #[v]).run P w = .ok (.tuple #[]) w' ∧ Go1 C ι M w C ι M' w' (fun _ => False) ∧ k M' = some r := by
  obtain ⟨zv, hzv, hzs, hzr⟩ := hE.zero
  have hzl : z.length = E.size ∧ RVs w C ι zv.cells.toList (toVs z) := by
    obtain ⟨h1, h2⟩ := freezeL_nil hz hst.com (us := zv.cells.toList) (fun w C ι => hzr w C ι)
    refine ⟨?_, h1⟩
    have := h1.length
    rw [toVs_len] at this
    simp at this; omega
  have run0 : ∀ (a : Option Addr) (n c : Nat), v = .slice a n c → (a = none ∨ n = 0) → (Builtin.clear_ ts ty #[v]).run P w = .ok (.tuple #[]) w := by
    intro a n c e h0
    subst e
    unfold Builtin.clear_
    simp only [hts, List.getElem?_toArray, List.getElem?_cons_zero, Sem.run_bind, hT.sl hk, Result.andThen_ok]
    rcases h0 with rfl | rfl
    · rfl
    · cases a <;> rfl
  have run1 : ∀ (a : Addr) (n c : Nat) (w' : World), v = .slice (some a) n c → n ≠ 0 → (storeCells a (Builtin.zeroCells zv.cells n).toList).run P w = .ok () w' → (Builtin.clear_ ts ty #[v]).run P w = .ok (.tuple #[]) w' := by
    intro a n c w' e h0 hs
    subst e
    obtain ⟨m, rfl⟩ : ∃ m, n = m + 1 := ⟨n - 1, by omega⟩
    unfold Builtin.clear_
    simp only [hts, List.getElem?_toArray, List.getElem?_cons_zero, Sem.run_bind, hT.sl hk, Result.andThen_ok, hzv, hs, Sem.run_pure]
  have rep : ∀ (n : Nat), ∀ c ∈ List.replicate n z, c.length = E.size := fun n c hc => by rw [List.eq_of_mem_replicate hc]; exact hzl.1
  unfold evClear at h
  split at h
  · rename_i id
    split at h
    · rename_i sz n mv es hM
      change M[id]? = _ at hM
      obtain ⟨hb, h⟩ := bif_some h
      have hb := Nat.eq_of_beq_eq_true hb
      subst hb
      have hv' := hv
      unfold RV at hv'
      obtain ⟨L, hL, hrow, a, e, ha⟩ := hv'
      obtain ⟨_, q1, q2, q3, q4, q5, q6⟩ := hst.ent id L _ hL hM
      subst q2
      rcases Nat.eq_zero_or_pos L.n with h0 | h0
      · refine ⟨_, w, run0 _ _ _ e (.inr h0), ?_, h⟩
        have : es = [] := List.length_eq_zero_iff.1 (by omega)
        subst this
        rw [h0]
        simp only [List.replicate_zero]
        rw [set_same (by rw [hM, h0])]
        exact Go1.refl hst
      · have hcap : L.cap ≠ 0 := by omega
        have ha := ha.resolve_left hcap
        subst ha
        have hMs : M[id]? = some (.row L.sz L.n false mv es) := by rw [hM, q1]
        obtain ⟨w', hr, g⟩ := seg_store (P := P) hst hL hMs (off := 0) (xs := List.replicate L.n z) (fun c hc => by rw [rep _ c hc, q1, hzl.1]) (by simp) (zeroCells_RVs hzl.2 L.n) hcap
        rw [Nat.zero_mul, Nat.add_zero] at hr
        refine ⟨_, w', run1 _ _ _ _ e (by omega) hr, ?_, h⟩
        have e2 : es.drop (0 + (List.replicate L.n z).length) = [] := by simp; omega
        rw [e2] at g
        simpa [q1] using g
    · cases h
  · rename_i id off n
    split at h
    · rename_i sz m mv es hM
      change M[id]? = _ at hM
      obtain ⟨hb, h⟩ := bif_some h
      rw [olet_eq] at h
      have hb := Nat.eq_of_beq_eq_true hb
      subst hb
      have hv' := hv
      unfold RV at hv'
      obtain ⟨L, hL, hrow, hle, a, c, e, hc, ha⟩ := hv'
      obtain ⟨_, q1, q2, q3, q4, q5, q6⟩ := hst.ent id L _ hL hM
      subst q2
      rcases Nat.eq_zero_or_pos n with h0 | h0
      · refine ⟨_, w, run0 _ _ _ e (.inr h0), ?_, h⟩
        subst h0
        simp only [List.replicate_zero, List.nil_append, Nat.add_zero, List.take_append_drop]
        rw [set_same hM]
        exact Go1.refl hst
      · obtain ⟨hcc, ha⟩ := ha.resolve_left (by omega)
        subst ha
        have hcap : L.cap ≠ 0 := by omega
        have hMs : M[id]? = some (.row L.sz L.n false mv es) := by rw [hM, q1]
        obtain ⟨w', hr, g⟩ := seg_store (P := P) hst hL hMs (off := off) (xs := List.replicate n z) (fun c hc => by rw [rep _ c hc, q1, hzl.1]) (by simpa using hle) (zeroCells_RVs hzl.2 n) hcap
        refine ⟨_, w', run1 _ _ _ _ e (by omega) hr, ?_, h⟩
        simpa [q1] using g
    · cases h
  · cases h
end
end Go.Ev
