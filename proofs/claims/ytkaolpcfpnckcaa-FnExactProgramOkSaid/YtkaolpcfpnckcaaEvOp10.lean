/-
  The evaluator's operations are the machine's: append told whole; what is made.
-/
import Derived.Test.YtkaolpcfpnckcaaEvOp9
set_option linter.unusedVariables false
set_option linter.unusedSimpArgs false
namespace Go.Ev
open Go

theorem toVs_leaf : ∀ l : List D, leafs (toVs l) = true
  | [] => rfl
  | x :: l => by simp [toVs, leafs, V.leaf, toVs_leaf l]

theorem mvs_more {M : Mem} {e : Ent} {i : Nat} (h : mvs M i) : mvs (M ++ [e]) i := by
  obtain ⟨a, b, c, d, h⟩ := h
  exact ⟨a, b, c, d, by rw [List.getElem?_append_left (lt_of_get h)]; exact h⟩

section
variable {R : Type} {P : Program} {C : Com} {ι : Locs} {M : Mem} {w : World}

theorem Go1.more (hst : St C ι M w) (us : Array Value) (T : TypeId) (fr : Nat × Nat) (L : Loc) (e : Ent) (hL : L.located → L.b = w.heap.size) (hent : EntOk (World.more w (.cells us T fr)) C (ι ++ [L]) L e) :
    Go1 C ι M w C (ι ++ [L]) (M ++ [e]) (World.more w (.cells us T fr)) (fun _ => False) := by
  obtain ⟨h1, h2⟩ := hst.more us T fr L e hL hent
  exact ⟨h1, h2 _, fun i _ hm => mvs_more (hm.elim (fun h => h) False.elim)⟩

theorem Go1.drew (hst : St C ι M w) : Go1 C ι M w C ι M (World.drew1 w) (fun _ => False) := by
  obtain ⟨h1, h2⟩ := hst.of_heap (w' := World.drew1 w) rfl rfl rfl rfl
  exact ⟨h1, h2 _, fun i _ hm => hm.elim (fun h => h) False.elim⟩

theorem evAppend_ok {t e : TypeId} {T E : TI} (hT : TIok P t T) (hk : T.kind = .sl e) (hE : TIok P e E) {ts : Array TypeId} {ty : TypeId} (hts : ts[0]? = some t) (hz : ∃ u d, ts[1]? = some u ∧ (∀ w, (underlying u).run P w = .ok d w) ∧ (∀ k, d ≠ .int k))
    (hst : St C ι M w) {s x : V} {k : V → Mem → List Nat → Option R} {r : R} (h : evAppend E M s x k = some r) {sv xv : Value} (hs : RV w C ι sv s) (hx : RV w C ι xv x) :
    ∃ u v M' ks ι' w', (Builtin.append_ ts ty #[sv, xv]).run P w = .ok u w' ∧ Go1 C ι M w C ι' M' w' (· ∈ ks) ∧ RV w' C ι' u v ∧ k v M' ks = some r := by
  unfold evAppend at h
  cases hsrc : evSrc M x with
  | none => rw [hsrc] at h; cases h
  | some p =>
    obtain ⟨sx, m, xs⟩ := p
    rw [hsrc] at h
    simp only at h
    obtain ⟨hsx, h'⟩ := bif_some h; clear h; have h := h'; clear h'
    have hsx := Nat.eq_of_beq_eq_true hsx
    obtain ⟨hxl, hx5, hlx, _, news, hnew, hn, hnv⟩ := RV.src (P := P) hst hsrc hx
    subst hsx
    split at h
    · rename_i id
      simp only [getM] at h
      split at h
      · rename_i sz n fz mv es hM
        obtain ⟨hz', h'⟩ := bif_some h; clear h; have h := h'; clear h'
        have hz' := Nat.eq_of_beq_eq_true hz'
        obtain ⟨hb, h'⟩ := oguard_some h; clear h; have h := h'; clear h'
        have hb := of_decide_eq_true hb
        rw [olet_eq] at h
        obtain ⟨L, a, hL, hr, e1, e2, rfl, ha, hnc⟩ := hs.own_row hst hM
        obtain ⟨_, _, _, _, q4, _⟩ := hst.ent id L _ hL hM
        obtain ⟨u, ι', w', h1, h2, h3⟩ := append_row (P := P) hT hk hE (ty := ty) hts hz hst hM hz' hL (off := 0) (n := n) (by omega) hnc (by rcases ha with ha | ha; exact .inl ha; exact .inr ⟨by omega, by simpa using ha⟩) (fun _ => by omega) hxl (fun c hc => (hx5 c hc).trans hz'.symm) hlx (by rw [hz']; exact hnew) (by rw [hz']; exact hn) hnv hb
        refine ⟨u, _, _, _, ι', w', h1, h2, h3, ?_⟩
        rw [show (es.drop 0).take n = es by simp [← q4]]; exact h
      · cases h
    · rename_i id off n
      simp only [getM] at h
      split at h
      · rename_i sz n0 fz mv es hM
        obtain ⟨hz', h'⟩ := bif_some h; clear h; have h := h'; clear h'
        have hz' := Nat.eq_of_beq_eq_true hz'
        obtain ⟨hb, h'⟩ := oguard_some h; clear h; have h := h'; clear h'
        simp only [Bool.and_eq_true, decide_eq_true_eq, Bool.or_eq_true, Bool.not_eq_true'] at hb
        obtain ⟨hb, hf⟩ := hb
        rw [olet_eq] at h
        unfold RV at hs
        obtain ⟨L, hL, hr, hle, a, c, rfl, hnc, ha⟩ := hs
        obtain ⟨_, q1, q2, _⟩ := hst.ent id L _ hL hM
        obtain ⟨u, ι', w', h1, h2, h3⟩ := append_row (P := P) hT hk hE (ty := ty) hts hz hst hM hz' hL (off := off) (n := n) (by omega) hnc (by rw [← q1]; exact ha) (fun hft => by rcases hf with hf | hf; (rw [hft] at hf; cases hf); exact hf) hxl (fun c hc => (hx5 c hc).trans hz'.symm) hlx (by rw [hz']; exact hnew) (by rw [hz']; exact hn) hnv hb
        exact ⟨u, _, _, _, ι', w', h1, h2, h3, h⟩
      · cases h
    · obtain ⟨hb, h'⟩ := oguard_some h; clear h; have h := h'; clear h'
      have hb := of_decide_eq_true hb
      unfold RV RD at hs
      obtain ⟨a, c, rfl, _, hf, _⟩ := hs
      have hc0 := hf rfl; subst hc0
      by_cases hm : m = 0
      · subst hm
        have hxs : xs = [] := List.eq_nil_of_length_eq_zero hxl
        have hnews : news = [] := List.eq_nil_of_length_eq_zero (by omega)
        subst hxs hnews
        obtain ⟨u, d, hu, hd, hnd⟩ := hz
        have hni : (match d with | .int _ => true | _ => false) = false := by
          cases d <;> first | rfl | exact absurd rfl (hnd _)
        have hrun : (Builtin.append_ ts ty #[.slice a 0 0, xv]).run P w = .ok (.slice a 0 0) w := by
          unfold Builtin.append_
          simp only [hts, hu, List.getElem?_toArray, List.getElem?_cons_zero, List.getElem?_cons_succ, Sem.run_bind, Sem.run_pure, Result.andThen_ok, hT.sl hk, hE.size, hd]
          simp only [hni, Bool.false_eq_true, if_false, Result.andThen_ok, Bool.not_false, if_true, Sem.run_bind, hlx]
          rw [if_pos (Nat.le_refl _)]
          simp only [Sem.run_bind, hnew w rfl]
          cases a <;> rfl
        obtain ⟨s1, s2⟩ := hst.nil E.size false false
        refine ⟨_, _, _, _, _, w, hrun, ⟨s1, s2 _, fun i _ hm => mvs_more (hm.elim (fun h => h) (fun h => by simp at h))⟩, ?_, h⟩
        unfold RV
        rw [← hst.len]
        exact ⟨⟨true, E.size, 0, 0, 0, 0⟩, by simp, rfl, a, rfl, .inl rfl⟩
      · obtain ⟨cap, rest, hcge, hrl, hrun⟩ := run_append_grow (P := P) (w := w) hT hk hE (ts := ts) (ty := ty) hts hz (a := a) (n := 0) (c := 0) hlx (olds := []) (fun w' _ => by cases a <;> simp [Builtin.firstCells, loadCells, loadCellsFrom] <;> rfl) hnew (by omega) (by simpa using hb) (by simp) hn
        simp only [Nat.zero_add, List.nil_append] at hrun hcge hrl
        have g1 := Go1.drew hst
        have hv := g1.rvs hnv
        have g2 := Go1.more g1.st (news ++ rest).toArray e (0, 0) ⟨true, E.size, m, w.heap.size, 0, cap⟩ (.row E.size m false false xs) (fun _ => rfl) (EntOk.fresh g1.st (w1 := World.drew1 w) hv hx5 hxl hcge (by rw [hn, hrl, ← Nat.add_mul]; congr 1; omega) e (soft0 _) rfl)
        refine ⟨_, _, _, _, _, _, hrun, (g1.trans hst g2 (k := (· ∈ ([] : List Nat))) (fun i => by simp)), ?_, h⟩
        unfold RV
        rw [← hst.len]
        exact ⟨⟨true, E.size, m, w.heap.size, 0, cap⟩, by simp, rfl, _, rfl, .inr rfl⟩
    · rename_i sz n es
      split at h
      · cases h
      · rename_i m _
        obtain ⟨hz', h'⟩ := bif_some h; clear h; have h := h'; clear h'
        have hz' := Nat.eq_of_beq_eq_true hz'
        obtain ⟨hb, h'⟩ := oguard_some h; clear h; have h := h'; clear h'
        have hb := of_decide_eq_true hb
        rw [olet_eq] at h
        have hsrc2 : evSrc M (.d (.sl true sz (n + 1) es)) = some (sz, n + 1, es) := rfl
        obtain ⟨hel, he5, _, _, olds, hold, ho, hov⟩ := RV.src (P := P) hst hsrc2 hs
        unfold RV RD at hs
        obtain ⟨a, c, rfl, _, hf, _⟩ := hs
        have hc0 := hf rfl; subst hc0
        subst hz'
        obtain ⟨cap, rest, hcge, hrl, hrun⟩ := run_append_grow (P := P) (w := w) hT hk hE (ts := ts) (ty := ty) hts hz (a := a) (n := n + 1) (c := n + 1) hlx hold hnew (by omega) hb ho hn
        have g1 := Go1.drew hst
        have hv := g1.rvs (RVs.append hov hnv)
        rw [← toVs_append, ← List.flatten_append] at hv
        have g2 := Go1.more g1.st (olds ++ news ++ rest).toArray e (0, 0) ⟨true, E.size, n + 1 + (m + 1), w.heap.size, 0, cap⟩ (.row E.size (n + 1 + (m + 1)) false false (es ++ xs)) (fun _ => rfl) (EntOk.fresh (vs := olds ++ news) (rest := rest) g1.st (w1 := World.drew1 w) hv (fun c hc => by rcases List.mem_append.1 hc with h | h; exact he5 c h; exact hx5 c h) (by simp [hel, hxl]) hcge (by rw [List.length_append, ho, hn, hrl, ← Nat.add_mul, ← Nat.add_mul]; congr 1; omega) e (soft0 _) rfl)
        refine ⟨_, _, _, _, _, _, hrun, (g1.trans hst g2 (k := (· ∈ ([] : List Nat))) (fun i => by simp)), ?_, h⟩
        unfold RV
        rw [← hst.len]
        exact ⟨⟨true, E.size, n + 1 + (m + 1), w.heap.size, 0, cap⟩, by simp, rfl, _, rfl, .inr rfl⟩
    · cases h
end
end Go.Ev
