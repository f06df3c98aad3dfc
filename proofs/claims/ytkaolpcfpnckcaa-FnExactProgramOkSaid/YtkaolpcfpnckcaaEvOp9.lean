/-
  The evaluator's operations are the machine's: append, what it leaves.
-/
import Derived.Test.YtkaolpcfpnckcaaEvOp8
set_option linter.unusedVariables false
set_option linter.unusedSimpArgs false
namespace Go.Ev
open Go

theorem soft0 (us : Array Value) : Soft us (0, 0) := .inl rfl

theorem toVs_append : ∀ {a b : List D}, toVs (a ++ b) = toVs a ++ toVs b
  | [], _ => rfl
  | x :: a, b => by simp [toVs, toVs_append (a := a)]

section
variable {R : Type} {P : Program} {C : Com} {ι : Locs} {M : Mem} {w : World}

/-- A row in a block of its own. -/
theorem EntOk.fresh (hst : St C ι M w) {ι' : Locs} {vs rest : List Value} {es : List (List D)} {sz n cap : Nat} {fz mv : Bool} (hv : RVs w C ι vs (toVs es.flatten)) (hl : ∀ c ∈ es, c.length = sz) (hn : es.length = n) (hc : n ≤ cap) (hr : vs.length + rest.length = cap * sz) (T : TypeId) {fr : Nat × Nat} (hs : Soft (vs ++ rest).toArray fr) {w1 : World} (hw : w1.heap = w.heap) :
    EntOk (World.more w1 (.cells (vs ++ rest).toArray T fr)) C ι' ⟨true, sz, n, w.heap.size, 0, cap⟩ (.row sz n fz mv es) := by
  have hk : Keeps w C (World.more w1 (.cells (vs ++ rest).toArray T fr)) C := by
    refine ⟨fun b o ho => cell_of_heap ?_, fun _ => Nat.le_refl _⟩
    have := hst.clt ho
    rw [more_old (by rw [hw]; exact this), hw]
  refine ⟨rfl, rfl, rfl, hc, hn, hl, .inr ⟨_, T, fr, ?_, hs, ?_, ?_, ?_⟩⟩
  · have := more_new (w := w1) (o := .cells (vs ++ rest).toArray T fr)
    rwa [hw] at this
  · simp; omega
  · rw [hst.czero (Nat.le_refl _)]; omega
  · refine REs.of_flat (RCs.of_RVs (ι := ι) (RVs.mono hk (fun _ _ h => h) _ hv) (fun j u hj => ?_))
    have := lt_of_get hj
    simp only [Nat.zero_add, List.getElem?_toArray]
    rw [List.getElem?_append_left this]; exact hj

theorem more_upd (hst : St C ι M w) {id : Nat} {L L' : Loc} (hL : ι[id]? = some L) {w1 : World} (hw : w1.heap = w.heap) (e1 : w1.os = w.os) (e2 : w1.tape = w.tape) (e3 : w1.output = w.output) (us : Array Value) (T : TypeId) (fr : Nat × Nat) (hb : L'.located → w.heap.size ≤ L'.b) (hr : L'.row = L.row) (hs : L'.sz = L.sz) :
    Upd C ι w id L L' C (World.more w1 (.cells us T fr)) := by
  refine ⟨e1, e2, e3, by simp [World.more, hw], hL, ⟨fun b o ho => cell_of_heap ?_, fun _ => Nat.le_refl _⟩, fun b hb' _ => ⟨?_, rfl⟩, fun hl => .inr (hb hl), hr, hs, fun b => ?_⟩
  · rw [more_old (by rw [hw]; exact hst.clt ho), hw]
  · rw [more_old (by rw [hw]; exact hb'), hw]
  · rcases hst.com b with h0 | ⟨us', T', fr', hh, hc⟩
    · exact .inl h0
    · refine .inr ⟨us', T', fr', ?_, hc⟩
      rw [more_old (by rw [hw]; exact (Array.getElem?_eq_some_iff.1 hh).1), hw]; exact hh

theorem mvs_kill {id : Nat} {e : Ent} {sz n : Nat} {fz : Bool} {es : List (List D)} (hM : M[id]? = some e) {i : Nat} (hm : mvs M i ∨ i ∈ [id]) : mvs (killM [id] (M.set id (.row sz n fz true es))) i := by
  have hlt := lt_of_get hM
  unfold mvs
  rw [killM_get]
  by_cases e' : id = i
  · subst e'; exact ⟨sz, n, fz, es, by rw [List.getElem?_set_self hlt]; rfl⟩
  · rcases hm with ⟨a, b, c, d, hm⟩ | hm
    · exact ⟨a, b, c, d, by rw [List.getElem?_set_ne e', hm]; rfl⟩
    · simp at hm; exact absurd hm.symm e'

theorem append_row {t e : TypeId} {T E : TI} (hT : TIok P t T) (hk : T.kind = .sl e) (hE : TIok P e E) {ts : Array TypeId} {ty : TypeId} (hts : ts[0]? = some t) (hz : ∃ u d, ts[1]? = some u ∧ (∀ w, (underlying u).run P w = .ok d w) ∧ (∀ k, d ≠ .int k))
    (hst : St C ι M w) {id : Nat} {sz n0 : Nat} {fz mv : Bool} {es : List (List D)} (hM : M[id]? = some (.row sz n0 fz mv es)) (hsz : sz = E.size) {L : Loc} (hL : ι[id]? = some L) {off n c : Nat} {a : Option Addr} (hle : off + n ≤ n0) (hnc : n ≤ c) (ha : c = 0 ∨ (c + off = L.cap ∧ a = some ⟨L.b, L.base + off * sz, none⟩)) (hfz : fz = true → off + n = n0)
    {x : Value} {m : Nat} {xs : List (List D)} (hxl : xs.length = m) (hx5 : ∀ c ∈ xs, c.length = sz) (hlx : ∀ w', (Builtin.lenOf x).run P w' = .ok m w') {news : List Value} (hnew : ∀ w' : World, w'.heap = w.heap → (Builtin.firstCells sz m x).run P w' = .ok news.toArray w') (hn : news.length = m * sz) (hnv : RVs w C ι news (toVs xs.flatten))
    (hb : (n + m) * E.bytes ≤ maxBytes) :
    ∃ u ι' w', (Builtin.append_ ts ty #[.slice a n c, x]).run P w = .ok u w' ∧ Go1 C ι M w C ι' (killM [id] (M.set id (.row sz (n + m) fz true ((es.drop off).take n ++ xs)))) w' (· ∈ [id]) ∧ RV w' C ι' u (.own id) := by
  obtain ⟨hrow, q1, q2, q3, q4, q5, q6⟩ := hst.ent id L _ hL hM
  have hltid := lt_of_get hL
  have hel : ((es.drop off).take n).length = n := by simp; omega
  have he5 : ∀ c ∈ (es.drop off).take n, c.length = sz := fun c' hc' => q5 c' (List.drop_subset _ _ (List.take_subset _ _ hc'))
  have hxe : ∀ c ∈ (es.drop off).take n ++ xs, c.length = sz := fun c' hc' => by
    rcases List.mem_append.1 hc' with h | h
    · exact he5 c' h
    · exact hx5 c' h
  by_cases hin : n + m ≤ c
  · -- there is room
    obtain ⟨u, d, hu, hd, hnd⟩ := hz
    have hni : (match d with | .int _ => true | _ => false) = false := by
      cases d <;> first | rfl | exact absurd rfl (hnd _)
    have hrun : (Builtin.append_ ts ty #[.slice a n c, x]).run P w = ((match a with | some a => storeCells (a.add (n * sz)) news | none => pure () : Sem Unit).run P w).andThen fun _ w' => .ok (.slice a (n + m) c) w' := by
      unfold Builtin.append_
      simp only [hts, hu, List.getElem?_toArray, List.getElem?_cons_zero, List.getElem?_cons_succ, Sem.run_bind, Sem.run_pure, Result.andThen_ok, hT.sl hk, hE.size, hd]
      simp only [hni, Bool.false_eq_true, if_false, Result.andThen_ok, Bool.not_false, if_true, Sem.run_bind, hlx]
      rw [if_pos hin]
      simp only [Sem.run_bind]
      rw [← hsz, hnew w rfl]
      cases a with
      | none => rfl
      | some a => simp only [Result.andThen_ok, Sem.run_bind]; rfl
    by_cases hc0 : c = 0
    · have hm0 : m = 0 := by omega
      have hn0 : n = 0 := by omega
      subst hm0 hn0 hc0
      have hxs : xs = [] := List.eq_nil_of_length_eq_zero hxl
      have hnews : news = [] := List.eq_nil_of_length_eq_zero (by omega)
      subst hxs hnews
      let L' : Loc := ⟨true, sz, 0, 0, 0, 0⟩
      have hnl : ¬ L'.located := by simp [Loc.located, L']
      have u' : Upd C ι w id L L' C w := ⟨rfl, rfl, rfl, Nat.le_refl _, hL, .refl _ _, fun _ _ _ => ⟨rfl, rfl⟩, fun hl => absurd hl hnl, hrow.symm, q1.symm, hst.com⟩
      have hres : (Builtin.append_ ts ty #[.slice a 0 0, x]).run P w = .ok (.slice a 0 0) w := by
        rw [hrun]; cases a <;> rfl
      refine ⟨_, ι.set id L', w, hres, ⟨u'.st hst _ ⟨_, _, _, _, _, rfl⟩ ?_, u'.stp (.inr (by simp)), fun i _ hm => mvs_kill hM hm⟩, ?_⟩
      · exact ⟨rfl, rfl, rfl, Nat.le_refl _, by simp, fun c hc => by simp at hc, .inl rfl⟩
      · unfold RV
        exact ⟨L', by simp [hltid], rfl, a, rfl, .inl rfl⟩
    · rcases ha with ha | ⟨hcap, rfl⟩
      · exact absurd ha hc0
      rcases q6 with q6 | ⟨us, T', fr, hh, hsoft, hz', hC, hre⟩
      · omega
      have hcb : (n + m) * sz ≤ c * sz := Nat.mul_le_mul_right _ hin
      have hcc : c * sz + off * sz = L.cap * sz := by rw [← Nat.add_mul, hcap]
      have hnm : n * sz + m * sz = (n + m) * sz := by rw [Nat.add_mul]
      obtain ⟨w', hr, e1, e2, e3, e4, e5, e6⟩ := run_storeCells' (P := P) L.b (L.base + off * sz + n * sz) T' fr news 0 us w hh hsoft (by omega) (hnv.one (by
        have : ∀ l : List D, leafs (toVs l) = true := fun l => by induction l with | nil => rfl | cons x l ih => simp [toVs, leafs, V.leaf, ih]
        exact this _))
      simp only [Nat.add_zero] at e6
      have hg : ∀ o, w'.cell? ⟨L.b, o, none⟩ = if L.base + off * sz + n * sz ≤ o ∧ o < L.base + off * sz + n * sz + m * sz then news[o - (L.base + off * sz + n * sz)]? else us[o]? := by
        intro o
        rw [cell_of_row e6]
        have := seg_get (us := us.toList) (vs := news) (off := L.base + off * sz + n * sz) (o := o) (by simp; omega)
        rw [hn] at this
        simpa [hn] using this
      have hofn : off * sz + n * sz = (off + n) * sz := by rw [Nat.add_mul]
      have hCle : C L.b ≤ L.base + off * sz + n * sz := by
        cases fz with
        | true => simp at hC; have := hfz rfl; rw [← this] at hC; omega
        | false => simp at hC; omega
      have hkp : Keeps w C w' C := by
        refine ⟨fun b o ho => ?_, fun _ => Nat.le_refl _⟩
        by_cases e : b = L.b
        · subst e; rw [hg, if_neg (by omega), cell_of_row hh]
        · exact cell_of_heap (e5 b e)
      let L' : Loc := ⟨true, sz, n + m, L.b, L.base + off * sz, c⟩
      have hloc : L.located := .inr (by omega)
      have hsz' : (us.toList.take (L.base + off * sz + n * sz) ++ news ++ us.toList.drop (L.base + off * sz + n * sz + news.length)).toArray.size = us.size := by simp; omega
      have u' : Upd C ι w id L L' C w' := by
        refine ⟨e1, e2, e3, by omega, hL, hkp, fun b _ hb => ⟨e5 b (hb hloc), rfl⟩, fun _ => .inl ⟨hloc, rfl⟩, hrow.symm, q1.symm, fun b => ?_⟩
        by_cases e : b = L.b
        · subst e; exact .inr ⟨_, T', fr, e6, by rw [hsz']; omega⟩
        · rw [e5 b e]; exact hst.com b
      have hres : (Builtin.append_ ts ty #[.slice (some ⟨L.b, L.base + off * sz, none⟩) n c, x]).run P w = .ok (.slice (some ⟨L.b, L.base + off * sz, none⟩) (n + m) c) w' := by
        rw [hrun]; simp only [add_at, hr, Result.andThen_ok]
      refine ⟨_, ι.set id L', w', hres, ⟨u'.st hst _ ⟨_, _, _, _, _, rfl⟩ ?_, u'.stp (.inr (by simp)), fun i _ hm => mvs_kill hM hm⟩, ?_⟩
      · refine ⟨rfl, rfl, rfl, hin, by simp [hel, hxl], hxe, .inr ⟨_, T', fr, e6, hsoft.of_size hsz', by rw [hsz']; show L.base + off * sz + c * sz ≤ _; omega, ?_, ?_⟩⟩
        · show C L.b ≤ _
          cases fz with
          | true => simp; show C L.b ≤ L.base + off * sz + (n + m) * sz; omega
          | false => simp at hC ⊢; show C L.b ≤ L.base + off * sz; omega
        · have gg : ∀ o, (us.toList.take (L.base + off * sz + n * sz) ++ news ++ us.toList.drop (L.base + off * sz + n * sz + news.length)).toArray[o]? = if L.base + off * sz + n * sz ≤ o ∧ o < L.base + off * sz + n * sz + m * sz then news[o - (L.base + off * sz + n * sz)]? else us[o]? := by
            intro o; rw [← cell_of_row e6]; exact hg o
          show REs w' C _ (L.base + off * sz) _
          refine REs.append (sz := sz) he5 ?_ ?_
          · refine REs.mono hkp _ (N := L.base + off * sz + n * sz) (sz := sz) (fun o h1 h2 u hu => ?_) he5 (by rw [hel]; omega) (REs.take n (REs.drop off q5 (by omega) hre))
            show _ = _; rw [gg, if_neg (by omega)]; exact hu
          · rw [hel]
            refine REs.of_flat (RCs.of_RVs (ι := ι) (RVs.mono hkp (fun _ _ h => h) _ hnv) (fun q v hq => ?_))
            have hql := lt_of_get hq
            show _ = _
            rw [gg, if_pos (by omega), show L.base + off * sz + n * sz + q - (L.base + off * sz + n * sz) = q by omega]; exact hq
      · unfold RV
        exact ⟨L', by simp [hltid], rfl, _, rfl, .inr rfl⟩
  · -- a new block
    have hsrc : ∃ olds : List Value, (∀ w' : World, w'.heap = w.heap → (Builtin.firstCells sz n (.slice a n c)).run P w' = .ok olds.toArray w') ∧ olds.length = n * sz ∧ RVs w C ι olds (toVs ((es.drop off).take n).flatten) := by
      have hrv : RV w C ι (.slice a n c) (.ref id off n) := by
        unfold RV
        exact ⟨L, hL, hrow, by omega, a, c, rfl, hnc, by rw [q1]; exact ha⟩
      have hs : evSrc M (.ref id off n) = some (sz, n, (es.drop off).take n) := by simp [evSrc, getM, hM]
      obtain ⟨_, _, _, _, h⟩ := RV.src (P := P) hst hs hrv
      exact h
    obtain ⟨olds, ho1, ho2, ho3⟩ := hsrc
    subst hsz
    obtain ⟨cap, rest, hcge, hrl, hrun⟩ := run_append_grow (P := P) (w := w) hT hk hE (ts := ts) (ty := ty) hts hz (a := a) (n := n) (c := c) hlx ho1 hnew (by omega) hb ho2 hn
    let L' : Loc := ⟨true, E.size, n + m, w.heap.size, 0, cap⟩
    have hv : RVs w C ι (olds ++ news) (toVs ((es.drop off).take n ++ xs).flatten) := by
      rw [List.flatten_append, toVs_append]; exact RVs.append ho3 hnv
    have hlen2 : (olds ++ news).length + rest.length = cap * E.size := by
      rw [List.length_append, ho2, hn, hrl, ← Nat.add_mul, ← Nat.add_mul]; congr 1; omega
    have u' : Upd C ι w id L L' C (World.more (World.drew1 w) (.cells (olds ++ news ++ rest).toArray e (0, 0))) :=
      more_upd hst hL (w1 := World.drew1 w) rfl rfl rfl rfl _ _ _ (fun _ => Nat.le_refl _) hrow.symm q1.symm
    refine ⟨_, ι.set id L', _, hrun, ⟨u'.st hst _ ⟨_, _, _, _, _, rfl⟩ ?_, u'.stp (.inr (by simp)), fun i _ hm => mvs_kill hM hm⟩, ?_⟩
    · exact EntOk.fresh hst hv hxe (by simp [hel, hxl]) (by omega) hlen2 e (soft0 _) rfl
    · unfold RV
      exact ⟨L', by simp [hltid], rfl, _, rfl, .inr rfl⟩
end
end Go.Ev
