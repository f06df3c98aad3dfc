/-
  The evaluator's operations are the machine's: append.
-/
import Derived.Test.YtkaolpcfpnckcaaEvOp7
set_option linter.unusedVariables false
set_option linter.unusedSimpArgs false
namespace Go.Ev
open Go

theorem flat_len {sz : Nat} : ∀ {xs : List (List D)}, (∀ c ∈ xs, c.length = sz) → xs.flatten.length = xs.length * sz
  | [], _ => by simp
  | c :: xs, h => by
    have := flat_len (xs := xs) (fun c hc => h c (by simp [hc]))
    simp only [List.flatten_cons, List.length_append, this, h c (by simp), List.length_cons, Nat.add_mul, Nat.one_mul]; omega

theorem bytes_RVs {w : World} {C : Com} {ι : Locs} : ∀ l : List UInt8, RVs w C ι (l.map fun b => .int .u8 b.toNat) (toVs (l.map fun b => [D.int .u8 b.toNat]).flatten)
  | [] => by simp [toVs, RVs]
  | b :: l => by
    simp only [List.map_cons, List.flatten_cons, List.singleton_append, toVs]
    unfold RVs
    exact ⟨by unfold RV RD; rfl, bytes_RVs l⟩

section
variable {R : Type} {P : Program} {C : Com} {ι : Locs} {M : Mem} {w : World}

theorem loads_of {w : World} {C : Com} {ι : Locs} {g : Nat → Option Value} {sz off b : Nat} {xs : List (List D)} (hl : ∀ c ∈ xs, c.length = sz) (h : REs w C g off xs) (hg : ∀ o u, off ≤ o → o < off + xs.length * sz → g o = some u → w.cell? ⟨b, o, none⟩ = some u) :
    ∃ news : List Value, (∀ w' : World, w'.heap = w.heap → (loadCells ⟨b, off, none⟩ (xs.length * sz)).run P w' = .ok news.toArray w') ∧ news.length = xs.length * sz ∧ RVs w C ι news (toVs xs.flatten) := by
  obtain ⟨us, e1, e2, e3⟩ := RVs.of_RCs (ι := ι) (REs.flat hl h)
  have e1' : us.length = xs.length * sz := by rw [e1, flat_len hl]
  refine ⟨us, fun w' hw => ?_, e1', e3⟩
  rw [← e1']
  exact run_loadCells_list w' _ us (fun j v hj => by
    have := lt_of_get hj
    rw [add_at]
    have h1 := hg (off + j) v (by omega) (by omega) (e2 j v hj)
    simp only [World.cell?, hw] at h1 ⊢; exact h1)

/-- A slice and the cells of its elements. -/
theorem RV.src (hst : St C ι M w) {v : V} {sz m : Nat} {xs : List (List D)} (h : evSrc M v = some (sz, m, xs)) {u : Value} (hu : RV w C ι u v) :
    xs.length = m ∧ (∀ c ∈ xs, c.length = sz) ∧ (∀ w' : World, (Builtin.lenOf u).run P w' = .ok m w') ∧ ((∃ a c, u = .slice a m c) ∨ ∃ s, u = .string s) ∧
    ∃ news : List Value, (∀ w' : World, w'.heap = w.heap → (Builtin.firstCells sz m u).run P w' = .ok news.toArray w') ∧ news.length = m * sz ∧ RVs w C ι news (toVs xs.flatten) := by
  have zero : ∀ (a : Option Addr) (sz : Nat) (w' : World), (Builtin.firstCells sz 0 (.slice a 0 0)).run P w' = .ok #[] w' := by
    intro a sz w'; cases a <;> simp [Builtin.firstCells, loadCells, loadCellsFrom] <;> rfl
  have zero' : ∀ (a : Option Addr) (sz c : Nat) (w' : World), (Builtin.firstCells sz 0 (.slice a 0 c)).run P w' = .ok #[] w' := by
    intro a sz c w'; cases a <;> simp [Builtin.firstCells, loadCells, loadCellsFrom] <;> rfl
  unfold evSrc at h
  split at h
  · cases h
    unfold RV RD at hu
    obtain ⟨a, c, rfl, h1, h2, h3, h4, h5⟩ := hu
    subst h3
    refine ⟨rfl, h4, fun _ => rfl, .inl ⟨_, _, rfl⟩, ?_⟩
    rcases h5 with h5 | ⟨b, off, rfl, hc, hre⟩
    · have : xs = [] := List.eq_nil_of_length_eq_zero h5
      subst this
      exact ⟨[], fun w' _ => zero' _ _ _ _, by simp, by simp [toVs, RVs]⟩
    · exact loads_of (P := P) (ι := ι) (b := b) h4 hre (fun o u _ _ hg => hg)
  · rename_i s
    cases h
    unfold RV at hu; simp only [RD] at hu; subst hu
    refine ⟨by simp [byteEs], fun c hc => by simp [byteEs] at hc; obtain ⟨_, _, rfl⟩ := hc; rfl, fun _ => rfl, .inr ⟨_, rfl⟩, ?_⟩
    refine ⟨s.data.toList.map fun b => .int .u8 b.toNat, fun w' _ => ?_, by simp, bytes_RVs _⟩
    have e : s.extract 0 s.size = s := by simp
    simp only [Builtin.firstCells, e]
    show Result.ok _ _ = _
    congr 1
    apply Array.ext'
    simp
  · simp only [getM] at h
    split at h
    · rename_i hM
      cases h
      obtain ⟨L, a, hL, hr, e1, e2, rfl, ha, hn⟩ := hu.own_row hst hM
      obtain ⟨_, q1, q2, q3, q4, q5, q6⟩ := hst.ent _ L _ hL hM
      subst q4
      refine ⟨rfl, q5, fun _ => rfl, .inl ⟨_, _, rfl⟩, ?_⟩
      rcases q6 with q6 | ⟨us, T', fr, hh, _, hz, _, hre⟩
      · have : xs = [] := List.eq_nil_of_length_eq_zero (by omega)
        subst this
        exact ⟨[], fun w' _ => zero' _ _ _ _, by simp, by simp [toVs, RVs]⟩
      · rcases ha with ha | rfl
        · have : xs = [] := List.eq_nil_of_length_eq_zero (by omega)
          subst this
          exact ⟨[], fun w' _ => zero' _ _ _ _, by simp, by simp [toVs, RVs]⟩
        · exact loads_of (P := P) (ι := ι) (b := L.b) q5 hre (fun o u _ _ hg => by rw [cell_of_row hh]; exact hg)
    · cases h
  · rename_i id off n
    simp only [getM] at h
    split at h
    · rename_i sz' n0 fz mv es hM
      cases h
      unfold RV at hu
      obtain ⟨L, hL, hr, hle, a, c, rfl, hnc, ha⟩ := hu
      obtain ⟨_, q1, q2, q3, q4, q5, q6⟩ := hst.ent _ L _ hL hM
      have hlen : ((es.drop off).take m).length = m := by simp; omega
      have hq5 : ∀ c ∈ (es.drop off).take m, c.length = sz := fun c' hc' => q5 c' (List.drop_subset _ _ (List.take_subset _ _ hc'))
      refine ⟨hlen, hq5, fun _ => rfl, .inl ⟨_, _, rfl⟩, ?_⟩
      have emp : m = 0 → ∃ news : List Value, (∀ w' : World, w'.heap = w.heap → (Builtin.firstCells sz m (.slice a m c)).run P w' = .ok news.toArray w') ∧ news.length = m * sz ∧ RVs w C ι news (toVs ((es.drop off).take m).flatten) := by
        intro hm; subst hm
        exact ⟨[], fun w' _ => zero' _ _ _ _, by simp, by simp [toVs, RVs]⟩
      rcases ha with ha | ⟨hc0, rfl⟩
      · exact emp (by omega)
      rcases q6 with q6 | ⟨us, T', fr, hh, _, hz, _, hre⟩
      · exact emp (by omega)
      have := loads_of (P := P) (ι := ι) (b := L.b) hq5 (REs.take m (REs.drop off q5 (by omega) hre)) (fun o u _ _ hg => by rw [cell_of_row hh]; exact hg)
      rw [hlen] at this
      rw [← q1] at this ⊢
      exact this
    · cases h
  · cases h

theorem growBy_le {n : Nat} (hn : 256 ≤ n) : ∀ (r c : Nat), 256 ≤ c → c ≤ 2 * n → Builtin.growBy n r c ≤ 2 * n
  | 0, c, _, h => h
  | r + 1, c, h0, h => by
    unfold Builtin.growBy
    split
    · exact h
    · exact growBy_le hn r _ (by omega) (by omega)
theorem nextcap_le {need cap : Nat} (h : cap < need) : Builtin.nextslicecap need cap ≤ 2 * need := by
  unfold Builtin.nextslicecap
  split
  · omega
  · split
    · omega
    · exact growBy_le (by omega) 4 cap (by omega) (by omega)

/-- The room that the model draws. -/
def World.drew1 (w : World) : World := { w with drawn := w.drawn + 1 }

theorem run_append_grow {t e : TypeId} {T E : TI} (hT : TIok P t T) (hk : T.kind = .sl e) (hE : TIok P e E) {ts : Array TypeId} {ty : TypeId} (hts : ts[0]? = some t) (hz : ∃ u d, ts[1]? = some u ∧ (∀ w, (underlying u).run P w = .ok d w) ∧ (∀ k, d ≠ .int k))
    {a : Option Addr} {n c : Nat} {x : Value} {m : Nat} (hlx : ∀ w', (Builtin.lenOf x).run P w' = .ok m w') {olds news : List Value} (hold : ∀ w' : World, w'.heap = w.heap → (Builtin.firstCells E.size n (.slice a n c)).run P w' = .ok olds.toArray w') (hnew : ∀ w' : World, w'.heap = w.heap → (Builtin.firstCells E.size m x).run P w' = .ok news.toArray w')
    (hcap : c < n + m) (hb : (n + m) * E.bytes ≤ maxBytes) (ho : olds.length = n * E.size) (hn : news.length = m * E.size) :
    ∃ cap rest, n + m ≤ cap ∧ rest.length = (cap - (n + m)) * E.size ∧ (Builtin.append_ ts ty #[.slice a n c, x]).run P w = .ok (.slice (some ⟨w.heap.size, 0, none⟩) (n + m) cap) (World.more (World.drew1 w) (.cells (olds ++ news ++ rest).toArray e (0, 0))) := by
  obtain ⟨u, d, hu, hd, hnd⟩ := hz
  obtain ⟨bi, hbi, hbe⟩ := hE.bytes
  obtain ⟨z, hz, hzs, _⟩ := hE.zero
  have hq : (Question.appendCap (n + m) c e).forced = false := rfl
  let cap := (Question.appendCap (n + m) c e).cut (w.tape w.drawn (.appendCap (n + m) c e))
  have hcapge : n + m ≤ cap := by simp only [cap, Question.cut]; omega
  refine ⟨cap, (Builtin.zeroCells z.cells (cap - (n + m))).toList, hcapge, by simp [Builtin.zeroCells, hzs], ?_⟩
  unfold Builtin.append_
  simp only [hts, hu, List.getElem?_toArray, List.getElem?_cons_zero, List.getElem?_cons_succ, Sem.run_bind, Sem.run_pure, Result.andThen_ok, hT.sl hk, hE.size, hd]
  have hni : (match d with | .int _ => true | _ => false) = false := by
    cases d <;> first | rfl | exact absurd rfl (hnd _)
  simp only [hni, Bool.false_eq_true, if_false, Result.andThen_ok, Bool.not_false, if_true, Sem.run_bind, hlx]
  rw [if_neg (show ¬ n + m ≤ c by omega)]
  have h1 : ¬ (((n + m : Nat) : Int) > IntKind.i64.max ∧ (False ∨ bi.bytes = 0)) := by
    rintro ⟨_, h | h⟩
    · exact h
    · have := hE.bpos; omega
  simp only [Sem.run_bind, hbi, Result.andThen_ok]
  rw [if_neg h1]
  simp only [Sem.run_bind, hbi, Sem.run_pure, Result.andThen_ok]
  have h2 : ¬ (Builtin.nextslicecap (n + m) c * bi.bytes > 2 ^ 48) := by
    have := Nat.mul_le_mul_right bi.bytes (nextcap_le hcap)
    rw [hbe] at this ⊢
    unfold maxBytes at hb
    rw [Nat.mul_assoc] at this
    omega
  rw [if_neg h2]
  simp only [Sem.run_bind, Sem.run_pure, Result.andThen_ok]
  have hch : ∀ (k : Nat → Sem Value), ((choose (.appendCap (n + m) c e) >>= k) : Sem Value).run P w = (k cap).run P (World.drew1 w) := by
    intro k; rfl
  have hask : ∀ w' : World, (askRoom (cap * bi.bytes)).run P w' = .ok () w' := by
    intro w'; unfold askRoom; split <;> rfl
  have hch' : (choose (.appendCap (n + m) c e)).run P w = .ok cap (World.drew1 w) := rfl
  simp only [hch', Result.andThen_ok, Sem.run_bind, hbi, hask, hold (World.drew1 w) rfl, hnew (World.drew1 w) rfl, hz]
  have hA : olds.toArray ++ news.toArray ++ Builtin.zeroCells z.cells (cap - (n + m)) = (olds ++ news ++ (Builtin.zeroCells z.cells (cap - (n + m))).toList).toArray := by
    apply Array.ext'; simp
  rw [hA]
  rfl
end
end Go.Ev
