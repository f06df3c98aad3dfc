/-
  The program's LowNodes and the reference's answer the same at every low expression.
-/
import Derived.Test.YtepljphcjpcpiaaPLow
set_option linter.unusedVariables false
set_option linter.unusedSimpArgs false
namespace Go.Ev.Q
open Go Go.Ev

mutual
noncomputable def Low.nodes : Low → Nat
  | .mk _ _ _ _ _ _ _ kids alts => 1 + Low.nodess kids + LowAlt.nodess alts
noncomputable def Low.nodess : List Low → Nat
  | [] => 0
  | a :: l => Low.nodes a + Low.nodess l
noncomputable def LowAlt.nodes : LowAlt → Nat
  | .mk _ _ b => Low.nodes b
noncomputable def LowAlt.nodess : List LowAlt → Nat
  | [] => 0
  | a :: l => LowAlt.nodes a + LowAlt.nodess l
end
theorem LowAlt.ts_body (a : LowAlt) : a.ts.2.2 = a.body.ts := by cases a; rw [LowAlt.ts_mk]; rfl
theorem LowAlt.nodes_body (a : LowAlt) : LowAlt.nodes a = Low.nodes a.body := by cases a; rw [LowAlt.nodes]; rfl

/-! The reference -/
theorem l7parts_ok (t : Low) : t.size ≤ 1048576 → ∀ L : Nat, L ≤ 1501 → spec_l7parts t.ts L = some (.tup [], [.box [.d (.int .i64 ((L - Low.nodes t : Nat) : Int))]]) := by
  refine Low.ind (P := fun t => t.size ≤ 1048576 → ∀ L : Nat, L ≤ 1501 → spec_l7parts t.ts L = some (.tup [], [.box [.d (.int .i64 ((L - Low.nodes t : Nat) : Int))]]))
    (Q := fun a => a.size ≤ 1048576 → ∀ L : Nat, L ≤ 1501 → spec_l7parts a.body.ts L = some (.tup [], [.box [.d (.int .i64 ((L - LowAlt.nodes a : Nat) : Int))]])) ?_ ?_ t
  · intro k n m c lit ty fn kids alts h1 h2 hs L hL
    rw [Low.size_mk] at hs
    have j2 : ∀ (q p : List LowAlt) (L : Nat), p ++ q = alts → L ≤ 1501 → spec_l7parts_j2 p.length L (Low.ts (.mk k n m c lit ty fn kids alts)) = some (.tup [], [.box [.d (.int .i64 ((L - LowAlt.nodess q : Nat) : Int))]]) := by
      intro q
      induction q with
      | nil =>
        intro p L hp hL
        rw [spec_l7parts_j2_eq, Low.ts_mk, oite_dec]
        simp only [lowAlts, sl_n, ← hp, List.append_nil, Int.lt_irrefl, if_false, LowAlt.nodess, Nat.sub_zero]
      | cons a q ih =>
        intro p L hp hL
        rw [spec_l7parts_j2_eq, oite_dec, if_pos (by rw [Low.ts_mk]; simp only [lowAlts, sl_n, ← hp]; simp; omega)]
        have e : (Low.ts (.mk k n m c lit ty fn kids alts)).2.2.2.2.2.2.2.2.2.2.2.2.1 = sl (sh := sh_LowAlt) LowAlt.ts (p ++ a :: q) := by rw [Low.ts_mk, hp]; rfl
        rw [e, oat_at rfl, LowAlt.ts_body, h2 a (by rw [← hp]; simp) (by have := sizes_mem (f := LowAlt.size) (show a ∈ alts by rw [← hp]; simp); omega) L hL]
        rw [ocall_t rfl (t := ()) rfl (u := ((((L - LowAlt.nodes a : Nat) : Int), ()), ())) rfl]
        have hlen : p.length < 1048576 := by
          have : alts.length = p.length + (q.length + 1) := by rw [← hp]; simp
          omega
        rw [w64_succ (by omega)]
        have := ih (p ++ [a]) (L - LowAlt.nodes a) (by simpa using hp) (by omega)
        rw [List.length_append, List.length_singleton] at this
        rw [this, LowAlt.nodess, Nat.sub_sub]
    have j1 : ∀ (q p : List Low) (L : Nat), p ++ q = kids → L ≤ 1501 → spec_l7parts_j1 p.length L (Low.ts (.mk k n m c lit ty fn kids alts)) = some (.tup [], [.box [.d (.int .i64 ((L - Low.nodess q - LowAlt.nodess alts : Nat) : Int))]]) := by
      intro q
      induction q with
      | nil =>
        intro p L hp hL
        rw [spec_l7parts_j1_eq, oite_dec, if_neg (by rw [Low.ts_mk]; simp only [lows, sl_n, ← hp]; simp)]
        have := j2 alts [] L rfl hL
        simp only [List.length_nil] at this
        rw [show ((0 : Nat) : Int) = 0 from rfl] at this
        rw [this, Low.nodess, Nat.sub_zero]
      | cons a q ih =>
        intro p L hp hL
        rw [spec_l7parts_j1_eq, oite_dec, if_pos (by rw [Low.ts_mk]; simp only [lows, sl_n, ← hp]; simp; omega)]
        have e : (Low.ts (.mk k n m c lit ty fn kids alts)).2.2.2.2.2.2.2.2.2.2.2.1 = sl (sh := sh_Low) Low.ts (p ++ a :: q) := by rw [Low.ts_mk, hp]; rfl
        rw [e, oat_at rfl, h1 a (by rw [← hp]; simp) (by have := sizes_mem (f := Low.size) (show a ∈ kids by rw [← hp]; simp); omega) L hL]
        rw [ocall_t rfl (t := ()) rfl (u := ((((L - Low.nodes a : Nat) : Int), ()), ())) rfl]
        have hlen : p.length < 1048576 := by
          have : kids.length = p.length + (q.length + 1) := by rw [← hp]; simp
          omega
        rw [w64_succ (by omega)]
        have := ih (p ++ [a]) (L - Low.nodes a) (by simpa using hp) (by omega)
        rw [List.length_append, List.length_singleton] at this
        rw [this, Low.nodess, ← Nat.sub_sub]
    rw [spec_l7parts_eq, Low.nodes]
    cases L with
    | zero => rw [oite_if, if_pos (by simp)]; simp
    | succ L =>
      rw [oite_if, if_neg (by simp; omega), show ((L + 1 : Nat) : Int) - 1 = (L : Int) by omega, w64_id (by omega) (by omega)]
      have := j1 kids [] L rfl (by omega)
      simp only [List.length_nil] at this
      rw [show ((0 : Nat) : Int) = 0 from rfl] at this
      rw [this, show L - Low.nodess kids - LowAlt.nodess alts = L + 1 - (1 + Low.nodess kids + LowAlt.nodess alts) by omega]
  · intro c vars b h hs L hL
    rw [LowAlt.size_mk] at hs
    rw [LowAlt.nodes]
    exact h (by omega) L hL

/-! The program -/
theorem countLow_r_ok (t : Low) : t.size ≤ 1048576 → ∀ L : Nat, L ≤ 1500 → impl_countLow_r t.ts L = some (.d (.int .i64 ((min (Low.nodes t) (L + 1) : Nat) : Int)), []) := by
  refine Low.ind (P := fun t => t.size ≤ 1048576 → ∀ L : Nat, L ≤ 1500 → impl_countLow_r t.ts L = some (.d (.int .i64 ((min (Low.nodes t) (L + 1) : Nat) : Int)), []))
    (Q := fun a => a.size ≤ 1048576 → ∀ L : Nat, L ≤ 1500 → impl_countLow_r a.body.ts L = some (.d (.int .i64 ((min (LowAlt.nodes a) (L + 1) : Nat) : Int)), [])) ?_ ?_ t
  · intro k n m c lit ty fn kids alts h1 h2 hs L hL
    rw [Low.size_mk] at hs
    have j2 : ∀ (q p : List LowAlt) (M : Nat), p ++ q = alts → M ≤ L + 1 → impl_countLow_r_j2 L p.length M (Low.ts (.mk k n m c lit ty fn kids alts)) alts.length = some (.d (.int .i64 ((min (M + LowAlt.nodess q) (L + 1) : Nat) : Int)), []) := by
      intro q
      induction q with
      | nil =>
        intro p M hp hM
        rw [impl_countLow_r_j2_eq, oite_dec, if_neg (by rw [← hp]; simp), w64_id (by omega) (by omega), LowAlt.nodess]
        congr 4
        omega
      | cons a q ih =>
        intro p M hp hM
        rw [impl_countLow_r_j2_eq, oite_dec, if_pos (by rw [← hp]; simp; omega), oite_dec]
        by_cases hg : M > L
        · rw [if_pos (by omega), w64_id (by omega) (by omega)]
          congr 4
          omega
        · rw [if_neg (by omega)]
          have e : (Low.ts (.mk k n m c lit ty fn kids alts)).2.2.2.2.2.2.2.2.2.2.2.2.1 = sl (sh := sh_LowAlt) LowAlt.ts (p ++ a :: q) := by rw [Low.ts_mk, hp]; rfl
          rw [e, oat_at rfl, LowAlt.ts_body, w64_id (by omega) (by omega), show (L : Int) - (M : Int) = ((L - M : Nat) : Int) by omega,
            h2 a (by rw [← hp]; simp) (by have := sizes_mem (f := LowAlt.size) (show a ∈ alts by rw [← hp]; simp); omega) (L - M) (by omega), ocall_int]
          have hlen : p.length < 1048576 := by
            have : alts.length = p.length + (q.length + 1) := by rw [← hp]; simp
            omega
          rw [w64_succ (by omega), w64_id (by omega) (by omega), show (M : Int) + ((min (LowAlt.nodes a) (L - M + 1) : Nat) : Int) = ((M + min (LowAlt.nodes a) (L - M + 1) : Nat) : Int) by omega]
          have := ih (p ++ [a]) (M + min (LowAlt.nodes a) (L - M + 1)) (by simpa using hp) (by omega)
          rw [List.length_append, List.length_singleton] at this
          rw [this, LowAlt.nodess]
          congr 4
          omega
    have j1 : ∀ (q p : List Low) (M : Nat), p ++ q = kids → M ≤ L + 1 → impl_countLow_r_j1 L p.length M (Low.ts (.mk k n m c lit ty fn kids alts)) kids.length = some (.d (.int .i64 ((min (M + Low.nodess q + LowAlt.nodess alts) (L + 1) : Nat) : Int)), []) := by
      intro q
      induction q with
      | nil =>
        intro p M hp hM
        rw [impl_countLow_r_j1_eq, oite_dec, if_neg (by rw [← hp]; simp)]
        have e : (((Low.ts (.mk k n m c lit ty fn kids alts)).2.2.2.2.2.2.2.2.2.2.2.2.1.1 : Nat) : Int) = (alts.length : Int) := by rw [Low.ts_mk]; rfl
        have := j2 alts [] M rfl hM
        simp only [List.length_nil] at this
        rw [show ((0 : Nat) : Int) = 0 from rfl] at this
        rw [e, this, Low.nodess]
        simp
      | cons a q ih =>
        intro p M hp hM
        rw [impl_countLow_r_j1_eq, oite_dec, if_pos (by rw [← hp]; simp; omega), oite_dec]
        by_cases hg : M > L
        · rw [if_pos (by omega), w64_id (by omega) (by omega)]
          congr 4
          omega
        · rw [if_neg (by omega)]
          have e : (Low.ts (.mk k n m c lit ty fn kids alts)).2.2.2.2.2.2.2.2.2.2.2.1 = sl (sh := sh_Low) Low.ts (p ++ a :: q) := by rw [Low.ts_mk, hp]; rfl
          rw [e, oat_at rfl, w64_id (by omega) (by omega), show (L : Int) - (M : Int) = ((L - M : Nat) : Int) by omega,
            h1 a (by rw [← hp]; simp) (by have := sizes_mem (f := Low.size) (show a ∈ kids by rw [← hp]; simp); omega) (L - M) (by omega), ocall_int]
          have hlen : p.length < 1048576 := by
            have : kids.length = p.length + (q.length + 1) := by rw [← hp]; simp
            omega
          rw [w64_succ (by omega), w64_id (by omega) (by omega), show (M : Int) + ((min (Low.nodes a) (L - M + 1) : Nat) : Int) = ((M + min (Low.nodes a) (L - M + 1) : Nat) : Int) by omega]
          have := ih (p ++ [a]) (M + min (Low.nodes a) (L - M + 1)) (by simpa using hp) (by omega)
          rw [List.length_append, List.length_singleton] at this
          rw [this, Low.nodess]
          congr 4
          omega
    have e : (((Low.ts (.mk k n m c lit ty fn kids alts)).2.2.2.2.2.2.2.2.2.2.2.1.1 : Nat) : Int) = (kids.length : Int) := by rw [Low.ts_mk]; rfl
    have := j1 kids [] 1 rfl (by omega)
    simp only [List.length_nil] at this
    rw [show ((0 : Nat) : Int) = 0 from rfl, show ((1 : Nat) : Int) = 1 from rfl] at this
    rw [impl_countLow_r_eq, e, this, Low.nodes]
  · intro c vars b h hs L hL
    rw [LowAlt.size_mk] at hs
    rw [LowAlt.nodes]
    exact h (by omega) L hL

theorem countLow_ok (t : Low) (hs : t.size ≤ 1048576) (L : Nat) (hL : L ≤ 1500) : impl_countLow L t.ts = some (.d (.int .i64 ((min (Low.nodes t) (L + 1) : Nat) : Int)), [.box (LS.encs sh_Low t.ts)]) := by
  cases t with
  | mk k n m c lit ty fn kids alts =>
    rw [Low.size_mk] at hs
    have j2 : ∀ (q p : List LowAlt) (M : Nat), p ++ q = alts → M ≤ L + 1 → impl_countLow_j2 L p.length M alts.length (Low.ts (.mk k n m c lit ty fn kids alts)) = some (.d (.int .i64 ((min (M + LowAlt.nodess q) (L + 1) : Nat) : Int)), [.box (LS.encs sh_Low (Low.ts (.mk k n m c lit ty fn kids alts)))]) := by
      intro q
      induction q with
      | nil =>
        intro p M hp hM
        rw [impl_countLow_j2_eq, oite_dec, if_neg (by rw [← hp]; simp), w64_id (by omega) (by omega), LowAlt.nodess]
        congr 4
        omega
      | cons a q ih =>
        intro p M hp hM
        rw [impl_countLow_j2_eq, oite_dec, if_pos (by rw [← hp]; simp; omega), oite_dec]
        by_cases hg : M > L
        · rw [if_pos (by omega), w64_id (by omega) (by omega)]
          congr 4
          omega
        · rw [if_neg (by omega)]
          have e : (Low.ts (.mk k n m c lit ty fn kids alts)).2.2.2.2.2.2.2.2.2.2.2.2.1 = sl (sh := sh_LowAlt) LowAlt.ts (p ++ a :: q) := by rw [Low.ts_mk, hp]; rfl
          have hsz := sizes_mem (f := LowAlt.size) (show a ∈ alts by rw [← hp]; simp)
          have hb : a.body.size ≤ a.size := by cases a; rw [LowAlt.size_mk]; simp only [LowAlt.body]; omega
          rw [e, oat_at rfl, LowAlt.ts_body, w64_id (by omega) (by omega), show (L : Int) - (M : Int) = ((L - M : Nat) : Int) by omega,
            countLow_r_ok a.body (by omega) (L - M) (by omega), ocall_int]
          have hlen : p.length < 1048576 := by
            have : alts.length = p.length + (q.length + 1) := by rw [← hp]; simp
            omega
          rw [w64_succ (by omega), w64_id (by omega) (by omega), show (M : Int) + ((min (Low.nodes a.body) (L - M + 1) : Nat) : Int) = ((M + min (Low.nodes a.body) (L - M + 1) : Nat) : Int) by omega]
          have := ih (p ++ [a]) (M + min (Low.nodes a.body) (L - M + 1)) (by simpa using hp) (by omega)
          rw [List.length_append, List.length_singleton] at this
          rw [this, LowAlt.nodess, LowAlt.nodes_body]
          congr 4
          omega
    have j1 : ∀ (q p : List Low) (M : Nat), p ++ q = kids → M ≤ L + 1 → impl_countLow_j1 L p.length M kids.length (Low.ts (.mk k n m c lit ty fn kids alts)) = some (.d (.int .i64 ((min (M + Low.nodess q + LowAlt.nodess alts) (L + 1) : Nat) : Int)), [.box (LS.encs sh_Low (Low.ts (.mk k n m c lit ty fn kids alts)))]) := by
      intro q
      induction q with
      | nil =>
        intro p M hp hM
        rw [impl_countLow_j1_eq, oite_dec, if_neg (by rw [← hp]; simp)]
        have e : (((Low.ts (.mk k n m c lit ty fn kids alts)).2.2.2.2.2.2.2.2.2.2.2.2.1.1 : Nat) : Int) = (alts.length : Int) := by rw [Low.ts_mk]; rfl
        have := j2 alts [] M rfl hM
        simp only [List.length_nil] at this
        rw [show ((0 : Nat) : Int) = 0 from rfl] at this
        rw [e, this, Low.nodess]
        simp
      | cons a q ih =>
        intro p M hp hM
        rw [impl_countLow_j1_eq, oite_dec, if_pos (by rw [← hp]; simp; omega), oite_dec]
        by_cases hg : M > L
        · rw [if_pos (by omega), w64_id (by omega) (by omega)]
          congr 4
          omega
        · rw [if_neg (by omega)]
          have e : (Low.ts (.mk k n m c lit ty fn kids alts)).2.2.2.2.2.2.2.2.2.2.2.1 = sl (sh := sh_Low) Low.ts (p ++ a :: q) := by rw [Low.ts_mk, hp]; rfl
          rw [e, oat_at rfl, w64_id (by omega) (by omega), show (L : Int) - (M : Int) = ((L - M : Nat) : Int) by omega,
            countLow_r_ok a (by have := sizes_mem (f := Low.size) (show a ∈ kids by rw [← hp]; simp); omega) (L - M) (by omega), ocall_int]
          have hlen : p.length < 1048576 := by
            have : kids.length = p.length + (q.length + 1) := by rw [← hp]; simp
            omega
          rw [w64_succ (by omega), w64_id (by omega) (by omega), show (M : Int) + ((min (Low.nodes a) (L - M + 1) : Nat) : Int) = ((M + min (Low.nodes a) (L - M + 1) : Nat) : Int) by omega]
          have := ih (p ++ [a]) (M + min (Low.nodes a) (L - M + 1)) (by simpa using hp) (by omega)
          rw [List.length_append, List.length_singleton] at this
          rw [this, Low.nodess]
          congr 4
          omega
    have e : (((Low.ts (.mk k n m c lit ty fn kids alts)).2.2.2.2.2.2.2.2.2.2.2.1.1 : Nat) : Int) = (kids.length : Int) := by rw [Low.ts_mk]; rfl
    have := j1 kids [] 1 rfl (by omega)
    simp only [List.length_nil] at this
    rw [show ((0 : Nat) : Int) = 0 from rfl, show ((1 : Nat) : Int) = 1 from rfl] at this
    rw [impl_countLow_eq, e, this, Low.nodes]

/-- The law is true of every low expression. -/
theorem lowNodes_true (t : Low) (ho : t.ok) : laws_FnExactLowNodes t.ts = some (.d (.bool true), []) := by
  rw [laws_FnExactLowNodes_eq, show (1048576 : Int) = ((1048576 : Nat) : Int) from rfl, szLow_ok t ho _ (by omega), ocall_int, oite_dec]
  by_cases hs : t.size ≤ 1048576
  · simp only [if_pos hs]
    rw [if_neg (show ¬ (((1048576 - t.size : Nat) : Int) < 0) by omega)]
    have e1 : spec_LowNodes t.ts = some (.d (.int .i64 ((min (Low.nodes t) 1501 : Nat) : Int)), []) := by
      rw [spec_LowNodes_eq, spec_l7count_eq]
      have := l7parts_ok t hs 1501 (by omega)
      rw [show ((1501 : Nat) : Int) = 1501 from rfl] at this
      rw [this, ocall_t rfl (t := ()) rfl (u := ((((1501 - Low.nodes t : Nat) : Int), ()), ())) rfl, w64_id (by simp only; omega) (by simp only; omega), ocall_int]
      congr 4
      simp only
      omega
    have e2 : impl_LowNodes t.ts = some (.d (.int .i64 ((min (Low.nodes t) 1501 : Nat) : Int)), []) := by
      rw [impl_LowNodes_eq]
      have := countLow_ok t hs 1500 (by omega)
      rw [show ((1500 : Nat) : Int) = 1500 from rfl] at this
      rw [this, ocall_int_box rfl]
    rw [toLow_ok t hs, ocall_agg rfl, e1, ocall_int, ocall_agg rfl, e2, ocall_int, oite_not, beq_self_eq_true, oite_t, ocall_agg rfl, eqLow_ok t hs, ocall_bool, oite_not, oite_t]
  · simp only [if_neg hs]
    rw [if_pos (by decide)]
end Go.Ev.Q
