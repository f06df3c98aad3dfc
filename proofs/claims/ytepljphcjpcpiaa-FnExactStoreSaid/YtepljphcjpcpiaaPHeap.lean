/-
  Heaps are taken over, weighed, compared, marked and found as they were marked.
-/
import Derived.Test.YtepljphcjpcpiaaQAlloc
set_option linter.unusedVariables false
set_option linter.unusedSimpArgs false
namespace Go.Ev.Q
open Go Go.Ev

abbrev rI (l : List Int) (al : Bool) : Ent := .row 1 (ints l).1 false al (ints l).2
abbrev rA (l : List Access) (al : Bool) : Ent := .row 3 (accs l).1 false al (accs l).2

theorem ints_at {p q : List Int} {a : Int} : (ints (p ++ a :: q)).2.getD p.length [] = [D.int .i64 a] := by
  rw [show (ints (p ++ a :: q)).2 = (sl (sh := [.int .i64]) (fun n => (n, ())) (p ++ a :: q)).2 from rfl, sl_es, List.getD_eq_getElem?_getD, List.getElem?_map]; simp; rfl
theorem cell1 {R : Type} {a : Int} {f : Int × Unit → Option R} : ocells [(.int .i64)] [D.int .i64 a] f = f (a, ()) := ocells_t (LS.decD_encs (l := [.int .i64]) rfl (a, ()))
theorem ints_set {p q : List Int} {a b : Int} : (ints (p ++ a :: q)).2.set p.length (putD ((ints (p ++ a :: q)).2.getD p.length []) 0 [D.int .i64 b]) = (ints (p ++ b :: q)).2 :=
  sl_set (sh := [.int .i64]) (g := fun n => (n, ()))
theorem accs_at {p q : List Access} {a : Access} : (accs (p ++ a :: q)).2.getD p.length [] = vDs (LS.encs sh_Access a.ts) := by
  rw [show (accs (p ++ a :: q)).2 = (sl (sh := sh_Access) Access.ts (p ++ a :: q)).2 from rfl, sl_es, List.getD_eq_getElem?_getD, List.getElem?_map]; simp
theorem accs_set {p q : List Access} {a b : Access} : (accs (p ++ a :: q)).2.set p.length (vDs (LS.encs sh_Access b.ts)) = (accs (p ++ b :: q)).2 := by
  rw [show (accs (p ++ a :: q)).2 = (sl (sh := sh_Access) Access.ts (p ++ a :: q)).2 from rfl, show (accs (p ++ b :: q)).2 = (sl (sh := sh_Access) Access.ts (p ++ b :: q)).2 from rfl, sl_es, sl_es]; simp

theorem szHeap_ok (w : List Int) (h l n : Int) (g : List Access) (hw : lenOk w) (hg : lenOk g) : laws_szHeap (Heap.ts (.mk w h l n g)) 1048576 = some (.d (.int .i64 (if w.length + g.length ≤ 1048576 then ((1048576 - (w.length + g.length) : Nat) : Int) else -1)), []) := by
  rw [laws_szHeap_eq, Heap.ts_mk]
  simp only
  rw [show (1048576 : Int) = ((1048576 : Nat) : Int) from rfl, sz_leaf laws_szIntS_eq (ints w) hw 1048576 (by omega), ocall_int, oite_dec, ints_n]
  by_cases h1 : w.length ≤ 1048576
  · simp only [if_pos h1]
    rw [if_neg (by omega), sz_leaf laws_szAccessS_eq (accs g) hg _ (by omega), ocall_int, oite_dec, show (accs g).1 = g.length from rfl]
    by_cases h2 : g.length ≤ 1048576 - w.length
    · simp only [if_pos h2]
      rw [if_neg (by omega), if_pos (by omega)]
      congr 4; omega
    · simp only [if_neg h2]
      rw [if_pos (by decide), if_neg (by omega)]
  · simp only [if_neg h1]
    rw [if_pos (by decide), if_neg (by omega)]

theorem toIntS_ok (l : List Int) (hl : l.length ≤ 1048576) : laws_toIntS (ints l) = some (.own 0, [rI l false]) := by
  refine to_genK (sh := [.int .i64]) rfl (z := (0, ())) (b := 8) (K := fun x2 => some (.own 0, [.row 1 x2.1 false false x2.2])) (F := laws_toIntS) (J := laws_toIntS_j1) (g := fun n => (n, ())) (elt := fun t => some (.agg (LS.encs [.int .i64] t), [])) laws_toIntS_eq (fun x0 x1 x2 => ?_) l (by omega) (by omega) (fun a _ => rfl)
  rw [laws_toIntS_j1_eq]
  congr 2
  funext t1
  rw [ocall_agg (l := [.int .i64]) rfl]
  rfl
theorem toAccess_ok (a : Access) : laws_toAccess a.ts = some (.agg (LS.encs sh_Access a.ts), []) := laws_toAccess_eq _
theorem toAccessS_ok (l : List Access) (hl : l.length ≤ 1048576) : laws_toAccessS (accs l) = some (.own 0, [rA l false]) :=
  to_genK (sh := sh_Access) rfl (z := (0, 0, 0, ())) (b := 24) (K := fun x2 => some (.own 0, [.row 3 x2.1 false false x2.2])) (F := laws_toAccessS) (J := laws_toAccessS_j1) (g := Access.ts) (elt := laws_toAccess) laws_toAccessS_eq laws_toAccessS_j1_eq l (by omega) (by omega) (fun a _ => toAccess_ok a)

theorem toHeap_ok (w : List Int) (h l n : Int) (g : List Access) (hs : w.length + g.length ≤ 1048576) : laws_toHeap (Heap.ts (.mk w h l n g)) = some (.agg [.own 0, .d (.int .i64 h), .d (.int .i64 l), .d (.int .i64 n), .own 1], [rI w true, rA g true]) := by
  rw [laws_toHeap_eq, Heap.ts_mk]
  simp only
  rw [toIntS_ok w (by omega), ocall_t (t := ()) (u := (ints w, ())) rfl rfl rfl, toAccessS_ok g (by omega), ocall_t (t := ()) (u := (accs g, ())) rfl rfl rfl]

theorem eqIntS_oo_ok (l : List Int) (hl : l.length ≤ 1048576) : laws_eqIntS_oo (ints l) (ints l) = some (.d (.bool true), [rI l false, rI l false]) := by
  have key : ∀ (q p : List Int), p ++ q = l → laws_eqIntS_oo_j1 (p.length : Int) (ints l) (ints l) = some (.d (.bool true), [rI l false, rI l false]) := by
    intro q
    induction q with
    | nil =>
      intro p hp
      rw [laws_eqIntS_oo_j1_eq, oite_dec, if_neg (by rw [ints_n, ← hp]; simp)]
    | cons a q ih =>
      intro p hp
      have hlt : p.length < l.length := by rw [← hp]; simp
      have e1 : (ints l).2.getD (Int.toNat (p.length : Int)) [] = [D.int .i64 a] := by rw [← hp, Int.toNat_natCast, ints_at]
      rw [laws_eqIntS_oo_j1_eq, oite_dec, if_pos (by rw [ints_n]; omega), oguard_dec ⟨by omega, by rw [ints_n]; omega⟩, e1]
      simp only [List.drop_zero, List.take_succ_cons, List.take_zero]
      rw [cell1, oguard_dec ⟨by omega, by rw [ints_n]; omega⟩, cell1, oite_not, beq_self_eq_true, oite_t, w64_succ (by omega)]
      simpa using ih (p ++ [a]) (by simpa using hp)
  rw [laws_eqIntS_oo_eq, oite_not, beq_self_eq_true, oite_t]
  exact key l [] rfl
theorem eqAccess_ok (a : Access) : laws_eqAccess a.ts a.ts = some (.d (.bool true), []) := by
  rw [laws_eqAccess_eq]; simp only [beq_self_eq_true, oite_not, oite_t]
theorem eqAccessS_oo_ok (l : List Access) (hl : l.length ≤ 1048576) : laws_eqAccessS_oo (accs l) (accs l) = some (.d (.bool true), [rA l false, rA l false]) := by
  have key : ∀ (q p : List Access), p ++ q = l → laws_eqAccessS_oo_j1 (p.length : Int) (accs l) (accs l) = some (.d (.bool true), [rA l false, rA l false]) := by
    intro q
    induction q with
    | nil =>
      intro p hp
      rw [laws_eqAccessS_oo_j1_eq, oite_dec, if_neg (by rw [show (accs l).1 = l.length from rfl, ← hp]; simp)]
    | cons a q ih =>
      intro p hp
      have hlt : p.length < l.length := by rw [← hp]; simp
      have hn : (accs l).1 = l.length := rfl
      have e1 : List.take 3 (List.drop 0 ((accs l).2.getD (Int.toNat (p.length : Int)) [])) = vDs (LS.encs sh_Access a.ts) := by rw [← hp, Int.toNat_natCast, accs_at]; rfl
      rw [laws_eqAccessS_oo_j1_eq, oite_dec, if_pos (by rw [hn]; omega), oguard_dec ⟨by omega, by rw [hn]; omega⟩, e1,
        ocells_t (LS.decD_encs (l := sh_Access) rfl a.ts), oguard_dec ⟨by omega, by rw [hn]; omega⟩, ocells_t (LS.decD_encs (l := sh_Access) rfl a.ts), eqAccess_ok, ocall_bool, oite_not, oite_t, w64_succ (by omega)]
      simpa using ih (p ++ [a]) (by simpa using hp)
  rw [laws_eqAccessS_oo_eq, oite_not, beq_self_eq_true, oite_t]
  exact key l [] rfl
theorem eqHeap_ok (w : List Int) (h l n : Int) (g : List Access) (hw : w.length ≤ 1048576) (hg : g.length ≤ 1048576) : laws_eqHeap h l n h l n (ints w) (accs g) (ints w) (accs g) = some (.d (.bool true), [rI w false, rA g false, rI w false, rA g false]) := by
  rw [laws_eqHeap_eq, eqIntS_oo_ok w hw, ocall_t (t := true) (u := (ints w, ints w, ())) rfl rfl rfl]
  simp only [oite_not, oite_t, beq_self_eq_true]
  rw [eqAccessS_oo_ok g hg, ocall_t (t := true) (u := (accs g, accs g, ())) rfl rfl rfl, oite_t]

/-- Numbers from a first one on. -/
def marks (x : Int) : Nat → List Int
  | 0 => []
  | n + 1 => marks x n ++ [x + n]
theorem marks_len {x : Int} : ∀ {n : Nat}, (marks x n).length = n
  | 0 => rfl
  | n + 1 => by rw [marks, List.length_append, marks_len]; rfl
def markAs (x : Int) : Nat → List Access
  | 0 => []
  | n + 1 => markAs x n ++ [.mk (x + 3 * n) (x + 3 * n + 1) (x + 3 * n + 2)]
theorem markAs_len {x : Int} : ∀ {n : Nat}, (markAs x n).length = n
  | 0 => rfl
  | n + 1 => by rw [markAs, List.length_append, markAs_len]; rfl
theorem markIntS_ok (l : List Int) (x : Int) (hx : 0 ≤ x) (hx2 : x + l.length < 9223372036854775807) : laws_markIntS_o x (ints l) = some (.d (.int .i64 (x + l.length)), [rI (marks x l.length) false]) := by
  have key : ∀ (q : List Int) (m : Nat), m + q.length = l.length → laws_markIntS_o_j1 (m : Int) (x + m) (l.length, (ints (marks x m ++ q)).2) = some (.d (.int .i64 (x + l.length)), [rI (marks x l.length) false]) := by
    intro q
    induction q with
    | nil =>
      intro m hm
      have : m = l.length := by simpa using hm
      subst this
      rw [laws_markIntS_o_j1_eq, oite_dec, if_neg (by simp), List.append_nil]
      rw [show rI (marks x l.length) false = .row 1 (marks x l.length).length false false (ints (marks x l.length)).2 from rfl, marks_len]
    | cons a q ih =>
      intro m hm
      have hlt : m < l.length := by simp at hm; omega
      have e : List.set (ints (marks x m ++ a :: q)).2 m (putD ((ints (marks x m ++ a :: q)).2.getD m []) 0 [D.int .i64 (x + m)]) = (ints (marks x (m + 1) ++ q)).2 := by
        have := ints_set (p := marks x m) (q := q) (a := a) (b := x + m)
        rw [marks_len] at this
        rw [this, marks, List.append_assoc]; rfl
      rw [laws_markIntS_o_j1_eq, oite_dec, if_pos (by simp only; omega), oguard_dec ⟨by omega, by simp only; omega⟩]
      simp only [Int.toNat_natCast]
      rw [olet_eq, e, w64_succ (by omega), w64_id (by omega) (by omega), show x + (m : Int) + 1 = x + ((m + 1 : Nat) : Int) by omega]
      exact ih (m + 1) (by simp at hm; omega)
  rw [laws_markIntS_o_eq]
  have h := key l 0 (by omega)
  simp [marks] at h
  exact h
theorem marks_at {x : Int} : ∀ {n m : Nat}, m < n → ∃ q, marks x n = marks x m ++ (x + m) :: q
  | n + 1, m, h => by
    by_cases e : m = n
    · subst e; exact ⟨[], by rw [marks]⟩
    · obtain ⟨q, hq⟩ := marks_at (x := x) (n := n) (m := m) (by omega)
      exact ⟨q ++ [x + n], by rw [marks, hq]; simp⟩
theorem heldIntS_ok (n : Nat) (x : Int) (hx : 0 ≤ x) (hx2 : x + n < 9223372036854775807) : laws_heldIntS_o x (ints (marks x n)) = some (.d (.int .i64 (x + n)), [rI (marks x n) false]) := by
  have key : ∀ (k m : Nat), m + k = n → laws_heldIntS_o_j1 (m : Int) (x + m) (ints (marks x n)) = some (.d (.int .i64 (x + n)), [rI (marks x n) false]) := by
    intro k
    induction k with
    | zero =>
      intro m hm
      have : m = n := by simpa using hm
      subst this
      rw [laws_heldIntS_o_j1_eq, oite_dec, if_neg (by rw [ints_n, marks_len]; simp)]
    | succ k ih =>
      intro m hm
      have hlt : m < n := by omega
      obtain ⟨q, hq⟩ := marks_at (x := x) hlt
      have e1 : (ints (marks x n)).2.getD (Int.toNat (m : Int)) [] = [D.int .i64 (x + m)] := by
        have := ints_at (p := marks x m) (q := q) (a := x + m)
        rw [marks_len] at this
        rw [hq, Int.toNat_natCast, this]
      rw [laws_heldIntS_o_j1_eq, oite_dec, if_pos (by rw [ints_n, marks_len]; omega), oguard_dec ⟨by omega, by rw [ints_n, marks_len]; omega⟩, e1]
      simp only [List.drop_zero, List.take_succ_cons, List.take_zero]
      rw [cell1, oite_not, beq_self_eq_true, oite_t, w64_succ (by omega), w64_id (by omega) (by omega), show x + (m : Int) + 1 = x + ((m + 1 : Nat) : Int) by omega]
      exact ih (m + 1) (by omega)
  rw [laws_heldIntS_o_eq]
  have h := key n 0 (by omega)
  simp at h
  exact h

theorem acc_at {p q : List Access} {a b c : Int} : (accs (p ++ .mk a b c :: q)).2.getD p.length [] = [D.int .i64 a, D.int .i64 b, D.int .i64 c] := accs_at (a := .mk a b c)
theorem acc_set {p q : List Access} {a : Access} {x y z : Int} : (accs (p ++ a :: q)).2.set p.length [D.int .i64 x, D.int .i64 y, D.int .i64 z] = (accs (p ++ .mk x y z :: q)).2 := accs_set (b := .mk x y z)
theorem markAccessS_ok (l : List Access) (x : Int) (hx : 0 ≤ x) (hx2 : x + 3 * l.length < 9223372036854775800) : laws_markAccessS_o x (accs l) = some (.d (.int .i64 (x + 3 * l.length)), [rA (markAs x l.length) false]) := by
  have key : ∀ (q : List Access) (m : Nat), m + q.length = l.length → laws_markAccessS_o_j1 (m : Int) (x + 3 * m) (l.length, (accs (markAs x m ++ q)).2) = some (.d (.int .i64 (x + 3 * l.length)), [rA (markAs x l.length) false]) := by
    intro q
    induction q with
    | nil =>
      intro m hm
      have : m = l.length := by simpa using hm
      subst this
      rw [laws_markAccessS_o_j1_eq, oite_dec, if_neg (by simp), List.append_nil]
      rw [show rA (markAs x l.length) false = .row 3 (markAs x l.length).length false false (accs (markAs x l.length)).2 from rfl, markAs_len]
    | cons a q ih =>
      intro m hm
      obtain ⟨a1, a2, a3⟩ := a
      have hlt : m < l.length := by simp at hm; omega
      have hml : (markAs x m).length = m := markAs_len
      have s1 : ∀ (b1 b2 b3 : Int), (accs (markAs x m ++ .mk b1 b2 b3 :: q)).2.getD m [] = [D.int .i64 b1, D.int .i64 b2, D.int .i64 b3] := fun b1 b2 b3 => by
        have := acc_at (p := markAs x m) (q := q) (a := b1) (b := b2) (c := b3)
        rwa [hml] at this
      have s2 : ∀ (b : Access) (x1 y1 z1 : Int), (accs (markAs x m ++ b :: q)).2.set m [D.int .i64 x1, D.int .i64 y1, D.int .i64 z1] = (accs (markAs x m ++ .mk x1 y1 z1 :: q)).2 := fun b x1 y1 z1 => by
        have := acc_set (p := markAs x m) (q := q) (a := b) (x := x1) (y := y1) (z := z1)
        rwa [hml] at this
      rw [laws_markAccessS_o_j1_eq, oite_dec, if_pos (by simp only; omega), oguard_dec ⟨by omega, by simp only; omega⟩]
      simp only [Int.toNat_natCast]
      rw [w64_id (x := x + 3 * (m : Int) + 1) (by omega) (by omega), w64_id (x := x + 3 * (m : Int) + 1 + 1) (by omega) (by omega), w64_id (x := x + 3 * (m : Int) + 1 + 1 + 1) (by omega) (by omega)]
      rw [olet_eq, s1, show ∀ b : D, putD [D.int .i64 a1, D.int .i64 a2, D.int .i64 a3] 0 [b] = [b, D.int .i64 a2, D.int .i64 a3] from fun _ => rfl, s2, oguard_dec ⟨by omega, by omega⟩]
      rw [olet_eq, s1, show ∀ b c : D, putD [b, D.int .i64 a2, D.int .i64 a3] 1 [c] = [b, c, D.int .i64 a3] from fun _ _ => rfl, s2, oguard_dec ⟨by omega, by omega⟩]
      rw [olet_eq, s1, show ∀ b c d : D, putD [b, c, D.int .i64 a3] 2 [d] = [b, c, d] from fun _ _ _ => rfl, s2]
      rw [w64_succ (by omega), show x + 3 * (m : Int) + 1 + 1 + 1 = x + 3 * ((m + 1 : Nat) : Int) by omega]
      have := ih (m + 1) (by simp at hm; omega)
      rw [markAs, List.append_assoc, List.singleton_append] at this
      rw [show x + 3 * (m : Int) + 1 + 1 = x + 3 * (m : Int) + 2 by omega]
      exact this
  rw [laws_markAccessS_o_eq]
  have h := key l 0 (by omega)
  simp [markAs] at h
  exact h
theorem markAs_at {x : Int} : ∀ {n m : Nat}, m < n → ∃ q, markAs x n = markAs x m ++ .mk (x + 3 * m) (x + 3 * m + 1) (x + 3 * m + 2) :: q
  | n + 1, m, h => by
    by_cases e : m = n
    · subst e; exact ⟨[], by rw [markAs]⟩
    · obtain ⟨q, hq⟩ := markAs_at (x := x) (n := n) (m := m) (by omega)
      exact ⟨q ++ [.mk (x + 3 * n) (x + 3 * n + 1) (x + 3 * n + 2)], by rw [markAs, hq]; simp⟩
theorem heldAccessS_ok (n : Nat) (x : Int) (hx : 0 ≤ x) (hx2 : x + 3 * n < 9223372036854775800) : laws_heldAccessS_o x (accs (markAs x n)) = some (.d (.int .i64 (x + 3 * n)), [rA (markAs x n) false]) := by
  have key : ∀ (k m : Nat), m + k = n → laws_heldAccessS_o_j1 (m : Int) (x + 3 * m) (accs (markAs x n)) = some (.d (.int .i64 (x + 3 * n)), [rA (markAs x n) false]) := by
    intro k
    have hn : (accs (markAs x n)).1 = n := markAs_len
    induction k with
    | zero =>
      intro m hm
      have : m = n := by simpa using hm
      subst this
      rw [laws_heldAccessS_o_j1_eq, oite_dec, if_neg (by rw [hn]; simp)]
    | succ k ih =>
      intro m hm
      have hlt : m < n := by omega
      obtain ⟨q, hq⟩ := markAs_at (x := x) hlt
      have e1 : (accs (markAs x n)).2.getD (Int.toNat (m : Int)) [] = [D.int .i64 (x + 3 * m), D.int .i64 (x + 3 * m + 1), D.int .i64 (x + 3 * m + 2)] := by
        have := acc_at (p := markAs x m) (q := q) (a := x + 3 * m) (b := x + 3 * m + 1) (c := x + 3 * m + 2)
        rw [markAs_len] at this
        rw [hq, Int.toNat_natCast, this]
      rw [laws_heldAccessS_o_j1_eq, oite_dec, if_pos (by rw [hn]; omega), oguard_dec ⟨by omega, by rw [hn]; omega⟩, e1]
      simp only [List.drop_zero, List.drop_succ_cons, List.take_succ_cons, List.take_zero]
      rw [cell1, oite_not, beq_self_eq_true, oite_t, oguard_dec ⟨by omega, by rw [hn]; omega⟩, cell1, w64_id (x := x + 3 * (m : Int) + 1) (by omega) (by omega), oite_not, beq_self_eq_true, oite_t,
        oguard_dec ⟨by omega, by rw [hn]; omega⟩, cell1, w64_id (x := x + 3 * (m : Int) + 1 + 1) (by omega) (by omega), show x + 3 * (m : Int) + 1 + 1 = x + 3 * (m : Int) + 2 by omega, oite_not, beq_self_eq_true, oite_t,
        w64_succ (by omega), w64_id (by omega) (by omega), show x + 3 * (m : Int) + 2 + 1 = x + 3 * ((m + 1 : Nat) : Int) by omega]
      exact ih (m + 1) (by omega)
  rw [laws_heldAccessS_o_eq]
  have h := key n 0 (by omega)
  simp at h
  exact h

theorem ocall_rI {R : Type} {l : List Int} {n : Int} {f : Int → Sl × Unit → Option R} : ocall (.m (.one (.int .i64))) [.row 1 false false] (some (.d (.int .i64 n), [rI l false])) f = f n (ints l, ()) :=
  ocall_t (s := .m (.one (.int .i64))) (m := [.row 1 false false]) rfl (LS.dec_enc (s := .int .i64) rfl n) rfl
theorem ocall_rA {R : Type} {l : List Access} {n : Int} {f : Int → Sl × Unit → Option R} : ocall (.m (.one (.int .i64))) [.row 3 false false] (some (.d (.int .i64 n), [rA l false])) f = f n (accs l, ()) :=
  ocall_t (s := .m (.one (.int .i64))) (m := [.row 3 false false]) rfl (LS.dec_enc (s := .int .i64) rfl n) rfl
theorem ocall_rIA {R : Type} {k : List Int} {l : List Access} {n : Int} {f : Int → Sl × Sl × Unit → Option R} : ocall (.m (.one (.int .i64))) [.row 1 false false, .row 3 false false] (some (.d (.int .i64 n), [rI k false, rA l false])) f = f n (ints k, accs l, ()) :=
  ocall_t (s := .m (.one (.int .i64))) (m := [.row 1 false false, .row 3 false false]) rfl (LS.dec_enc (s := .int .i64) rfl n) rfl
theorem markHeap_ok (w : List Int) (h l n : Int) (g : List Access) (hw : w.length ≤ 2000000) (hg : g.length ≤ 2000000) : laws_markHeap h l n 1 (ints w) (accs g) = some (.d (.int .i64 (1 + w.length + 3 * g.length)), [rI (marks 1 w.length) false, rA (markAs (1 + w.length) g.length) false]) := by
  rw [laws_markHeap_eq, markIntS_ok w 1 (by omega) (by omega), ocall_rI, markAccessS_ok g _ (by omega) (by omega),
    ocall_rA]
theorem heldHeap_ok (a b : Nat) (h l n : Int) (ha : a ≤ 2000000) (hb : b ≤ 2000000) : laws_heldHeap h l n 1 (ints (marks 1 a)) (accs (markAs (1 + a) b)) = some (.d (.int .i64 (1 + a + 3 * b)), [rI (marks 1 a) false, rA (markAs (1 + a) b) false]) := by
  rw [laws_heldHeap_eq, heldIntS_ok a 1 (by omega) (by omega), ocall_rI, oite_dec, if_neg (by omega), heldAccessS_ok b _ (by omega) (by omega),
    ocall_rA, oite_dec, if_neg (by omega)]
end Go.Ev.Q
