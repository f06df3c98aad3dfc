import Derived.Test.YtkgabahlbmonfaaDoorEvLib
set_option linter.unusedVariables false
set_option linter.unusedSimpArgs false
/-
  Functions that go over a list: what they come to, whatever the list is of.
-/
namespace Go.Ev
open Go

theorem w64_succ {n : Nat} (h : (n : Int) < 9223372036854775807) : w64 ((n : Int) + 1) = ((n + 1 : Nat) : Int) := by
  rw [w64_id (by omega) (by omega)]; rfl

/-- A list's elements are taken over one by one into a new list. -/
theorem to_genK {α : Type} {sh : List LS} (hs : LS.alld sh = true) {b : Int} {K : Sl → Res} {z : LS.Ts sh} {F : Sl → Res} {J : Int → Sl → Sl → Res} {elt : LS.Ts sh → Res}
    (hF : ∀ x0, F x0 = oguard (decide ((0 : Int) ≤ ((x0.1 : Nat) : Int) ∧ (((x0.1 : Nat) : Int) = ((x0.1 : Nat) : Int) ∧ ((x0.1 : Nat) : Int) * b ≤ (140737488351232 : Int)))) (olet (List.replicate (Int.toNat ((x0.1 : Nat) : Int)) (vDs (LS.encs sh z))) fun e0 => J (0 : Int) x0 (Int.toNat ((x0.1 : Nat) : Int), e0)))
    (hJ : ∀ x0 x1 x2, J x0 x1 x2 = oite (decide (x0 < ((x1.1 : Nat) : Int)))
      (oat sh x1.1 x1.2 x0 fun t1 => ocall (.m (.agg sh)) [] (elt t1) fun r2 (_ : Unit) =>
        oguard (decide ((0 : Int) ≤ x0 ∧ x0 < ((x2.1 : Nat) : Int))) (olet (List.set x2.2 (Int.toNat x0) (putD (List.getD x2.2 (Int.toNat x0) []) 0 (vDs (LS.encs sh r2)))) fun e4 => J (w64 (x0 + 1)) x1 (x2.1, e4)))
      (K x2))
    {g : α → LS.Ts sh} (l : List α) (hl : (l.length : Int) * b ≤ 140737488351232) (hlen : (l.length : Int) < 9223372036854775807) (he : ∀ a ∈ l, elt (g a) = some (.agg (LS.encs sh (g a)), [])) :
    F (sl g l) = K (sl g l) := by
  have key : ∀ (q p : List α) (d : List (List D)), p ++ q = l → J (p.length : Int) (sl g l) (l.length, (sl g p).2 ++ d) = K (sl g l) ∨ d.length ≠ q.length ∨ ¬ ∀ c ∈ d, c.length = sh.length := by
    intro q
    induction q with
    | nil =>
      intro p d hp
      cases d with
      | nil =>
        left
        rw [hJ, oite_dec, if_neg (by rw [sl_n, ← hp]; simp)]
        simp only [List.append_nil] at hp ⊢
        rw [hp]; rfl
      | cons c d => right; left; simp
    | cons a q ih =>
      intro p d hp
      by_cases hd : d.length = (a :: q).length
      · by_cases hc : ∀ c ∈ d, c.length = sh.length
        · left
          cases d with
          | nil => simp at hd
          | cons c d =>
            have hlt : p.length < l.length := by rw [← hp]; simp
            rw [hJ, oite_dec, if_pos (by rw [sl_n]; omega)]
            have e1 : sl g l = sl g (p ++ a :: q) := by rw [hp]
            rw [e1, oat_at hs, he a (by rw [← hp]; simp), ocall_agg hs, oguard_dec ⟨by omega, by simp only; omega⟩, olet_eq, ← e1]
            have hpl : (sl g p).2.length = p.length := by simp [sl_es]
            have e2 : ((sl g p).2 ++ c :: d).set (Int.toNat (p.length : Int)) (putD (((sl g p).2 ++ c :: d).getD (Int.toNat (p.length : Int)) []) 0 (vDs (LS.encs sh (g a)))) = (sl g (p ++ [a])).2 ++ d := by
              have h1 : ((sl g p).2 ++ c :: d).getD (Int.toNat (p.length : Int)) [] = c := by
                rw [List.getD_eq_getElem?_getD, List.getElem?_append_right (by rw [hpl]; omega), hpl]; simp
              have hcl := hc c (by simp)
              rw [h1, putD_eq _ _ _ (by rw [vDs_encs_len]; omega), List.drop_eq_nil_of_le (by rw [vDs_encs_len]; omega)]
              simp only [Int.toNat_natCast, List.take_zero, List.nil_append, List.append_nil]
              rw [List.set_append_right _ _ (by rw [hpl]; exact Nat.le_refl _), hpl]
              simp [sl_es]
            rw [e2, w64_succ (by omega)]
            have := ih (p ++ [a]) d (by simpa using hp)
            rcases this with h | h | h
            · simpa using h
            · simp at hd; exact absurd hd h
            · exact absurd (fun c' hc' => hc c' (by simp [hc'])) h
        · right; right; exact hc
      · right; left; exact hd
  rw [hF, oguard_dec ⟨by omega, rfl, by rw [sl_n]; exact hl⟩, olet_eq]
  have := key l [] (List.replicate l.length (vDs (LS.encs sh z))) rfl
  rcases this with h | h | h
  · simpa [sl_n, sl_es] using h
  · simp at h
  · exact absurd (fun c hc => by rw [List.eq_of_mem_replicate hc, vDs_encs_len]) h

theorem to_gen {α : Type} {sh : List LS} (hs : LS.alld sh = true) {sz : Nat} {b : Int} {z : LS.Ts sh} {F : Sl → Res} {J : Int → Sl → Sl → Res} {elt : LS.Ts sh → Res}
    (hF : ∀ x0, F x0 = oguard (decide ((0 : Int) ≤ ((x0.1 : Nat) : Int) ∧ (((x0.1 : Nat) : Int) = ((x0.1 : Nat) : Int) ∧ ((x0.1 : Nat) : Int) * b ≤ (140737488351232 : Int)))) (olet (List.replicate (Int.toNat ((x0.1 : Nat) : Int)) (vDs (LS.encs sh z))) fun e0 => J (0 : Int) x0 (Int.toNat ((x0.1 : Nat) : Int), e0)))
    (hJ : ∀ x0 x1 x2, J x0 x1 x2 = oite (decide (x0 < ((x1.1 : Nat) : Int)))
      (oat sh x1.1 x1.2 x0 fun t1 => ocall (.m (.agg sh)) [] (elt t1) fun r2 (_ : Unit) =>
        oguard (decide ((0 : Int) ≤ x0 ∧ x0 < ((x2.1 : Nat) : Int))) (olet (List.set x2.2 (Int.toNat x0) (putD (List.getD x2.2 (Int.toNat x0) []) 0 (vDs (LS.encs sh r2)))) fun e4 => J (w64 (x0 + 1)) x1 (x2.1, e4)))
      (some (.d (.sl false sz x2.1 x2.2), [])))
    {g : α → LS.Ts sh} (l : List α) (hl : (l.length : Int) * b ≤ 140737488351232) (hlen : (l.length : Int) < 9223372036854775807) (he : ∀ a ∈ l, elt (g a) = some (.agg (LS.encs sh (g a)), [])) :
    F (sl g l) = some (.d (.sl false sz (sl g l).1 (sl g l).2), []) :=
  to_genK hs (K := fun x2 => some (.d (.sl false sz x2.1 x2.2), [])) hF hJ l hl hlen he

/-- A list's bulk is taken off. -/
theorem sz_gen {α : Type} {sh : List LS} (hs : LS.alld sh = true) {F : Sl → Int → Res} {J : Int → Int → Sl → Res} {elt : LS.Ts sh → Int → Res}
    (hF : ∀ x0 x1, F x0 x1 = oite (decide (w64 (x1 - ((x0.1 : Nat) : Int)) < (0 : Int))) (some (.d (.int .i64 (-1 : Int)), [])) (J (0 : Int) (w64 (x1 - ((x0.1 : Nat) : Int))) x0))
    (hJ : ∀ x0 x1 x2, J x0 x1 x2 = oite (decide (x0 < ((x2.1 : Nat) : Int))) (oat sh x2.1 x2.2 x0 fun t0 => ocall (.m (.one (.int .i64))) [] (elt t0 x1) fun r1 (_ : Unit) =>
      oite (decide (r1 < (0 : Int))) (some (.d (.int .i64 (-1 : Int)), [])) (J (w64 (x0 + 1)) r1 x2)) (some (.d (.int .i64 x1), [])))
    {g : α → LS.Ts sh} {size : α → Nat} (l : List α) (hlen : (l.length : Int) ≤ 9223372036854775807)
    (he : ∀ a ∈ l, ∀ n : Nat, (n : Int) < 9223372036854775807 → elt (g a) n = some (.d (.int .i64 (if size a ≤ n then ((n - size a : Nat) : Int) else -1)), [])) (n : Nat) (hn : (n : Int) < 9223372036854775807) :
    F (sl g l) n = some (.d (.int .i64 (if l.length + (l.map size).sum ≤ n then ((n - (l.length + (l.map size).sum) : Nat) : Int) else -1)), []) := by
  have key : ∀ (q p : List α) (m : Nat), p ++ q = l → (m : Int) < 9223372036854775807 → (l.length : Int) < 9223372036854775807 → J (p.length : Int) m (sl g l) = some (.d (.int .i64 (if (q.map size).sum ≤ m then ((m - (q.map size).sum : Nat) : Int) else -1)), []) := by
    intro q
    induction q with
    | nil =>
      intro p m hp hm hl
      rw [hJ, oite_dec, if_neg (by rw [sl_n, ← hp]; simp)]
      simp
    | cons a q ih =>
      intro p m hp hm hl
      have hlt : p.length < l.length := by rw [← hp]; simp
      rw [hJ, oite_dec, if_pos (by rw [sl_n]; omega)]
      have e1 : sl g l = sl g (p ++ a :: q) := by rw [hp]
      rw [e1, oat_at hs, he a (by rw [← hp]; simp) m hm, ocall_int, ← e1, oite_dec]
      simp only [List.map_cons, List.sum_cons]
      by_cases h1 : size a ≤ m
      · simp only [if_pos h1]
        rw [if_neg (show ¬ (((m - size a : Nat) : Int) < 0) by omega), w64_succ (by omega)]
        have := ih (p ++ [a]) (m - size a) (by simpa using hp) (by omega) hl
        rw [List.length_append, List.length_singleton] at this
        rw [this]
        by_cases h2 : (q.map size).sum ≤ m - size a
        · rw [if_pos h2, if_pos (by omega)]
          congr 4
          omega
        · rw [if_neg h2, if_neg (by omega)]
      · simp only [if_neg h1]
        rw [if_pos (by decide), if_neg (show ¬ (size a + (q.map size).sum ≤ m) by omega)]
  rw [hF, oite_dec, w64_id (by rw [sl_n]; omega) (by rw [sl_n]; omega), sl_n]
  by_cases h0 : l.length ≤ n
  · rw [if_neg (by omega)]
    have e : ((n : Int) - (l.length : Int)) = ((n - l.length : Nat) : Int) := by omega
    rw [e]
    have := key l [] (n - l.length) rfl (by omega) (by omega)
    simp only [List.length_nil] at this
    rw [show ((0 : Nat) : Int) = 0 from rfl] at this
    rw [this]
    by_cases h2 : (l.map size).sum ≤ n - l.length
    · rw [if_pos h2, if_pos (by omega)]
      congr 4; omega
    · rw [if_neg h2, if_neg (by omega)]
  · rw [if_pos (by omega), if_neg (by omega)]

/-- A list is the same as itself. -/
theorem eq_gen {α : Type} {sh : List LS} (hs : LS.alld sh = true) {F : Sl → Sl → Res} {J : Int → Sl → Sl → Res} {elt : LS.Ts sh → LS.Ts sh → Res}
    (hF : ∀ x0 x1, F x0 x1 = oite (!(((x0.1 : Nat) : Int) == ((x1.1 : Nat) : Int))) (some (.d (.bool false), [])) (J (0 : Int) x1 x0))
    (hJ : ∀ x0 x1 x2, J x0 x1 x2 = oite (decide (x0 < ((x2.1 : Nat) : Int))) (oat sh x2.1 x2.2 x0 fun t0 => oat sh x1.1 x1.2 x0 fun t1 => ocall (.m (.one .bool)) [] (elt t0 t1) fun r2 (_ : Unit) =>
      oite (!r2) (some (.d (.bool false), [])) (J (w64 (x0 + 1)) x1 x2)) (some (.d (.bool true), [])))
    {g : α → LS.Ts sh} (l : List α) (hlen : (l.length : Int) < 9223372036854775807) (he : ∀ a ∈ l, elt (g a) (g a) = some (.d (.bool true), [])) :
    F (sl g l) (sl g l) = some (.d (.bool true), []) := by
  have key : ∀ (q p : List α), p ++ q = l → J (p.length : Int) (sl g l) (sl g l) = some (.d (.bool true), []) := by
    intro q
    induction q with
    | nil =>
      intro p hp
      rw [hJ, oite_dec, if_neg (by rw [sl_n, ← hp]; simp)]
    | cons a q ih =>
      intro p hp
      have hlt : p.length < l.length := by rw [← hp]; simp
      rw [hJ, oite_dec, if_pos (by rw [sl_n]; omega)]
      have e1 : sl g l = sl g (p ++ a :: q) := by rw [hp]
      rw [e1, oat_at hs, oat_at hs, he a (by rw [← hp]; simp), ocall_bool, ← e1, oite_not, oite_t, w64_succ (by omega)]
      have := ih (p ++ [a]) (by simpa using hp)
      simpa using this
  rw [hF, oite_not]
  have e : (((sl g l).1 : Int) == ((sl g l).1 : Int)) = true := by simp
  rw [e, oite_t]
  exact key l [] rfl

/-- Numbers are taken over one by one. -/
theorem to_leaf {kd : IntKind} {b : Int} {F : Sl → Res} {J : Int → Sl → Sl → Res}
    (hF : ∀ x0, F x0 = oguard (decide ((0 : Int) ≤ ((x0.1 : Nat) : Int) ∧ (((x0.1 : Nat) : Int) = ((x0.1 : Nat) : Int) ∧ ((x0.1 : Nat) : Int) * b ≤ (140737488351232 : Int)))) (olet (List.replicate (Int.toNat ((x0.1 : Nat) : Int)) (D.int kd (0 : Int) :: [])) fun e0 => J (0 : Int) x0 (Int.toNat ((x0.1 : Nat) : Int), e0)))
    (hJ : ∀ x0 x1 x2, J x0 x1 x2 = oite (decide (x0 < ((x1.1 : Nat) : Int)))
      (oat [(.int kd)] x1.1 x1.2 x0 fun t1 =>
        oguard (decide ((0 : Int) ≤ x0 ∧ x0 < ((x2.1 : Nat) : Int))) (olet (List.set x2.2 (Int.toNat x0) (putD (List.getD x2.2 (Int.toNat x0) []) 0 [D.int kd t1.1])) fun e2 => J (w64 (x0 + 1)) x1 (x2.1, e2)))
      (some (.d (.sl false 1 x2.1 x2.2), [])))
    (l : List Int) (hl : (l.length : Int) * b ≤ 140737488351232) (hlen : (l.length : Int) < 9223372036854775807) :
    F (sl (sh := [.int kd]) (fun n => (n, ())) l) = some (.d (.sl false 1 l.length (sl (sh := [.int kd]) (fun n => (n, ())) l).2), []) := by
  refine to_gen (sh := [.int kd]) rfl (z := (0, ())) (b := b) (F := F) (J := J) (elt := fun t => some (.agg (LS.encs [.int kd] t), [])) hF (fun x0 x1 x2 => ?_) l hl hlen (fun a _ => rfl)
  rw [hJ]
  congr 2
  funext t1
  rw [ocall_agg (l := [.int kd]) rfl]
  rfl
theorem sz_leaf {F : Sl → Int → Res} (hF : ∀ x0 x1, F x0 x1 = oite (decide (w64 (x1 - ((x0.1 : Nat) : Int)) < (0 : Int))) (some (.d (.int .i64 (-1 : Int)), [])) (some (.d (.int .i64 (w64 (x1 - ((x0.1 : Nat) : Int)))), [])))
    (x0 : Sl) (hlen : (x0.1 : Int) ≤ 9223372036854775807) (n : Nat) (hn : (n : Int) < 9223372036854775807) :
    F x0 n = some (.d (.int .i64 (if x0.1 ≤ n then ((n - x0.1 : Nat) : Int) else -1)), []) := by
  rw [hF, oite_dec, w64_id (by omega) (by omega)]
  by_cases h0 : x0.1 ≤ n
  · rw [if_neg (by omega), if_pos h0]
    congr 4; omega
  · rw [if_pos (by omega), if_neg h0]
theorem eq_leaf {kd : IntKind} {F : Sl → Sl → Res} {J : Int → Sl → Sl → Res}
    (hF : ∀ x0 x1, F x0 x1 = oite (!(((x0.1 : Nat) : Int) == ((x1.1 : Nat) : Int))) (some (.d (.bool false), [])) (J (0 : Int) x1 x0))
    (hJ : ∀ x0 x1 x2, J x0 x1 x2 = oite (decide (x0 < ((x2.1 : Nat) : Int))) (oat [(.int kd)] x2.1 x2.2 x0 fun t0 => oat [(.int kd)] x1.1 x1.2 x0 fun t1 =>
      oite (!(t0.1 == t1.1)) (some (.d (.bool false), [])) (J (w64 (x0 + 1)) x1 x2)) (some (.d (.bool true), [])))
    (l : List Int) (hlen : (l.length : Int) < 9223372036854775807) :
    F (sl (sh := [.int kd]) (fun n => (n, ())) l) (sl (sh := [.int kd]) (fun n => (n, ())) l) = some (.d (.bool true), []) := by
  refine eq_gen (sh := [.int kd]) rfl (F := F) (J := J) (elt := fun t0 t1 => some (.d (.bool (t0.1 == t1.1)), [])) hF (fun x0 x1 x2 => ?_) l hlen (fun a _ => by simp)
  rw [hJ]
  congr 2
  funext t0
  congr 1
  funext t1
  rw [ocall_bool]
end Go.Ev
