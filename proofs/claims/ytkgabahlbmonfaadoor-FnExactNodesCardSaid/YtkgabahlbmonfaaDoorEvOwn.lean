import Derived.Test.YtkgabahlbmonfaaDoorEvDat
set_option linter.unusedVariables false
set_option linter.unusedSimpArgs false
/-
  Rows that all their trees belong to, in plain: they are made, and marked.
-/
namespace Go.Ev
open Go

/-- A row of one's own, as a call returns it. -/
abbrev rO (sz : Nat) (s : Sl) : Res := some (.own 0, [.lrow sz s.1 false s.2])
theorem ES.dec_lrow {sz n : Nat} {es : List (List D)} : (ES.lrow sz false).dec (.lrow sz n false es) = some (n, es) := by
  show (bif Nat.beq sz sz && (false || !false) then some (n, es) else none) = some (n, es)
  rw [Nat.beq_refl]; rfl
theorem ES.decs_lrow {sz n : Nat} {es : List (List D)} : ES.decs [.lrow sz false] [.lrow sz n false es] = some ((n, es), ()) := by
  simp only [ES.decs, ES.dec_lrow]
theorem ocall_own {R : Type} {sz : Nat} {s : Sl} {f : Unit → Sl × Unit → Option R} : ocall (.m (.one (.own 0))) [.lrow sz false] (rO sz s) f = f () (s, ()) :=
  ocall_t (s := .m (.one (.own 0))) (m := [.lrow sz false]) (t := ()) (u := (s, ())) rfl rfl ES.decs_lrow

/-- A list's elements are taken over one by one into a new list. -/
theorem to_genG {α : Type} {sh : List LS} (hs : LS.alld sh = true) {b : Int} {K : Sl → Res} {z : List D} (hz : z.length = sh.length) {F : Sl → Res} {J : Int → Sl → Sl → Res} {G : LS.Ts sh → (List D → Res) → Res}
    (hF : ∀ x0, F x0 = oguard (decide ((0 : Int) ≤ ((x0.1 : Nat) : Int) ∧ (((x0.1 : Nat) : Int) = ((x0.1 : Nat) : Int) ∧ ((x0.1 : Nat) : Int) * b ≤ (140737488351232 : Int)))) (olet (List.replicate (Int.toNat ((x0.1 : Nat) : Int)) z) fun e0 => J (0 : Int) x0 (Int.toNat ((x0.1 : Nat) : Int), e0)))
    (hJ : ∀ x0 x1 x2, J x0 x1 x2 = oite (decide (x0 < ((x1.1 : Nat) : Int)))
      (oat sh x1.1 x1.2 x0 fun t1 => G t1 fun c =>
        oguard (decide ((0 : Int) ≤ x0 ∧ x0 < ((x2.1 : Nat) : Int))) (olet (List.set x2.2 (Int.toNat x0) (putD (List.getD x2.2 (Int.toNat x0) []) 0 c)) fun e4 => J (w64 (x0 + 1)) x1 (x2.1, e4)))
      (K x2))
    {g : α → LS.Ts sh} (l : List α) (hl : (l.length : Int) * b ≤ 140737488351232) (hlen : (l.length : Int) < 9223372036854775807) (he : ∀ a ∈ l, ∀ k, G (g a) k = k (vDs (LS.encs sh (g a)))) :
    F (sl g l) = K (sl g l) := by
  have key : ∀ (q p : List α) (d : List (List D)), p ++ q = l → J (p.length : Int) (sl g l) (l.length, (sl g p).2 ++ d) = K (sl g l) ∨ d.length ≠ q.length ∨ ¬ ∀ c ∈ d, c.length = sh.length := by
    intro q
    induction q with
    | nil =>
      intro p d hp
      cases d with
      | nil =>
        left
        rw [hJ, oite_dec, if_neg (by rw [sl_n, ← hp]; simp)]
        simp only [List.append_nil] at hp ⊢
        rw [hp]; rfl
      | cons c d => right; left; simp
    | cons a q ih =>
      intro p d hp
      by_cases hd : d.length = (a :: q).length
      · by_cases hc : ∀ c ∈ d, c.length = sh.length
        · left
          cases d with
          | nil => simp at hd
          | cons c d =>
            have hlt : p.length < l.length := by rw [← hp]; simp
            rw [hJ, oite_dec, if_pos (by rw [sl_n]; omega)]
            have e1 : sl g l = sl g (p ++ a :: q) := by rw [hp]
            rw [e1, oat_at hs, he a (by rw [← hp]; simp), oguard_dec ⟨by omega, by simp only; omega⟩, olet_eq, ← e1]
            have hpl : (sl g p).2.length = p.length := by simp [sl_es]
            have e2 : ((sl g p).2 ++ c :: d).set (Int.toNat (p.length : Int)) (putD (((sl g p).2 ++ c :: d).getD (Int.toNat (p.length : Int)) []) 0 (vDs (LS.encs sh (g a)))) = (sl g (p ++ [a])).2 ++ d := by
              have h1 : ((sl g p).2 ++ c :: d).getD (Int.toNat (p.length : Int)) [] = c := by
                rw [List.getD_eq_getElem?_getD, List.getElem?_append_right (by rw [hpl]; omega), hpl]; simp
              have hcl := hc c (by simp)
              rw [h1, putD_eq _ _ _ (by rw [vDs_encs_len]; omega), List.drop_eq_nil_of_le (by rw [vDs_encs_len]; omega)]
              simp only [Int.toNat_natCast, List.take_zero, List.nil_append, List.append_nil]
              rw [List.set_append_right _ _ (by rw [hpl]; exact Nat.le_refl _), hpl]
              simp [sl_es]
            rw [e2, w64_succ (by omega)]
            have := ih (p ++ [a]) d (by simpa using hp)
            rcases this with h | h | h
            · simpa using h
            · simp at hd; exact absurd hd h
            · exact absurd (fun c' hc' => hc c' (by simp [hc'])) h
        · right; right; exact hc
      · right; left; exact hd
  rw [hF, oguard_dec ⟨by omega, rfl, by rw [sl_n]; exact hl⟩, olet_eq]
  have := key l [] (List.replicate l.length z) rfl
  rcases this with h | h | h
  · simpa [sl_n, sl_es] using h
  · simp at h
  · exact absurd (fun c hc => by rw [List.eq_of_mem_replicate hc]; exact hz) h

/-- Numbers are taken over one by one. -/
theorem to_leafO {kd : IntKind} {b : Int} {F : Sl → Res} {J : Int → Sl → Sl → Res}
    (hF : ∀ x0, F x0 = oguard (decide ((0 : Int) ≤ ((x0.1 : Nat) : Int) ∧ (((x0.1 : Nat) : Int) = ((x0.1 : Nat) : Int) ∧ ((x0.1 : Nat) : Int) * b ≤ (140737488351232 : Int)))) (olet (List.replicate (Int.toNat ((x0.1 : Nat) : Int)) (D.int kd (0 : Int) :: [])) fun e0 => J (0 : Int) x0 (Int.toNat ((x0.1 : Nat) : Int), e0)))
    (hJ : ∀ x0 x1 x2, J x0 x1 x2 = oite (decide (x0 < ((x1.1 : Nat) : Int)))
      (oat [(.int kd)] x1.1 x1.2 x0 fun t1 =>
        oguard (decide ((0 : Int) ≤ x0 ∧ x0 < ((x2.1 : Nat) : Int))) (olet (List.set x2.2 (Int.toNat x0) (putD (List.getD x2.2 (Int.toNat x0) []) 0 [D.int kd t1.1])) fun e2 => J (w64 (x0 + 1)) x1 (x2.1, e2)))
      (rO 1 x2))
    (l : List Int) (hl : (l.length : Int) * b ≤ 140737488351232) (hlen : (l.length : Int) < 9223372036854775807) :
    F (sl (sh := [.int kd]) (fun n => (n, ())) l) = rO 1 (sl (sh := [.int kd]) (fun n => (n, ())) l) :=
  to_genG (sh := [.int kd]) rfl (K := rO 1) (z := [D.int kd 0]) rfl (G := fun t k => k [D.int kd t.1]) hF hJ l hl hlen (fun _ _ _ => rfl)

/-! Marks of what is not looked at any more: only their number counts -/
/-- What a mark of a row comes to. -/
def Mk (sz n : Nat) (x : Res) (k s : Nat) : Prop := ∃ (k' : Nat) (es' : List (List D)), x = some (.d (.int .i64 (k' : Int)), [.lrow sz n false es']) ∧ k ≤ k' ∧ k' ≤ k + 4 * s
theorem Mk.call {sz n : Nat} {x : Res} {k s : Nat} (h : Mk sz n x k s) {R : Type} {f : Int → Sl × Unit → Option R} : ∃ (k' : Nat) (es' : List (List D)), ocall (.m (.one (.int .i64))) [.lrow sz false] x f = f (k' : Int) ((n, es'), ()) ∧ k ≤ k' ∧ k' ≤ k + 4 * s := by
  obtain ⟨k', es', rfl, h1, h2⟩ := h
  refine ⟨k', es', ?_, h1, h2⟩
  exact ocall_t (s := .m (.one (.int .i64))) (m := [.lrow sz false]) (t := (k' : Int)) (u := ((n, es'), ())) rfl (LS.dec_enc (s := .int .i64) rfl (k' : Int)) ES.decs_lrow
theorem sum_zero {α : Type} : ∀ l : List α, (l.map fun _ => 0).sum = 0
  | [] => rfl
  | a :: l => by rw [List.map_cons, List.sum_cons, sum_zero l]
theorem ocall_mk {R : Type} {sz n : Nat} {k : Int} {es : List (List D)} {f : Int → Sl × Unit → Option R} : ocall (.m (.one (.int .i64))) [.lrow sz false] (some (.d (.int .i64 k), [.lrow sz n false es])) f = f k ((n, es), ()) :=
  ocall_t (s := .m (.one (.int .i64))) (m := [.lrow sz false]) (t := k) (u := ((n, es), ())) rfl (LS.dec_enc (s := .int .i64) rfl k) ES.decs_lrow
theorem ocells_sl {R : Type} {sz n : Nat} {es : List (List D)} {f : LS.Ts [.sl sz] → Option R} : ocells [.sl sz] [D.sl false sz n es] f = f ((n, es), ()) :=
  ocells_t (LS.decD_encs (l := [.sl sz]) rfl ((n, es), ()))
theorem getD_set_self {es : List (List D)} {i : Nat} {c : List D} (h : i < es.length) : (es.set i c).getD i [] = c := by
  rw [List.getD_eq_getElem?_getD, List.getElem?_set_self h]; rfl
theorem getD_set_ne {es : List (List D)} {i j : Nat} {c : List D} (h : i ≠ j) : (es.set i c).getD j [] = es.getD j [] := by
  rw [List.getD_eq_getElem?_getD, List.getElem?_set_ne h, ← List.getD_eq_getElem?_getD]

theorem mark_gen {α : Type} {sh : List LS} {sz : Nat} {F : Int → Sl → Res} {J : Int → Int → Sl → Res} {g : α → LS.Ts sh} {size : α → Nat}
    (hF : ∀ k s, F k s = J (0 : Int) k s)
    (l : List α) (hs : l.length + (l.map size).sum ≤ 1048576)
    (hend : ∀ (k : Int) (es : List (List D)), J (l.length : Int) k (l.length, es) = some (.d (.int .i64 k), [.lrow sz l.length false es]))
    (hstep : ∀ (i k : Nat) (es : List (List D)) (a : α), a ∈ l → i < l.length → es.length = l.length → es.getD i [] = vDs (LS.encs sh (g a)) → (k : Int) + 4 * (1 + size a) < 4611686018427387904 →
      ∃ (k' : Nat) (c : List D), k ≤ k' ∧ k' ≤ k + 4 * (1 + size a) ∧ J (i : Int) (k : Int) (l.length, es) = J ((i + 1 : Nat) : Int) (k' : Int) (l.length, es.set i c))
    (k : Nat) (hk : (k : Int) + 4 * (l.length + (l.map size).sum) < 4611686018427387904) : Mk sz l.length (F k (sl g l)) k (l.length + (l.map size).sum) := by
  have key : ∀ (q p : List α) (k : Nat) (es : List (List D)), p ++ q = l → es.length = l.length → (∀ j, p.length ≤ j → es.getD j [] = (sl g l).2.getD j []) → (k : Int) + 4 * (q.length + (q.map size).sum) < 4611686018427387904 →
      Mk sz l.length (J (p.length : Int) (k : Int) (l.length, es)) k (q.length + (q.map size).sum) := by
    intro q
    induction q with
    | nil =>
      intro p k es hp he hj hk
      have : p.length = l.length := by rw [← hp]; simp
      rw [this, hend]
      exact ⟨k, es, rfl, Nat.le_refl _, by simp⟩
    | cons a q ih =>
      intro p k es hp he hj hk
      simp only [List.length_cons, List.map_cons, List.sum_cons] at hk ⊢
      have hlt : p.length < l.length := by rw [← hp]; simp
      have hg : es.getD p.length [] = vDs (LS.encs sh (g a)) := by
        rw [hj _ (Nat.le_refl _), sl_es, List.getD_eq_getElem?_getD, List.getElem?_map, ← hp]; simp
      obtain ⟨k', c, h1, h2, h3⟩ := hstep p.length k es a (by rw [← hp]; simp) hlt he hg (by omega)
      rw [h3]
      obtain ⟨k2, es2, e1, e2, e3⟩ := ih (p ++ [a]) k' (es.set p.length c) (by simpa using hp) (by simpa using he) (fun j hj' => by
        rw [getD_set_ne (by simp at hj'; omega)]
        exact hj j (by simp at hj'; omega)) (by omega)
      rw [List.length_append, List.length_singleton] at e1
      exact ⟨k2, es2, e1, by omega, by omega⟩
  rw [hF]
  exact key l [] k (sl g l).2 rfl (by rw [sl_es]; simp) (fun _ _ => rfl) hk
/-- Marks of numbers. -/
theorem mark_leaf {kd : IntKind} {F : Int → Sl → Res} {J : Int → Int → Sl → Res} {wr : Int → Int}
    (hF : ∀ k s, F k s = J (0 : Int) k s)
    (hJ : ∀ x0 x1 x2, J x0 x1 x2 = oite (decide (x0 < ((x2.1 : Nat) : Int)))
      (oguard (decide ((0 : Int) ≤ x0 ∧ x0 < ((x2.1 : Nat) : Int))) (olet (List.set x2.2 (Int.toNat x0) (putD (List.getD x2.2 (Int.toNat x0) []) 0 [D.int kd (wr x1)])) fun e0 => J (w64 (x0 + 1)) (w64 (x1 + 1)) (x2.1, e0)))
      (some (.d (.int .i64 x1), [.lrow 1 x2.1 false x2.2])))
    (l : List Int) (hs : l.length ≤ 1048576) (k : Nat) (hk : (k : Int) + 4 * l.length < 4611686018427387904) : Mk 1 l.length (F k (sl (sh := [.int kd]) (fun n => (n, ())) l)) k l.length := by
  have h0 : (l.map fun (_ : Int) => 0).sum = 0 := sum_zero l
  have := mark_gen (sh := [.int kd]) (sz := 1) (g := fun n => (n, ())) (size := fun (_ : Int) => 0) hF l (by rw [h0]; omega) (fun k es => by rw [hJ, oite_dec, if_neg (by simp)]) (fun i k es a _ hi he hg hk => by
    rw [hJ, oite_dec, if_pos (show (i : Int) < (l.length : Nat) by omega), oguard_dec ⟨by omega, by simp only; omega⟩, olet_eq, w64_succ (by omega), w64_succ (by omega)]
    simp only [Int.toNat_natCast]
    exact ⟨k + 1, _, by omega, by omega, rfl⟩) k (by rw [h0]; omega)
  rw [h0] at this
  exact this

/-! Marks of what is looked at again -/
/-- The marks of a row of numbers, as the row holds them. -/
def wmarks (wr : Int → Int) (x : Int) : Nat → List Int
  | 0 => []
  | n + 1 => wmarks wr x n ++ [wr (x + n)]
theorem wmarks_len {wr : Int → Int} {x : Int} : ∀ {n : Nat}, (wmarks wr x n).length = n
  | 0 => rfl
  | n + 1 => by rw [wmarks, List.length_append, wmarks_len]; rfl
theorem wmarks_at {wr : Int → Int} {x : Int} : ∀ {n m : Nat}, m < n → ∃ q, wmarks wr x m ++ wr (x + m) :: q = wmarks wr x n
  | n + 1, m, h => by
    by_cases e : m = n
    · subst e; exact ⟨[], by rw [wmarks]⟩
    · obtain ⟨q, hq⟩ := wmarks_at (wr := wr) (x := x) (n := n) (m := m) (by omega)
      exact ⟨q ++ [wr (x + n)], by rw [wmarks, ← hq]; simp⟩
/-- A row of numbers. -/
abbrev nums (kd : IntKind) (l : List Int) : Sl := sl (sh := [.int kd]) (fun n => (n, ())) l
theorem nums_set {kd : IntKind} {p q : List Int} {a b : Int} : List.set (nums kd (p ++ a :: q)).2 p.length (putD ((nums kd (p ++ a :: q)).2.getD p.length []) 0 [D.int kd b]) = (nums kd (p ++ b :: q)).2 := by
  have h1 : (nums kd (p ++ a :: q)).2.getD p.length [] = [D.int kd a] := by
    rw [sl_es, List.getD_eq_getElem?_getD, List.getElem?_map]; simp [vDs, LS.encs, LS.enc, vD]
  rw [h1, putD_eq _ _ _ (by simp)]
  simp [sl_es, vDs, LS.encs, LS.enc, vD]
theorem markE_leaf {kd : IntKind} {F : Int → Sl → Res} {J : Int → Int → Sl → Res} {wr : Int → Int} {K : Int → Sl → Res}
    (hF : ∀ k s, F k s = J (0 : Int) k s)
    (hJ : ∀ x0 x1 x2, J x0 x1 x2 = oite (decide (x0 < ((x2.1 : Nat) : Int)))
      (oguard (decide ((0 : Int) ≤ x0 ∧ x0 < ((x2.1 : Nat) : Int))) (olet (List.set x2.2 (Int.toNat x0) (putD (List.getD x2.2 (Int.toNat x0) []) 0 [D.int kd (wr x1)])) fun e0 => J (w64 (x0 + 1)) (w64 (x1 + 1)) (x2.1, e0)))
      (K x1 x2))
    (l : List Int) (x : Int) (hx : 0 ≤ x) (hx2 : x + l.length < 9223372036854775807) : F x (nums kd l) = K (x + l.length) (nums kd (wmarks wr x l.length)) := by
  have key : ∀ (q : List Int) (m : Nat), m + q.length = l.length → J (m : Int) (x + m) (l.length, (nums kd (wmarks wr x m ++ q)).2) = K (x + l.length) (nums kd (wmarks wr x l.length)) := by
    intro q
    induction q with
    | nil =>
      intro m hm
      have : m = l.length := by simpa using hm
      subst this
      rw [hJ, oite_dec, if_neg (by simp), List.append_nil]
      rw [show nums kd (wmarks wr x l.length) = ((wmarks wr x l.length).length, (nums kd (wmarks wr x l.length)).2) from rfl, wmarks_len]
    | cons a q ih =>
      intro m hm
      have hlt : m < l.length := by simp at hm; omega
      have e : List.set (nums kd (wmarks wr x m ++ a :: q)).2 m (putD ((nums kd (wmarks wr x m ++ a :: q)).2.getD m []) 0 [D.int kd (wr (x + m))]) = (nums kd (wmarks wr x (m + 1) ++ q)).2 := by
        have := nums_set (kd := kd) (p := wmarks wr x m) (q := q) (a := a) (b := wr (x + m))
        rw [wmarks_len] at this
        rw [this, wmarks, List.append_assoc]; rfl
      rw [hJ, oite_dec, if_pos (by simp only; omega), oguard_dec ⟨by omega, by simp only; omega⟩]
      simp only [Int.toNat_natCast]
      rw [olet_eq, e, w64_succ (by omega), w64_id (by omega) (by omega), show x + (m : Int) + 1 = x + ((m + 1 : Nat) : Int) by omega]
      exact ih (m + 1) (by simp at hm; omega)
  rw [hF]
  have h := key l 0 (by omega)
  simp only [wmarks, List.nil_append] at h
  rw [show x + ((0 : Nat) : Int) = x by omega] at h
  exact h
theorem held_leaf {kd : IntKind} {F : Sl → Int → Res} {J : Int → Int → Sl → Res} {wr : Int → Int} {bad : Res} {K : Int → Res}
    (hF : ∀ s k, F s k = J (0 : Int) k s)
    (hJ : ∀ x0 x1 x2, J x0 x1 x2 = oite (decide (x0 < ((x2.1 : Nat) : Int)))
      (oat [(.int kd)] x2.1 x2.2 x0 fun t0 => oite (!(t0.1 == wr x1)) bad (J (w64 (x0 + 1)) (w64 (x1 + 1)) x2))
      (K x1))
    (n : Nat) (x : Int) (hx : 0 ≤ x) (hx2 : x + n < 9223372036854775807) : F (nums kd (wmarks wr x n)) x = K (x + n) := by
  have key : ∀ (k m : Nat), m + k = n → J (m : Int) (x + m) (nums kd (wmarks wr x n)) = K (x + n) := by
    intro k
    induction k with
    | zero =>
      intro m hm
      have : m = n := by simpa using hm
      subst this
      rw [hJ, oite_dec, if_neg (by rw [sl_n, wmarks_len]; simp)]
    | succ k ih =>
      intro m hm
      have hlt : m < n := by omega
      obtain ⟨q, hq⟩ := wmarks_at (wr := wr) (x := x) hlt
      rw [hJ, oite_dec, if_pos (by rw [sl_n, wmarks_len]; omega)]
      have e1 : ∀ {R : Type} (f : LS.Ts [.int kd] → Option R), oat [.int kd] (nums kd (wmarks wr x n)).1 (nums kd (wmarks wr x n)).2 (m : Int) f = f (wr (x + m), ()) := fun f => by
        have := oat_at (sh := [.int kd]) (g := fun n => (n, ())) (p := wmarks wr x m) (q := q) (a := wr (x + m)) rfl (f := f)
        rw [wmarks_len, hq] at this
        exact this
      rw [e1]
      simp only [beq_self_eq_true]
      rw [oite_not, oite_t, w64_succ (by omega), w64_id (by omega) (by omega), show x + (m : Int) + 1 = x + ((m + 1 : Nat) : Int) by omega]
      exact ih (m + 1) (by omega)
  rw [hF]
  have h := key n 0 (by omega)
  rw [show x + ((0 : Nat) : Int) = x by omega] at h
  exact h
end Go.Ev
