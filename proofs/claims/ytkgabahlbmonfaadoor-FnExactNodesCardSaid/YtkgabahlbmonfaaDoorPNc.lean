import Derived.Test.YtkgabahlbmonfaaDoorPNb
set_option linter.unusedVariables false
set_option linter.unusedSimpArgs false
/-
  The heads of expressions: both sides come to the same.
-/
namespace Go.Ev
open Go Go.Ev.Q
def Expr.kind : Expr → Int
  | .mk k _ _ _ _ _ _ => k
def Expr.kidsL : Expr → List Expr
  | .mk _ _ _ _ _ l _ => l
theorem Expr.ts_kind (a : Expr) : a.ts.1 = a.kind := by
  cases a
  rw [Expr.ts_mk]
  rfl
theorem Expr.ts_kids (a : Expr) : a.ts.2.2.2.2.2.1.1 = a.kidsL.length := by
  cases a
  rw [Expr.ts_mk]
  rfl
def numB (k n : Int) : Bool := if k = 1 then decide (-1073741824 ≤ n ∧ n ≤ 1073741823) else if k = 19 then decide (0 ≤ n ∧ n ≤ 6) else if k = 20 then decide (0 ≤ n ∧ n ≤ 4) else decide (n = 0)
def nmdB (k : Int) : Bool := decide (k = 3 ∨ k = 4 ∨ k = 6 ∨ k = 7 ∨ k = 18)
def nmB (k : Int) (name : List UInt8) : Bool := if nmdB k = true then nameB name else if k = 15 then wordB true name else decide (name = [])
def argB (k : Int) (name arg : List UInt8) : Bool := if k = 7 then nameB arg && !decide (arg = name) else decide (arg = [])
def ltB (k : Int) (lit : List UInt8) : Bool := if k = 2 then litB lit else decide (lit = [])
def armsB (k : Int) (al : Nat) : Bool := if k = 16 then decide (1 ≤ al ∧ al ≤ 6) else decide (al = 0)
def kidsN (k n : Int) : Int := if k = 4 ∨ k = 10 ∨ k = 11 ∨ k = 12 ∨ k = 13 ∨ k = 17 ∨ k = 16 then 1 else if k = 5 ∨ k = 6 ∨ k = 7 ∨ k = 9 ∨ k = 14 ∨ k = 18 then 2 else if k = 8 then 3 else if k = 15 then -1 else if k = 19 then (if n = 6 then 1 else 2) else if k = 20 then (if n = 0 ∨ n = 2 ∨ n = 3 then 1 else if n = 1 then 0 else 2) else 0
def kidB (k n : Int) (kl : Nat) : Bool := decide (kidsN k n = kl ∨ (kidsN k n < 0 ∧ kl ≤ 3))
def appH : List Expr → Bool
  | [] => true
  | a :: _ => !(decide (a.kind = 15) && decide (a.kidsL.length = 0))
def appB (k : Int) (kids : List Expr) : Bool := if k = 5 then appH kids else true
def T3 (k n : Int) (kids : List Expr) : Bool := kidB k n kids.length && appB k kids
def T9 (k n : Int) (kids : List Expr) (al : Nat) : Bool := armsB k al && T3 k n kids
def T7 (k n : Int) (lit : List UInt8) (kids : List Expr) (al : Nat) : Bool := ltB k lit && T9 k n kids al
def T4 (k n : Int) (name arg lit : List UInt8) (kids : List Expr) (al : Nat) : Bool := argB k name arg && T7 k n lit kids al
def headB (k n : Int) (name arg lit : List UInt8) (kids : List Expr) (al : Nat) : Bool := decide (0 ≤ k ∧ k ≤ 20) && (numB k n && (nmB k name && T4 k n name arg lit kids al))
/-- What an expression's cells are. -/
structure IsX (x : T_Expr) (k n : Int) (name arg lit : List UInt8) (kids : List Expr) (ar : List Arm) : Prop where
  k : x.1 = k
  n : x.2.1 = n
  name : x.2.2.1 = ub name
  arg : x.2.2.2.1 = ub arg
  lit : x.2.2.2.2.1 = ub lit
  kids : x.2.2.2.2.2.1 = exprs kids
  ar : x.2.2.2.2.2.2.1 = Ev.arms ar
theorem exprs_n (l : List Expr) : (exprs l).1 = l.length := rfl
theorem arms_n (l : List Arm) : (Ev.arms l).1 = l.length := rfl
namespace Q
open Go Go.Ev

theorem within_b (x a b : Int) : impl_within x a b = rB (decide (a ≤ x ∧ x ≤ b)) := within_ok x a b
theorem numberOk_ok (k n : Int) : impl_numberOk k n = rB (numB k n) := by
  rw [impl_numberOk_eq, impl_wholeOk_eq, within_ok, within_ok, within_ok]
  simp only [ocall_bool, oite_if, beq_iff_eq]
  unfold numB
  repeat' split
  all_goals first | rfl | (refine resB ?_; first | rfl | (rename_i h1 h2 h3; exact Bool.eq_iff_iff.2 (by simp)))
theorem named_ok (k : Int) : impl_named k = rB (nmdB k) := by
  obtain ⟨r, h1, h2⟩ := index_all (l := [(3 : Int), 4, 6, 7, 18]) (p := fun a => !decide (k = a)) (J := fun i => slices_Index_int_int_j1 i (ints [3, 4, 6, 7, 18]) k 5) (Mm := []) (fun pre a q h => by
    have hlt := len_mid h
    have h5 : [(3 : Int), 4, 6, 7, 18].length = 5 := rfl
    rw [slices_Index_int_int_j1_eq, oite_dec, if_pos (by omega), show ints [3, 4, 6, 7, 18] = sl (sh := [.int .i64]) (fun x : Int => (x, ())) [3, 4, 6, 7, 18] from rfl, oat_mid h rfl, show sl (sh := [.int .i64]) (fun x : Int => (x, ())) [3, 4, 6, 7, 18] = ints [3, 4, 6, 7, 18] from rfl]
    simp only
    rw [oite_if, w64_succ (by omega)]
    by_cases e : k = a <;> simp [e]) (by
    rw [slices_Index_int_int_j1_eq, oite_dec, if_neg (by decide)])
  rw [impl_named_eq, slices_Contains_int_int_eq, slices_Index_int_int_eq]
  have h1' : slices_Index_int_int_j1 0 (5, (((D.int .i64 (3 : Int)) :: []) :: (((D.int .i64 (4 : Int)) :: []) :: (((D.int .i64 (6 : Int)) :: []) :: (((D.int .i64 (7 : Int)) :: []) :: (((D.int .i64 (18 : Int)) :: []) :: [])))))) k (((5 : Nat) : Nat) : Int) = _ := h1
  rw [h1', ocall_int, ocall_bool]
  refine resB ?_
  rw [h2, any_not]
  unfold nmdB
  simp [List.any_cons, Bool.decide_or]
theorem kidsOf_ok (k n : Int) (h : k = 20 → 0 ≤ n ∧ n ≤ 4) : impl_kidsOf k n = rI (kidsN k n) := by
  have o : ∀ (pre : List Int) (a : Int) (q : List Int), pre ++ a :: q = [1, 0, 1, 1, 2] → ∀ f : Int × Unit → Res, oat [(.int .i64)] 5 (((D.int .i64 (1 : Int)) :: []) :: (((D.int .i64 (0 : Int)) :: []) :: (((D.int .i64 (1 : Int)) :: []) :: (((D.int .i64 (1 : Int)) :: []) :: (((D.int .i64 (2 : Int)) :: []) :: []))))) (pre.length : Int) f = f (a, ()) := fun pre a q h f => oat_mid (sh := [.int .i64]) (g := fun x : Int => (x, ())) h rfl
  have j2 : ∀ b, impl_kidsOf_j2 n k b = rI (if b = true then 2 else if k = 8 then 3 else if k = 15 then -1 else if k = 19 then (if n = 6 then 1 else 2) else if k = 20 then (if n = 0 ∨ n = 2 ∨ n = 3 then 1 else if n = 1 then 0 else 2) else 0) := by
    intro b
    rw [impl_kidsOf_j2_eq]
    simp only [oite_if, beq_iff_eq]
    by_cases h20 : k = 20
    · subst h20
      have hn := h rfl
      cases b with
      | true => simp
      | false =>
        simp only [Bool.false_eq_true, if_false]
        rw [if_neg (by decide), if_neg (by decide), if_neg (by decide), if_pos trivial]
        rw [if_neg (by decide), if_neg (by decide), if_neg (by decide), if_pos trivial]
        rcases (by omega : n = 0 ∨ n = 1 ∨ n = 2 ∨ n = 3 ∨ n = 4) with rfl | rfl | rfl | rfl | rfl
        · exact o [] 1 _ rfl _
        · exact o [1] 0 _ rfl _
        · exact o [1, 0] 1 _ rfl _
        · exact o [1, 0, 1] 1 _ rfl _
        · exact o [1, 0, 1, 1] 2 _ rfl _
    · rw [if_neg h20, if_neg h20]
      repeat' split
      all_goals first | rfl | (exfalso; omega)
  have j1 : ∀ b, impl_kidsOf_j1 n k b = rI (if b = true then 1 else if k = 5 ∨ k = 6 ∨ k = 7 ∨ k = 9 ∨ k = 14 ∨ k = 18 then 2 else if k = 8 then 3 else if k = 15 then -1 else if k = 19 then (if n = 6 then 1 else 2) else if k = 20 then (if n = 0 ∨ n = 2 ∨ n = 3 then 1 else if n = 1 then 0 else 2) else 0) := by
    intro b
    rw [impl_kidsOf_j1_eq]
    simp only [j2, oite_if, beq_iff_eq]
    by_cases hb : b = true
    · rw [if_pos hb, if_pos hb]
    · rw [if_neg hb, if_neg hb]
      by_cases hk : k = 5 ∨ k = 6 ∨ k = 7 ∨ k = 9 ∨ k = 14 ∨ k = 18
      · rw [if_pos hk]
        rcases hk with rfl | rfl | rfl | rfl | rfl | rfl <;> simp
      · rw [if_neg hk]
        have a1 : k ≠ 5 := fun e => hk (by simp [e])
        have a2 : k ≠ 6 := fun e => hk (by simp [e])
        have a3 : k ≠ 7 := fun e => hk (by simp [e])
        have a4 : k ≠ 9 := fun e => hk (by simp [e])
        have a5 : k ≠ 14 := fun e => hk (by simp [e])
        have a6 : k ≠ 18 := fun e => hk (by simp [e])
        rw [if_neg a1, if_neg a2, if_neg a3, if_neg a4, if_neg a5, if_neg a6]
  rw [impl_kidsOf_eq]
  simp only [j1, oite_if, beq_iff_eq]
  unfold kidsN
  by_cases hk : k = 4 ∨ k = 10 ∨ k = 11 ∨ k = 12 ∨ k = 13 ∨ k = 17 ∨ k = 16
  · rw [if_pos hk]
    rcases hk with rfl | rfl | rfl | rfl | rfl | rfl | rfl <;> simp
  · rw [if_neg hk]
    have a1 : k ≠ 4 := fun e => hk (by simp [e])
    have a2 : k ≠ 10 := fun e => hk (by simp [e])
    have a3 : k ≠ 11 := fun e => hk (by simp [e])
    have a4 : k ≠ 12 := fun e => hk (by simp [e])
    have a5 : k ≠ 13 := fun e => hk (by simp [e])
    have a6 : k ≠ 17 := fun e => hk (by simp [e])
    have a7 : k ≠ 16 := fun e => hk (by simp [e])
    rw [if_neg a1, if_neg a2, if_neg a3, if_neg a4, if_neg a5, if_neg a6, if_neg a7]
theorem tx_nil (u : List UInt8) : (!((tx u).toList == (ByteArray.mk (Array.mk [])).toList)) = !decide (u = []) := by
  rw [show ByteArray.mk (Array.mk []) = tx [] from rfl, tx_inj]
theorem gt0 (u : List UInt8) : decide ((((ub u).1 : Nat) : Int) > 0) = !decide (u = []) := by
  rw [ub_n]
  cases u <;> simp
abbrev rM (M : Mem) (b : Bool) : Res := some (.d (.bool b), M)
section
variable {x : T_Expr} {k n : Int} {name arg lit : List UInt8} {kids : List Expr} {ar : List Arm}
theorem hR_13 (hX : IsX x k n name arg lit kids ar) (h5 : k = 5 → kids ≠ []) : (impl_Expr_headOk_r_j13 x) = rM [] (appB k kids) := by
  rw [impl_Expr_headOk_r_j13_eq, oite_not, oite_if, hX.k]
  unfold appB
  by_cases hk : k = 5
  · rw [if_pos (by simp [hk]), if_pos hk, hX.kids]
    cases kids with
    | nil => exact absurd rfl (h5 hk)
    | cons a q =>
      have ot : ∀ {R : Type} {f : T_Expr → Option R}, oat sh_Expr (exprs (a :: q)).1 (exprs (a :: q)).2 0 f = f a.ts := fun {R f} => oat_hd (sh := sh_Expr) (g := Expr.ts) rfl
      rw [ot, oite_not, oite_if, ot, Expr.ts_kind, Expr.ts_kids]
      unfold appH
      by_cases h15 : a.kind = 15
      · rw [if_pos (by simp [h15])]
        refine resB ?_
        show _ = !(decide (a.kind = 15) && decide (a.kidsL.length = 0))
        rw [h15]
        simp only [decide_true, Bool.true_and]
        by_cases hl : a.kidsL.length = 0
        · have : ¬ ((a.kidsL.length : Int) > 0) := by omega
          simp only [hl, this, decide_true, decide_false, Bool.not_true]
          rfl
        · have : (a.kidsL.length : Int) > 0 := by omega
          simp only [hl, this, decide_true, decide_false, Bool.not_false]
      · rw [if_neg (by simp [h15])]
        exact resB (by simp [h15])
  · rw [if_neg (by simp [hk]), if_neg hk]
theorem hR_14 (hX : IsX x k n name arg lit kids ar) (b : Bool) (h5 : b = false → k = 5 → kids ≠ []) : (impl_Expr_headOk_r_j14 x b) = rM [] (!b && appB k kids) := by
  rw [impl_Expr_headOk_r_j14_eq, oite_bool]
  cases b with
  | true => rfl
  | false => rw [if_neg (by simp), hR_13 hX (h5 rfl)]; rfl
theorem hR_3 (hX : IsX x k n name arg lit kids ar) (h20 : k = 20 → 0 ≤ n ∧ n ≤ 4) : (impl_Expr_headOk_r_j3 x) = rM [] (T3 k n kids) := by
  have hk5 : k = 5 → kidsN k n = 2 := fun e => by subst e; rfl
  have hkm : kidsN k n < 0 → k ≠ 5 := fun e h => by rw [hk5 h] at e; omega
  rw [impl_Expr_headOk_r_j3_eq, hX.k, hX.n, kidsOf_ok k n h20, ocall_int, hX.kids, exprs_n, oite_nbool, oite_dec]
  unfold T3 kidB
  by_cases h1 : kidsN k n = kids.length
  · rw [if_pos (by simp [h1]), hR_14 hX false (fun _ h5 => by have := hk5 h5; intro e; subst e; simp at h1; omega)]
    simp [h1]
  · rw [if_neg (by simpa using h1)]
    by_cases h2 : kidsN k n ≥ 0
    · rw [if_pos h2, hR_14 hX true (fun h => by cases h)]
      have : ¬ (kidsN k n = kids.length ∨ (kidsN k n < 0 ∧ kids.length ≤ 3)) := by omega
      simp only [this, decide_false, Bool.not_true, Bool.false_and]
    · rw [if_neg h2, hR_14 hX _ (fun _ h5 => absurd h5 (hkm (by omega)))]
      refine resB ?_
      congr 1
      by_cases h3 : kids.length ≤ 3
      · have a1 : ¬ ((kids.length : Int) > 3) := by omega
        have a2 : kidsN k n = kids.length ∨ (kidsN k n < 0 ∧ kids.length ≤ 3) := by omega
        simp only [a1, a2, decide_true, decide_false, Bool.not_false]
      · have a1 : (kids.length : Int) > 3 := by omega
        have a2 : ¬ (kidsN k n = kids.length ∨ (kidsN k n < 0 ∧ kids.length ≤ 3)) := by omega
        simp only [a1, a2, decide_true, decide_false, Bool.not_true]
theorem hR_11 (hX : IsX x k n name arg lit kids ar) (h20 : k = 20 → 0 ≤ n ∧ n ≤ 4) (b : Bool) : (impl_Expr_headOk_r_j11 x b) = rM [] (!b && T3 k n kids) := by
  rw [impl_Expr_headOk_r_j11_eq, oite_bool, hR_3 hX h20]
  cases b <;> rfl
theorem hR_9 (hX : IsX x k n name arg lit kids ar) (h20 : k = 20 → 0 ≤ n ∧ n ≤ 4) (b : Bool) : (impl_Expr_headOk_r_j9 x b) = rM [] (!b && T9 k n kids ar.length) := by
  rw [impl_Expr_headOk_r_j9_eq, oite_bool, hX.k, hX.ar, arms_n, within_ok]
  unfold T9 armsB
  cases b with
  | true => rfl
  | false =>
    rw [if_neg (by simp), oite_if]
    by_cases hk : k = 16
    · rw [if_pos (by simp [hk]), if_pos hk, ocall_bool, impl_Expr_headOk_r_j12_eq, hX.k, show (k == 16) = true by simp [hk], Bool.not_true, oite_f, oite_bool, hR_11 hX h20, hR_11 hX h20]
      by_cases h1 : 1 ≤ ar.length ∧ ar.length ≤ 6
      · have a1 : (1 : Int) ≤ (ar.length : Nat) ∧ ((ar.length : Nat) : Int) ≤ 6 := by omega
        simp [h1, a1]
      · have a1 : ¬ ((1 : Int) ≤ (ar.length : Nat) ∧ ((ar.length : Nat) : Int) ≤ 6) := by omega
        simp only [h1, a1, decide_false, Bool.not_false, if_true, Bool.not_true, Bool.false_and, Bool.true_and]
    · rw [if_neg (by simp [hk]), if_neg hk, impl_Expr_headOk_r_j12_eq, oite_f, hX.k, oite_not, oite_if, if_neg (by simp [hk]), hX.ar, arms_n, hR_11 hX h20]
      refine resB ?_
      cases ar <;> simp
theorem hR_7 (hX : IsX x k n name arg lit kids ar) (hl : lit.length ≤ 1048576) (h20 : k = 20 → 0 ≤ n ∧ n ≤ 4) (b : Bool) : (impl_Expr_headOk_r_j7 x b) = rM [] (!b && T7 k n lit kids ar.length) := by
  rw [impl_Expr_headOk_r_j7_eq, oite_bool, hX.k, hX.lit, litOk_ok lit hl]
  unfold T7 ltB
  cases b with
  | true => rfl
  | false =>
    rw [if_neg (by simp), oite_if]
    by_cases hk : k = 2
    · rw [if_pos (by simp [hk]), if_pos hk, ocall_bool, impl_Expr_headOk_r_j10_eq, hX.k, show (k == 2) = true by simp [hk], Bool.not_true, oite_f, oite_bool, hR_9 hX h20, hR_9 hX h20]
      cases litB lit <;> rfl
    · rw [if_neg (by simp [hk]), if_neg hk, impl_Expr_headOk_r_j10_eq, oite_f, hX.k, oite_not, oite_if, if_neg (by simp [hk]), hX.lit, gt0, hR_9 hX h20]
      simp
theorem hR_4 (hX : IsX x k n name arg lit kids ar) (hl : lit.length ≤ 1048576) (hal : arg.length ≤ 1048576) (h20 : k = 20 → 0 ≤ n ∧ n ≤ 4) (b : Bool) : (impl_Expr_headOk_r_j4 x (tx arg) (tx name) b) = rM [] (!b && T4 k n name arg lit kids ar.length) := by
  have h8 : ∀ c : Bool, (impl_Expr_headOk_r_j8 x c (tx arg)) = rM [] (!c && ((decide (k = 7) || decide (arg = [])) && T7 k n lit kids ar.length)) := by
    intro c
    rw [impl_Expr_headOk_r_j8_eq, oite_bool, hR_7 hX hl h20, hX.k, oite_not, oite_if, tx_nil, hR_7 hX hl h20, hR_7 hX hl h20]
    cases c with
    | true => rfl
    | false =>
      rw [if_neg (by simp)]
      by_cases hk : k = 7
      · rw [if_pos (by simp [hk])]; simp [hk]
      · rw [if_neg (by simp [hk])]; simp [hk]
  rw [impl_Expr_headOk_r_j4_eq, oite_bool, hX.k]
  unfold T4 argB
  cases b with
  | true => rfl
  | false =>
    rw [if_neg (by simp), oite_if]
    by_cases hk : k = 7
    · rw [if_pos (by simp [hk]), if_pos hk, isName_ok arg (by omega), ocall_bool, oite_nbool, tx_inj, h8, h8]
      by_cases hn : nameB arg = true
      · rw [if_pos hn]; simp [hn, hk]
      · rw [if_neg hn]
        have hn' : nameB arg = false := by simpa using hn
        simp [hn']
    · rw [if_neg (by simp [hk]), if_neg hk, h8]
      simp [hk]
theorem hR_1 (hX : IsX x k n name arg lit kids ar) (hnl : name.length ≤ 1048576) (hl : lit.length ≤ 1048576) (hal : arg.length ≤ 1048576) (h20 : k = 20 → 0 ≤ n ∧ n ≤ 4) : (impl_Expr_headOk_r_j1 x) = rM [] (nmB k name && T4 k n name arg lit kids ar.length) := by
  have h6 : ∀ c : Bool, (impl_Expr_headOk_r_j6 x (tx arg) (tx name) c) = rM [] (!c && ((nmdB k || (decide (k = 15) || decide (name = []))) && T4 k n name arg lit kids ar.length)) := by
    intro c
    rw [impl_Expr_headOk_r_j6_eq, oite_bool, hR_4 hX hl hal h20, hX.k, named_ok, ocall_bool, oite_nbool, oite_not, oite_if, tx_nil, hR_4 hX hl hal h20, hR_4 hX hl hal h20]
    cases c with
    | true => rfl
    | false =>
      rw [if_neg (by simp)]
      by_cases hd : nmdB k = true
      · rw [if_pos hd]; simp [hd]
      · rw [if_neg hd]
        have hd' : nmdB k = false := by simpa using hd
        by_cases hk : k = 15
        · rw [if_pos (by simp [hk])]; simp [hk]
        · rw [if_neg (by simp [hk])]; simp [hd', hk]
  have h5 : ∀ c : Bool, (impl_Expr_headOk_r_j5 x (tx arg) (tx name) c) = rM [] (!c && ((if k = 15 then wordB true name else (nmdB k || decide (name = []))) && T4 k n name arg lit kids ar.length)) := by
    intro c
    rw [impl_Expr_headOk_r_j5_eq, oite_bool, hR_4 hX hl hal h20, hX.k, oite_if, isCon_ok name (by omega), ocall_bool, h6, h6]
    cases c with
    | true => rfl
    | false =>
      rw [if_neg (by simp)]
      by_cases hk : k = 15
      · rw [if_pos (by simp [hk]), if_pos hk]
        cases wordB true name <;> simp [hk]
      · rw [if_neg (by simp [hk]), if_neg hk]; simp [hk]
  rw [impl_Expr_headOk_r_j1_eq, hX.name, hX.arg, ostr_ub, ostr_ub, hX.k, named_ok, ocall_bool, oite_bool, isName_ok name (by omega), ocall_bool, h5, h5]
  unfold nmB
  by_cases hd : nmdB k = true
  · have hk : k ≠ 15 := fun e => by subst e; revert hd; decide
    rw [if_pos hd, if_pos hd, if_neg hk]
    cases nameB name <;> simp [hd]
  · have hd' : nmdB k = false := by simpa using hd
    rw [if_neg hd, if_neg hd]
    simp [hd']
theorem hR_ok (hX : IsX x k n name arg lit kids ar) (hnl : name.length ≤ 1048576) (hl : lit.length ≤ 1048576) (hal : arg.length ≤ 1048576) : (impl_Expr_headOk_r x) = rM [] (headB k n name arg lit kids ar.length) := by
  rw [impl_Expr_headOk_r_eq, hX.k, hX.n, within_ok, ocall_bool, oite_nbool, numberOk_ok, ocall_bool, impl_Expr_headOk_r_j2_eq, impl_Expr_headOk_r_j2_eq, oite_t, oite_nbool]
  unfold headB
  by_cases h0 : 0 ≤ k ∧ k ≤ 20
  · rw [if_pos (by simp [h0])]
    by_cases hn : numB k n = true
    · rw [if_pos hn, hR_1 hX hnl hl hal (fun e => by subst e; unfold numB at hn; simpa using hn)]
      simp only [h0, hn, decide_true, Bool.true_and]
      simp
    · rw [if_neg hn]
      have hn' : numB k n = false := by simpa using hn
      simp [hn']
  · rw [if_neg (by simpa using h0)]
    simp only [h0, decide_false, Bool.false_and]
theorem hB_13 (hX : IsX x k n name arg lit kids ar) (h5 : k = 5 → kids ≠ []) : (impl_Expr_headOk_j13 x) = rM [.box (LS.encs sh_Expr x)] (appB k kids) := by
  rw [impl_Expr_headOk_j13_eq, oite_not, oite_if, hX.k]
  unfold appB
  by_cases hk : k = 5
  · rw [if_pos (by simp [hk]), if_pos hk, hX.kids]
    cases kids with
    | nil => exact absurd rfl (h5 hk)
    | cons a q =>
      have ot : ∀ {R : Type} {f : T_Expr → Option R}, oat sh_Expr (exprs (a :: q)).1 (exprs (a :: q)).2 0 f = f a.ts := fun {R f} => oat_hd (sh := sh_Expr) (g := Expr.ts) rfl
      rw [ot, oite_not, oite_if, ot, Expr.ts_kind, Expr.ts_kids]
      unfold appH
      by_cases h15 : a.kind = 15
      · rw [if_pos (by simp [h15])]
        refine resB ?_
        show _ = !(decide (a.kind = 15) && decide (a.kidsL.length = 0))
        rw [h15]
        simp only [decide_true, Bool.true_and]
        by_cases hl : a.kidsL.length = 0
        · have : ¬ ((a.kidsL.length : Int) > 0) := by omega
          simp only [hl, this, decide_true, decide_false, Bool.not_true]
          rfl
        · have : (a.kidsL.length : Int) > 0 := by omega
          simp only [hl, this, decide_true, decide_false, Bool.not_false]
      · rw [if_neg (by simp [h15])]
        exact resB (by simp [h15])
  · rw [if_neg (by simp [hk]), if_neg hk]
theorem hB_14 (hX : IsX x k n name arg lit kids ar) (b : Bool) (h5 : b = false → k = 5 → kids ≠ []) : (impl_Expr_headOk_j14 b x) = rM [.box (LS.encs sh_Expr x)] (!b && appB k kids) := by
  rw [impl_Expr_headOk_j14_eq, oite_bool]
  cases b with
  | true => rfl
  | false => rw [if_neg (by simp), hB_13 hX (h5 rfl)]; rfl
theorem hB_3 (hX : IsX x k n name arg lit kids ar) (h20 : k = 20 → 0 ≤ n ∧ n ≤ 4) : (impl_Expr_headOk_j3 x) = rM [.box (LS.encs sh_Expr x)] (T3 k n kids) := by
  have hk5 : k = 5 → kidsN k n = 2 := fun e => by subst e; rfl
  have hkm : kidsN k n < 0 → k ≠ 5 := fun e h => by rw [hk5 h] at e; omega
  rw [impl_Expr_headOk_j3_eq, hX.k, hX.n, kidsOf_ok k n h20, ocall_int, hX.kids, exprs_n, oite_nbool, oite_dec]
  unfold T3 kidB
  by_cases h1 : kidsN k n = kids.length
  · rw [if_pos (by simp [h1]), hB_14 hX false (fun _ h5 => by have := hk5 h5; intro e; subst e; simp at h1; omega)]
    simp [h1]
  · rw [if_neg (by simpa using h1)]
    by_cases h2 : kidsN k n ≥ 0
    · rw [if_pos h2, hB_14 hX true (fun h => by cases h)]
      have : ¬ (kidsN k n = kids.length ∨ (kidsN k n < 0 ∧ kids.length ≤ 3)) := by omega
      simp only [this, decide_false, Bool.not_true, Bool.false_and]
    · rw [if_neg h2, hB_14 hX _ (fun _ h5 => absurd h5 (hkm (by omega)))]
      refine resB ?_
      congr 1
      by_cases h3 : kids.length ≤ 3
      · have a1 : ¬ ((kids.length : Int) > 3) := by omega
        have a2 : kidsN k n = kids.length ∨ (kidsN k n < 0 ∧ kids.length ≤ 3) := by omega
        simp only [a1, a2, decide_true, decide_false, Bool.not_false]
      · have a1 : (kids.length : Int) > 3 := by omega
        have a2 : ¬ (kidsN k n = kids.length ∨ (kidsN k n < 0 ∧ kids.length ≤ 3)) := by omega
        simp only [a1, a2, decide_true, decide_false, Bool.not_true]
theorem hB_11 (hX : IsX x k n name arg lit kids ar) (h20 : k = 20 → 0 ≤ n ∧ n ≤ 4) (b : Bool) : (impl_Expr_headOk_j11 b x) = rM [.box (LS.encs sh_Expr x)] (!b && T3 k n kids) := by
  rw [impl_Expr_headOk_j11_eq, oite_bool, hB_3 hX h20]
  cases b <;> rfl
theorem hB_9 (hX : IsX x k n name arg lit kids ar) (h20 : k = 20 → 0 ≤ n ∧ n ≤ 4) (b : Bool) : (impl_Expr_headOk_j9 b x) = rM [.box (LS.encs sh_Expr x)] (!b && T9 k n kids ar.length) := by
  rw [impl_Expr_headOk_j9_eq, oite_bool, hX.k, hX.ar, arms_n, within_ok]
  unfold T9 armsB
  cases b with
  | true => rfl
  | false =>
    rw [if_neg (by simp), oite_if]
    by_cases hk : k = 16
    · rw [if_pos (by simp [hk]), if_pos hk, ocall_bool, impl_Expr_headOk_j12_eq, hX.k, show (k == 16) = true by simp [hk], Bool.not_true, oite_f, oite_bool, hB_11 hX h20, hB_11 hX h20]
      by_cases h1 : 1 ≤ ar.length ∧ ar.length ≤ 6
      · have a1 : (1 : Int) ≤ (ar.length : Nat) ∧ ((ar.length : Nat) : Int) ≤ 6 := by omega
        simp [h1, a1]
      · have a1 : ¬ ((1 : Int) ≤ (ar.length : Nat) ∧ ((ar.length : Nat) : Int) ≤ 6) := by omega
        simp only [h1, a1, decide_false, Bool.not_false, if_true, Bool.not_true, Bool.false_and, Bool.true_and]
    · rw [if_neg (by simp [hk]), if_neg hk, impl_Expr_headOk_j12_eq, oite_f, hX.k, oite_not, oite_if, if_neg (by simp [hk]), hX.ar, arms_n, hB_11 hX h20]
      refine resB ?_
      cases ar <;> simp
theorem hB_7 (hX : IsX x k n name arg lit kids ar) (hl : lit.length ≤ 1048576) (h20 : k = 20 → 0 ≤ n ∧ n ≤ 4) (b : Bool) : (impl_Expr_headOk_j7 b x) = rM [.box (LS.encs sh_Expr x)] (!b && T7 k n lit kids ar.length) := by
  rw [impl_Expr_headOk_j7_eq, oite_bool, hX.k, hX.lit, litOk_ok lit hl]
  unfold T7 ltB
  cases b with
  | true => rfl
  | false =>
    rw [if_neg (by simp), oite_if]
    by_cases hk : k = 2
    · rw [if_pos (by simp [hk]), if_pos hk, ocall_bool, impl_Expr_headOk_j10_eq, hX.k, show (k == 2) = true by simp [hk], Bool.not_true, oite_f, oite_bool, hB_9 hX h20, hB_9 hX h20]
      cases litB lit <;> rfl
    · rw [if_neg (by simp [hk]), if_neg hk, impl_Expr_headOk_j10_eq, oite_f, hX.k, oite_not, oite_if, if_neg (by simp [hk]), hX.lit, gt0, hB_9 hX h20]
      simp
theorem hB_4 (hX : IsX x k n name arg lit kids ar) (hl : lit.length ≤ 1048576) (hal : arg.length ≤ 1048576) (h20 : k = 20 → 0 ≤ n ∧ n ≤ 4) (b : Bool) : (impl_Expr_headOk_j4 (tx arg) (tx name) b x) = rM [.box (LS.encs sh_Expr x)] (!b && T4 k n name arg lit kids ar.length) := by
  have h8 : ∀ c : Bool, (impl_Expr_headOk_j8 c (tx arg) x) = rM [.box (LS.encs sh_Expr x)] (!c && ((decide (k = 7) || decide (arg = [])) && T7 k n lit kids ar.length)) := by
    intro c
    rw [impl_Expr_headOk_j8_eq, oite_bool, hB_7 hX hl h20, hX.k, oite_not, oite_if, tx_nil, hB_7 hX hl h20, hB_7 hX hl h20]
    cases c with
    | true => rfl
    | false =>
      rw [if_neg (by simp)]
      by_cases hk : k = 7
      · rw [if_pos (by simp [hk])]; simp [hk]
      · rw [if_neg (by simp [hk])]; simp [hk]
  rw [impl_Expr_headOk_j4_eq, oite_bool, hX.k]
  unfold T4 argB
  cases b with
  | true => rfl
  | false =>
    rw [if_neg (by simp), oite_if]
    by_cases hk : k = 7
    · rw [if_pos (by simp [hk]), if_pos hk, isName_ok arg (by omega), ocall_bool, oite_nbool, tx_inj, h8, h8]
      by_cases hn : nameB arg = true
      · rw [if_pos hn]; simp [hn, hk]
      · rw [if_neg hn]
        have hn' : nameB arg = false := by simpa using hn
        simp [hn']
    · rw [if_neg (by simp [hk]), if_neg hk, h8]
      simp [hk]
theorem hB_1 (hX : IsX x k n name arg lit kids ar) (hnl : name.length ≤ 1048576) (hl : lit.length ≤ 1048576) (hal : arg.length ≤ 1048576) (h20 : k = 20 → 0 ≤ n ∧ n ≤ 4) : (impl_Expr_headOk_j1 x) = rM [.box (LS.encs sh_Expr x)] (nmB k name && T4 k n name arg lit kids ar.length) := by
  have h6 : ∀ c : Bool, (impl_Expr_headOk_j6 (tx arg) (tx name) c x) = rM [.box (LS.encs sh_Expr x)] (!c && ((nmdB k || (decide (k = 15) || decide (name = []))) && T4 k n name arg lit kids ar.length)) := by
    intro c
    rw [impl_Expr_headOk_j6_eq, oite_bool, hB_4 hX hl hal h20, hX.k, named_ok, ocall_bool, oite_nbool, oite_not, oite_if, tx_nil, hB_4 hX hl hal h20, hB_4 hX hl hal h20]
    cases c with
    | true => rfl
    | false =>
      rw [if_neg (by simp)]
      by_cases hd : nmdB k = true
      · rw [if_pos hd]; simp [hd]
      · rw [if_neg hd]
        have hd' : nmdB k = false := by simpa using hd
        by_cases hk : k = 15
        · rw [if_pos (by simp [hk])]; simp [hk]
        · rw [if_neg (by simp [hk])]; simp [hd', hk]
  have h5 : ∀ c : Bool, (impl_Expr_headOk_j5 (tx arg) (tx name) c x) = rM [.box (LS.encs sh_Expr x)] (!c && ((if k = 15 then wordB true name else (nmdB k || decide (name = []))) && T4 k n name arg lit kids ar.length)) := by
    intro c
    rw [impl_Expr_headOk_j5_eq, oite_bool, hB_4 hX hl hal h20, hX.k, oite_if, isCon_ok name (by omega), ocall_bool, h6, h6]
    cases c with
    | true => rfl
    | false =>
      rw [if_neg (by simp)]
      by_cases hk : k = 15
      · rw [if_pos (by simp [hk]), if_pos hk]
        cases wordB true name <;> simp [hk]
      · rw [if_neg (by simp [hk]), if_neg hk]; simp [hk]
  rw [impl_Expr_headOk_j1_eq, hX.name, hX.arg, ostr_ub, ostr_ub, hX.k, named_ok, ocall_bool, oite_bool, isName_ok name (by omega), ocall_bool, h5, h5]
  unfold nmB
  by_cases hd : nmdB k = true
  · have hk : k ≠ 15 := fun e => by subst e; revert hd; decide
    rw [if_pos hd, if_pos hd, if_neg hk]
    cases nameB name <;> simp [hd]
  · have hd' : nmdB k = false := by simpa using hd
    rw [if_neg hd, if_neg hd]
    simp [hd']
theorem hB_ok (hX : IsX x k n name arg lit kids ar) (hnl : name.length ≤ 1048576) (hl : lit.length ≤ 1048576) (hal : arg.length ≤ 1048576) : (impl_Expr_headOk x) = rM [.box (LS.encs sh_Expr x)] (headB k n name arg lit kids ar.length) := by
  rw [impl_Expr_headOk_eq, hX.k, hX.n, within_ok, ocall_bool, oite_nbool, numberOk_ok, ocall_bool, impl_Expr_headOk_j2_eq, impl_Expr_headOk_j2_eq, oite_t, oite_nbool]
  unfold headB
  by_cases h0 : 0 ≤ k ∧ k ≤ 20
  · rw [if_pos (by simp [h0])]
    by_cases hn : numB k n = true
    · rw [if_pos hn, hB_1 hX hnl hl hal (fun e => by subst e; unfold numB at hn; simpa using hn)]
      simp only [h0, hn, decide_true, Bool.true_and]
      simp
    · rw [if_neg hn]
      have hn' : numB k n = false := by simpa using hn
      simp [hn']
  · rw [if_neg (by simpa using h0)]
    simp only [h0, decide_false, Bool.false_and]
end
end Q
end Go.Ev

/-
  The heads of expressions by the reference.
-/
namespace Go.Ev
open Go Go.Ev.Q
def sK (k n : Int) (kl : Nat) : Int := if k = 0 ∨ k = 1 ∨ k = 2 ∨ k = 3 then 0 else if k = 4 ∨ k = 10 ∨ k = 11 ∨ k = 12 ∨ k = 13 ∨ k = 16 ∨ k = 17 then 1 else if k = 5 ∨ k = 6 ∨ k = 7 ∨ k = 9 ∨ k = 14 ∨ k = 18 then 2 else if k = 8 then 3 else if k = 15 then kl else if k = 19 then (if n < 0 ∨ 6 < n then -1 else if n = 6 then 1 else 2) else if k = 20 then (if n = 1 then 0 else if n = 0 ∨ n = 2 ∨ n = 3 then 1 else if n = 4 then 2 else -1) else -1
def sN (k : Int) : Bool := decide (k = 3 ∨ k = 4 ∨ k = 6 ∨ k = 7 ∨ k = 15 ∨ k = 18)
def numS (k n : Int) : Bool := if k = 1 then decide (-1073741824 ≤ n ∧ n ≤ 1073741823) else (decide (k = 19) || (decide (k = 20) || decide (n = 0)))
def headS (k n : Int) (name arg lit : List UInt8) (kids : List Expr) : Bool :=
  decide (sK k n kids.length = kids.length) && (appB k kids && ((!(sN k && !decide (k = 15)) || nameB name) && ((!decide (k = 15) || (wordB true name && decide (kids.length ≤ 3))) && ((sN k || decide (name = [])) && (argB k name arg && (numS k n && ltB k lit))))))
set_option maxHeartbeats 4000000 in
theorem head_eq (k n : Int) (name arg lit : List UInt8) (kids : List Expr) (al : Nat) : headB k n name arg lit kids al = (headS k n name arg lit kids && armsB k al) := by
  have hk : (k = 0 ∨ k = 1 ∨ k = 2 ∨ k = 3 ∨ k = 4 ∨ k = 5 ∨ k = 6 ∨ k = 7 ∨ k = 8 ∨ k = 9 ∨ k = 10 ∨ k = 11 ∨ k = 12 ∨ k = 13 ∨ k = 14 ∨ k = 15 ∨ k = 16 ∨ k = 17 ∨ k = 18 ∨ k = 19 ∨ k = 20) ∨ (k < 0 ∨ 20 < k) := by omega
  rcases hk with hk | hk
  · have num : ∀ (n : Int), headB 19 n name arg lit kids al = (headS 19 n name arg lit kids && armsB 19 al) := by
      intro n
      unfold headB headS T4 T7 T9 T3 numB nmB argB ltB armsB kidB appB nmdB sN numS kidsN sK
      by_cases h0 : n < 0 ∨ 6 < n
      · have a : ¬ (0 ≤ n ∧ n ≤ 6) := by omega
        simp [h0, a]
      · have a : 0 ≤ n ∧ n ≤ 6 := by omega
        have a' : ¬ (n < 0 ∨ 6 < n) := h0
        simp [a, a', Bool.and_comm, Bool.and_left_comm, Bool.and_assoc]
        split <;> simp [Bool.and_comm, Bool.and_left_comm, Bool.and_assoc]
    have num2 : ∀ (n : Int), headB 20 n name arg lit kids al = (headS 20 n name arg lit kids && armsB 20 al) := by
      intro n
      unfold headB headS T4 T7 T9 T3 numB nmB argB ltB armsB kidB appB nmdB sN numS kidsN sK
      by_cases h0 : 0 ≤ n ∧ n ≤ 4
      · rcases (by omega : n = 0 ∨ n = 1 ∨ n = 2 ∨ n = 3 ∨ n = 4) with rfl | rfl | rfl | rfl | rfl <;> simp [Bool.and_comm, Bool.and_left_comm, Bool.and_assoc]
      · have a1 : n ≠ 0 := by omega
        have a2 : n ≠ 1 := by omega
        have a3 : n ≠ 2 := by omega
        have a4 : n ≠ 3 := by omega
        have a5 : n ≠ 4 := by omega
        simp [h0, a1, a2, a3, a4, a5]
    rcases hk with rfl | rfl | rfl | rfl | rfl | rfl | rfl | rfl | rfl | rfl | rfl | rfl | rfl | rfl | rfl | rfl | rfl | rfl | rfl | rfl | rfl
    all_goals first
      | exact num n
      | exact num2 n
      | (unfold headB headS T4 T7 T9 T3 numB nmB argB ltB armsB kidB appB nmdB sN numS kidsN sK
         simp [Bool.and_comm, Bool.and_left_comm, Bool.and_assoc, eq_comm])
  · have a : ¬ (0 ≤ k ∧ k ≤ 20) := by omega
    have b : sK k n kids.length = -1 := by
      unfold sK
      repeat' split
      all_goals first | rfl | (exfalso; omega)
    unfold headB headS
    rw [b]
    have c : ¬ ((-1 : Int) = (kids.length : Nat)) := by omega
    simp only [a, c, decide_false, Bool.false_and]
namespace Q
open Go Go.Ev
section
variable {x : T_Expr} {k n : Int} {name arg lit : List UInt8} {kids : List Expr} {ar : List Arm}
abbrev rS3 (a : Int) (b c : Bool) : Res := some (.tup [.d (.int .i64 a), .d (.bool b), .d (.bool c)], [])
theorem ocall_rS3 {R : Type} {a : Int} {b c : Bool} {f : Int × Bool × Bool × Unit → Unit → Option R} : ocall (.tup [.one (.int .i64), .one .bool, .one .bool]) [] (rS3 a b c) f = f (a, b, c, ()) () :=
  ocall_t (s := .tup [.one (.int .i64), .one .bool, .one .bool]) (m := []) (t := (a, b, c, ())) (u := ()) rfl rfl rfl
set_option maxHeartbeats 4000000 in
theorem shape_ok (hX : IsX x k n name arg lit kids ar) : spec_l5shape x = rS3 (sK k n kids.length) (sN k) (decide (k = 7)) := by
  have hk : (k = 0 ∨ k = 1 ∨ k = 2 ∨ k = 3 ∨ k = 4 ∨ k = 5 ∨ k = 6 ∨ k = 7 ∨ k = 8 ∨ k = 9 ∨ k = 10 ∨ k = 11 ∨ k = 12 ∨ k = 13 ∨ k = 14 ∨ k = 15 ∨ k = 16 ∨ k = 17 ∨ k = 18 ∨ k = 19 ∨ k = 20) ∨ (k < 0 ∨ 20 < k) := by omega
  rw [spec_l5shape_eq]
  simp only [spec_l5shape_j1_eq, spec_l5shape_j2_eq, spec_l5shape_j3_eq, spec_l5shape_j4_eq, spec_l5shape_j5_eq, spec_l5shape_j6_eq, spec_l5shape_j7_eq, oite_if, hX.k, hX.n, hX.kids, exprs_n, decide_eq_true_eq]
  rcases hk with hk | hk
  · rcases hk with rfl | rfl | rfl | rfl | rfl | rfl | rfl | rfl | rfl | rfl | rfl | rfl | rfl | rfl | rfl | rfl | rfl | rfl | rfl | rfl | rfl
    all_goals (unfold sK sN; simp)
    · repeat' split
      all_goals first | rfl | (exfalso; omega) | simp_all
    · repeat' split
      all_goals first | rfl | (exfalso; omega) | simp_all
  · have e : ∀ m : Int, 0 ≤ m → m ≤ 20 → (k == m) = false := fun m h1 h2 => by
      have : k ≠ m := by omega
      simp [this]
    have f : ∀ m : Int, 0 ≤ m → m ≤ 20 → ¬ k = m := fun m h1 h2 => by omega
    simp only [e 0 (by decide) (by decide), e 1 (by decide) (by decide), e 2 (by decide) (by decide), e 3 (by decide) (by decide), e 4 (by decide) (by decide), e 5 (by decide) (by decide), e 6 (by decide) (by decide), e 7 (by decide) (by decide), e 8 (by decide) (by decide), e 9 (by decide) (by decide), e 10 (by decide) (by decide), e 11 (by decide) (by decide), e 12 (by decide) (by decide), e 13 (by decide) (by decide), e 14 (by decide) (by decide), e 15 (by decide) (by decide), e 16 (by decide) (by decide), e 17 (by decide) (by decide), e 18 (by decide) (by decide), e 19 (by decide) (by decide), e 20 (by decide) (by decide), Bool.false_eq_true, if_false]
    unfold sK sN
    simp only [f 0 (by decide) (by decide), f 1 (by decide) (by decide), f 2 (by decide) (by decide), f 3 (by decide) (by decide), f 4 (by decide) (by decide), f 5 (by decide) (by decide), f 6 (by decide) (by decide), f 7 (by decide) (by decide), f 8 (by decide) (by decide), f 9 (by decide) (by decide), f 10 (by decide) (by decide), f 11 (by decide) (by decide), f 12 (by decide) (by decide), f 13 (by decide) (by decide), f 14 (by decide) (by decide), f 15 (by decide) (by decide), f 16 (by decide) (by decide), f 17 (by decide) (by decide), f 18 (by decide) (by decide), f 19 (by decide) (by decide), f 20 (by decide) (by decide), or_self, if_false, decide_false]
theorem l5intOk_ok (n : Int) : spec_l5intOk n = rB (decide (-1073741824 ≤ n ∧ n ≤ 1073741823)) := by
  rw [spec_l5intOk_eq, oite_rB', ← Bool.decide_and]
noncomputable abbrev tailS (d : Int) (x : T_Expr) : Res := spec_l5expr_j15 0 1 d x
theorem s11 (hX : IsX x k n name arg lit kids ar) (d : Int) : spec_l5expr_j11 d x = if ltB k lit = true then tailS d x else rI (-1) := by
  have h14 : ∀ b : Bool, spec_l5expr_j14 d b x = if b = true then rI (-1) else tailS d x := fun b => by
    rw [spec_l5expr_j14_eq, oite_bool, spec_l5expr_j13_eq]
  rw [spec_l5expr_j11_eq, hX.k, hX.lit, l5lit_ok, ocall_bool, gt0, h14, h14, h14]
  simp only [oite_not]
  unfold ltB
  by_cases hk : k = 2
  · rw [show (k == 2) = true by simp [hk], oite_t, oite_t, if_pos hk, oite_bool]
    cases litB lit <;> rfl
  · rw [show (k == 2) = false by simp [hk], oite_f, oite_f, if_neg hk]
    by_cases hl : lit = [] <;> simp [hl]
theorem s9 (hX : IsX x k n name arg lit kids ar) (d : Int) : spec_l5expr_j9 d x = if (numS k n && ltB k lit) = true then tailS d x else rI (-1) := by
  have h12 : ∀ b : Bool, spec_l5expr_j12 d b x = if b = true then rI (-1) else if ltB k lit = true then tailS d x else rI (-1) := fun b => by
    rw [spec_l5expr_j12_eq, oite_bool, s11 hX]
  rw [spec_l5expr_j9_eq, hX.k, hX.n, l5intOk_ok, ocall_bool, h12, h12, h12]
  simp only [oite_not]
  unfold numS
  by_cases h1 : k = 1
  · rw [show (k == 1) = true by simp [h1], oite_t, oite_t, if_pos h1, oite_bool]
    by_cases hr : (-1073741824 : Int) ≤ n ∧ n ≤ 1073741823
    · simp [hr]
    · simp only [hr, decide_false, Bool.false_and]; rfl
  · rw [show (k == 1) = false by simp [h1], oite_f, oite_f, if_neg h1, oite_if, oite_if]
    by_cases h19 : k = 19
    · rw [if_pos (by simp [h19])]; simp [h19]
    · rw [if_neg (by simp [h19])]
      by_cases h20 : k = 20
      · rw [if_pos (by simp [h20])]; simp [h20]
      · rw [if_neg (by simp [h20])]
        by_cases hn : n = 0
        · simp [hn]
        · simp [hn, h19, h20]
theorem s7 (hX : IsX x k n name arg lit kids ar) (d : Int) (nf : Bool) : spec_l5expr_j7 d (decide (k = 7)) nf x = if ((nf || decide (name = [])) && (argB k name arg && (numS k n && ltB k lit))) = true then tailS d x else rI (-1) := by
  have h10 : ∀ b : Bool, spec_l5expr_j10 d b x = if b = true then rI (-1) else if (numS k n && ltB k lit) = true then tailS d x else rI (-1) := fun b => by
    rw [spec_l5expr_j10_eq, oite_bool, s9 hX]
  rw [spec_l5expr_j7_eq, hX.name, hX.arg, l5name_ok, ocall_bool, ostr_ub, ostr_ub, tx_inj, gt0, gt0]
  simp only [h10, oite_not, oite_bool]
  unfold argB
  by_cases hk : k = 7
  · simp only [hk, decide_true, if_true, Bool.false_eq_true, if_false]
    clear h10 hX
    cases nf <;> by_cases hn : name = [] <;> cases nameB arg <;> by_cases ha : arg = name <;> first | (simp [hn, ha]; done) | (simp_all; done)
  · simp only [hk, decide_false, if_true, Bool.false_eq_true, if_false]
    cases nf <;> by_cases hn : name = [] <;> by_cases ha : arg = [] <;> simp [hn, ha]
theorem s3 (hX : IsX x k n name arg lit kids ar) (d : Int) (nf : Bool) : spec_l5expr_j3 d (decide (k = 7)) nf x = if ((!(nf && !decide (k = 15)) || nameB name) && ((!decide (k = 15) || (wordB true name && decide (kids.length ≤ 3))) && ((nf || decide (name = [])) && (argB k name arg && (numS k n && ltB k lit))))) = true then tailS d x else rI (-1) := by
  have h8 : ∀ b : Bool, spec_l5expr_j8 d (decide (k = 7)) nf b x = if b = true then rI (-1) else if ((nf || decide (name = [])) && (argB k name arg && (numS k n && ltB k lit))) = true then tailS d x else rI (-1) := fun b => by
    rw [spec_l5expr_j8_eq, oite_bool, s7 hX]
  have h5 : spec_l5expr_j5 d (decide (k = 7)) nf x = if ((!decide (k = 15) || (wordB true name && decide (kids.length ≤ 3))) && ((nf || decide (name = [])) && (argB k name arg && (numS k n && ltB k lit)))) = true then tailS d x else rI (-1) := by
    rw [spec_l5expr_j5_eq, hX.k, hX.name, hX.kids, exprs_n, l5word_ok, ocall_bool, h8, h8, h8]
    by_cases hk : k = 15
    · rw [show (k == 15) = true by simp [hk], oite_t, oite_nbool]
      by_cases h3 : kids.length ≤ 3
      · have a : ¬ ((kids.length : Int) > 3) := by omega
        cases wordB true name <;> simp [hk, h3, a]
      · have a : (kids.length : Int) > 3 := by omega
        cases wordB true name <;> simp [hk, h3, a]
    · rw [show (k == 15) = false by simp [hk], oite_f]
      simp [hk]
  have h6 : ∀ b : Bool, spec_l5expr_j6 d (decide (k = 7)) nf b x = if b = true then rI (-1) else spec_l5expr_j5 d (decide (k = 7)) nf x := fun b => by
    rw [spec_l5expr_j6_eq, oite_bool]
  rw [spec_l5expr_j3_eq, hX.k, hX.name, l5name_ok, ocall_bool, h6, h6, h5, oite_not]
  cases nf with
  | true =>
    rw [oite_t]
    by_cases hk : k = 15
    · rw [show (k == 15) = true by simp [hk], oite_t]; simp [hk]
    · rw [show (k == 15) = false by simp [hk], oite_f]
      cases nameB name <;> simp [hk]
  | false => rw [oite_f]; simp
theorem s1 (hX : IsX x k n name arg lit kids ar) (d : Int) (nf : Bool) (h5 : k = 5 → kids ≠ []) : spec_l5expr_j1 d (decide (k = 7)) nf x = if appB k kids = true then spec_l5expr_j3 d (decide (k = 7)) nf x else rI (-1) := by
  have h4 : ∀ b : Bool, spec_l5expr_j4 d (decide (k = 7)) nf b x = if b = true then rI (-1) else spec_l5expr_j3 d (decide (k = 7)) nf x := fun b => by
    rw [spec_l5expr_j4_eq, oite_bool]
  rw [spec_l5expr_j1_eq, hX.k, oite_if]
  simp only [h4]
  unfold appB
  by_cases hk : k = 5
  · rw [if_pos (by simp [hk]), if_pos hk, hX.kids]
    cases kids with
    | nil => exact absurd rfl (h5 hk)
    | cons a q =>
      have ot : ∀ {R : Type} {f : T_Expr → Option R}, oat sh_Expr (exprs (a :: q)).1 (exprs (a :: q)).2 0 f = f a.ts := fun {R f} => oat_hd (sh := sh_Expr) (g := Expr.ts) rfl
      rw [ot, oite_if, ot, Expr.ts_kind, Expr.ts_kids]
      unfold appH
      by_cases h15 : a.kind = 15
      · rw [if_pos (by simp [h15])]
        simp only [h15, decide_true, Bool.true_and]
        by_cases hl : a.kidsL.length = 0
        · simp only [hl, decide_true]; rfl
        · have : ¬ ((a.kidsL.length : Int) = 0) := by omega
          simp [hl, this]
      · rw [if_neg (by simp [h15])]
        simp [h15]
  · rw [if_neg (by simp [hk]), if_neg hk]
    simp
/-- A head that is right goes on with the kids. -/
theorem s0 (hX : IsX x k n name arg lit kids ar) (d : Int) : spec_l5expr x d = if (decide (d ≤ 40) && headS k n name arg lit kids) = true then tailS d x else rI (-1) := by
  have h2 : ∀ b : Bool, (b = false → k = 5 → kids ≠ []) → spec_l5expr_j2 d (decide (k = 7)) (sN k) b x = if b = true then rI (-1) else if appB k kids = true then spec_l5expr_j3 d (decide (k = 7)) (sN k) x else rI (-1) := fun b hb => by
    rw [spec_l5expr_j2_eq, oite_bool]
    cases b with
    | true => rfl
    | false => rw [if_neg (by simp), if_neg (by simp), s1 hX d _ (hb rfl)]
  rw [spec_l5expr_eq, shape_ok hX, ocall_rS3, hX.kids, exprs_n, oite_nbool]
  simp only
  unfold headS
  by_cases h1 : sK k n kids.length = kids.length
  · rw [if_pos (by simp [h1]), h2 _ (fun _ h5 e => by subst h5; subst e; simp [sK] at h1), s3 hX]
    by_cases hd : d ≤ 40
    · have a : ¬ (d > 40) := by omega
      simp only [h1, hd, a, decide_true, decide_false, Bool.true_and]
      cases appB k kids <;> simp
    · have a : d > 40 := by omega
      simp [hd, a]
  · rw [if_neg (by simpa using h1), h2 _ (fun h => by cases h)]
    simp [h1]
end
end Q
end Go.Ev
