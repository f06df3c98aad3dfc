import Derived.Test.YtkgabahlbmonfaaQSubsts
import Derived.Test.YtkgabahlbmonfaaEvOwn
set_option linter.unusedVariables false
set_option linter.unusedSimpArgs false
/-
  Sizes of lists.
-/
namespace Go.Ev.Q
open Go Go.Ev

theorem sizes_mem {α : Type} {f : α → Nat} : ∀ {l : List α} {a : α}, a ∈ l → f a ≤ (l.map f).sum
  | b :: l, a, h => by
    simp only [List.map_cons, List.sum_cons]
    rcases List.mem_cons.1 h with rfl | h
    · omega
    · have := sizes_mem (f := f) h; omega
end Go.Ev.Q

/-
  Loops over lists, by what each round does.
-/
namespace Go.Ev.Q
open Go Go.Ev

section
variable {α R σ : Type}
/-- A loop that ends where something does not hold of an element. -/
theorem loop_all {J : Int → R} {l : List α} {p : α → Bool} {bad K : R} (hs : ∀ pre a q, pre ++ a :: q = l → J (pre.length : Int) = if p a = true then J ((pre.length + 1 : Nat) : Int) else bad) (he : J (l.length : Int) = K) :
    J 0 = if l.all p = true then K else bad := by
  have key : ∀ (q pre : List α), pre ++ q = l → J (pre.length : Int) = if q.all p = true then K else bad := by
    intro q
    induction q with
    | nil => intro pre h; simp at h; subst h; simpa using he
    | cons a q ih =>
      intro pre h
      rw [hs pre a q h]
      have := ih (pre ++ [a]) (by simpa using h)
      rw [List.length_append, List.length_singleton] at this
      rw [this]
      by_cases hp : p a = true
      · simp [hp]
      · simp [hp]
  exact key l [] rfl
/-- A loop that goes on to the end; its state is told by what lies behind. -/
theorem loop_state {J : Int → σ → R} {l : List α} {f : List α → σ} {K : R} (hs : ∀ pre a q, pre ++ a :: q = l → J (pre.length : Int) (f pre) = J ((pre.length + 1 : Nat) : Int) (f (pre ++ [a]))) (he : J (l.length : Int) (f l) = K) :
    J 0 (f []) = K := by
  have key : ∀ (q pre : List α), pre ++ q = l → J (pre.length : Int) (f pre) = K := by
    intro q
    induction q with
    | nil => intro pre h; simp at h; subst h; exact he
    | cons a q ih =>
      intro pre h
      rw [hs pre a q h]
      have := ih (pre ++ [a]) (by simpa using h)
      rw [List.length_append, List.length_singleton] at this
      exact this
  exact key l [] rfl
/-- A loop that may end early, with what it comes to by what is left. -/
theorem loop_rec {J : Int → σ → R} {l : List α} {f : List α → σ → R} (hs : ∀ pre a q s, pre ++ a :: q = l → (∀ s', J ((pre.length + 1 : Nat) : Int) s' = f q s') → J (pre.length : Int) s = f (a :: q) s) (he : ∀ s, J (l.length : Int) s = f [] s) (s : σ) :
    J 0 s = f l s := by
  have key : ∀ (q pre : List α), pre ++ q = l → ∀ s, J (pre.length : Int) s = f q s := by
    intro q
    induction q with
    | nil => intro pre h s; simp at h; subst h; exact he s
    | cons a q ih =>
      intro pre h s
      refine hs pre a q s h (fun s' => ?_)
      have := ih (pre ++ [a]) (by simpa using h) s'
      rw [List.length_append, List.length_singleton] at this
      exact this
  exact key l [] rfl s
end
theorem mem_mid {α : Type} {pre q l : List α} {a : α} (h : pre ++ a :: q = l) : a ∈ l := by rw [← h]; simp
theorem len_mid {α : Type} {pre q l : List α} {a : α} (h : pre ++ a :: q = l) : pre.length < l.length := by rw [← h]; simp
theorem oat_mid {α R : Type} {sh : List LS} {g : α → LS.Ts sh} {pre q l : List α} {a : α} (h : pre ++ a :: q = l) (hs : LS.alld sh = true) {f : LS.Ts sh → Option R} : oat sh (sl g l).1 (sl g l).2 (pre.length : Int) f = f (g a) := by
  rw [← h]; exact oat_at hs
theorem oat_hd {α R : Type} {sh : List LS} {g : α → LS.Ts sh} {q : List α} {a : α} (hs : LS.alld sh = true) {f : LS.Ts sh → Option R} : oat sh (sl g (a :: q)).1 (sl g (a :: q)).2 0 f = f (g a) := oat_at (p := []) hs
theorem resB {b c : Bool} {M : Mem} (h : b = c) : (some (V.d (.bool b), M) : Res) = some (V.d (.bool c), M) := by rw [h]
theorem resI {b c : Int} {M : Mem} (h : b = c) : (some (V.d (.int .i64 b), M) : Res) = some (V.d (.int .i64 c), M) := by rw [h]
theorem oite_bool {R : Type} {b : Bool} {x y : Option R} : oite b x y = if b = true then x else y := oite_if
theorem oite_nbool {R : Type} {b : Bool} {x y : Option R} : oite (!b) x y = if b = true then y else x := by rw [oite_not, oite_if]
end Go.Ev.Q

/-
  When a type is right, weighed by both; when it is a low one.
-/
namespace Go.Ev
open Go Go.Ev.Q

/-- A type's head is right. -/
abbrev headOk (k n : Int) (len : Nat) : Prop :=
  ((k = 0 ∨ k = 1 ∨ k = 2) ∧ len = 0 ∧ n = 0) ∨ ((k = 3 ∨ k = 4) ∧ len = 2 ∧ n = 0) ∨ (k = 5 ∧ len = 1 ∧ n = 0) ∨ (k = 6 ∧ len ≤ 3 ∧ 0 ≤ n ∧ n ≤ 19) ∨ (k = 7 ∧ len = 0 ∧ 0 ≤ n ∧ n ≤ 99999)

mutual
def Ty.meas : Ty → Nat → Nat
  | .mk k n l, d => if 10 < d ∨ ¬ headOk k n l.length then 61 else Ty.meass l (d + 1) 1
def Ty.meass : List Ty → Nat → Nat → Nat
  | [], _, acc => acc
  | a :: l, d, acc => if 60 < acc + Ty.meas a d then 61 else Ty.meass l d (acc + Ty.meas a d)
end
mutual
theorem Ty.meas_le : ∀ (t : Ty) (d : Nat), Ty.meas t d ≤ 61
  | .mk k n l, d => by
    rw [Ty.meas]
    split
    · omega
    · exact Ty.meass_le l (d + 1) 1 (by omega)
theorem Ty.meass_le : ∀ (l : List Ty) (d acc : Nat), acc ≤ 61 → Ty.meass l d acc ≤ 61
  | [], d, acc, h => by rw [Ty.meass]; exact h
  | a :: l, d, acc, h => by
    rw [Ty.meass]
    split
    · omega
    · exact Ty.meass_le l d _ (by omega)
end
mutual
theorem Ty.meas_pos : ∀ (t : Ty) (d : Nat), 1 ≤ Ty.meas t d
  | .mk k n l, d => by
    rw [Ty.meas]
    split
    · omega
    · exact Ty.meass_pos l (d + 1) 1 (by omega)
theorem Ty.meass_pos : ∀ (l : List Ty) (d acc : Nat), 1 ≤ acc → 1 ≤ Ty.meass l d acc
  | [], d, acc, h => by rw [Ty.meass]; exact h
  | a :: l, d, acc, h => by
    rw [Ty.meass]
    split
    · omega
    · exact Ty.meass_pos l d _ (by omega)
end
def Ty.okB (t : Ty) : Bool := decide (Ty.meas t 1 ≤ 60)

/-- What a low type may name. -/
def lowHead (k n : Int) (len : Nat) (m : Nat) : Bool := !(decide (k = 7) || (decide (k = 6) && (decide (0 < len) || decide ((m : Int) ≤ n))))
mutual
def Ty.low : Ty → Nat → Bool
  | .mk k n l, m => lowHead k n l.length m && Ty.lows l m
def Ty.lows : List Ty → Nat → Bool
  | [], _ => true
  | a :: l, m => Ty.low a m && Ty.lows l m
end
theorem Ty.lows_all : ∀ (l : List Ty) (m : Nat), Ty.lows l m = l.all fun a => Ty.low a m
  | [], _ => by rw [Ty.lows]; rfl
  | a :: l, m => by rw [Ty.lows, Ty.lows_all l m]; rfl
theorem Ty.low_mk {k n : Int} {l : List Ty} {m : Nat} : Ty.low (.mk k n l) m = (lowHead k n l.length m && l.all fun a => Ty.low a m) := by rw [Ty.low, Ty.lows_all]
def Ty.lowOk (t : Ty) (m : Nat) : Bool := t.okB && t.low m
end Go.Ev

/-
  Both sides weigh a type alike.
-/
namespace Go.Ev.Q
open Go Go.Ev

abbrev rB (b : Bool) : Res := some (.d (.bool b), [])
abbrev rI (n : Int) : Res := some (.d (.int .i64 n), [])
theorem oite_rB {b c : Bool} : oite b (rB false) (rB c) = rB (!b && c) := by cases b <;> simp [oite_t, oite_f]
theorem oite_rB' {b c : Bool} : oite b (rB c) (rB false) = rB (b && c) := by cases b <;> simp [oite_t, oite_f]
theorem if_rB {p : Prop} [Decidable p] {c : Bool} : (if p then rB c else rB false) = rB (decide p && c) := by split <;> simp [*]
theorem loopB {α : Type} {J : Int → Res} {l : List α} {p : α → Bool} {c : Bool} (hs : ∀ pre a q, pre ++ a :: q = l → J (pre.length : Int) = if p a = true then J ((pre.length + 1 : Nat) : Int) else rB false) (he : J (l.length : Int) = rB c) :
    J 0 = rB (l.all p && c) := by
  rw [loop_all hs he]
  cases l.all p <;> simp
/-- The place of the first element that is not as wanted. -/
theorem index_all {α : Type} {J : Int → Res} {l : List α} {p : α → Bool} {Mm : Mem} (hs : ∀ pre a q, pre ++ a :: q = l → J (pre.length : Int) = if p a = true then J ((pre.length + 1 : Nat) : Int) else some (.d (.int .i64 (pre.length : Int)), Mm)) (he : J (l.length : Int) = some (.d (.int .i64 (-1)), Mm)) :
    ∃ k : Int, J 0 = some (.d (.int .i64 k), Mm) ∧ decide (k ≥ 0) = !(l.all p) := by
  have key : ∀ (q pre : List α), pre ++ q = l → ∃ k : Int, J (pre.length : Int) = some (.d (.int .i64 k), Mm) ∧ decide (k ≥ 0) = !(q.all p) := by
    intro q
    induction q with
    | nil => intro pre h; simp at h; subst h; exact ⟨-1, he, by simp⟩
    | cons a q ih =>
      intro pre h
      rw [hs pre a q h]
      by_cases hp : p a = true
      · obtain ⟨k, h1, h2⟩ := ih (pre ++ [a]) (by simpa using h)
        rw [List.length_append, List.length_singleton] at h1
        exact ⟨k, by rw [if_pos hp, h1], by simp [hp, h2]⟩
      · exact ⟨pre.length, by rw [if_neg hp], by simp [hp]⟩
  exact key l [] rfl

theorem within_ok (x a b : Int) : impl_within x a b = rB (decide (a ≤ x ∧ x ≤ b)) := by
  rw [impl_within_eq, oite_rB']
  rw [← Bool.decide_and]

theorem argsOf_ok (k : Int) : impl_argsOf k = rI (if k = 0 ∨ k = 1 ∨ k = 2 ∨ k = 7 then 0 else if k = 3 ∨ k = 4 then 2 else if k = 5 then 1 else if k = 6 then -1 else -2) := by
  have e1 : ∀ k b, impl_argsOf_j1 k b = rI (if b = true then 0 else if k = 3 ∨ k = 4 then 2 else if k = 5 then 1 else if k = 6 then -1 else -2) := by
    intro k b
    rw [impl_argsOf_j1_eq]
    simp only [impl_argsOf_j2_eq, oite_if, beq_iff_eq]
    repeat' split
    all_goals first | rfl | (exfalso; simp_all; done) | (simp_all; done) | omega
  rw [impl_argsOf_eq]
  simp only [e1, oite_if, beq_iff_eq]
  repeat' split
  all_goals first | rfl | (exfalso; omega) | omega

/-- Two ways that end in truth values. -/
theorem resP {b c : Bool} (h : b = true ↔ c = true) : rB b = rB c := by rw [Bool.eq_iff_iff.2 h]
theorem headOk_ok (k n : Int) (l : List Ty) : impl_headOk (k, n, tys l, ()) = rB (decide (headOk k n l.length)) := by
  have key : ∀ c : Int, impl_argsOf k = rI c → ((c = -1 ↔ k = 6) ∧ (c ≠ -1 → c = l.length → (k ≠ 6)) ∧ ((k = 0 ∨ k = 1 ∨ k = 2 ∨ k = 7) → c = 0) ∧ ((k = 3 ∨ k = 4) → c = 2) ∧ (k = 5 → c = 1) ∧ ((k < 0 ∨ 7 < k) → c = -2)) → impl_headOk (k, n, tys l, ()) = rB (decide (headOk k n l.length)) := by
    intro c hc hk
    rw [impl_headOk_eq]
    simp only [hc, ocall_int]
    simp only [impl_headOk_j2_eq, impl_headOk_j1_eq, within_ok, ocall_bool, show (tys l).1 = l.length from rfl, oite_if, Bool.not_eq_true', beq_iff_eq, beq_eq_false_iff_ne, decide_eq_true_eq, ne_eq]
    simp only [reduceIte, Bool.false_eq_true]
    unfold headOk
    obtain ⟨k1, k2, k3, k4, k5, k6⟩ := hk
    repeat' split
    all_goals
      refine resP ?_
      simp only [decide_eq_true_eq, beq_iff_eq, Bool.false_eq_true, false_iff]
      first | omega | (simp only [*] at *; omega)
  refine key _ (argsOf_ok k) ?_
  repeat' split
  all_goals omega
end Go.Ev.Q

/-
  Both sides weigh a type alike: the weight.
-/
namespace Go.Ev.Q
open Go Go.Ev

theorem measure_ok (t : Ty) : t.size ≤ 2000000 → ∀ d : Nat, d ≤ 11 → impl_measure t.ts d = rI (Ty.meas t d : Nat) := by
  induction t using Ty.ind with
  | h k n l ih =>
    intro hs d hd
    rw [Ty.size_mk] at hs
    rw [impl_measure_eq, Ty.ts_mk, Ty.meas]
    simp only [headOk_ok, ocall_bool, impl_measure_j2_eq, oite_t, oite_nbool, decide_eq_true_eq, oite_dec, impl_measure_j1_eq]
    by_cases h1 : 10 < d
    · rw [if_pos (by omega), if_pos (.inl h1)]; rfl
    · rw [if_neg (by omega)]
      by_cases h2 : headOk k n l.length
      · rw [if_pos h2, if_neg (by rintro (h | h); exact h1 h; exact h h2)]
        have key : ∀ (q pre : List Ty) (acc : Nat), pre ++ q = l → acc ≤ 60 → impl_measure_j3 (pre.length : Int) d acc (tys l) (((tys l).1 : Nat) : Int) = rI (Ty.meass q (d + 1) acc : Nat) := by
          intro q
          induction q with
          | nil =>
            intro pre acc hp ha
            rw [impl_measure_j3_eq, oite_dec, if_neg (by rw [← hp]; simp [tys, sl]), Ty.meass]
          | cons a q ihq =>
            intro pre acc hp ha
            have hm := mem_mid hp
            have hlt := len_mid hp
            have hsz := sizes_mem (f := Ty.size) hm
            rw [impl_measure_j3_eq, oite_dec, if_pos (show (pre.length : Int) < ((tys l).1 : Nat) by show (pre.length : Int) < (l.length : Nat); omega), show tys l = sl (sh := sh_Ty) Ty.ts l from rfl, oat_mid hp rfl, w64_id (x := (d : Int) + 1) (by omega) (by omega)]
            have e := ih a hm (by omega) (d + 1) (by omega)
            rw [show ((d : Int) + 1) = ((d + 1 : Nat) : Int) by omega, e, ocall_int, oite_dec, Ty.meass]
            have hle := Ty.meas_le a (d + 1)
            rw [w64_id (by omega) (by omega), w64_id (by omega) (by omega)]
            by_cases h3 : 60 < acc + Ty.meas a (d + 1)
            · rw [if_pos (by omega), if_pos h3]; rfl
            · rw [if_neg (by omega), if_neg h3]
              have := ihq (pre ++ [a]) (acc + Ty.meas a (d + 1)) (by simpa using hp) (by omega)
              rw [List.length_append, List.length_singleton] at this
              exact this
        exact key l [] 1 rfl (by omega)
      · rw [if_neg h2, if_pos (.inr h2)]; rfl
theorem TyOk_ok (t : Ty) (hs : t.size ≤ 2000000) : impl_TyOk t.ts = rB t.okB := by
  rw [impl_TyOk_eq, show (1 : Int) = ((1 : Nat) : Int) from rfl, measure_ok t hs 1 (by omega), ocall_int]
  refine resP ?_
  unfold Ty.okB
  simp only [decide_eq_true_eq]
  omega

theorem l3ok_ok (t : Ty) : t.size ≤ 2000000 → ∀ d : Nat, d ≤ 11 → spec_l3ok t.ts d = rI (if Ty.meas t d ≤ 60 then (Ty.meas t d : Int) else -1) := by
  induction t using Ty.ind with
  | h k n l ih =>
    intro hs d hd
    rw [Ty.size_mk] at hs
    have loop : d ≤ 10 → spec_l3ok_j6 0 1 d (k, n, tys l, ()) = rI (if Ty.meass l (d + 1) 1 ≤ 60 then (Ty.meass l (d + 1) 1 : Int) else -1) := by
      intro hd
      have key : ∀ (q pre : List Ty) (acc : Nat), pre ++ q = l → acc ≤ 60 → spec_l3ok_j6 (pre.length : Int) acc d (k, n, tys l, ()) = rI (if Ty.meass q (d + 1) acc ≤ 60 then (Ty.meass q (d + 1) acc : Int) else -1) := by
        intro q
        induction q with
        | nil =>
          intro pre acc hp ha
          rw [spec_l3ok_j6_eq, oite_dec, if_neg (by rw [← hp]; simp [tys, sl]), Ty.meass, if_pos ha]
        | cons a q ihq =>
          intro pre acc hp ha
          have hm := mem_mid hp
          have hlt := len_mid hp
          have hsz := sizes_mem (f := Ty.size) hm
          rw [spec_l3ok_j6_eq, oite_dec, if_pos (show (pre.length : Int) < ((tys l).1 : Nat) by show (pre.length : Int) < (l.length : Nat); omega)]
          simp only
          rw [show tys l = sl (sh := sh_Ty) Ty.ts l from rfl, oat_mid hp rfl, w64_id (x := (d : Int) + 1) (by omega) (by omega)]
          have e := ih a hm (by omega) (d + 1) (by omega)
          rw [show ((d : Int) + 1) = ((d + 1 : Nat) : Int) by omega, e, ocall_int, oite_dec, oite_dec, Ty.meass]
          have hle := Ty.meas_le a (d + 1)
          have hpos := Ty.meas_pos a (d + 1)
          by_cases h4 : Ty.meas a (d + 1) ≤ 60
          · simp only [if_pos h4]
            rw [if_neg (by omega), w64_id (by omega) (by omega), w64_id (by omega) (by omega)]
            by_cases h3 : 60 < acc + Ty.meas a (d + 1)
            · rw [if_pos (by omega), if_pos h3]; rfl
            · rw [if_neg (by omega), if_neg h3]
              have := ihq (pre ++ [a]) (acc + Ty.meas a (d + 1)) (by simpa using hp) (by omega)
              rw [List.length_append, List.length_singleton] at this
              exact this
          · simp only [if_neg h4]
            rw [if_pos (by decide), if_pos (show 60 < acc + Ty.meas a (d + 1) by omega)]; rfl
      exact key l [] 1 rfl (by omega)
    have j1 : ∀ mx w : Int, d ≤ 10 → spec_l3ok_j1 d mx w (k, n, tys l, ()) = if (l.length : Int) = w ∧ 0 ≤ n ∧ n ≤ mx then rI (if Ty.meass l (d + 1) 1 ≤ 60 then (Ty.meass l (d + 1) 1 : Int) else -1) else rI (-1) := by
      intro mx w hd
      rw [spec_l3ok_j1_eq]
      simp only [spec_l3ok_j5_eq, spec_l3ok_j4_eq, loop hd, oite_if, Bool.not_eq_true', beq_eq_false_iff_ne, ne_eq, decide_eq_true_eq, reduceIte, show (tys l).1 = l.length from rfl]
      repeat' split
      all_goals first | rfl | (exfalso; omega) | (exfalso; simp_all)
    rw [spec_l3ok_eq, Ty.ts_mk]
    simp only [spec_l3ok_j2_eq, spec_l3ok_j3_eq]
    by_cases h1 : 10 < d
    · have hM : Ty.meas (.mk k n l) d = 61 := by rw [Ty.meas, if_pos (.inl h1)]
      rw [oite_dec, if_pos (by omega), hM]; rfl
    · simp only [j1 _ _ (show d ≤ 10 by omega)]
      rw [oite_dec, if_neg (by omega)]
      by_cases h2 : headOk k n l.length
      · have hM : Ty.meas (.mk k n l) d = Ty.meass l (d + 1) 1 := by rw [Ty.meas, if_neg (by rintro (h | h); exact h1 h; exact h h2)]
        rw [hM]
        unfold headOk at h2
        simp only [oite_if, beq_iff_eq, decide_eq_true_eq, show (tys l).1 = l.length from rfl]
        generalize Ty.meass l (d + 1) 1 = X
        rcases h2 with ⟨(rfl | rfl | rfl), hl, hn⟩ | ⟨(rfl | rfl), hl, hn⟩ | ⟨rfl, hl, hn⟩ | ⟨rfl, hl, hn, hn'⟩ | ⟨rfl, hl, hn, hn'⟩
        all_goals
          simp only [Int.reduceEq, reduceIte, true_and]
          first
            | rw [if_pos (by omega)]
            | rw [if_neg (by omega), if_pos (by omega)]
      · have hM : Ty.meas (.mk k n l) d = 61 := by rw [Ty.meas, if_pos (.inr h2)]
        rw [hM]
        unfold headOk at h2
        simp only [oite_if, beq_iff_eq, decide_eq_true_eq, show (tys l).1 = l.length from rfl]
        generalize Ty.meass l (d + 1) 1 = X
        rcases (by omega : k = 0 ∨ k = 1 ∨ k = 2 ∨ k = 3 ∨ k = 4 ∨ k = 5 ∨ k = 6 ∨ k = 7 ∨ (k < 0 ∨ 7 < k)) with rfl | rfl | rfl | rfl | rfl | rfl | rfl | rfl | h
        all_goals first
          | (simp only [Int.reduceEq, reduceIte, true_and]
             first
              | (rw [if_neg (by omega)]; rfl)
              | (split
                 · rfl
                 · rw [if_neg (by omega)]; rfl))
          | (rw [if_neg (show ¬ k = 0 by omega), if_neg (show ¬ k = 1 by omega), if_neg (show ¬ k = 2 by omega), if_neg (show ¬ k = 3 by omega), if_neg (show ¬ k = 4 by omega), if_neg (show ¬ k = 5 by omega), if_neg (show ¬ k = 6 by omega), if_neg (show ¬ k = 7 by omega)]; rfl)
theorem spec_TyOk_ok (t : Ty) (hs : t.size ≤ 2000000) : spec_TyOk t.ts = rB t.okB := by
  rw [spec_TyOk_eq, show (1 : Int) = ((1 : Nat) : Int) from rfl, l3ok_ok t hs 1 (by omega), ocall_int]
  refine resP ?_
  have hpos := Ty.meas_pos t 1
  unfold Ty.okB
  simp only [decide_eq_true_eq]
  split <;> omega
end Go.Ev.Q

/-
  What is put for the variables of a type.
-/
namespace Go.Ev
open Go
mutual
theorem Ty.meas_w : ∀ (t : Ty) (d : Nat), Ty.meas t d ≤ 60 → Ty.meas t d = 1 + t.size
  | .mk k n l, d, h => by
    rw [Ty.meas] at h ⊢
    split at h
    · omega
    · rename_i h1
      rw [if_neg h1, Ty.meass_w l (d + 1) 1 h, Ty.size_mk]
theorem Ty.meass_w : ∀ (l : List Ty) (d acc : Nat), Ty.meass l d acc ≤ 60 → Ty.meass l d acc = acc + (l.length + (l.map Ty.size).sum)
  | [], d, acc, h => by rw [Ty.meass]; simp
  | a :: l, d, acc, h => by
    rw [Ty.meass] at h ⊢
    split at h
    · omega
    · rename_i h1
      rw [if_neg h1, Ty.meass_w l d _ h, Ty.meas_w a d (by have := Ty.meas_pos a d; omega)]
      simp only [List.length_cons, List.map_cons, List.sum_cons]
      omega
end
theorem Ty.meass_mem : ∀ {l : List Ty} {d acc : Nat}, Ty.meass l d acc ≤ 60 → ∀ a ∈ l, Ty.meas a d ≤ 60
  | b :: l, d, acc, h, a, ha => by
    rw [Ty.meass] at h
    split at h
    · omega
    · rename_i h1
      rcases List.mem_cons.1 ha with rfl | ha
      · omega
      · exact Ty.meass_mem h a ha
/-- A type in which variables are right. -/
inductive Ty.good : Ty → Prop where
  | mk {k n : Int} {l : List Ty} (hv : k = 7 → 0 ≤ n ∧ l = []) (hl : l.length ≤ 60) (ha : ∀ a ∈ l, a.good) : Ty.good (.mk k n l)
theorem Ty.meas_good (t : Ty) : ∀ d : Nat, Ty.meas t d ≤ 60 → t.good := by
  induction t using Ty.ind with
  | h k n l ih =>
    intro d h
    rw [Ty.meas] at h
    split at h
    · omega
    · rename_i h1
      have h2 : headOk k n l.length := Classical.byContradiction fun hc => h1 (.inr hc)
      refine .mk (fun hk => ?_) ?_ (fun a ha => ih a ha (d + 1) (Ty.meass_mem h a ha))
      · unfold headOk at h2
        refine ⟨by omega, List.eq_nil_of_length_eq_zero (by omega)⟩
      · unfold headOk at h2; omega
theorem Ty.okB_good {t : Ty} (h : t.okB = true) : t.good ∧ 1 + t.size ≤ 60 := by
  unfold Ty.okB at h
  have h := of_decide_eq_true h
  exact ⟨Ty.meas_good t 1 h, by rw [← Ty.meas_w t 1 h]; exact h⟩

mutual
def Ty.sub (L : List Ty) : Ty → Ty
  | .mk k n l => if k = 7 ∧ n.toNat < L.length then L.getD n.toNat (.mk 0 0 []) else .mk k n (Ty.subs L l)
def Ty.subs (L : List Ty) : List Ty → List Ty
  | [] => []
  | a :: l => Ty.sub L a :: Ty.subs L l
end
theorem Ty.subs_eq (L : List Ty) : ∀ l : List Ty, Ty.subs L l = l.map (Ty.sub L)
  | [] => by rw [Ty.subs]; rfl
  | a :: l => by rw [Ty.subs, Ty.subs_eq L l]; rfl
theorem Ty.sub_mk {L : List Ty} {k n : Int} {l : List Ty} : Ty.sub L (.mk k n l) = if k = 7 ∧ n.toNat < L.length then L.getD n.toNat (.mk 0 0 []) else .mk k n (l.map (Ty.sub L)) := by rw [Ty.sub, Ty.subs_eq]
/-- What is put has not too many parts. -/
theorem Ty.sub_size {L : List Ty} {c : Nat} (hL : ∀ a ∈ L, 1 + a.size ≤ c) (hc : 1 ≤ c) (t : Ty) : 1 + (Ty.sub L t).size ≤ c * (1 + t.size) := by
  induction t using Ty.ind with
  | h k n l ih =>
    rw [Ty.sub_mk]
    have h1 : c * (1 + 0) ≤ c * (1 + (Ty.mk k n l).size) := Nat.mul_le_mul_left _ (by omega)
    split
    · rename_i h
      have : L.getD n.toNat (.mk 0 0 []) ∈ L := by
        rw [List.getD_eq_getElem?_getD, List.getElem?_eq_getElem h.2]
        exact List.getElem_mem h.2
      have := hL _ this
      omega
    · rw [Ty.size_mk, Ty.size_mk]
      have hs : ∀ q : List Ty, (∀ a ∈ q, 1 + (Ty.sub L a).size ≤ c * (1 + a.size)) → q.length + ((q.map (Ty.sub L)).map Ty.size).sum ≤ c * (q.length + (q.map Ty.size).sum) := by
        intro q
        induction q with
        | nil => intro _; simp
        | cons a q ihq =>
          intro h
          have h1 := h a (by simp)
          have h2 := ihq fun b hb => h b (by simp [hb])
          simp only [List.length_cons, List.map_cons, List.sum_cons]
          have : c * (q.length + 1 + (a.size + (q.map Ty.size).sum)) = c * (1 + a.size) + c * (q.length + (q.map Ty.size).sum) := by
            rw [← Nat.mul_add]; congr 1; omega
          omega
      have := hs l ih
      simp only [List.length_map]
      have e : c * (1 + (l.length + (l.map Ty.size).sum)) = c + c * (l.length + (l.map Ty.size).sum) := by rw [Nat.mul_add, Nat.mul_one]
      omega
theorem tys_app {l : List Ty} {a : Ty} : ((tys l).1 + 1, (tys l).2 ++ (vDs (LS.encs sh_Ty a.ts) :: [])) = tys (l ++ [a]) := by simp [tys, sl]
namespace Q
open Go Go.Ev

/-- A type of one's own, as a call returns it. -/
def PT (x : Res) (t : Ty) : Prop := ∃ mv, x = some (.agg [.d (.int .i64 t.ts.1), .d (.int .i64 t.ts.2.1), .own 0], [.lrow 3 t.ts.2.2.1.1 mv t.ts.2.2.1.2])
theorem PT.call {x : Res} {t : Ty} (h : PT x t) {R : Type} {f : Int × Int × Unit × Unit → Sl × Unit → Option R} : ocall (.m (.agg [.int .i64, .int .i64, .own 0])) [.lrow 3 true] x f = f (t.ts.1, t.ts.2.1, (), ()) (t.ts.2.2.1, ()) := by
  obtain ⟨mv, rfl⟩ := h
  refine ocall_t (s := .m (.agg [.int .i64, .int .i64, .own 0])) (m := [.lrow 3 true]) (t := (t.ts.1, t.ts.2.1, (), ())) (u := (t.ts.2.2.1, ())) rfl rfl ?_
  cases mv <;> rfl
theorem ts_eta (t : Ty) : (t.ts.1, t.ts.2.1, t.ts.2.2.1, ()) = t.ts := rfl
theorem cloneTy_ok (t : Ty) : t.size ≤ 2000000 → PT (impl_cloneTy t.ts) t := by
  induction t using Ty.ind with
  | h k n l ih =>
    intro hs
    rw [Ty.size_mk] at hs
    have key : ∀ (q pre : List Ty) (x y : Int) (z : Sl), pre ++ q = l → PT (impl_cloneTy_j1v1 (pre.length : Int) (tys l) (((tys l).1 : Nat) : Int) k n x y (tys pre) z) (.mk k n l) := by
      intro q
      induction q with
      | nil =>
        intro pre x y z hp
        rw [List.append_nil] at hp; subst hp
        rw [impl_cloneTy_j1v1_eq, oite_dec, if_neg (by simp [tys, sl])]
        exact ⟨true, by rw [Ty.ts_mk]⟩
      | cons a q ihq =>
        intro pre x y z hp
        have hm := mem_mid hp
        have hlt := len_mid hp
        have hsz := sizes_mem (f := Ty.size) hm
        rw [impl_cloneTy_j1v1_eq, oite_dec, if_pos (show (pre.length : Int) < ((tys l).1 : Nat) by show (pre.length : Int) < (l.length : Nat); omega)]
        rw [show tys l = sl (sh := sh_Ty) Ty.ts l from rfl, oat_mid hp rfl, (ih a hm (by omega)).call, oguard_dec (by show (pre.length + 1) * 40 ≤ _; omega), olet_eq]
        simp only [ts_eta, tys_app]
        rw [w64_succ (by omega)]
        have := ihq (pre ++ [a]) x y z (by simpa using hp)
        rw [List.length_append, List.length_singleton] at this
        exact this
    rw [impl_cloneTy_eq, Ty.ts_mk]
    cases l with
    | nil => rw [impl_cloneTy_j1_eq, oite_dec, if_neg (by simp [tys, sl])]; exact ⟨false, by rw [Ty.ts_mk]; rfl⟩
    | cons a q =>
      have hm : a ∈ a :: q := by simp
      have hsz := sizes_mem (f := Ty.size) hm
      have hp : ([] : List Ty) ++ a :: q = a :: q := rfl
      rw [impl_cloneTy_j1_eq, oite_dec, if_pos (by simp [tys, sl])]
      simp only
      rw [show tys (a :: q) = sl (sh := sh_Ty) Ty.ts (a :: q) from rfl, oat_hd rfl, (ih a hm (by omega)).call, oguard_dec (by decide), olet_eq]
      have := key q [a] 0 0 (0, []) rfl
      exact this

abbrev noT : Ty := .mk 0 0 []
/-- Whether something is put, and what. -/
def subB (t : Ty) (L : List Ty) : Bool := t.okB && (decide (L.length ≤ 60) && (L.all Ty.okB && (Ty.sub L t).okB))
def subT (t : Ty) (L : List Ty) : Ty := if subB t L then Ty.sub L t else noT
end Q
end Go.Ev

/-
  What is put for the variables of a type, by the program.
-/
namespace Go.Ev.Q
open Go Go.Ev

theorem osame_i {α : Type} {a : α} {R : Type} {x : Option R} : osame a a x = x := osame_t
/-- A type of one's own with a truth value, the list, what is left. -/
def PR (x : Res) (L : List Ty) (b : Bool) (c : Int) (t : Ty) : Prop := ∃ mv v, (v = .kb b ∨ v = .d (.bool b)) ∧ x = some (.tup [.agg [.d (.int .i64 t.ts.1), .d (.int .i64 t.ts.2.1), .own 2], v], [.box [.d (.sl false 3 (tys L).1 (tys L).2)], .box [.d (.int .i64 c)], .lrow 3 t.ts.2.2.1.1 mv t.ts.2.2.1.2])
theorem PR.call {x : Res} {L : List Ty} {b : Bool} {c : Int} {t : Ty} (h : PR x L b c t) {R : Type} {f : (Int × Int × Unit × Unit) × Bool × Unit → (Sl × Unit) × (Int × Unit) × Sl × Unit → Option R} : ocall (.tup [(.agg [(.int .i64), (.int .i64), (.own 2)]), (.one .bool)]) [(.box [(.sl 3)]), (.box [(.int .i64)]), (.lrow 3 true)] x f = f ((t.ts.1, t.ts.2.1, (), ()), b, ()) ((tys L, ()), (c, ()), t.ts.2.2.1, ()) := by
  obtain ⟨mv, v, hv, rfl⟩ := h
  refine ocall_t (s := .tup [(.agg [(.int .i64), (.int .i64), (.own 2)]), (.one .bool)]) (m := [(.box [(.sl 3)]), (.box [(.int .i64)]), (.lrow 3 true)]) (t := ((t.ts.1, t.ts.2.1, (), ()), b, ())) (u := ((tys L, ()), (c, ()), t.ts.2.2.1, ())) rfl ?_ ?_
  · rcases hv with rfl | rfl <;> rfl
  · cases mv <;> rfl
theorem ocall_place {R : Type} {t : Ty} {b : Bool} {L : List Ty} {f : T_Ty × Bool × Unit → (Sl × Unit) × Unit → Option R} : ocall (.tup [(.agg sh_Ty), (.one .bool)]) [(.box [(.sl 3)])] (some (.tup [.agg (LS.encs sh_Ty t.ts), .d (.bool b)], [.box [.d (.sl false 3 (tys L).1 (tys L).2)]])) f = f (t.ts, b, ()) ((tys L, ()), ()) :=
  ocall_t (s := .tup [(.agg sh_Ty), (.one .bool)]) (m := [(.box [(.sl 3)])]) rfl rfl rfl

/-- What comes of it: whether there was enough room, and then what is left. -/
def RR (x : Res) (L : List Ty) (c : Int) (t : Ty) (w : Nat) : Prop := ∃ b c' t', PR x L b c' t' ∧ (b = true → (w : Int) ≤ c ∧ c' = c - w ∧ t' = t) ∧ ((w : Int) ≤ c → b = true)
theorem replace_ok (L : List Ty) (hL : ∀ a ∈ L, a.okB = true) (hn : L.length ≤ 100) (t : Ty) : t.good → t.size ≤ 100 → ∀ c : Int, -4000000 + 61 * (t.size : Int) ≤ c → c ≤ 60 → RR (impl_replace_Fimpl_inPlace_1c t.ts (tys L) c) L c (Ty.sub L t) (1 + (Ty.sub L t).size) := by
  induction t using Ty.ind with
  | h k n l ih =>
    intro hg hs c hc0 hc
    have hg0 := hg
    rw [Ty.size_mk] at hs hc0
    cases hg with
    | mk hv hl hga =>
    have loop : ¬ (k = 7 ∧ n.toNat < L.length) → RR (impl_replace_Fimpl_inPlace_1c_j1 (tys L) c 0 0 (k, n, tys l, ()) (0, [])) L c (Ty.sub L (.mk k n l)) (1 + (Ty.sub L (.mk k n l)).size) := by
      intro hno
      rw [Ty.sub_mk, if_neg hno, Ty.size_mk, List.length_map]
      have e0 : w64 (c - 1) = c - 1 := w64_id (by omega) (by omega)
      have key : ∀ (q pre : List Ty) (x y : Int) (z : Sl) (d : Int), pre ++ q = l → d = c - 1 - (pre.length + ((pre.map (Ty.sub L)).map Ty.size).sum : Nat) → -4000000 + 61 * ((q.map Ty.size).sum : Int) ≤ d → (pre ≠ [] → 0 ≤ d) →
          RR (impl_replace_Fimpl_inPlace_1c_j2v1 (pre.length : Int) (tys l) (((tys l).1 : Nat) : Int) (tys L) d x y k n z (tys (pre.map (Ty.sub L)))) L c (.mk k n (l.map (Ty.sub L))) (1 + (l.length + ((l.map (Ty.sub L)).map Ty.size).sum)) := by
        intro q
        induction q with
        | nil =>
          intro pre x y z d hp hd hd0 hdn
          rw [List.append_nil] at hp; subst hp
          rw [impl_replace_Fimpl_inPlace_1c_j2v1_eq, oite_dec, if_neg (by simp [tys, sl])]
          simp only [osame_i]
          refine ⟨decide (d ≥ 0), d, .mk k n (pre.map (Ty.sub L)), ⟨true, _, .inr rfl, by rw [Ty.ts_mk]⟩, fun hb => ?_, fun hb => ?_⟩
          · have := of_decide_eq_true hb
            exact ⟨by omega, by omega, rfl⟩
          · exact decide_eq_true (by omega)
        | cons a q ihq =>
          intro pre x y z d hp hd hd0 hdn
          have hm := mem_mid hp
          have hlt := len_mid hp
          have hsz := sizes_mem (f := Ty.size) hm
          simp only [List.map_cons, List.sum_cons] at hd0
          obtain ⟨b, c', t', h1, h2, h3⟩ := ih a hm (hga a hm) (by omega) d (by omega) (by omega)
          rw [impl_replace_Fimpl_inPlace_1c_j2v1_eq, oite_dec, if_pos (show (pre.length : Int) < ((tys l).1 : Nat) by show (pre.length : Int) < (l.length : Nat); omega)]
          rw [show tys l = sl (sh := sh_Ty) Ty.ts l from rfl, oat_mid hp rfl]
          have hsum : ((l.map (Ty.sub L)).map Ty.size).sum = ((pre.map (Ty.sub L)).map Ty.size).sum + ((Ty.sub L a).size + ((q.map (Ty.sub L)).map Ty.size).sum) := by
            rw [← hp]; simp [List.sum_append]
          have hll : l.length = pre.length + (q.length + 1) := by rw [← hp]; simp
          simp only [List.length_cons, List.length_nil, Nat.zero_add, Nat.reduceAdd]
          rw [h1.call]
          cases b with
          | false =>
            rw [Bool.not_false, oite_t, impl_replace_Fimpl_inPlace_1c_j4v1_eq, oite_t]
            refine ⟨false, c', noT, ⟨false, _, .inl rfl, by rw [noT, Ty.ts_mk]; rfl⟩, fun hb => (by cases hb), fun hb => ?_⟩
            exact h3 (by omega)
          | true =>
            obtain ⟨h4, h5, h6⟩ := h2 rfl
            subst h6
            have h0 : 0 ≤ c' := by omega
            rw [Bool.not_true, oite_f, impl_replace_Fimpl_inPlace_1c_j4v1_eq, oite_dec, if_neg (show ¬ c' < 0 by omega), impl_replace_Fimpl_inPlace_1c_j3v1_eq, oguard_dec (by show ((pre.map (Ty.sub L)).length + 1) * 40 ≤ _; rw [List.length_map]; omega), olet_eq]
            simp only [ts_eta, tys_app]
            rw [w64_succ (by omega)]
            have hqs : (q.map Ty.size).sum ≤ (l.map Ty.size).sum := by rw [← hp]; simp [List.sum_append]; omega
            have := ihq (pre ++ [a]) x y z c' (by simpa using hp) (by simp only [List.length_append, List.length_singleton, List.map_append, List.map_cons, List.map_nil, List.sum_append, List.sum_cons, List.sum_nil]; omega) (by omega) (fun _ => h0)
            rw [List.length_append, List.length_singleton, List.map_append] at this
            exact this
      rw [impl_replace_Fimpl_inPlace_1c_j1_eq, e0]
      simp only
      cases l with
      | nil =>
        rw [impl_replace_Fimpl_inPlace_1c_j2_eq, oite_dec, if_neg (by simp [tys, sl])]
        simp only [osame_i]
        refine ⟨decide (c - 1 ≥ 0), c - 1, .mk k n [], ⟨false, _, .inr rfl, by rw [Ty.ts_mk]; rfl⟩, fun hb => ?_, fun hb => ?_⟩
        · have := of_decide_eq_true hb
          simp
          omega
        · simp at hb
          exact decide_eq_true (by omega)
      | cons a q =>
        have hm : a ∈ a :: q := by simp
        have hsz := sizes_mem (f := Ty.size) hm
        have hp : ([] : List Ty) ++ a :: q = a :: q := rfl
        have hsz2 : ((a :: q).map Ty.size).sum = a.size + (q.map Ty.size).sum := by simp
        obtain ⟨b, c', t', h1, h2, h3⟩ := ih a hm (hga a hm) (by omega) (c - 1) (by simp only [List.length_cons] at hc0; omega) (by omega)
        rw [impl_replace_Fimpl_inPlace_1c_j2_eq, oite_dec, if_pos (by simp [tys, sl])]
        rw [show tys (a :: q) = sl (sh := sh_Ty) Ty.ts (a :: q) from rfl, oat_hd rfl]
        have hsum : (((a :: q).map (Ty.sub L)).map Ty.size).sum = (Ty.sub L a).size + ((q.map (Ty.sub L)).map Ty.size).sum := by simp
        simp only [List.length_cons, List.length_nil, Nat.zero_add, Nat.reduceAdd]
        rw [h1.call]
        cases b with
        | false =>
          rw [Bool.not_false, oite_t, impl_replace_Fimpl_inPlace_1c_j4_eq, oite_t]
          refine ⟨false, c', noT, ⟨false, _, .inl rfl, by rw [noT, Ty.ts_mk]; rfl⟩, fun hb => (by cases hb), fun hb => ?_⟩
          exact h3 (by omega)
        | true =>
          obtain ⟨h4, h5, h6⟩ := h2 rfl
          subst h6
          have h0 : 0 ≤ c' := by omega
          rw [Bool.not_true, oite_f, impl_replace_Fimpl_inPlace_1c_j4_eq, oite_dec, if_neg (show ¬ c' < 0 by omega), impl_replace_Fimpl_inPlace_1c_j3_eq, oguard_dec (by decide), olet_eq]
          have := key q [a] 0 0 (0, []) c' rfl (by simp; omega) (by simp only [List.length_cons] at hs; omega) (fun _ => h0)
          exact this
    rw [impl_replace_Fimpl_inPlace_1c_eq, Ty.ts_mk]
    simp only [oite_if, beq_iff_eq]
    by_cases h7 : k = 7
    · obtain ⟨hn0, rfl⟩ := hv h7
      rw [if_pos h7, impl_inPlace_1_eq, oite_dec]
      by_cases hc2 : n.toNat < L.length
      · have hLi : L[n.toNat]? = some (L.getD n.toNat (.mk 0 0 [])) := by simp [List.getD_eq_getElem?_getD, hc2]
        rw [Ty.sub_mk, if_pos (show k = 7 ∧ n.toNat < L.length from ⟨h7, hc2⟩)]
        generalize L.getD n.toNat (.mk 0 0 []) = u at hLi
        have hu := hL _ (List.mem_of_getElem? hLi)
        obtain ⟨hug, hus⟩ := Ty.okB_good hu
        have hum : Ty.meas u 1 = 1 + u.size := Ty.meas_w u 1 (by unfold Ty.okB at hu; exact of_decide_eq_true hu)
        rw [if_neg (show ¬ n ≥ (((tys L).1 : Nat) : Int) by show ¬ n ≥ (L.length : Nat); omega), show tys L = sl (sh := sh_Ty) Ty.ts L from rfl, oat_sl (a := u) rfl hn0 hLi]
        rw [show sl (sh := sh_Ty) Ty.ts L = tys L from rfl, ocall_place]
        simp only [if_true]
        rw [show (1 : Int) = ((1 : Nat) : Int) from rfl, measure_ok u (by omega) 1 (by omega), ocall_int]
        simp only [osame_i]
        rw [(cloneTy_ok u (by omega)).call, hum, w64_id (by omega) (by omega)]
        refine ⟨decide (c - ((1 + u.size : Nat) : Int) ≥ 0), c - ((1 + u.size : Nat) : Int), u, ⟨true, _, .inr rfl, rfl⟩, fun hb => ?_, fun hb => ?_⟩
        · have := of_decide_eq_true hb
          exact ⟨by omega, rfl, rfl⟩
        · exact decide_eq_true (by omega)
      · rw [if_pos (show n ≥ (((tys L).1 : Nat) : Int) by show n ≥ (L.length : Nat); omega)]
        rw [show (some (V.tup [.agg (LS.encs sh_Ty (0, 0, (0, []), ())), .d (.bool false)], [.box [.d (.sl false 3 (tys L).1 (tys L).2)]]) : Res) = some (V.tup [.agg (LS.encs sh_Ty noT.ts), .d (.bool false)], [.box [.d (.sl false 3 (tys L).1 (tys L).2)]]) by rw [noT, Ty.ts_mk]; rfl, ocall_place]
        simp only [Bool.false_eq_true, if_false]
        exact loop (fun h => hc2 h.2)
    · rw [if_neg h7]
      exact loop (fun h => h7 h.1)
end Go.Ev.Q

/-
  What is put for the variables of a type, by the program: the whole.
-/
namespace Go.Ev.Q
open Go Go.Ev

/-- A type of one's own with a truth value. -/
def PB (x : Res) (b : Bool) (t : Ty) : Prop := ∃ mv v, (v = .kb b ∨ v = .d (.bool b)) ∧ x = some (.tup [.agg [.d (.int .i64 t.ts.1), .d (.int .i64 t.ts.2.1), .own 0], v], [.lrow 3 t.ts.2.2.1.1 mv t.ts.2.2.1.2])
theorem PB.call {x : Res} {b : Bool} {t : Ty} (h : PB x b t) {R : Type} {f : (Int × Int × Unit × Unit) × Bool × Unit → Sl × Unit → Option R} : ocall (.tup [(.agg [(.int .i64), (.int .i64), (.own 0)]), (.one .bool)]) [(.lrow 3 true)] x f = f ((t.ts.1, t.ts.2.1, (), ()), b, ()) (t.ts.2.2.1, ()) := by
  obtain ⟨mv, v, hv, rfl⟩ := h
  refine ocall_t (s := .tup [(.agg [(.int .i64), (.int .i64), (.own 0)]), (.one .bool)]) (m := [(.lrow 3 true)]) (t := ((t.ts.1, t.ts.2.1, (), ()), b, ())) (u := (t.ts.2.2.1, ())) rfl ?_ ?_
  · rcases hv with rfl | rfl <;> rfl
  · cases mv <;> rfl
/-- The same with a variable's entry. -/
def PP (x : Res) (L : List Ty) (b : Bool) (t : Ty) : Prop := ∃ mv v, (v = .kb b ∨ v = .d (.bool b)) ∧ x = some (.tup [.agg [.d (.int .i64 t.ts.1), .d (.int .i64 t.ts.2.1), .own 1], v], [.box [.d (.sl false 3 (tys L).1 (tys L).2)], .lrow 3 t.ts.2.2.1.1 mv t.ts.2.2.1.2])
theorem PP.call {x : Res} {L : List Ty} {b : Bool} {t : Ty} (h : PP x L b t) {R : Type} {f : (Int × Int × Unit × Unit) × Bool × Unit → (Sl × Unit) × Sl × Unit → Option R} : ocall (.tup [(.agg [(.int .i64), (.int .i64), (.own 1)]), (.one .bool)]) [(.box [(.sl 3)]), (.lrow 3 true)] x f = f ((t.ts.1, t.ts.2.1, (), ()), b, ()) ((tys L, ()), t.ts.2.2.1, ()) := by
  obtain ⟨mv, v, hv, rfl⟩ := h
  refine ocall_t (s := .tup [(.agg [(.int .i64), (.int .i64), (.own 1)]), (.one .bool)]) (m := [(.box [(.sl 3)]), (.lrow 3 true)]) (t := ((t.ts.1, t.ts.2.1, (), ()), b, ())) (u := ((tys L, ()), t.ts.2.2.1, ())) rfl ?_ ?_
  · rcases hv with rfl | rfl <;> rfl
  · cases mv <;> rfl

theorem put_ok (L : List Ty) (hL : ∀ a ∈ L, a.okB = true) (hn : L.length ≤ 100) (t : Ty) (ht : t.okB = true) : ∃ b t', PP (impl_put_Fimpl_inPlace_1c t.ts (tys L)) L b t' ∧ b = (Ty.sub L t).okB ∧ (b = true → t' = Ty.sub L t) := by
  obtain ⟨hg, hsz⟩ := Ty.okB_good ht
  obtain ⟨b, c', t', h1, h2, h3⟩ := replace_ok L hL hn t hg (by omega) 60 (by omega) (by omega)
  rw [impl_put_Fimpl_inPlace_1c_eq]
  simp only [osame_i, List.length_cons, List.length_nil, Nat.zero_add, Nat.reduceAdd]
  rw [h1.call]
  cases b with
  | true =>
    obtain ⟨h4, h5, h6⟩ := h2 rfl
    subst h6
    rw [oite_t]
    simp only [ts_eta]
    rw [TyOk_ok _ (by omega), ocall_bool]
    exact ⟨_, _, ⟨true, _, .inr rfl, rfl⟩, rfl, fun _ => rfl⟩
  | false =>
    rw [oite_f]
    refine ⟨false, t', ⟨true, _, .inl rfl, rfl⟩, ?_, fun h => by cases h⟩
    symm
    rw [Bool.eq_false_iff]
    intro hc
    have := h3 (by have := (Ty.okB_good hc).2; omega)
    cases this
theorem ocall_clo {R : Type} {k : Nat} {s : Sl} {f : Unit × Unit → (Sl × Unit) × Unit → Option R} : ocall (.m (.fn k [(.ptr 0 0)])) [(.box [(.sl 3)])] (some ((.fn k [(.ptr 0 0)]), [(.box [(.d (.sl false 3 s.1 s.2))])])) f = f ((), ()) ((s, ()), ()) :=
  ocall_t (s := .m (.fn k [(.ptr 0 0)])) (m := [(.box [(.sl 3)])]) (t := ((), ())) (u := ((s, ()), ())) rfl (by simp [Sh.dec, MS.dec, LS.decs, LS.dec]) rfl
theorem told_ok (t : Ty) (b : Bool) : PB (impl_toldTy t.ts.1 t.ts.2.1 b t.ts.2.2.1) b (if b then t else noT) := by
  cases b with
  | true => exact ⟨false, _, .inl rfl, by rw [impl_toldTy_eq, Bool.not_true, oite_f]; rfl⟩
  | false => exact ⟨true, _, .inl rfl, by rw [impl_toldTy_eq, Bool.not_false, oite_t]; simp only [Bool.false_eq_true, if_false, noT, Ty.ts_mk]; rfl⟩
theorem tysOk_ok (L : List Ty) (hs : tysSize L ≤ 2000000) : impl_tysOk (tys L) = rB (L.all Ty.okB) := by
  unfold tysSize at hs
  obtain ⟨i, h1, h2⟩ := index_all (J := fun i => slices_IndexFunc_impl_Ty_impl_Ty_Fimpl_tysOk_1_j1 i (tys L) (((tys L).1 : Nat) : Int)) (l := L) (p := Ty.okB) (Mm := []) (fun pre a q hp => by
    have hlt := len_mid hp
    have hmm := mem_mid hp
    have hsz := sizes_mem (f := Ty.size) hmm
    rw [slices_IndexFunc_impl_Ty_impl_Ty_Fimpl_tysOk_1_j1_eq, oite_dec, if_pos (show (pre.length : Int) < ((tys L).1 : Nat) by show (pre.length : Int) < (L.length : Nat); omega)]
    rw [show tys L = sl (sh := sh_Ty) Ty.ts L from rfl, oat_mid hp rfl, impl_tysOk_1_eq, TyOk_ok a (by omega), ocall_bool, ocall_bool, oite_nbool, w64_succ (by omega)])
    (by rw [slices_IndexFunc_impl_Ty_impl_Ty_Fimpl_tysOk_1_j1_eq, oite_dec, if_neg (by simp [tys, sl])])
  rw [impl_tysOk_eq, slices_ContainsFunc_impl_Ty_impl_Ty_Fimpl_tysOk_1_eq, slices_IndexFunc_impl_Ty_impl_Ty_Fimpl_tysOk_1_eq]
  rw [h1, ocall_int, ocall_bool, h2, Bool.not_not]
theorem TySubstI_ok (t : Ty) (L : List Ty) (hs : t.size ≤ 1048576) (hl : tysSize L ≤ 1048576) : PB (impl_TySubst t.ts (tys L)) (subB t L) (subT t L) := by
  rw [impl_TySubst_eq, oite_dec]
  simp only [impl_TySubst_j2_eq]
  have hbad : subB t L = false → PB (some (.tup [.agg [.d (.int .i64 0), .d (.int .i64 0), .own 0], .kb false], [.lrow 3 0 false []])) (subB t L) (subT t L) := fun h => by
    unfold subT
    rw [h]
    exact ⟨false, _, .inl rfl, by simp only [Bool.false_eq_true, if_false, noT, Ty.ts_mk]; rfl⟩
  have hn : (tys L).1 = L.length := rfl
  by_cases h60 : L.length ≤ 60
  · rw [if_neg (by rw [hn]; omega), TyOk_ok t (by omega), ocall_bool]
    cases ht : t.okB with
    | false =>
      rw [Bool.not_false, oite_t, oite_t]
      exact hbad (by unfold subB; rw [ht]; rfl)
    | true =>
      rw [Bool.not_true, oite_f, tysOk_ok L (by omega), ocall_bool]
      cases ha : L.all Ty.okB with
      | false =>
        rw [Bool.not_false, oite_t]
        exact hbad (by unfold subB; rw [ha]; simp)
      | true =>
        rw [Bool.not_true, oite_f, impl_TySubst_j1_eq, impl_inPlace_eq, ocall_clo]
        obtain ⟨b, t', h1, h2, h3⟩ := put_ok L (fun a h => List.all_eq_true.1 ha a h) (by omega) t ht
        have e : subB t L = b := by unfold subB; rw [ht, ha, decide_eq_true h60, h2]; simp
        simp only [osame_i, List.length_cons, List.length_nil, Nat.zero_add, Nat.reduceAdd]
        rw [h1.call, (told_ok t' b).call]
        have e2 : subT t L = if b then t' else noT := by
          unfold subT
          rw [e]
          cases b with
          | true => simp only [if_true]; exact (h3 rfl).symm
          | false => rfl
        rw [e, e2]
        exact ⟨true, _, .inr rfl, rfl⟩
  · rw [if_pos (by rw [hn]; omega), oite_t]
    exact hbad (by unfold subB; rw [decide_eq_false h60]; simp)
theorem subT_size (t : Ty) (L : List Ty) : (subT t L).size ≤ 60 := by
  unfold subT
  split
  · rename_i h
    unfold subB at h
    simp only [Bool.and_eq_true] at h
    have := (Ty.okB_good h.2.2.2).2
    omega
  · rw [noT, Ty.size_mk]; simp
end Go.Ev.Q
