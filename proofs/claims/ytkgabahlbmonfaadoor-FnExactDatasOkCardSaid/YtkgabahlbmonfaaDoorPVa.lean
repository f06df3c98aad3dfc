import Derived.Test.YtkgabahlbmonfaaDoorQDatas
import Derived.Test.YtkgabahlbmonfaaDoorEvOwn
set_option linter.unusedVariables false
set_option linter.unusedSimpArgs false
/-
  Sizes of lists.
-/
namespace Go.Ev.Q
open Go Go.Ev

theorem sizes_mem {α : Type} {f : α → Nat} : ∀ {l : List α} {a : α}, a ∈ l → f a ≤ (l.map f).sum
  | b :: l, a, h => by
    simp only [List.map_cons, List.sum_cons]
    rcases List.mem_cons.1 h with rfl | h
    · omega
    · have := sizes_mem (f := f) h; omega
end Go.Ev.Q

/-
  Loops over lists, by what each round does.
-/
namespace Go.Ev.Q
open Go Go.Ev

section
variable {α R σ : Type}
/-- A loop that ends where something does not hold of an element. -/
theorem loop_all {J : Int → R} {l : List α} {p : α → Bool} {bad K : R} (hs : ∀ pre a q, pre ++ a :: q = l → J (pre.length : Int) = if p a = true then J ((pre.length + 1 : Nat) : Int) else bad) (he : J (l.length : Int) = K) :
    J 0 = if l.all p = true then K else bad := by
  have key : ∀ (q pre : List α), pre ++ q = l → J (pre.length : Int) = if q.all p = true then K else bad := by
    intro q
    induction q with
    | nil => intro pre h; simp at h; subst h; simpa using he
    | cons a q ih =>
      intro pre h
      rw [hs pre a q h]
      have := ih (pre ++ [a]) (by simpa using h)
      rw [List.length_append, List.length_singleton] at this
      rw [this]
      by_cases hp : p a = true
      · simp [hp]
      · simp [hp]
  exact key l [] rfl
/-- A loop that goes on to the end; its state is told by what lies behind. -/
theorem loop_state {J : Int → σ → R} {l : List α} {f : List α → σ} {K : R} (hs : ∀ pre a q, pre ++ a :: q = l → J (pre.length : Int) (f pre) = J ((pre.length + 1 : Nat) : Int) (f (pre ++ [a]))) (he : J (l.length : Int) (f l) = K) :
    J 0 (f []) = K := by
  have key : ∀ (q pre : List α), pre ++ q = l → J (pre.length : Int) (f pre) = K := by
    intro q
    induction q with
    | nil => intro pre h; simp at h; subst h; exact he
    | cons a q ih =>
      intro pre h
      rw [hs pre a q h]
      have := ih (pre ++ [a]) (by simpa using h)
      rw [List.length_append, List.length_singleton] at this
      exact this
  exact key l [] rfl
/-- A loop that may end early, with what it comes to by what is left. -/
theorem loop_rec {J : Int → σ → R} {l : List α} {f : List α → σ → R} (hs : ∀ pre a q s, pre ++ a :: q = l → (∀ s', J ((pre.length + 1 : Nat) : Int) s' = f q s') → J (pre.length : Int) s = f (a :: q) s) (he : ∀ s, J (l.length : Int) s = f [] s) (s : σ) :
    J 0 s = f l s := by
  have key : ∀ (q pre : List α), pre ++ q = l → ∀ s, J (pre.length : Int) s = f q s := by
    intro q
    induction q with
    | nil => intro pre h s; simp at h; subst h; exact he s
    | cons a q ih =>
      intro pre h s
      refine hs pre a q s h (fun s' => ?_)
      have := ih (pre ++ [a]) (by simpa using h) s'
      rw [List.length_append, List.length_singleton] at this
      exact this
  exact key l [] rfl s
end
theorem mem_mid {α : Type} {pre q l : List α} {a : α} (h : pre ++ a :: q = l) : a ∈ l := by rw [← h]; simp
theorem len_mid {α : Type} {pre q l : List α} {a : α} (h : pre ++ a :: q = l) : pre.length < l.length := by rw [← h]; simp
theorem oat_mid {α R : Type} {sh : List LS} {g : α → LS.Ts sh} {pre q l : List α} {a : α} (h : pre ++ a :: q = l) (hs : LS.alld sh = true) {f : LS.Ts sh → Option R} : oat sh (sl g l).1 (sl g l).2 (pre.length : Int) f = f (g a) := by
  rw [← h]; exact oat_at hs
theorem oat_hd {α R : Type} {sh : List LS} {g : α → LS.Ts sh} {q : List α} {a : α} (hs : LS.alld sh = true) {f : LS.Ts sh → Option R} : oat sh (sl g (a :: q)).1 (sl g (a :: q)).2 0 f = f (g a) := oat_at (p := []) hs
theorem resB {b c : Bool} {M : Mem} (h : b = c) : (some (V.d (.bool b), M) : Res) = some (V.d (.bool c), M) := by rw [h]
theorem resI {b c : Int} {M : Mem} (h : b = c) : (some (V.d (.int .i64 b), M) : Res) = some (V.d (.int .i64 c), M) := by rw [h]
theorem oite_bool {R : Type} {b : Bool} {x y : Option R} : oite b x y = if b = true then x else y := oite_if
theorem oite_nbool {R : Type} {b : Bool} {x y : Option R} : oite (!b) x y = if b = true then y else x := by rw [oite_not, oite_if]
end Go.Ev.Q

/-
  When a type is right, weighed by both; when it is a low one.
-/
namespace Go.Ev
open Go Go.Ev.Q

/-- A type's head is right. -/
abbrev headOk (k n : Int) (len : Nat) : Prop :=
  ((k = 0 ∨ k = 1 ∨ k = 2) ∧ len = 0 ∧ n = 0) ∨ ((k = 3 ∨ k = 4) ∧ len = 2 ∧ n = 0) ∨ (k = 5 ∧ len = 1 ∧ n = 0) ∨ (k = 6 ∧ len ≤ 3 ∧ 0 ≤ n ∧ n ≤ 19) ∨ (k = 7 ∧ len = 0 ∧ 0 ≤ n ∧ n ≤ 99999)

mutual
def Ty.meas : Ty → Nat → Nat
  | .mk k n l, d => if 10 < d ∨ ¬ headOk k n l.length then 61 else Ty.meass l (d + 1) 1
def Ty.meass : List Ty → Nat → Nat → Nat
  | [], _, acc => acc
  | a :: l, d, acc => if 60 < acc + Ty.meas a d then 61 else Ty.meass l d (acc + Ty.meas a d)
end
mutual
theorem Ty.meas_le : ∀ (t : Ty) (d : Nat), Ty.meas t d ≤ 61
  | .mk k n l, d => by
    rw [Ty.meas]
    split
    · omega
    · exact Ty.meass_le l (d + 1) 1 (by omega)
theorem Ty.meass_le : ∀ (l : List Ty) (d acc : Nat), acc ≤ 61 → Ty.meass l d acc ≤ 61
  | [], d, acc, h => by rw [Ty.meass]; exact h
  | a :: l, d, acc, h => by
    rw [Ty.meass]
    split
    · omega
    · exact Ty.meass_le l d _ (by omega)
end
mutual
theorem Ty.meas_pos : ∀ (t : Ty) (d : Nat), 1 ≤ Ty.meas t d
  | .mk k n l, d => by
    rw [Ty.meas]
    split
    · omega
    · exact Ty.meass_pos l (d + 1) 1 (by omega)
theorem Ty.meass_pos : ∀ (l : List Ty) (d acc : Nat), 1 ≤ acc → 1 ≤ Ty.meass l d acc
  | [], d, acc, h => by rw [Ty.meass]; exact h
  | a :: l, d, acc, h => by
    rw [Ty.meass]
    split
    · omega
    · exact Ty.meass_pos l d _ (by omega)
end
def Ty.okB (t : Ty) : Bool := decide (Ty.meas t 1 ≤ 60)

/-- What a low type may name. -/
def lowHead (k n : Int) (len : Nat) (m : Nat) : Bool := !(decide (k = 7) || (decide (k = 6) && (decide (0 < len) || decide ((m : Int) ≤ n))))
mutual
def Ty.low : Ty → Nat → Bool
  | .mk k n l, m => lowHead k n l.length m && Ty.lows l m
def Ty.lows : List Ty → Nat → Bool
  | [], _ => true
  | a :: l, m => Ty.low a m && Ty.lows l m
end
theorem Ty.lows_all : ∀ (l : List Ty) (m : Nat), Ty.lows l m = l.all fun a => Ty.low a m
  | [], _ => by rw [Ty.lows]; rfl
  | a :: l, m => by rw [Ty.lows, Ty.lows_all l m]; rfl
theorem Ty.low_mk {k n : Int} {l : List Ty} {m : Nat} : Ty.low (.mk k n l) m = (lowHead k n l.length m && l.all fun a => Ty.low a m) := by rw [Ty.low, Ty.lows_all]
def Ty.lowOk (t : Ty) (m : Nat) : Bool := t.okB && t.low m
end Go.Ev

/-
  Both sides weigh a type alike.
-/
namespace Go.Ev.Q
open Go Go.Ev

abbrev rB (b : Bool) : Res := some (.d (.bool b), [])
abbrev rI (n : Int) : Res := some (.d (.int .i64 n), [])
theorem oite_rB {b c : Bool} : oite b (rB false) (rB c) = rB (!b && c) := by cases b <;> simp [oite_t, oite_f]
theorem oite_rB' {b c : Bool} : oite b (rB c) (rB false) = rB (b && c) := by cases b <;> simp [oite_t, oite_f]
theorem if_rB {p : Prop} [Decidable p] {c : Bool} : (if p then rB c else rB false) = rB (decide p && c) := by split <;> simp [*]
theorem loopB {α : Type} {J : Int → Res} {l : List α} {p : α → Bool} {c : Bool} (hs : ∀ pre a q, pre ++ a :: q = l → J (pre.length : Int) = if p a = true then J ((pre.length + 1 : Nat) : Int) else rB false) (he : J (l.length : Int) = rB c) :
    J 0 = rB (l.all p && c) := by
  rw [loop_all hs he]
  cases l.all p <;> simp
/-- The place of the first element that is not as wanted. -/
theorem index_all {α : Type} {J : Int → Res} {l : List α} {p : α → Bool} {Mm : Mem} (hs : ∀ pre a q, pre ++ a :: q = l → J (pre.length : Int) = if p a = true then J ((pre.length + 1 : Nat) : Int) else some (.d (.int .i64 (pre.length : Int)), Mm)) (he : J (l.length : Int) = some (.d (.int .i64 (-1)), Mm)) :
    ∃ k : Int, J 0 = some (.d (.int .i64 k), Mm) ∧ decide (k ≥ 0) = !(l.all p) := by
  have key : ∀ (q pre : List α), pre ++ q = l → ∃ k : Int, J (pre.length : Int) = some (.d (.int .i64 k), Mm) ∧ decide (k ≥ 0) = !(q.all p) := by
    intro q
    induction q with
    | nil => intro pre h; simp at h; subst h; exact ⟨-1, he, by simp⟩
    | cons a q ih =>
      intro pre h
      rw [hs pre a q h]
      by_cases hp : p a = true
      · obtain ⟨k, h1, h2⟩ := ih (pre ++ [a]) (by simpa using h)
        rw [List.length_append, List.length_singleton] at h1
        exact ⟨k, by rw [if_pos hp, h1], by simp [hp, h2]⟩
      · exact ⟨pre.length, by rw [if_neg hp], by simp [hp]⟩
  exact key l [] rfl

theorem within_ok (x a b : Int) : impl_within x a b = rB (decide (a ≤ x ∧ x ≤ b)) := by
  rw [impl_within_eq, oite_rB']
  rw [← Bool.decide_and]

theorem argsOf_ok (k : Int) : impl_argsOf k = rI (if k = 0 ∨ k = 1 ∨ k = 2 ∨ k = 7 then 0 else if k = 3 ∨ k = 4 then 2 else if k = 5 then 1 else if k = 6 then -1 else -2) := by
  have e1 : ∀ k b, impl_argsOf_j1 k b = rI (if b = true then 0 else if k = 3 ∨ k = 4 then 2 else if k = 5 then 1 else if k = 6 then -1 else -2) := by
    intro k b
    rw [impl_argsOf_j1_eq]
    simp only [impl_argsOf_j2_eq, oite_if, beq_iff_eq]
    repeat' split
    all_goals first | rfl | (exfalso; simp_all; done) | (simp_all; done) | omega
  rw [impl_argsOf_eq]
  simp only [e1, oite_if, beq_iff_eq]
  repeat' split
  all_goals first | rfl | (exfalso; omega) | omega

/-- Two ways that end in truth values. -/
theorem resP {b c : Bool} (h : b = true ↔ c = true) : rB b = rB c := by rw [Bool.eq_iff_iff.2 h]
theorem headOk_ok (k n : Int) (l : List Ty) : impl_headOk (k, n, tys l, ()) = rB (decide (headOk k n l.length)) := by
  have key : ∀ c : Int, impl_argsOf k = rI c → ((c = -1 ↔ k = 6) ∧ (c ≠ -1 → c = l.length → (k ≠ 6)) ∧ ((k = 0 ∨ k = 1 ∨ k = 2 ∨ k = 7) → c = 0) ∧ ((k = 3 ∨ k = 4) → c = 2) ∧ (k = 5 → c = 1) ∧ ((k < 0 ∨ 7 < k) → c = -2)) → impl_headOk (k, n, tys l, ()) = rB (decide (headOk k n l.length)) := by
    intro c hc hk
    rw [impl_headOk_eq]
    simp only [hc, ocall_int]
    simp only [impl_headOk_j2_eq, impl_headOk_j1_eq, within_ok, ocall_bool, show (tys l).1 = l.length from rfl, oite_if, Bool.not_eq_true', beq_iff_eq, beq_eq_false_iff_ne, decide_eq_true_eq, ne_eq]
    simp only [reduceIte, Bool.false_eq_true]
    unfold headOk
    obtain ⟨k1, k2, k3, k4, k5, k6⟩ := hk
    repeat' split
    all_goals
      refine resP ?_
      simp only [decide_eq_true_eq, beq_iff_eq, Bool.false_eq_true, false_iff]
      first | omega | (simp only [*] at *; omega)
  refine key _ (argsOf_ok k) ?_
  repeat' split
  all_goals omega
end Go.Ev.Q

/-
  Both sides weigh a type alike: the weight.
-/
namespace Go.Ev.Q
open Go Go.Ev

theorem measure_ok (t : Ty) : t.size ≤ 2000000 → ∀ d : Nat, d ≤ 11 → impl_measure t.ts d = rI (Ty.meas t d : Nat) := by
  induction t using Ty.ind with
  | h k n l ih =>
    intro hs d hd
    rw [Ty.size_mk] at hs
    rw [impl_measure_eq, Ty.ts_mk, Ty.meas]
    simp only [headOk_ok, ocall_bool, impl_measure_j2_eq, oite_t, oite_nbool, decide_eq_true_eq, oite_dec, impl_measure_j1_eq]
    by_cases h1 : 10 < d
    · rw [if_pos (by omega), if_pos (.inl h1)]; rfl
    · rw [if_neg (by omega)]
      by_cases h2 : headOk k n l.length
      · rw [if_pos h2, if_neg (by rintro (h | h); exact h1 h; exact h h2)]
        have key : ∀ (q pre : List Ty) (acc : Nat), pre ++ q = l → acc ≤ 60 → impl_measure_j3 (pre.length : Int) d acc (tys l) (((tys l).1 : Nat) : Int) = rI (Ty.meass q (d + 1) acc : Nat) := by
          intro q
          induction q with
          | nil =>
            intro pre acc hp ha
            rw [impl_measure_j3_eq, oite_dec, if_neg (by rw [← hp]; simp [tys, sl]), Ty.meass]
          | cons a q ihq =>
            intro pre acc hp ha
            have hm := mem_mid hp
            have hlt := len_mid hp
            have hsz := sizes_mem (f := Ty.size) hm
            rw [impl_measure_j3_eq, oite_dec, if_pos (show (pre.length : Int) < ((tys l).1 : Nat) by show (pre.length : Int) < (l.length : Nat); omega), show tys l = sl (sh := sh_Ty) Ty.ts l from rfl, oat_mid hp rfl, w64_id (x := (d : Int) + 1) (by omega) (by omega)]
            have e := ih a hm (by omega) (d + 1) (by omega)
            rw [show ((d : Int) + 1) = ((d + 1 : Nat) : Int) by omega, e, ocall_int, oite_dec, Ty.meass]
            have hle := Ty.meas_le a (d + 1)
            rw [w64_id (by omega) (by omega), w64_id (by omega) (by omega)]
            by_cases h3 : 60 < acc + Ty.meas a (d + 1)
            · rw [if_pos (by omega), if_pos h3]; rfl
            · rw [if_neg (by omega), if_neg h3]
              have := ihq (pre ++ [a]) (acc + Ty.meas a (d + 1)) (by simpa using hp) (by omega)
              rw [List.length_append, List.length_singleton] at this
              exact this
        exact key l [] 1 rfl (by omega)
      · rw [if_neg h2, if_pos (.inr h2)]; rfl
theorem TyOk_ok (t : Ty) (hs : t.size ≤ 2000000) : impl_TyOk t.ts = rB t.okB := by
  rw [impl_TyOk_eq, show (1 : Int) = ((1 : Nat) : Int) from rfl, measure_ok t hs 1 (by omega), ocall_int]
  refine resP ?_
  unfold Ty.okB
  simp only [decide_eq_true_eq]
  omega

theorem l3ok_ok (t : Ty) : t.size ≤ 2000000 → ∀ d : Nat, d ≤ 11 → spec_l3ok t.ts d = rI (if Ty.meas t d ≤ 60 then (Ty.meas t d : Int) else -1) := by
  induction t using Ty.ind with
  | h k n l ih =>
    intro hs d hd
    rw [Ty.size_mk] at hs
    have loop : d ≤ 10 → spec_l3ok_j6 0 1 d (k, n, tys l, ()) = rI (if Ty.meass l (d + 1) 1 ≤ 60 then (Ty.meass l (d + 1) 1 : Int) else -1) := by
      intro hd
      have key : ∀ (q pre : List Ty) (acc : Nat), pre ++ q = l → acc ≤ 60 → spec_l3ok_j6 (pre.length : Int) acc d (k, n, tys l, ()) = rI (if Ty.meass q (d + 1) acc ≤ 60 then (Ty.meass q (d + 1) acc : Int) else -1) := by
        intro q
        induction q with
        | nil =>
          intro pre acc hp ha
          rw [spec_l3ok_j6_eq, oite_dec, if_neg (by rw [← hp]; simp [tys, sl]), Ty.meass, if_pos ha]
        | cons a q ihq =>
          intro pre acc hp ha
          have hm := mem_mid hp
          have hlt := len_mid hp
          have hsz := sizes_mem (f := Ty.size) hm
          rw [spec_l3ok_j6_eq, oite_dec, if_pos (show (pre.length : Int) < ((tys l).1 : Nat) by show (pre.length : Int) < (l.length : Nat); omega)]
          simp only
          rw [show tys l = sl (sh := sh_Ty) Ty.ts l from rfl, oat_mid hp rfl, w64_id (x := (d : Int) + 1) (by omega) (by omega)]
          have e := ih a hm (by omega) (d + 1) (by omega)
          rw [show ((d : Int) + 1) = ((d + 1 : Nat) : Int) by omega, e, ocall_int, oite_dec, oite_dec, Ty.meass]
          have hle := Ty.meas_le a (d + 1)
          have hpos := Ty.meas_pos a (d + 1)
          by_cases h4 : Ty.meas a (d + 1) ≤ 60
          · simp only [if_pos h4]
            rw [if_neg (by omega), w64_id (by omega) (by omega), w64_id (by omega) (by omega)]
            by_cases h3 : 60 < acc + Ty.meas a (d + 1)
            · rw [if_pos (by omega), if_pos h3]; rfl
            · rw [if_neg (by omega), if_neg h3]
              have := ihq (pre ++ [a]) (acc + Ty.meas a (d + 1)) (by simpa using hp) (by omega)
              rw [List.length_append, List.length_singleton] at this
              exact this
          · simp only [if_neg h4]
            rw [if_pos (by decide), if_pos (show 60 < acc + Ty.meas a (d + 1) by omega)]; rfl
      exact key l [] 1 rfl (by omega)
    have j1 : ∀ mx w : Int, d ≤ 10 → spec_l3ok_j1 d mx w (k, n, tys l, ()) = if (l.length : Int) = w ∧ 0 ≤ n ∧ n ≤ mx then rI (if Ty.meass l (d + 1) 1 ≤ 60 then (Ty.meass l (d + 1) 1 : Int) else -1) else rI (-1) := by
      intro mx w hd
      rw [spec_l3ok_j1_eq]
      simp only [spec_l3ok_j5_eq, spec_l3ok_j4_eq, loop hd, oite_if, Bool.not_eq_true', beq_eq_false_iff_ne, ne_eq, decide_eq_true_eq, reduceIte, show (tys l).1 = l.length from rfl]
      repeat' split
      all_goals first | rfl | (exfalso; omega) | (exfalso; simp_all)
    rw [spec_l3ok_eq, Ty.ts_mk]
    simp only [spec_l3ok_j2_eq, spec_l3ok_j3_eq]
    by_cases h1 : 10 < d
    · have hM : Ty.meas (.mk k n l) d = 61 := by rw [Ty.meas, if_pos (.inl h1)]
      rw [oite_dec, if_pos (by omega), hM]; rfl
    · simp only [j1 _ _ (show d ≤ 10 by omega)]
      rw [oite_dec, if_neg (by omega)]
      by_cases h2 : headOk k n l.length
      · have hM : Ty.meas (.mk k n l) d = Ty.meass l (d + 1) 1 := by rw [Ty.meas, if_neg (by rintro (h | h); exact h1 h; exact h h2)]
        rw [hM]
        unfold headOk at h2
        simp only [oite_if, beq_iff_eq, decide_eq_true_eq, show (tys l).1 = l.length from rfl]
        generalize Ty.meass l (d + 1) 1 = X
        rcases h2 with ⟨(rfl | rfl | rfl), hl, hn⟩ | ⟨(rfl | rfl), hl, hn⟩ | ⟨rfl, hl, hn⟩ | ⟨rfl, hl, hn, hn'⟩ | ⟨rfl, hl, hn, hn'⟩
        all_goals
          simp only [Int.reduceEq, reduceIte, true_and]
          first
            | rw [if_pos (by omega)]
            | rw [if_neg (by omega), if_pos (by omega)]
      · have hM : Ty.meas (.mk k n l) d = 61 := by rw [Ty.meas, if_pos (.inr h2)]
        rw [hM]
        unfold headOk at h2
        simp only [oite_if, beq_iff_eq, decide_eq_true_eq, show (tys l).1 = l.length from rfl]
        generalize Ty.meass l (d + 1) 1 = X
        rcases (by omega : k = 0 ∨ k = 1 ∨ k = 2 ∨ k = 3 ∨ k = 4 ∨ k = 5 ∨ k = 6 ∨ k = 7 ∨ (k < 0 ∨ 7 < k)) with rfl | rfl | rfl | rfl | rfl | rfl | rfl | rfl | h
        all_goals first
          | (simp only [Int.reduceEq, reduceIte, true_and]
             first
              | (rw [if_neg (by omega)]; rfl)
              | (split
                 · rfl
                 · rw [if_neg (by omega)]; rfl))
          | (rw [if_neg (show ¬ k = 0 by omega), if_neg (show ¬ k = 1 by omega), if_neg (show ¬ k = 2 by omega), if_neg (show ¬ k = 3 by omega), if_neg (show ¬ k = 4 by omega), if_neg (show ¬ k = 5 by omega), if_neg (show ¬ k = 6 by omega), if_neg (show ¬ k = 7 by omega)]; rfl)
theorem spec_TyOk_ok (t : Ty) (hs : t.size ≤ 2000000) : spec_TyOk t.ts = rB t.okB := by
  rw [spec_TyOk_eq, show (1 : Int) = ((1 : Nat) : Int) from rfl, l3ok_ok t hs 1 (by omega), ocall_int]
  refine resP ?_
  have hpos := Ty.meas_pos t 1
  unfold Ty.okB
  simp only [decide_eq_true_eq]
  split <;> omega
end Go.Ev.Q
