/- What the laws' helpers on types come to, and the program's and the reference's measure of a type. -/
import Derived.Test.YtmbacnnbpnlekaaB
import Derived.Test.YtmbacnnbpnlekaaM3
import Derived.Test.YtmbacnnbpnlekaaE0
import Derived.Test.YtmbacnnbpnlekaaPDx0
import Derived.Test.YtmbacnnbpnlekaaPDx1
import Derived.Test.YtmbacnnbpnlekaaPDx3
import Derived.Test.YtmbacnnbpnlekaaPDx4
import Derived.Test.YtmbacnnbpnlekaaPDx8
import Derived.Test.YtmbacnnbpnlekaaPDx10
import Derived.Test.YtmbacnnbpnlekaaPDx11
import Derived.Test.YtmbacnnbpnlekaaPDx12
import Derived.Test.YtmbacnnbpnlekaaPDx15
import Derived.Test.YtmbacnnbpnlekaaPDR
namespace Go.Proofs.Ytmbacnnbpnlekaa.E
open Go Go.RowKit Go.Proofs.Ytmbacnnbpnlekaa.PD Go.Proofs.Ytmbacnnbpnlekaa.M Go.Proofs.YtmbacnnbpnlekaaW.PrintWords Go.Proofs.YtmbacnnbpnlekaaW.PrintLast Go.Proofs.YtmbacnnbpnlekaaW.PrintMore

theorem rdL (p t : List TL) (a : TL) : rd_T54 (p ++ a :: t) (p.length : Int) = a := by simp [rd_T54]
theorem rdT (p t : List T) (a : T) : rd_T63 (p ++ a :: t) (p.length : Int) = a := by simp [rd_T63]
theorem w1 {α : Type} (p : List α) (a : α) (h : p.length ≤ 281474976710656) : wrap64 ((p.length : Int) + 1) = ((p ++ [a]).length : Int) := by rw [w64 (by omega) (by omega)]; simp
theorem app1 {α : Type} (p t : List α) (a : α) : p ++ a :: t = p ++ [a] ++ t := by simp

theorem szTy (n : Nat) : ∀ (x : TL), Q54 n x → ∀ left : Int, 0 ≤ left → left ≤ 1048576 →
    ∃ r, Ev (fun k => laws_szTy.f k x.f0 x.f1 x.f2 left) r ∧ -1 ≤ r ∧ r ≤ left ∧ (0 ≤ r → N1 n x) := by
  induction n with
  | zero => intro x h; exact h.elim
  | succ n ih =>
    have loop : ∀ (l p : List TL) (left : Int), (∀ a ∈ l, Q54 n a) → p.length + l.length ≤ 281474976710656 → 0 ≤ left → left ≤ 1048576 →
        ∃ r, Ev (fun k => laws_szTyS.l0 k (p ++ l) left (p.length : Int)) r ∧ -1 ≤ r ∧ r ≤ left ∧ (0 ≤ r → ∀ a ∈ l, N1 n a) := by
      intro l
      induction l with
      | nil =>
        intro p left _ _ h0 h1
        refine ⟨left, Ev.at1 fun k => ?_, by omega, by omega, fun _ a h => by cases h⟩
        rw [laws_szTyS.l0, if_neg (by simp)]
      | cons a t iht =>
        intro p left hq hlen h0 h1
        rw [List.length_cons] at hlen
        obtain ⟨r1, e1, ha, hb, hn⟩ := ih a (hq a List.mem_cons_self) left h0 h1
        by_cases hr : r1 < 0
        · refine ⟨-1, Ev.step (fun k => ?_) (Ev.bind e1 (f := fun k t104 => if t104 < 0 then some (-1) else laws_szTyS.l0 k (p ++ a :: t) t104 (wrap64 ((p.length : Int) + 1))) (Ev.const fun k => ?_)), by omega, by omega, fun h => by omega⟩
          · rw [laws_szTyS.l0, if_pos (by simp; omega), if_pos (by omega), rdL]
          · rw [if_pos hr]
        · obtain ⟨r2, e2, ha2, hb2, hn2⟩ := iht (p ++ [a]) r1 (fun b hb => hq b (List.mem_cons_of_mem _ hb)) (by simp; omega) (by omega) (by omega)
          refine ⟨r2, Ev.step (fun k => ?_) (Ev.bind e1 (f := fun k t104 => if t104 < 0 then some (-1) else laws_szTyS.l0 k (p ++ a :: t) t104 (wrap64 ((p.length : Int) + 1))) (Ev.congr (fun k => ?_) e2)), ha2, by omega, fun h b hb => ?_⟩
          · rw [laws_szTyS.l0, if_pos (by simp; omega), if_pos (by omega), rdL]
          · rw [if_neg hr, w1 p a (by omega), app1 p t a]
          · rcases List.mem_cons.1 hb with h1 | h1
            · subst h1; exact hn (by omega)
            · exact hn2 h b h1
    intro x hx left h0 h1
    obtain ⟨_, _, hl, hq⟩ := hx
    simp only [maxLen] at hl
    have hw : wrap64 (left - (x.f2.length : Int)) = left - (x.f2.length : Int) := w64 (by omega) (by omega)
    by_cases hneg : left - (x.f2.length : Int) < 0
    · refine ⟨-1, Ev.step2 (fun k => ?_) (Ev.now _), by omega, by omega, fun h => by omega⟩
      rw [laws_szTy.f, laws_szTyS.f, hw, if_pos hneg, Option.bind_some, if_pos (by omega)]
    · obtain ⟨r, e, ha, hb, hn⟩ := loop x.f2 [] (left - (x.f2.length : Int)) hq (by simp; omega) (by omega) (by omega)
      have e' : Ev (fun k => laws_szTyS.f k x.f2 left) r := Ev.step (fun k => by rw [laws_szTyS.f, hw, if_neg hneg]; rfl) e
      by_cases hr : r < 0
      · refine ⟨-1, Ev.step (fun k => ?_) (Ev.bind e' (f := fun k t102 => if t102 < 0 then some (-1) else some t102) (Ev.const fun k => ?_)), by omega, by omega, fun h => by omega⟩
        · rw [laws_szTy.f]
        · rw [if_pos hr]
      · refine ⟨r, Ev.step (fun k => ?_) (Ev.bind e' (f := fun k t102 => if t102 < 0 then some (-1) else some t102) (Ev.const fun k => ?_)), ha, by omega, fun h => ⟨by omega, hn h⟩⟩
        · rw [laws_szTy.f]
        · rw [if_neg hr]

theorem toTy (n : Nat) : ∀ (x : TL), N1 n x → ∃ y : T, Ev (fun k => laws_toTy.f k x.f0 x.f1 x.f2) (y.f0, y.f1, y.f2) ∧ N2 n y := by
  induction n with
  | zero => intro x h; exact h.elim
  | succ n ih =>
    have loop : ∀ (l p : List TL) (q : List T), (∀ a ∈ l, N1 n a) → p.length = q.length → p.length + l.length ≤ 281474976710656 →
        ∃ r, Ev (fun k => laws_toTyS.l0 k (p ++ l) (q ++ List.replicate l.length z63) (p.length : Int)) (q ++ r) ∧ r.length = l.length ∧ ∀ a ∈ r, N2 n a := by
      intro l
      induction l with
      | nil =>
        intro p q _ hpq _
        refine ⟨[], Ev.at1 fun k => ?_, rfl, fun a h => by cases h⟩
        rw [laws_toTyS.l0, if_neg (by simp)]
        simp
      | cons a t iht =>
        intro p q hq hpq hlen
        rw [List.length_cons] at hlen
        obtain ⟨y, e1, hy⟩ := ih a (hq a List.mem_cons_self)
        obtain ⟨r, e2, hrl, hr⟩ := iht (p ++ [a]) (q ++ [y]) (fun b hb => hq b (List.mem_cons_of_mem _ hb)) (by simp [hpq]) (by simp; omega)
        refine ⟨y :: r, Ev.val (Ev.step (fun k => ?_) (Ev.bind e1 (f := fun k bt => if (p.length : Int) < ((q ++ List.replicate (a :: t).length z63).length : Int) then laws_toTyS.l0 k (p ++ a :: t) ((q ++ List.replicate (a :: t).length z63).set (p.length : Int).toNat (⟨bt.1, bt.2.1, bt.2.2⟩ : S63)) (wrap64 ((p.length : Int) + 1)) else none) (Ev.congr (fun k => ?_) e2))) (by simp), by simp [hrl], fun b hb => ?_⟩
        · rw [laws_toTyS.l0, if_pos (by simp; omega), if_pos (by omega), rdL]
        · rw [if_pos (by simp; omega), w1 p a (by omega), app1 p t a, Int.toNat_natCast, hpq]
          congr 1
          simp [List.replicate_succ]
          cases y
          rfl
        · rcases List.mem_cons.1 hb with h1 | h1
          · subst h1; exact hy
          · exact hr b h1
    intro x hx
    obtain ⟨hl, hq⟩ := hx
    obtain ⟨r, e, hrl, hr⟩ := loop x.f2 [] [] hq rfl (by simp; omega)
    have e' : Ev (fun k => laws_toTyS.f k x.f2) r := Ev.step (fun k => by rw [laws_toTyS.f, if_pos (by omega), if_pos (by rw [Int.toNat_natCast]; omega), Int.toNat_natCast]; rfl) e
    refine ⟨⟨x.f0, x.f1, r⟩, Ev.step (fun k => ?_) (Ev.bind e' (f := fun k t113 => some (x.f0, x.f1, t113)) (Ev.now _)), by show r.length ≤ 1048576; omega, hr⟩
    rw [laws_toTy.f]

theorem eqTy (n : Nat) : ∀ (y : T), N2 n y → Ev (fun k => laws_eqTy.f k y.f0 y.f1 y.f2 y.f0 y.f1 y.f2) true := by
  induction n with
  | zero => intro x h; exact h.elim
  | succ n ih =>
    have loop : ∀ (l p : List T), (∀ a ∈ l, N2 n a) → p.length + l.length ≤ 281474976710656 → Ev (fun k => laws_eqTyS.l0 k (p ++ l) (p ++ l) (p.length : Int)) true := by
      intro l
      induction l with
      | nil =>
        intro p _ _
        refine Ev.at1 fun k => ?_
        rw [laws_eqTyS.l0, if_neg (by simp)]
      | cons a t iht =>
        intro p hq hlen
        rw [List.length_cons] at hlen
        have e1 := ih a (hq a List.mem_cons_self)
        have e2 := iht (p ++ [a]) (fun b hb => hq b (List.mem_cons_of_mem _ hb)) (by simp; omega)
        refine Ev.step (fun k => ?_) (Ev.bind e1 (f := fun k t142 => if t142 = true then laws_eqTyS.l0 k (p ++ a :: t) (p ++ a :: t) (wrap64 ((p.length : Int) + 1)) else some false) (Ev.congr (fun k => ?_) e2))
        · rw [laws_eqTyS.l0, if_pos (by simp; omega), if_pos (by omega), if_pos (by simp; omega), rdT]
        · rw [if_pos rfl, w1 p a (by omega), app1 p t a]
    intro y hy
    obtain ⟨hl, hq⟩ := hy
    have e := loop y.f2 [] hq (by simp; omega)
    have e' : Ev (fun k => laws_eqTyS.f k y.f2 y.f2) true := Ev.step (fun k => by rw [laws_eqTyS.f, if_pos rfl]; rfl) e
    refine Ev.step (fun k => ?_) (Ev.bind e' (f := fun k t139 => if t139 = true then some true else some false) (Ev.const fun k => ?_))
    · rw [laws_eqTy.f, if_pos rfl, if_pos rfl]
    · rw [if_pos rfl]

theorem argsOf (a : Int) : Ev (fun k => impl_argsOf.f k a) (argsN a) := by
  refine ⟨2, fun k hk => ?_⟩
  obtain ⟨k, rfl⟩ : ∃ m, k = m + 1 + 1 := ⟨k - 2, by omega⟩
  show impl_argsOf.f (k + 1 + 1) a = _
  by_cases h0 : a = 0
  · subst h0; rfl
  by_cases h1 : a = 1
  · subst h1; rfl
  by_cases h2 : a = 2
  · subst h2; rfl
  by_cases h3 : a = 3
  · subst h3; rfl
  by_cases h4 : a = 4
  · subst h4; rfl
  by_cases h5 : a = 5
  · subst h5; rfl
  by_cases h6 : a = 6
  · subst h6; rfl
  by_cases h7 : a = 7
  · subst h7; rfl
  have g4 : (a == 4) = false := by simp [h4]
  have g7 : (a == 7) = false := by simp [h7]
  unfold impl_argsOf.f argsN
  rw [if_neg h0, if_neg h1, if_neg h2, g7, impl_argsOf.j0, if_neg (by decide), if_neg h3, g4, impl_argsOf.j1, if_neg (by decide), if_neg h5, if_neg h6, if_neg (by omega), if_neg (by omega), if_neg h5, if_neg h6]

theorem headOk_j (t : T) (k : Nat) : impl_headOk.j0 (k + 1) false t.f0 t.f1 t.f2 = some (numB t.f0 t.f1) ∧ impl_headOk.j0 (k + 1) true t.f0 t.f1 t.f2 = some false := by
  constructor
  · rw [impl_headOk.j0, if_neg (by decide)]
    unfold numB
    by_cases h6 : t.f0 = 6
    · rw [if_pos h6, if_pos h6, within, Option.bind_some]
    · rw [if_neg h6, if_neg h6]
      by_cases h7 : t.f0 = 7
      · rw [if_pos h7, if_pos h7, within, Option.bind_some]
      · rw [if_neg h7, if_neg h7]
        rfl
  · rw [impl_headOk.j0, if_pos rfl]

theorem headOk (t : T) : Ev (fun k => impl_headOk.f k t.f0 t.f1 t.f2) (headB t) := by
  obtain ⟨K, h⟩ := argsOf t.f0
  refine ⟨K + 1, fun k hk => ?_⟩
  obtain ⟨k, rfl⟩ : ∃ m, k = m + 1 := ⟨k - 1, by omega⟩
  show impl_headOk.f (k + 1) t.f0 t.f1 t.f2 = _
  have h' := h (k + 1) (by omega)
  dsimp only at h'
  obtain ⟨j1, j2⟩ := headOk_j t k
  rw [impl_headOk.f, h', Option.bind_some]
  unfold headB manyB
  by_cases c : argsN t.f0 = -1
  · rw [if_pos c, if_pos c]
    by_cases c2 : (t.f2.length : Int) > 3
    · rw [if_pos c2, j2, decide_eq_false (by omega)]
      rfl
    · rw [if_neg c2, j1, decide_eq_true (by omega)]
      simp
  · rw [if_neg c, if_neg c]
    by_cases c2 : argsN t.f0 = (t.f2.length : Int)
    · have : (argsN t.f0 != (t.f2.length : Int)) = false := by simp [c2]
      rw [this, j1, decide_eq_true c2]
      simp
    · have : (argsN t.f0 != (t.f2.length : Int)) = true := by simp [c2]
      rw [this, j2, decide_eq_false c2]
      rfl

theorem impl_measure (d : Nat) : ∀ (t : T) (a : Int), a + d = 11 → 1 ≤ a → Ev (fun k => impl_measure.f k t.f0 t.f1 t.f2 a) (meas d t) := by
  induction d with
  | zero =>
    intro t a ha _
    refine Ev.at2 fun k => ?_
    rw [impl_measure.f, if_pos (by omega), impl_measure.j0, if_pos rfl]
    rfl
  | succ d ih =>
    have loop : ∀ (a : Int), a + (d + 1 : Nat) = 11 → 1 ≤ a → ∀ (l p : List T) (s : Int), p.length + l.length ≤ 281474976710656 → 1 ≤ s → s ≤ 60 →
        Ev (fun k => impl_measure.l0 k a s (p ++ l) ((p ++ l).length : Int) (p.length : Int)) (measL (meas d) l s) := by
      intro a ha ha1 l
      induction l with
      | nil =>
        intro p s _ _ _
        refine Ev.at1 fun k => ?_
        rw [impl_measure.l0, if_neg (by simp)]
        rfl
      | cons b t iht =>
        intro p s hlen hs0 hs1
        rw [List.length_cons] at hlen
        have e1 := ih b (a + 1) (by omega) (by omega)
        have hb := meas_le d b
        have hw : wrap64 (s + meas d b) = s + meas d b := w64 (by omega) (by omega)
        have hwa : wrap64 (a + 1) = a + 1 := w64 (by omega) (by omega)
        unfold measL
        by_cases c : s + meas d b > 60
        · rw [if_pos c]
          refine Ev.step (fun k => ?_) (Ev.bind e1 (f := fun k x => if wrap64 (s + x) > 60 then some 61 else impl_measure.l0 k a (wrap64 (s + x)) (p ++ b :: t) ((p ++ b :: t).length : Int) (wrap64 ((p.length : Int) + 1))) (Ev.const fun k => ?_))
          · rw [impl_measure.l0, if_pos (by simp; omega), if_pos (by omega), if_pos (by simp; omega), rdT, hwa]
          · rw [hw, if_pos c]
        · rw [if_neg c]
          refine Ev.step (fun k => ?_) (Ev.bind e1 (f := fun k x => if wrap64 (s + x) > 60 then some 61 else impl_measure.l0 k a (wrap64 (s + x)) (p ++ b :: t) ((p ++ b :: t).length : Int) (wrap64 ((p.length : Int) + 1))) (Ev.congr (fun k => ?_) (iht (p ++ [b]) (s + meas d b) (by simp; omega) (by omega) (by omega))))
          · rw [impl_measure.l0, if_pos (by simp; omega), if_pos (by omega), if_pos (by simp; omega), rdT, hwa]
          · rw [hw, if_neg c, w1 p b (by omega), app1 p t b]
    intro t a ha ha1
    obtain ⟨K, h⟩ := headOk t
    by_cases c : headB t = true
    · have hl := headB_len c
      obtain ⟨K2, e⟩ := loop a ha ha1 t.f2 [] 1 (by simp; omega) (by omega) (by omega)
      refine ⟨K + K2 + 2, fun k hk => ?_⟩
      obtain ⟨k, rfl⟩ : ∃ m, k = m + 1 + 1 := ⟨k - 2, by omega⟩
      have h' := h (k + 1) (by omega)
      have e' := e k (by omega)
      dsimp only [List.nil_append, List.length_nil] at h' e'
      show impl_measure.f (k + 1 + 1) t.f0 t.f1 t.f2 a = _
      rw [impl_measure.f, if_neg (by omega), h', Option.bind_some, c, impl_measure.j0, if_neg (by decide), meas, if_pos c]
      exact e'
    · refine ⟨K + 2, fun k hk => ?_⟩
      obtain ⟨k, rfl⟩ : ∃ m, k = m + 1 + 1 := ⟨k - 2, by omega⟩
      have h' := h (k + 1) (by omega)
      dsimp only at h'
      show impl_measure.f (k + 1 + 1) t.f0 t.f1 t.f2 a = _
      have c' : headB t = false := by simpa using c
      rw [impl_measure.f, if_neg (by omega), h', Option.bind_some, c', impl_measure.j0, if_pos (by decide), meas, if_neg (by rw [c']; decide)]

section
variable (t : T) (a r : Int)

theorem l3ok_j3 (b : Bool) (hL : b = false → Ev (fun k => spec_l3ok.l0 k a 1 0 t.f0 t.f1 t.f2) r) (hr : b = true → r = -1) : Ev (fun k => spec_l3ok.j3 k a b t.f0 t.f1 t.f2) r := by
  cases b with
  | true =>
    rw [hr rfl]
    refine Ev.at1 fun k => ?_
    rw [spec_l3ok.j3, if_pos rfl]
  | false =>
    refine Ev.step (fun k => ?_) (hL rfl)
    rw [spec_l3ok.j3, if_neg (by decide)]

theorem l3ok_j2 (want most : Int) (hL : (t.f2.length : Int) = want → 0 ≤ t.f1 → t.f1 ≤ most → Ev (fun k => spec_l3ok.l0 k a 1 0 t.f0 t.f1 t.f2) r) (hr : ¬ ((t.f2.length : Int) = want ∧ 0 ≤ t.f1 ∧ t.f1 ≤ most) → r = -1) :
    Ev (fun k => spec_l3ok.j2 k a want most t.f0 t.f1 t.f2) r := by
  by_cases c1 : (t.f2.length : Int) = want
  · by_cases c2 : t.f1 < 0
    · refine Ev.step (fun k => ?_) (l3ok_j3 t a r true (fun h => by cases h) (fun _ => hr (by omega)))
      rw [spec_l3ok.j2, if_pos c1, if_pos c2]
    · refine Ev.step (fun k => ?_) (l3ok_j3 t a r (decide (t.f1 > most)) (fun h => hL c1 (by omega) (by simpa using h)) (fun h => hr (by have := of_decide_eq_true h; omega)))
      rw [spec_l3ok.j2, if_pos c1, if_neg c2]
  · refine Ev.step (fun k => ?_) (l3ok_j3 t a r true (fun h => by cases h) (fun _ => hr (fun h => c1 h.1)))
    rw [spec_l3ok.j2, if_neg c1]

theorem l3ok_head (ha : ¬ a > 10) (hL : headB t = true → Ev (fun k => spec_l3ok.l0 k a 1 0 t.f0 t.f1 t.f2) r) (hr : headB t = false → r = -1) : Ev (fun k => spec_l3ok.f k t.f0 t.f1 t.f2 a) r := by
  have hf : ∀ k, spec_l3ok.f (k + 1) t.f0 t.f1 t.f2 a = if t.f0 = 0 then (spec_l3ok.j0 k a 0 0 t.f0 (t.f0 == 0) t.f0 t.f1 t.f2) else (if t.f0 = 1 then (spec_l3ok.j0 k a 0 0 t.f0 (t.f0 == 1) t.f0 t.f1 t.f2) else (spec_l3ok.j0 k a 0 0 t.f0 (t.f0 == 2) t.f0 t.f1 t.f2)) := fun k => by rw [spec_l3ok.f, if_neg ha]
  obtain ⟨x, y, l⟩ := t
  have go : ∀ want most : Int, (headB ⟨x, y, l⟩ = decide ((l.length : Int) = want ∧ 0 ≤ y ∧ y ≤ most)) → Ev (fun k => spec_l3ok.j2 k a want most x y l) r := fun want most h =>
    l3ok_j2 ⟨x, y, l⟩ a r want most (fun h1 h2 h3 => hL (by rw [h]; exact decide_eq_true ⟨h1, h2, h3⟩)) (fun h1 => hr (by rw [h]; exact decide_eq_false h1))
  by_cases h0 : x = 0
  · subst h0
    refine Ev.step2 (fun k => by rw [hf]; rfl) (go 0 0 ?_)
    have e : headB ⟨0, y, l⟩ = (decide ((0 : Int) = l.length) && decide (y = 0)) := rfl
    rw [e, ← Bool.decide_and]
    exact decide_eq_decide.2 (by omega)
  by_cases h1 : x = 1
  · subst h1
    refine Ev.step2 (fun k => by rw [hf]; rfl) (go 0 0 ?_)
    have e : headB ⟨1, y, l⟩ = (decide ((0 : Int) = l.length) && decide (y = 0)) := rfl
    rw [e, ← Bool.decide_and]
    exact decide_eq_decide.2 (by omega)
  by_cases h2 : x = 2
  · subst h2
    refine Ev.step2 (fun k => by rw [hf]; rfl) (go 0 0 ?_)
    have e : headB ⟨2, y, l⟩ = (decide ((0 : Int) = l.length) && decide (y = 0)) := rfl
    rw [e, ← Bool.decide_and]
    exact decide_eq_decide.2 (by omega)
  by_cases h3 : x = 3
  · subst h3
    refine Ev.step2 (fun k => by rw [hf]) (Ev.step (f := fun k => spec_l3ok.j2 k a 2 0 3 y l) (fun k => rfl) (go 2 0 ?_))
    have e : headB ⟨3, y, l⟩ = (decide ((2 : Int) = l.length) && decide (y = 0)) := rfl
    rw [e, ← Bool.decide_and]
    exact decide_eq_decide.2 (by omega)
  by_cases h4 : x = 4
  · subst h4
    refine Ev.step2 (fun k => by rw [hf]) (Ev.step (f := fun k => spec_l3ok.j2 k a 2 0 4 y l) (fun k => rfl) (go 2 0 ?_))
    have e : headB ⟨4, y, l⟩ = (decide ((2 : Int) = l.length) && decide (y = 0)) := rfl
    rw [e, ← Bool.decide_and]
    exact decide_eq_decide.2 (by omega)
  by_cases h5 : x = 5
  · subst h5
    refine Ev.step2 (fun k => by rw [hf]) (Ev.step (f := fun k => spec_l3ok.j2 k a 1 0 5 y l) (fun k => rfl) (go 1 0 ?_))
    have e : headB ⟨5, y, l⟩ = (decide ((1 : Int) = l.length) && decide (y = 0)) := rfl
    rw [e, ← Bool.decide_and]
    exact decide_eq_decide.2 (by omega)
  by_cases h6 : x = 6
  · subst h6
    have e : headB ⟨6, y, l⟩ = (decide (l.length ≤ 3) && decide (0 ≤ y ∧ y ≤ 19)) := rfl
    by_cases hl : (l.length : Int) > 3
    · have hb : headB ⟨6, y, l⟩ = false := by rw [e, decide_eq_false (by omega)]; rfl
      rw [hr hb]
      refine Ev.step2 (f := fun k => spec_l3ok.j1 k a 0 0 6 false 6 y l) (fun k => by rw [hf]; rfl) (Ev.at1 fun k => ?_)
      rw [spec_l3ok.j1, if_neg (by decide), if_neg (by decide), if_pos rfl, if_pos hl]
    · refine Ev.step2 (f := fun k => spec_l3ok.j1 k a 0 0 6 false 6 y l) (fun k => by rw [hf]; rfl) (Ev.step (f := fun k => spec_l3ok.j2 k a (l.length : Int) 19 6 y l) (fun k => ?_) (go (l.length : Int) 19 ?_))
      · rw [spec_l3ok.j1, if_neg (by decide), if_neg (by decide), if_pos rfl, if_neg hl]
      · rw [e, ← Bool.decide_and]
        exact decide_eq_decide.2 (by omega)
  by_cases h7 : x = 7
  · subst h7
    refine Ev.step2 (fun k => by rw [hf]) (Ev.step (f := fun k => spec_l3ok.j2 k a 0 99999 7 y l) (fun k => rfl) (go 0 99999 ?_))
    have e : headB ⟨7, y, l⟩ = (decide ((0 : Int) = l.length) && decide (0 ≤ y ∧ y ≤ 99999)) := rfl
    rw [e, ← Bool.decide_and]
    exact decide_eq_decide.2 (by omega)
  · have ha2 : argsN x = -2 := by
      unfold argsN
      rw [if_neg (by omega), if_neg (by omega), if_neg h5, if_neg h6]
    have hb : headB ⟨x, y, l⟩ = false := by
      unfold headB manyB
      simp only [ha2]
      rw [if_neg (by decide), decide_eq_false (by omega)]
      rfl
    rw [hr hb]
    refine Ev.step2 (f := fun k => spec_l3ok.j1 k a 0 0 x false x y l) (fun k => ?_) (Ev.at1 fun k => ?_)
    · have g2 : (x == 2) = false := by simp [h2]
      have g4 : (x == 4) = false := by simp [h4]
      rw [hf, if_neg h0, if_neg h1, g2, spec_l3ok.j0, if_neg (by decide), if_neg h3, g4]
    · rw [spec_l3ok.j1, if_neg (by decide), if_neg h5, if_neg h6, if_neg h7]
end

def sized (m : Int) : Int := if m ≤ 60 then m else -1

theorem spec_l3ok (d : Nat) : ∀ (t : T) (a : Int), a + d = 11 → 1 ≤ a → Ev (fun k => spec_l3ok.f k t.f0 t.f1 t.f2 a) (sized (meas d t)) := by
  induction d with
  | zero =>
    intro t a ha _
    refine Ev.at1 fun k => ?_
    rw [spec_l3ok.f, if_pos (by omega)]
    rfl
  | succ d ih =>
    intro t a ha ha1
    have loop : ∀ (l p : List T) (s x y : Int), p.length + l.length ≤ 281474976710656 → 1 ≤ s → s ≤ 60 → Ev (fun k => spec_l3ok.l0 k a s (p.length : Int) x y (p ++ l)) (sized (measL (meas d) l s)) := by
      intro l
      induction l with
      | nil =>
        intro p s x y _ h0 h1
        refine Ev.at1 fun k => ?_
        rw [spec_l3ok.l0, if_neg (by simp), measL, sized, if_pos h1]
      | cons b t iht =>
        intro p s x y hlen hs0 hs1
        rw [List.length_cons] at hlen
        have e1 := ih b (a + 1) (by omega) (by omega)
        have hb := meas_le d b
        have hwa : wrap64 (a + 1) = a + 1 := w64 (by omega) (by omega)
        have hstep : ∀ k, spec_l3ok.l0 (k + 1) a s (p.length : Int) x y (p ++ b :: t) = (spec_l3ok.f k b.f0 b.f1 b.f2 (a + 1)).bind fun v => if v < 0 then some (-1) else if wrap64 (s + v) > 60 then some (-1) else spec_l3ok.l0 k a (wrap64 (s + v)) (wrap64 ((p.length : Int) + 1)) x y (p ++ b :: t) := fun k => by
          rw [spec_l3ok.l0, if_pos (by simp; omega), if_pos (by omega), rdT, hwa]
        by_cases c0 : meas d b ≤ 60
        · have hs : sized (meas d b) = meas d b := by rw [sized, if_pos c0]
          have hw : wrap64 (s + meas d b) = s + meas d b := w64 (by omega) (by omega)
          rw [hs] at e1
          unfold measL
          by_cases c : s + meas d b > 60
          · rw [if_pos c]
            refine Ev.step hstep (Ev.bind e1 (Ev.const fun k => ?_))
            rw [if_neg (by omega), hw, if_pos c]
            rfl
          · rw [if_neg c]
            refine Ev.step hstep (Ev.bind e1 (Ev.congr (fun k => ?_) (iht (p ++ [b]) (s + meas d b) x y (by simp; omega) (by omega) (by omega))))
            rw [if_neg (by omega), hw, if_neg c, w1 p b (by omega), app1 p t b]
        · have hs : sized (meas d b) = -1 := by rw [sized, if_neg c0]
          rw [hs] at e1
          have hm : measL (meas d) (b :: t) s = 61 := by rw [measL, if_pos (by omega)]
          rw [hm]
          refine Ev.step hstep (Ev.bind e1 (Ev.const fun k => ?_))
          rw [if_pos (by decide)]
          rfl
    refine l3ok_head t a _ (by omega) (fun h => ?_) (fun h => ?_)
    · have hl := headB_len h
      rw [meas, if_pos h]
      exact loop t.f2 [] 1 t.f0 t.f1 (by simp; omega) (by omega) (by omega)
    · rw [meas, if_neg (by rw [h]; decide)]
      rfl

theorem impl_TyOk (t : T) : Ev (fun k => impl_TyOk.f k t.f0 t.f1 t.f2) (TyOk t) := by
  refine Ev.congr (fun k => ?_) (Ev.bind (impl_measure 10 t 1 (by omega) (by omega)) (f := fun k x => some (decide (x ≤ 60))) (Ev.now _))
  rw [impl_TyOk.f]

theorem spec_TyOk (t : T) : Ev (fun k => spec_TyOk.f k t.f0 t.f1 t.f2) (TyOk t) := by
  have hm := meas_le 10 t
  refine Ev.congr (fun k => ?_) (Ev.bind (spec_l3ok 10 t 1 (by omega) (by omega)) (f := fun k x => some (decide (x > 0))) (Ev.const fun k => ?_))
  · rw [spec_TyOk.f]
  · unfold TyOk sized
    by_cases c : meas 10 t ≤ 60
    · rw [if_pos c, decide_eq_true c, decide_eq_true (by omega)]
    · rw [if_neg c, decide_eq_false c]
      rfl

/-- What all laws on one type begin with. -/
theorem tyStart (x : TL) (hx : W54 x) : (∃ r, Ev (fun k => laws_szTy.f k x.f0 x.f1 x.f2 1048576) r ∧ r < 0) ∨
    ∃ r n y, Ev (fun k => laws_szTy.f k x.f0 x.f1 x.f2 1048576) r ∧ ¬ r < 0 ∧ r ≤ 1048576 ∧ Ev (fun k => laws_toTy.f k x.f0 x.f1 x.f2) (y.f0, y.f1, y.f2) ∧ N2 n y ∧ Ev (fun k => laws_eqTy.f k y.f0 y.f1 y.f2 y.f0 y.f1 y.f2) true := by
  obtain ⟨n, hx⟩ := hx
  obtain ⟨r, e, _, h2, h3⟩ := szTy n x hx 1048576 (by omega) (by omega)
  by_cases c : r < 0
  · exact .inl ⟨r, e, c⟩
  · obtain ⟨y, ey, hy⟩ := toTy n x (h3 (by omega))
    exact .inr ⟨r, n, y, e, c, h2, ey, hy, eqTy n y hy⟩

end Go.Proofs.Ytmbacnnbpnlekaa.E
