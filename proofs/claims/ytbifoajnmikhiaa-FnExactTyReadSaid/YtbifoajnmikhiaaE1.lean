/- What the functions on bytes come to: the program's and the reference's GetNum, PutNum, GetText, PutText; the laws' own helpers. -/
import Derived.Test.YtbifoajnmikhiaaB
import Derived.Test.YtbifoajnmikhiaaM1
import Derived.Test.YtbifoajnmikhiaaPDx0
import Derived.Test.YtbifoajnmikhiaaPDx3
import Derived.Test.YtbifoajnmikhiaaPDx11
import Derived.Test.YtbifoajnmikhiaaPDx14
import Derived.Test.YtbifoajnmikhiaaPDx20
namespace Go.Proofs.Ytbifoajnmikhiaa.E
open Go Go.RowKit Go.Proofs.Ytbifoajnmikhiaa.PD Go.Proofs.Ytbifoajnmikhiaa.M Go.Proofs.YtbifoajnmikhiaaW.PrintWords Go.Proofs.YtbifoajnmikhiaaW.PrintLast Go.Proofs.YtbifoajnmikhiaaW.PrintMore

theorem toByteS_l {l : List Int} (hl : l.length ≤ 281474976710656) (d : Nat) : ∀ (i : Nat) (x : List Int), i + d = l.length → x.length = l.length → x.take i = l.take i → Ev (fun k => laws_toByteS.l0 k l x (i : Int)) l := by
  induction d with
  | zero =>
    intro i x hi hx ht
    refine Ev.at1 fun k => ?_
    rw [laws_toByteS.l0, if_neg (by omega)]
    have h1 : x.take i = x := by rw [List.take_of_length_le (by omega)]
    have h2 : l.take i = l := by rw [List.take_of_length_le (by omega)]
    rw [← h1, ht, h2]
  | succ d ih =>
    intro i x hi hx ht
    have hw : wrap64 ((i : Int) + 1) = ((i + 1 : Nat) : Int) := by rw [w64 (by omega) (by omega)]; omega
    refine Ev.step (fun k => ?_) ((ih (i + 1) (x.set i (rd l i)) (by omega) (by simpa using hx) ?_))
    · rw [laws_toByteS.l0, if_pos (by omega), if_pos (by omega), if_pos (by omega), hw, Int.toNat_natCast]
    · have hlt : i < l.length := by omega
      rw [List.take_add_one, List.take_add_one, List.take_set_of_le (by omega), ht]
      congr 1
      rw [List.getElem?_set_self (by omega), List.getElem?_eq_getElem hlt]
      obtain ⟨h, e⟩ := rd_lt (l := l) (i := (i : Int)) (by omega) (by omega)
      rw [e]
      rfl

theorem toByteS {l : List Int} (hl : l.length ≤ 281474976710656) : Ev (fun k => laws_toByteS.f k l) l := by
  refine Ev.congr (fun k => ?_) (toByteS_l hl l.length 0 (List.replicate l.length 0) (by omega) (by simp) (by simp))
  rw [laws_toByteS.f, if_pos (by omega), if_pos (by rw [Int.toNat_natCast]; exact hl), Int.toNat_natCast]
  rfl

theorem eqByteS_l {a b : List Int} (hl : a.length = b.length) (hb : a.length ≤ 281474976710656) (d : Nat) : ∀ (i : Nat), i + d = a.length → Ev (fun k => laws_eqByteS.l0 k a b (i : Int)) (decide (a.drop i = b.drop i)) := by
  induction d with
  | zero =>
    intro i hi
    refine Ev.at1 fun k => ?_
    rw [laws_eqByteS.l0, if_neg (by omega), List.drop_of_length_le (by omega), List.drop_of_length_le (by omega)]
    simp
  | succ d ih =>
    intro i hi
    have hw : wrap64 ((i : Int) + 1) = ((i + 1 : Nat) : Int) := by rw [w64 (by omega) (by omega)]; omega
    have ha := drop_rd (l := a) (i := (i : Int)) (by omega) (by omega)
    have hb := drop_rd (l := b) (i := (i : Int)) (by omega) (by omega)
    have e1 : ((i : Int) + 1).toNat = i + 1 := by omega
    rw [Int.toNat_natCast, e1] at ha hb
    rw [ha, hb]
    by_cases h : rd a i = rd b i
    · refine Ev.val (Ev.step (fun k => ?_) (ih (i + 1) (by omega))) ?_
      · rw [laws_eqByteS.l0, if_pos (by omega), if_pos (by omega), if_pos (by omega), if_pos h, hw]
      · simp [h]
    · refine Ev.at1 fun k => ?_
      rw [laws_eqByteS.l0, if_pos (by omega), if_pos (by omega), if_pos (by omega), if_neg h]
      simp [h]

theorem eqByteS {a b : List Int} (hb : a.length ≤ 281474976710656) : Ev (fun k => laws_eqByteS.f k a b) (decide (a = b)) := by
  by_cases hl : a.length = b.length
  · refine Ev.congr (fun k => ?_) (eqByteS_l hl hb a.length 0 (by omega))
    rw [laws_eqByteS.f, if_pos (by omega)]
    rfl
  · refine Ev.const fun k => ?_
    rw [laws_eqByteS.f, if_neg (by omega)]
    have : a ≠ b := fun e => hl (by rw [e])
    simp [this]

theorem shl7 {c : Int} {i : Nat} (h0 : 0 ≤ c) (h1 : c < 128) (hi : i ≤ 4) : shl .i64 c (7 * (i : Int)) = c * 128 ^ i := by
  have e : min (7 * (i : Int)).toNat IntKind.i64.bits = 7 * i := by
    show min (7 * (i : Int)).toNat 64 = 7 * i
    omega
  unfold shl
  rw [e, Int.pow_mul, IntKind.wrap_i64]
  have hu : ((2 : Int) ^ 7) ^ i = 128 ^ i := rfl
  rw [hu]
  have hp : (0 : Int) < 128 ^ i := Int.pow_pos (by decide)
  have hp4 : (128 : Int) ^ i ≤ 128 ^ 4 := p128 hi
  have h2 : c * 128 ^ i ≤ 127 * 128 ^ i := Int.mul_le_mul_of_nonneg_right (by omega) (by omega)
  have h3 : 0 ≤ c * 128 ^ i := Int.mul_nonneg h0 (by omega)
  omega

theorem gnl_step {l : List Int} {a : Int} (hl : Byt l) (ha : 0 ≤ a) {d i : Nat} {n : Int} (h : a + i < (l.length : Int)) (hi : i ≤ 4) (hn0 : 0 ≤ n) (hn : n < 128 ^ i) :
    ∃ c m : Int, rd l (a + i) = c ∧ 0 ≤ c ∧ c < 256 ∧ m = n + c % 128 * 128 ^ i ∧ 0 ≤ m ∧ m < 128 ^ (i + 1) ∧ (128 : Int) ^ i ≤ 128 ^ 4 ∧ 0 ≤ c % 128 * 128 ^ i ∧ c % 128 * 128 ^ i ≤ 127 * 128 ^ i ∧
      gnl (d + 1) i n (l.drop (a + i).toNat) = if 128 ≤ c then gnl d (i + 1) m (l.drop (a + (i + 1 : Nat)).toNat) else if (0 < i ∧ c = 0) ∨ 2147483647 < m then none else some (m, i + 1) := by
  have hd := drop_rd (l := l) (i := a + i) (by omega) h
  have hm := hl _ (rd_mem (l := l) (i := a + i) (by omega) h)
  have hp : (0 : Int) < 128 ^ i := Int.pow_pos (by decide)
  have hp4 : (128 : Int) ^ i ≤ 128 ^ 4 := p128 hi
  have h2 : rd l (a + i) % 128 * 128 ^ i ≤ 127 * 128 ^ i := Int.mul_le_mul_of_nonneg_right (by omega) (by omega)
  have h3 : 0 ≤ rd l (a + i) % 128 * 128 ^ i := Int.mul_nonneg (by omega) (by omega)
  refine ⟨rd l (a + i), _, rfl, hm.1, hm.2, rfl, by omega, ?_, hp4, h3, h2, ?_⟩
  · rw [Int.pow_succ]
    omega
  · have e : (a + ((i + 1 : Nat) : Int)) = a + i + 1 := by omega
    rw [hd, gnl, e]

theorem impl_GetNum_l {l : List Int} {a : Int} (hl : Byt l) (hlen : l.length ≤ 281474976710656) (ha : 0 ≤ a) (ha2 : a ≤ 9223372036854775807) (d : Nat) :
    ∀ (i : Nat) (n : Int), d + i = 5 → 0 ≤ n → n < 128 ^ i → Ev (fun k => impl_GetNum.l0 k l a n (i : Int)) (gres a (gnl d i n (l.drop (a + i).toNat))) := by
  induction d with
  | zero =>
    intro i n hi hn0 hn
    refine Ev.at2 fun k => ?_
    rw [impl_GetNum.l0, if_neg (by omega)]
    rfl
  | succ d ih =>
    intro i n hi hn0 hn
    have hw1 : wrap64 ((l.length : Int) - a) = (l.length : Int) - a := w64 (by omega) (by omega)
    have hw2 : wrap64 (7 * (i : Int)) = 7 * (i : Int) := w64 (by omega) (by omega)
    have hw3 : wrap64 ((i : Int) + 1) = ((i + 1 : Nat) : Int) := by rw [w64 (by omega) (by omega)]; omega
    by_cases h : a + i < (l.length : Int)
    · have hw4 : wrap64 (a + (i : Int)) = a + i := w64 (by omega) (by omega)
      have hw5 : wrap64 (a + (i : Int) + 1) = a + ((i + 1 : Nat) : Int) := by rw [w64 (by omega) (by omega)]; omega
      have hdc : decide ((i : Int) < (l.length : Int) - a) = true := decide_eq_true (by omega)
      obtain ⟨c, m, hc, hc0, hc1, hm, hm0, hm1, hp4, hx0, hx1, hg⟩ := gnl_step (d := d) hl ha h (by omega) hn0 hn
      have hwc : wrap64 c = c := w64 (by omega) (by omega)
      have htm : Int.tmod c 128 = c % 128 := Int.tmod_eq_emod_of_nonneg hc0
      have hsh : shl .i64 (c % 128) (7 * (i : Int)) = c % 128 * 128 ^ i := shl7 (by omega) (by omega) (by omega)
      have hwm : wrap64 (n + c % 128 * 128 ^ i) = m := by rw [hm]; exact w64 (by omega) (by omega)
      rw [hg]
      by_cases h1 : 128 ≤ c
      · rw [if_pos h1]
        refine Ev.step2 (fun k => ?_) ((ih (i + 1) m (by omega) hm0 hm1))
        rw [impl_GetNum.l0, if_pos (by omega), hw1, hdc]
        simp only [impl_GetNum.j1, hw2, hw3, hw4, hc, hwc, htm, hsh, hwm, if_true]
        rw [if_pos (by omega), if_pos h, if_pos (by omega), if_pos h1]
      · rw [if_neg h1]
        refine Ev.at2 fun k => ?_
        rw [impl_GetNum.l0, if_pos (by omega), hw1, hdc]
        simp only [impl_GetNum.j1, hw2, hw3, hw4, hw5, hc, hwc, htm, hsh, hwm, if_true]
        rw [if_pos (by omega), if_pos h, if_pos (by omega), if_neg (by omega)]
        by_cases h2 : 0 < i
        · rw [if_pos (by omega)]
          by_cases h3 : c = 0
          · rw [if_pos h3, if_pos (.inl ⟨h2, h3⟩)]; rfl
          · rw [if_neg h3]
            by_cases h4 : 2147483647 < m
            · rw [if_pos h4, if_pos (.inr h4)]; rfl
            · rw [if_neg h4, if_neg (by omega)]; rfl
        · rw [if_neg (by omega)]
          by_cases h4 : 2147483647 < m
          · rw [if_pos h4, if_pos (.inr h4)]; rfl
          · rw [if_neg h4, if_neg (by omega)]; rfl
    · have hdc : decide ((i : Int) < (l.length : Int) - a) = false := decide_eq_false (by omega)
      have hd : l.drop (a + i).toNat = [] := List.drop_of_length_le (by omega)
      rw [hd]
      refine Ev.at2 fun k => ?_
      rw [impl_GetNum.l0, if_pos (by omega), hw1, hdc]
      rfl

theorem impl_GetNum {l : List Int} {a : Int} (hl : Byt l) (hlen : l.length ≤ 281474976710656) (ha2 : a ≤ 9223372036854775807) : Ev (fun k => impl_GetNum.f k l a) (getNum l a) := by
  unfold getNum
  by_cases h : a < 0
  · rw [if_pos h]
    exact Ev.const fun k => by rw [impl_GetNum.f, if_pos h]
  · rw [if_neg h]
    refine Ev.congr (fun k => ?_) (by simpa using impl_GetNum_l hl hlen (by omega) ha2 5 0 0 (by omega) (by omega) (by omega))
    rw [impl_GetNum.f, if_neg h]

theorem spec_GetNum_l {l : List Int} {a : Int} (hl : Byt l) (hlen : l.length ≤ 281474976710656) (ha : 0 ≤ a) (ha2 : a ≤ 9223372036854775807) (d : Nat) :
    ∀ (i : Nat) (n : Int), d + i = 5 → (0 < i → a + i ≤ (l.length : Int)) → 0 ≤ n → n < 128 ^ i → Ev (fun k => spec_GetNum.l0 k l a n (128 ^ i) (i : Int)) (gres a (gnl d i n (l.drop (a + i).toNat))) := by
  induction d with
  | zero =>
    intro i n hi hai hn0 hn
    refine Ev.at2 fun k => ?_
    rw [spec_GetNum.l0, if_neg (by omega)]
    rfl
  | succ d ih =>
    intro i n hi hai hn0 hn
    have hw3 : wrap64 ((i : Int) + 1) = ((i + 1 : Nat) : Int) := by rw [w64 (by omega) (by omega)]; omega
    have hw4 : wrap64 (a + (i : Int)) = a + i := w64 (by omega) (by omega)
    by_cases h : a + i < (l.length : Int)
    · have hw5 : wrap64 (a + (i : Int) + 1) = a + ((i + 1 : Nat) : Int) := by rw [w64 (by omega) (by omega)]; omega
      have hdc : decide (a + (i : Int) < (l.length : Int)) = true := decide_eq_true h
      obtain ⟨c, m, hc, hc0, hc1, hm, hm0, hm1, hp4, hx0, hx1, hg⟩ := gnl_step (d := d) hl ha h (by omega) hn0 hn
      have hwc : wrap64 c = c := w64 (by omega) (by omega)
      have hsh : wrap64 (c % 128 * 128 ^ i) = c % 128 * 128 ^ i := w64 (by omega) (by omega)
      have hwm : wrap64 (n + c % 128 * 128 ^ i) = m := by rw [hm]; exact w64 (by omega) (by omega)
      have hwu : wrap64 (128 ^ i * 128) = 128 ^ (i + 1) := by rw [← Int.pow_succ]; refine w64 ?_ ?_ <;> rw [Int.pow_succ] <;> omega
      rw [hg]
      by_cases h1 : 128 ≤ c
      · rw [if_pos h1]
        refine Ev.step2 (fun k => ?_) ((ih (i + 1) m (by omega) (fun _ => by omega) hm0 hm1))
        rw [spec_GetNum.l0, if_pos (by omega), hw4, hdc]
        simp only [spec_GetNum.j1, hw3, hw4, hc, hwc, and127, hsh, hwm, hwu, if_true]
        rw [if_pos (by omega), if_pos h, if_pos (by omega)]
      · rw [if_neg h1]
        refine Ev.at2 fun k => ?_
        rw [spec_GetNum.l0, if_pos (by omega), hw4, hdc]
        simp only [spec_GetNum.j1, hw3, hw4, hw5, hc, hwc, and127, hsh, hwm, if_true]
        rw [if_pos (by omega), if_pos h, if_neg (by omega)]
        by_cases h3 : c = 0
        · rw [if_pos h3]
          by_cases h2 : 0 < i
          · rw [if_pos (by omega), if_pos (.inl ⟨h2, h3⟩)]; rfl
          · rw [if_neg (by omega)]
            by_cases h4 : 2147483647 < m
            · rw [if_pos h4, if_pos (.inr h4)]; rfl
            · rw [if_neg h4, if_neg (by omega)]; rfl
        · rw [if_neg h3]
          by_cases h4 : 2147483647 < m
          · rw [if_pos h4, if_pos (.inr h4)]; rfl
          · rw [if_neg h4, if_neg (by omega)]; rfl
    · have hdc : decide (a + (i : Int) < (l.length : Int)) = false := decide_eq_false h
      have hd : l.drop (a + i).toNat = [] := List.drop_of_length_le (by omega)
      rw [hd]
      refine Ev.at2 fun k => ?_
      rw [spec_GetNum.l0, if_pos (by omega), hw4, hdc]
      rfl

theorem spec_GetNum {l : List Int} {a : Int} (hl : Byt l) (hlen : l.length ≤ 281474976710656) (ha2 : a ≤ 9223372036854775807) : Ev (fun k => spec_GetNum.f k l a) (getNum l a) := by
  unfold getNum
  by_cases h : a < 0
  · rw [if_pos h]
    exact Ev.const fun k => by rw [spec_GetNum.f, if_pos h]
  · rw [if_neg h]
    refine Ev.congr (fun k => ?_) (by simpa using spec_GetNum_l hl hlen (by omega) ha2 5 0 0 (by omega) (by omega) (by omega) (by omega))
    rw [spec_GetNum.f, if_neg h]

end Go.Proofs.Ytbifoajnmikhiaa.E
