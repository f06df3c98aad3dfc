/- What the functions on bytes come to: the program's and the reference's PutNum, PutText, GetText; the laws' marks. -/
import Derived.Test.YtophpcadfljkgaaE0
import Derived.Test.YtophpcadfljkgaaE1
import Derived.Test.YtophpcadfljkgaaPAx0
import Derived.Test.YtophpcadfljkgaaPAx5
import Derived.Test.YtophpcadfljkgaaPAx16
import Derived.Test.YtophpcadfljkgaaPAx17
import Derived.Test.YtophpcadfljkgaaPAx18
import Derived.Test.YtophpcadfljkgaaPAx19
import Derived.Test.YtophpcadfljkgaaPAx20
import Derived.Test.YtophpcadfljkgaaPAx24
import Derived.Test.YtophpcadfljkgaaPAx26
import Derived.Test.YtophpcadfljkgaaPAx27
namespace Go.Proofs.Ytophpcadfljkgaa.E
open Go Go.RowKit Go.Proofs.Ytophpcadfljkgaa.PA Go.Proofs.Ytophpcadfljkgaa.M Go.Proofs.YtophpcadfljkgaaW.PrintWords Go.Proofs.YtophpcadfljkgaaW.PrintLast Go.Proofs.YtophpcadfljkgaaW.PrintMore

theorem eqB {a : List Int} (hb : a.length ≤ 281474976710656) : Ev (fun k => laws_eqByteS.f k a a) true := Ev.val (eqByteS hb) (by simp)

theorem clone {l : List Int} (h : l.length < 140737488355328) : slices_Clone_byte_byte.f l = some l := by
  unfold slices_Clone_byte_byte.f
  simp only [Option.bind_some, List.length_nil, Nat.zero_add, List.nil_append]
  rw [if_pos h]

theorem impl_PutNum_l (d : Nat) : ∀ (n : Int) (x : List Int), 0 ≤ n → n < 128 ^ (d + 1) → n < 9223372036854775808 → x.length + d < 140737488355328 → Ev (fun k => impl_PutNum.l0 k n x) (x ++ pnl d n) := by
  induction d with
  | zero =>
    intro n x h0 h1 h3 hx
    refine Ev.at1 fun k => ?_
    rw [impl_PutNum.l0, if_neg (by omega), if_pos (by omega)]
    rfl
  | succ d ih =>
    intro n x h0 h1 h3 hx
    rw [Int.pow_succ] at h1
    by_cases h : n ≥ 128
    · have hm : (Int.tmod n 128) % 256 = n % 128 := by rw [Int.tmod_eq_emod_of_nonneg h0]; omega
      have e : pnl (d + 1) n = (128 + n % 128) :: pnl d (n / 128) := by rw [pnl, if_pos (by omega)]
      refine Ev.val (Ev.step (fun k => ?_) (ih (n / 128) (x ++ [128 + n % 128]) (by omega) (by omega) (by omega) (by simp only [List.length_append, List.length_cons, List.length_nil]; omega))) ?_
      · rw [impl_PutNum.l0, if_pos h, if_pos (by omega), hm, or128 (by omega) (by omega)]
      · rw [e, List.append_assoc]; rfl
    · have e : pnl (d + 1) n = [n] := by rw [pnl, if_neg (by omega)]
      have hn : n % 256 = n := by omega
      refine Ev.at1 fun k => ?_
      rw [impl_PutNum.l0, if_neg h, if_pos (by omega), hn, e]

theorem spec_PutNum_l (d : Nat) : ∀ (n : Int) (x : List Int), 0 ≤ n → n < 128 ^ (d + 1) → n < 9223372036854775808 → x.length + d < 140737488355328 → Ev (fun k => spec_PutNum.l0 k n x) (x ++ pnl d n) := by
  induction d with
  | zero =>
    intro n x h0 h1 h3 hx
    refine Ev.at1 fun k => ?_
    rw [spec_PutNum.l0, if_neg (by omega), if_pos (by omega)]
    rfl
  | succ d ih =>
    intro n x h0 h1 h3 hx
    rw [Int.pow_succ] at h1
    by_cases h : n > 127
    · have hm : wrap64 (128 + Int.tmod n 128) % 256 = 128 + n % 128 := by rw [Int.tmod_eq_emod_of_nonneg h0, w64 (by omega) (by omega)]; omega
      have hq : wrap64 (Int.tdiv n 128) = n / 128 := by rw [Int.tdiv_eq_ediv_of_nonneg h0]; exact w64 (by omega) (by omega)
      have e : pnl (d + 1) n = (128 + n % 128) :: pnl d (n / 128) := by rw [pnl, if_pos (by omega)]
      refine Ev.val (Ev.step (fun k => ?_) (ih (n / 128) (x ++ [128 + n % 128]) (by omega) (by omega) (by omega) (by simp only [List.length_append, List.length_cons, List.length_nil]; omega))) ?_
      · rw [spec_PutNum.l0, if_pos h, if_pos (by omega), hm, hq]
      · rw [e, List.append_assoc]; rfl
    · have e : pnl (d + 1) n = [n] := by rw [pnl, if_neg (by omega)]
      have hn : n % 256 = n := by omega
      refine Ev.at1 fun k => ?_
      rw [spec_PutNum.l0, if_neg h, if_pos (by omega), hn, e]

theorem impl_PutNum {l : List Int} (n : Int) (hl : l.length + 4 < 140737488355328) : Ev (fun k => impl_PutNum.f k l n) (putNum l n) := by
  unfold putNum
  by_cases h : 0 ≤ n ∧ n ≤ 2147483647
  · rw [if_pos h]
    refine Ev.congr (fun k => ?_) (impl_PutNum_l 4 n l h.1 (by omega) (by omega) (by omega))
    rw [impl_PutNum.f, clone (by omega), Option.bind_some, within_in h.1 h.2, Option.bind_some, if_pos rfl]
  · rw [if_neg h]
    refine Ev.const fun k => ?_
    rw [impl_PutNum.f, clone (by omega), Option.bind_some, within_out h, Option.bind_some, if_neg (by decide)]

theorem spec_PutNum {l : List Int} (n : Int) (hl : l.length + 4 < 140737488355328) : Ev (fun k => spec_PutNum.f k l n) (putNum l n) := by
  unfold putNum
  by_cases h0 : n < 0
  · rw [if_neg (by omega)]
    refine Ev.at1 fun k => ?_
    simp only [spec_PutNum.f, Option.bind_some, List.length_nil, Nat.zero_add, List.nil_append]
    rw [if_pos (by omega), if_pos h0]
    rfl
  · by_cases h1 : n > 2147483647
    · rw [if_neg (by omega)]
      refine Ev.at1 fun k => ?_
      simp only [spec_PutNum.f, Option.bind_some, List.length_nil, Nat.zero_add, List.nil_append]
      rw [if_pos (by omega), if_neg h0, decide_eq_true h1]
      rfl
    · rw [if_pos (by omega)]
      refine Ev.step (fun k => ?_) (spec_PutNum_l 4 n l (by omega) (by omega) (by omega) (by omega))
      simp only [spec_PutNum.f, Option.bind_some, List.length_nil, Nat.zero_add, List.nil_append]
      rw [if_pos (by omega), if_neg h0, decide_eq_false h1]
      simp only [spec_PutNum.j0]
      rw [if_neg (by decide)]

theorem impl_PutText {l t : List Int} (hl : l.length + 50 < 140737488355328) : Ev (fun k => impl_PutText.f k l t) (putText l t) := by
  unfold putText
  by_cases h : t.length ≤ 40
  · rw [if_pos h]
    obtain ⟨K, hK⟩ := impl_PutNum (l := l) (t.length : Int) (by omega)
    dsimp only at hK
    refine ⟨K, fun k hk => ?_⟩
    have hlen : (putNum l (t.length : Int)).length ≤ l.length + 5 := by
      unfold putNum
      have := (pnl_len 4 (t.length : Int)).2
      split
      · rw [List.length_append]; omega
      · omega
    show impl_PutText.f k l t = _
    rw [impl_PutText.f, if_neg (by omega), hK k hk, Option.bind_some, if_pos (by omega)]
  · rw [if_neg h]
    refine Ev.const fun k => ?_
    rw [impl_PutText.f, if_pos (by omega), clone (by omega), Option.bind_some]

theorem spec_PutText {l t : List Int} (hl : l.length + 50 < 140737488355328) : Ev (fun k => spec_PutText.f k l t) (putText l t) := by
  unfold putText
  by_cases h : t.length ≤ 40
  · rw [if_pos h]
    obtain ⟨K, hK⟩ := spec_PutNum (l := l) (t.length : Int) (by omega)
    dsimp only at hK
    refine ⟨K, fun k hk => ?_⟩
    have hlen : (putNum l (t.length : Int)).length ≤ l.length + 5 := by
      unfold putNum
      have := (pnl_len 4 (t.length : Int)).2
      split
      · rw [List.length_append]; omega
      · omega
    show spec_PutText.f k l t = _
    rw [spec_PutText.f, if_neg (by omega), hK k hk, Option.bind_some, if_pos (by omega)]
  · rw [if_neg h]
    refine Ev.const fun k => ?_
    rw [spec_PutText.f, if_pos (by omega)]
    simp only [Option.bind_some, List.length_nil, Nat.zero_add, List.nil_append]
    rw [if_pos (by omega)]

/-- What GetText does behind GetNum, in both. -/
theorem getText_parts {l : List Int} {a : Int} (hl : Byt l) : getText l a = ([], -1) ∧ ((getNum l a).2 < 0 ∨ 40 < (getNum l a).1 ∨ (l.length : Int) - (getNum l a).2 < (getNum l a).1) ∨
    ¬ (getNum l a).2 < 0 ∧ ¬ (getNum l a).1 > 40 ∧ ¬ (getNum l a).1 > (l.length : Int) - (getNum l a).2 ∧ 0 ≤ (getNum l a).1 ∧ (getNum l a).2 ≤ (l.length : Int) ∧
      getText l a = ((l.take ((getNum l a).2 + (getNum l a).1).toNat).drop ((getNum l a).2).toNat, (getNum l a).2 + (getNum l a).1) := by
  by_cases h : (getNum l a).2 < 0 ∨ 40 < (getNum l a).1 ∨ (l.length : Int) - (getNum l a).2 < (getNum l a).1
  · exact .inl ⟨by unfold getText; rw [if_pos h], h⟩
  · right
    rcases getNum_cases a hl with e | ⟨m, t, h0, hm0, hm1, hal, hl2, e⟩
    · rw [e] at h
      exact absurd (Or.inl (by decide)) h
    · have hg : getText l a = ((l.drop (getNum l a).2.toNat).take (getNum l a).1.toNat, (getNum l a).2 + (getNum l a).1) := by unfold getText; rw [if_neg h]
      rw [hg, e]
      rw [e] at h
      simp only at h ⊢
      refine ⟨by omega, by omega, by omega, hm0, by omega, ?_⟩
      rw [List.take_drop]
      congr 3
      omega

theorem impl_GetText {l : List Int} {a : Int} (hl : Byt l) (hlen : l.length < 140737488355328) (ha2 : a ≤ 9223372036854775807) : Ev (fun k => impl_GetText.f k l a) (getText l a) := by
  obtain ⟨K, hK⟩ := impl_GetNum hl (by omega) ha2
  dsimp only at hK
  refine ⟨K, fun k hk => ?_⟩
  show impl_GetText.f k l a = _
  rw [impl_GetText.f, hK k hk, Option.bind_some]
  rcases getText_parts (a := a) hl with ⟨e, h⟩ | ⟨h1, h2, h3, h4, h5, e⟩
  · rw [e]
    by_cases h1 : (getNum l a).2 < 0
    · rw [if_pos h1]
    · rw [if_neg h1]
      by_cases h2 : (getNum l a).1 > 40
      · rw [if_pos h2]
      · have hb := getNum_le hl a
        rw [if_neg h2, if_pos (by rw [w64 (by omega) (by omega)]; omega)]
  · rw [e, if_neg h1, if_neg h2, w64 (n := (l.length : Int) - (getNum l a).2) (by omega) (by omega), if_neg h3, if_pos (by omega), w64 (n := (getNum l a).2 + (getNum l a).1) (by omega) (by omega), if_pos (by omega), if_pos (by omega), clone (by rw [List.length_drop, List.length_take]; omega), Option.bind_some]

theorem spec_GetText {l : List Int} {a : Int} (hl : Byt l) (hlen : l.length < 140737488355328) (ha2 : a ≤ 9223372036854775807) : Ev (fun k => spec_GetText.f k l a) (getText l a) := by
  obtain ⟨K, hK⟩ := spec_GetNum hl (by omega) ha2
  dsimp only at hK
  refine ⟨K, fun k hk => ?_⟩
  show spec_GetText.f k l a = _
  rw [spec_GetText.f, hK k hk, Option.bind_some]
  rcases getText_parts (a := a) hl with ⟨e, h⟩ | ⟨h1, h2, h3, h4, h5, e⟩
  · rw [e]
    by_cases h1 : (getNum l a).2 < 0
    · rw [if_pos h1]
    · rw [if_neg h1]
      by_cases h2 : (getNum l a).1 > 40
      · rw [if_pos h2]
      · have hb := getNum_le hl a
        rw [if_neg h2, if_pos (by rw [w64 (by omega) (by omega)]; omega)]
  · rw [e, if_neg h1, if_neg h2, w64 (n := (l.length : Int) - (getNum l a).2) (by omega) (by omega), if_neg h3, Option.bind_some, if_pos (by omega), w64 (n := (getNum l a).2 + (getNum l a).1) (by omega) (by omega), if_pos (by omega), if_pos (by omega), if_pos (by rw [List.length_nil, List.length_drop, List.length_take]; omega), List.nil_append]

def marks : Nat → Int → List Int
  | 0, _ => []
  | n + 1, a => a % 256 :: marks n (a + 1)
theorem marks_len (n : Nat) : ∀ a, (marks n a).length = n := by
  induction n with
  | zero => intro a; rfl
  | succ n ih => intro a; simp [marks, ih]

theorem markB_l (l : List Int) : ∀ (p : List Int) (a : Int), p.length + l.length ≤ 281474976710656 → -281474976710656 ≤ a → a + l.length ≤ 9223372036854775807 →
    Ev (fun k => laws_markByteS.l0 k (p ++ l) a (p.length : Int)) (a + l.length, p ++ marks l.length a) := by
  induction l with
  | nil =>
    intro p a hp h0 h1
    refine Ev.at1 fun k => ?_
    rw [laws_markByteS.l0, if_neg (by simp)]
    simp [marks]
  | cons c l ih =>
    intro p a hp h0 h1
    rw [List.length_cons] at hp h1
    have := ih (p ++ [a % 256]) (a + 1) (by simp; omega) (by omega) (by omega)
    have e1 : (p ++ c :: l).set p.length (a % 256) = p ++ [a % 256] ++ l := by simp
    have e2 : wrap64 (a + 1) = a + 1 := w64 (by omega) (by omega)
    have e3 : wrap64 ((p.length : Int) + 1) = ((p ++ [a % 256]).length : Int) := by rw [w64 (by omega) (by omega)]; simp
    refine Ev.val (Ev.step (fun k => ?_) this) ?_
    · rw [laws_markByteS.l0, if_pos (by simp; omega), if_pos (by omega), Int.toNat_natCast, e1, e2, e3]
    · simp only [marks, List.length_cons, List.append_assoc, List.singleton_append, Prod.mk.injEq, and_true]
      omega

theorem markB {l : List Int} {a : Int} (hl : l.length ≤ 281474976710656) (h0 : -281474976710656 ≤ a) (h1 : a + l.length ≤ 9223372036854775807) : Ev (fun k => laws_markByteS.f k l a) (a + l.length, marks l.length a) := by
  exact Ev.congr (f := fun k => laws_markByteS.l0 k l a 0) (fun k => rfl) (by simpa using markB_l l [] a (by simpa using hl) h0 h1)

theorem heldB_l (n : Nat) : ∀ (p : List Int) (a : Int), p.length + n ≤ 281474976710656 → -281474976710656 ≤ a → a + n ≤ 9223372036854775807 →
    Ev (fun k => laws_heldByteS.l0 k (p ++ marks n a) a (p.length : Int)) (a + n) := by
  induction n with
  | zero =>
    intro p a hp h0 h1
    refine Ev.at1 fun k => ?_
    rw [laws_heldByteS.l0, if_neg (by simp [marks])]
    simp
  | succ n ih =>
    intro p a hp h0 h1
    have := ih (p ++ [a % 256]) (a + 1) (by simp; omega) (by omega) (by omega)
    have e0 : p ++ marks (n + 1) a = p ++ [a % 256] ++ marks n (a + 1) := by simp [marks]
    have e1 : rd (p ++ marks (n + 1) a) (p.length : Int) = a % 256 := by simp [rd, marks]
    have e2 : wrap64 (a + 1) = a + 1 := w64 (by omega) (by omega)
    have e3 : wrap64 ((p.length : Int) + 1) = ((p ++ [a % 256]).length : Int) := by rw [w64 (by omega) (by omega)]; simp
    refine Ev.val (Ev.step (fun k => ?_) this) ?_
    · rw [laws_heldByteS.l0, if_pos (by simp [marks, marks_len]; omega), if_pos (by omega), e1, if_pos rfl, e2, e3, e0]
    · omega

theorem heldB {n : Nat} {a : Int} (hl : n ≤ 281474976710656) (h0 : -281474976710656 ≤ a) (h1 : a + n ≤ 9223372036854775807) : Ev (fun k => laws_heldByteS.f k (marks n a) a) (a + n) := by
  exact Ev.congr (f := fun k => laws_heldByteS.l0 k (marks n a) a 0) (fun k => rfl) (by simpa using heldB_l n [] a (by simpa using hl) h0 h1)

end Go.Proofs.Ytophpcadfljkgaa.E
