import Derived.Test.YtkaolpcfpnckcaaGreatPOb
import Derived.Test.YtkaolpcfpnckcaaGreatPOc
set_option linter.unusedVariables false
set_option linter.unusedSimpArgs false
/-
  The bytes of numbers, types, instructions, programs.
-/
namespace Go.Ev
open Go Go.Ev.Q

def numB (n : Nat) : List Int := if n < 128 then [(n : Int)] else ((128 + n % 128 : Nat) : Int) :: numB (n / 128)
termination_by n
decreasing_by omega
theorem numB_len : ∀ (k n : Nat), n < 128 ^ (k + 1) → (numB n).length ≤ k + 1
  | 0, n, h => by rw [numB, if_pos (by simpa using h)]; simp
  | k + 1, n, h => by
    rw [numB]
    split
    · simp
    · have := numB_len k (n / 128) (by rw [Nat.div_lt_iff_lt_mul (by decide)]; rw [Nat.pow_succ] at h; exact h)
      simp; omega
def encNum (n : Int) : List Int := if 0 ≤ n ∧ n ≤ 2147483647 then numB n.toNat else []
theorem encNum_len (n : Int) : (encNum n).length ≤ 5 := by
  unfold encNum
  split
  · exact numB_len 4 _ (by omega)
  · simp
abbrev w8 (x : Int) : Int := IntKind.wrap .u8 x
mutual
def Ty.enc : Ty → List Int
  | .mk k n l => w8 k :: (if k = 6 ∨ k = 7 then encNum n else []) ++ (if k = 6 then encNum l.length else []) ++ Ty.encs l
def Ty.encs : List Ty → List Int
  | [] => []
  | a :: l => Ty.enc a ++ Ty.encs l
end
theorem Ty.encs_eq : ∀ l : List Ty, Ty.encs l = (l.map Ty.enc).flatten
  | [] => by rw [Ty.encs]; rfl
  | a :: l => by rw [Ty.encs, Ty.encs_eq l]; rfl
theorem Ty.enc_mk {k n : Int} {l : List Ty} : Ty.enc (.mk k n l) = w8 k :: (if k = 6 ∨ k = 7 then encNum n else []) ++ (if k = 6 then encNum l.length else []) ++ (l.map Ty.enc).flatten := by rw [Ty.enc, Ty.encs_eq]
theorem flen {α : Type} (f : α → List Int) (g : α → Nat) (c d : Nat) : ∀ (l : List α), (∀ a ∈ l, (f a).length ≤ c + d * g a) → ((l.map f).flatten).length ≤ c * l.length + d * (l.map g).sum
  | [], _ => by simp
  | a :: l, h => by
    have h1 := h a (by simp)
    have h2 := flen f g c d l (fun b hb => h b (by simp [hb]))
    simp only [List.map_cons, List.flatten_cons, List.length_append, List.sum_cons, List.length_cons, Nat.mul_add, Nat.mul_one]
    omega
theorem Ty.enc_len (t : Ty) : t.enc.length ≤ 11 + 11 * t.size := by
  induction t using Ty.ind with
  | h k n l ih =>
    rw [Ty.enc_mk, Ty.size_mk]
    have h := flen Ty.enc Ty.size 11 11 l ih
    have h1 := encNum_len n
    have h2 := encNum_len (l.length : Int)
    have e1 : (if k = 6 ∨ k = 7 then encNum n else []).length ≤ 5 := by split <;> simp [h1]
    have e2 : (if k = 6 then encNum (l.length : Int) else []).length ≤ 5 := by split <;> simp [h2]
    simp only [List.cons_append, List.length_cons, List.length_append]
    omega
def encTys (l : List Ty) : List Int := encNum l.length ++ (l.map Ty.enc).flatten
theorem encTys_len (l : List Ty) : (encTys l).length ≤ 5 + 11 * tysSize l := by
  have h := flen Ty.enc Ty.size 11 11 l (fun a _ => a.enc_len)
  have h1 := encNum_len (l.length : Int)
  unfold encTys tysSize
  rw [List.length_append]
  omega
def encNums (l : List Int) : List Int := encNum l.length ++ (l.map encNum).flatten
theorem encNums_len (l : List Int) : (encNums l).length ≤ 5 + 5 * l.length := by
  have h := flen encNum (fun _ => 0) 5 0 l (fun a _ => by simpa using encNum_len a)
  have h1 := encNum_len (l.length : Int)
  unfold encNums
  rw [List.length_append]
  omega
def encText (t : List Int) : List Int := if 40 < t.length then [] else encNum t.length ++ t
theorem encText_len (t : List Int) : (encText t).length ≤ 5 + t.length := by
  have h1 := encNum_len (t.length : Int)
  unfold encText
  split
  · simp
  · rw [List.length_append]; omega
def foldN (n : Int) : Int := if 0 ≤ n ∧ n ≤ 1073741823 then 2 * n else if -1073741824 ≤ n ∧ n < 0 then -2 * n - 1 else -1
/-- Which parts an operation has: 1: a, 2: a and b, 3: a and targets, 4: a literal. -/
def partsN (op : Int) : Nat := if op = 1 ∨ op = 4 ∨ op = 6 ∨ op = 7 ∨ op = 23 ∨ op = 26 ∨ op = 27 ∨ op = 29 ∨ op = 31 then 1 else if op = 21 then 2 else if op = 22 then 3 else if op = 2 then 4 else 0
def Ins.enc (x : Ins) : List Int := w8 x.op :: (if partsN x.op = 1 then (if x.op = 1 then encNum (foldN x.a) else encNum x.a) else if partsN x.op = 2 then encNum x.a ++ encNum x.b else if partsN x.op = 3 then encNum x.a ++ encNums x.to else if partsN x.op = 4 then encText x.lit else [])
theorem Ins.enc_len (x : Ins) : x.enc.length ≤ 16 + 5 * x.size := by
  have h1 := encNum_len x.a
  have h2 := encNum_len x.b
  have h3 := encNum_len (foldN x.a)
  have h4 := encNums_len x.to
  have h5 := encText_len x.lit
  unfold Ins.enc Ins.size
  rw [List.length_cons]
  repeat' split
  all_goals (try simp only [List.length_append, List.length_nil]); omega
def encIns (l : List Ins) : List Int := encNum l.length ++ (l.map Ins.enc).flatten
def Blk.enc (x : Blk) : List Int := encTys x.env ++ x.arg.enc ++ x.res.enc ++ encTys x.locals ++ encIns x.code
theorem Blk.enc_len (x : Blk) : x.enc.length ≤ 40 + 26 * x.size := by
  have h1 := encTys_len x.env
  have h2 := x.arg.enc_len
  have h3 := x.res.enc_len
  have h4 := encTys_len x.locals
  have h5 := flen Ins.enc Ins.size 16 5 x.code (fun a _ => a.enc_len)
  have h6 := encNum_len (x.code.length : Int)
  unfold Blk.enc Blk.size encIns
  simp only [List.length_append]
  omega
def Layout.enc (x : Layout) : List Int := encNum x.cons.length ++ (x.cons.map encTys).flatten
theorem Layout.enc_len (x : Layout) : x.enc.length ≤ 5 + 16 * x.size := by
  have h1 := flen encTys tysSize 5 11 x.cons (fun a _ => encTys_len a)
  have h2 := encNum_len (x.cons.length : Int)
  unfold Layout.enc Layout.size
  rw [List.length_append]
  omega
def encLays (l : List Layout) : List Int := encNum l.length ++ (l.map Layout.enc).flatten
def encBlks (l : List Blk) : List Int := encNum l.length ++ (l.map Blk.enc).flatten
def Prog.enc (x : Prog) : List Int := [76, 75] ++ encLays x.layouts ++ encNums x.caps ++ encBlks x.blocks
theorem Prog.enc_len (x : Prog) : x.enc.length ≤ 100 + 66 * x.size := by
  have h1 := flen Layout.enc Layout.size 5 16 x.layouts (fun a _ => a.enc_len)
  have h2 := encNum_len (x.layouts.length : Int)
  have h3 := encNums_len x.caps
  have h4 := flen Blk.enc Blk.size 40 26 x.blocks (fun a _ => a.enc_len)
  have h5 := encNum_len (x.blocks.length : Int)
  unfold Prog.enc Prog.size encLays encBlks
  simp only [List.length_append, List.length_cons, List.length_nil]
  omega
end Go.Ev

/-
  Both sides agree on which instructions are right.
-/
namespace Go.Ev.Q
open Go Go.Ev
set_option linter.unusedSimpArgs false

def litB (l : List Int) : Bool := decide (l.length ≤ 20) && l.all fun c => decide (32 ≤ c ∧ c ≤ 126 ∧ c ≠ 34 ∧ c ≠ 92)
def toB (l : List Int) : Bool := l.all fun n => decide (0 ≤ n ∧ n ≤ 2147483647)
def headB (p : Nat) (x : Ins) : Bool := decide ((0 ≤ x.b ∧ x.b ≤ 2147483647) ∧ (p ≠ 2 → x.b = 0) ∧ (p ≠ 4 → x.lit.length = 0) ∧ (p = 3 → 1 ≤ x.to.length ∧ x.to.length ≤ 5) ∧ (p ≠ 3 → x.to.length = 0))
def insB (x : Ins) : Bool := (decide ((0 ≤ x.op ∧ x.op ≤ 31) ∧ (x.op = 1 → -1073741824 ≤ x.a ∧ x.a ≤ 1073741823) ∧ (x.op ≠ 1 → 0 ≤ x.a ∧ x.a ≤ 2147483647) ∧ (partsN x.op = 0 ∨ partsN x.op = 4 → x.a = 0)) && headB (partsN x.op) x) && (toB x.to && litB x.lit)

theorem at_nums {l pre q : List Int} {a : Int} (h : pre ++ a :: q = l) {R : Type} (f : LS.Ts [.int .i64] → Option R) : oat [(.int .i64)] (ints l).1 (ints l).2 (pre.length : Int) f = f (a, ()) := oat_mid h rfl
theorem at_byte {l pre q : List Int} {a : Int} (h : pre ++ a :: q = l) {R : Type} (f : LS.Ts [.int .u8] → Option R) : oat [(.int .u8)] (bytes l).1 (bytes l).2 (pre.length : Int) f = f (a, ()) := oat_mid h rfl

theorem parts_ok (k : Int) : spec_l8parts k = rI (partsN k : Nat) := by
  rw [spec_l8parts_eq]
  simp only [spec_l8parts_j1_eq, oite_if, beq_iff_eq]
  unfold partsN
  by_cases h : k = 1 ∨ k = 4 ∨ k = 6 ∨ k = 7 ∨ k = 23 ∨ k = 26 ∨ k = 27 ∨ k = 29 ∨ k = 31
  · rw [if_pos h]
    rcases h with rfl | rfl | rfl | rfl | rfl | rfl | rfl | rfl | rfl <;> rfl
  · rw [if_neg h, if_neg (by omega), if_neg (by omega), if_neg (by omega), if_neg (by omega), if_neg (by omega), if_neg (by omega), if_neg (by omega), if_neg (by omega), if_neg (by omega)]
    split
    · rfl
    · split
      · rfl
      · split <;> rfl

theorem partsI_ok (k : Int) : impl_partsOfIns k = some (.agg (LS.encs [.bool, .bool, .bool, .bool] (decide (partsN k = 1 ∨ partsN k = 2 ∨ partsN k = 3), decide (partsN k = 2), decide (partsN k = 3), decide (partsN k = 4), ())), []) := by
  rw [impl_partsOfIns_eq]
  simp only [impl_partsOfIns_j2_eq, impl_partsOfIns_j1_eq, oite_if, beq_iff_eq]
  unfold partsN
  by_cases h : k = 1 ∨ k = 4 ∨ k = 6 ∨ k = 7 ∨ k = 23 ∨ k = 26 ∨ k = 27 ∨ k = 29 ∨ k = 31
  · rw [if_pos h]
    rcases h with rfl | rfl | rfl | rfl | rfl | rfl | rfl | rfl | rfl <;> rfl
  · rw [if_neg h, if_neg (by omega), if_neg (by omega), if_neg (by omega), if_neg (by omega), if_neg (by omega), if_neg (by omega), if_neg (by omega), if_neg (by omega), if_neg (by omega)]
    split
    · rfl
    · split
      · rfl
      · split <;> rfl

theorem litS_ok (l : List Int) : spec_l5lit (bytes l) = rB (litB l) := by
  rw [spec_l5lit_eq]
  by_cases h0 : l.length ≤ 20
  · have j1 := loopB (J := fun i => spec_l5lit_j1 i (bytes l)) (l := l) (p := fun c => decide (32 ≤ c ∧ c ≤ 126 ∧ c ≠ 34 ∧ c ≠ 92)) (c := true) (fun pre a q hp => by
      have hlt := len_mid hp
      rw [spec_l5lit_j1_eq, oite_dec, if_pos (show (pre.length : Int) < ((bytes l).1 : Nat) by show (pre.length : Int) < (l.length : Nat); omega)]
      simp only [at_byte hp, spec_l5lit_j2_eq, w64_succ (show (pre.length : Int) < 9223372036854775807 by omega), oite_if, beq_iff_eq, decide_eq_true_eq, reduceIte]
      repeat' split
      all_goals first | rfl | (exfalso; omega))
      (by rw [spec_l5lit_j1_eq, oite_dec, if_neg (by simp [bytes, sl])])
    rw [oite_dec, if_neg (show ¬ (((bytes l).1 : Nat) : Int) > 20 by show ¬ ((l.length : Nat) : Int) > 20; omega), j1]
    unfold litB
    rw [decide_eq_true h0, Bool.true_and, Bool.and_true]
  · rw [oite_dec, if_pos (show (((bytes l).1 : Nat) : Int) > 20 by show ((l.length : Nat) : Int) > 20; omega)]
    unfold litB
    rw [decide_eq_false h0, Bool.false_and]
theorem litI_ok (l : List Int) : impl_litOk (bytes l) = rB (litB l) := by
  rw [impl_litOk_eq]
  by_cases h0 : l.length ≤ 20
  · obtain ⟨i, h1, h2⟩ := index_all (J := fun i => slices_IndexFunc_byte_byte_Fimpl_litOk_1_j1 i (bytes l) (((bytes l).1 : Nat) : Int)) (l := l) (p := fun c => decide (32 ≤ c ∧ c ≤ 126 ∧ c ≠ 34 ∧ c ≠ 92)) (Mm := []) (fun pre a q hp => by
      have hlt := len_mid hp
      have e : impl_litOk_1 a = rB (!decide (32 ≤ a ∧ a ≤ 126 ∧ a ≠ 34 ∧ a ≠ 92)) := by
        rw [impl_litOk_1_eq]
        simp only [oite_if, beq_iff_eq, decide_eq_true_eq]
        repeat' split
        all_goals
          refine resP ?_
          simp only [Bool.not_eq_true', decide_eq_false_iff_not, true_iff, beq_iff_eq]
          omega
      rw [slices_IndexFunc_byte_byte_Fimpl_litOk_1_j1_eq, oite_dec, if_pos (show (pre.length : Int) < ((bytes l).1 : Nat) by show (pre.length : Int) < (l.length : Nat); omega)]
      simp only [at_byte hp]
      rw [e, ocall_bool, oite_nbool, w64_succ (by omega)])
      (by rw [slices_IndexFunc_byte_byte_Fimpl_litOk_1_j1_eq, oite_dec, if_neg (by simp [bytes, sl])])
    rw [oite_dec, if_pos (show (((bytes l).1 : Nat) : Int) ≤ 20 by show ((l.length : Nat) : Int) ≤ 20; omega), slices_ContainsFunc_byte_byte_Fimpl_litOk_1_eq, slices_IndexFunc_byte_byte_Fimpl_litOk_1_eq, h1, ocall_int, ocall_bool, h2, Bool.not_not]
    unfold litB
    rw [decide_eq_true h0, Bool.true_and]
  · rw [oite_dec, if_neg (show ¬ (((bytes l).1 : Nat) : Int) ≤ 20 by show ¬ ((l.length : Nat) : Int) ≤ 20; omega)]
    unfold litB
    rw [decide_eq_false h0, Bool.false_and]
theorem toI_ok (l : List Int) (hl : l.length ≤ 1048576) : slices_ContainsFunc_int_int_Fimpl_InsOk_1 (ints l) = rB (!toB l) := by
  obtain ⟨i, h1, h2⟩ := index_all (J := fun i => slices_IndexFunc_int_int_Fimpl_InsOk_1_j1 i (ints l) (((ints l).1 : Nat) : Int)) (l := l) (p := fun n => decide (0 ≤ n ∧ n ≤ 2147483647)) (Mm := []) (fun pre a q hp => by
    have hlt := len_mid hp
    rw [slices_IndexFunc_int_int_Fimpl_InsOk_1_j1_eq, oite_dec, if_pos (show (pre.length : Int) < ((ints l).1 : Nat) by show (pre.length : Int) < (l.length : Nat); omega)]
    simp only [at_nums hp]
    rw [impl_InsOk_1_eq, within_ok, ocall_bool, ocall_bool, oite_nbool, w64_succ (by omega)])
    (by rw [slices_IndexFunc_int_int_Fimpl_InsOk_1_j1_eq, oite_dec, if_neg (by simp [ints, sl])])
  rw [slices_ContainsFunc_int_int_Fimpl_InsOk_1_eq, slices_IndexFunc_int_int_Fimpl_InsOk_1_eq, h1, ocall_int, h2]
  rfl

theorem bne_iff {a : Prop} [Decidable a] {x c : Int} : (!(decide a == (x == c))) = decide (¬ (a ↔ x = c)) := by
  by_cases h : a <;> by_cases h' : x = c <;> simp [h, h']
theorem InsS_ok (x : Ins) (hs : x.size ≤ 1048576) : spec_InsOk x.ts = rB (insB x) := by
  obtain ⟨op, a, b, lit, to⟩ := x
  have hs' : lit.length + to.length ≤ 1048576 := hs
  have j7 : spec_InsOk_j7 0 (op, a, b, bytes lit, ints to, ()) = rB (toB to && litB lit) := by
    refine loopB (J := fun i => spec_InsOk_j7 i (op, a, b, bytes lit, ints to, ())) (fun pre n q hp => ?_) ?_
    · have hlt := len_mid hp
      rw [spec_InsOk_j7_eq, oite_dec, if_pos (show (pre.length : Int) < ((ints to).1 : Nat) by show (pre.length : Int) < (to.length : Nat); omega)]
      simp only [at_nums hp, spec_InsOk_j8_eq, w64_succ (show (pre.length : Int) < 9223372036854775807 by omega), oite_if, decide_eq_true_eq, reduceIte]
      repeat' split
      all_goals first | rfl | (exfalso; omega)
    · rw [spec_InsOk_j7_eq, oite_dec, if_neg (by simp [ints, sl])]
      simp only [litS_ok, ocall_bool]
  generalize hC : (toB to && litB lit) = C at j7
  have hlen : C = true → lit.length ≤ 20 := by
    rw [← hC]
    intro h
    simp only [Bool.and_eq_true, litB, decide_eq_true_eq] at h
    exact h.2.1
  have j3 : ∀ p : Nat, spec_InsOk_j3 p (op, a, b, bytes lit, ints to, ()) = rB (headB p ⟨op, a, b, lit, to⟩ && C) := by
    intro p
    rw [spec_InsOk_j3_eq]
    simp only [bne_iff, spec_InsOk_j6_eq, spec_InsOk_j5_eq, j7, oite_if, Bool.not_eq_true', beq_eq_false_iff_ne, decide_eq_true_eq, reduceIte, ne_eq, show (bytes lit).1 = lit.length from rfl, show (ints to).1 = to.length from rfl]
    unfold headB
    repeat' split
    all_goals
      refine resP ?_
      simp only [Bool.false_eq_true, false_iff, Bool.and_eq_true, decide_eq_true_eq]
      first
        | (rintro ⟨h, h'⟩; have := hlen h'; omega)
        | (refine ⟨fun h => ⟨by have := hlen h; omega, h⟩, fun h => h.2⟩)
  have j1 : spec_InsOk_j1 (op, a, b, bytes lit, ints to, ()) = rB ((decide ((op = 1 → -1073741824 ≤ a ∧ a ≤ 1073741823) ∧ (op ≠ 1 → 0 ≤ a ∧ a ≤ 2147483647) ∧ (partsN op = 0 ∨ partsN op = 4 → a = 0)) && headB (partsN op) ⟨op, a, b, lit, to⟩) && C) := by
    have hp1 : op = 1 → partsN op = 1 := by rintro rfl; rfl
    rw [spec_InsOk_j1_eq]
    simp only [parts_ok, ocall_int, spec_l5intOk_eq, oite_rB', ocall_bool, spec_InsOk_j4_eq, j3, oite_nbool]
    generalize partsN op = p at hp1
    generalize headB p ⟨op, a, b, lit, to⟩ = H
    simp only [oite_if, beq_iff_eq, decide_eq_true_eq, reduceIte, ne_eq, Bool.and_eq_true]
    repeat' split
    all_goals
      refine resP ?_
      simp only [Bool.false_eq_true, false_iff, Bool.and_eq_true, decide_eq_true_eq]
      first
        | (rintro ⟨⟨h, h'⟩, h''⟩; omega)
        | (refine ⟨fun h => ⟨⟨by omega, h.1⟩, h.2⟩, fun h => ⟨h.1.2, h.2⟩⟩)
        | contradiction
  rw [spec_InsOk_eq, Ins.ts_mk]
  simp only [spec_InsOk_j2_eq, j1]
  unfold insB
  simp only [hC]
  generalize headB (partsN op) ⟨op, a, b, lit, to⟩ = H
  simp only [oite_if, decide_eq_true_eq, reduceIte]
  repeat' split
  all_goals
    refine resP ?_
    simp only [Bool.false_eq_true, false_iff, Bool.and_eq_true, decide_eq_true_eq]
    first
      | (rintro ⟨⟨h, h'⟩, h''⟩; omega)
      | (refine ⟨fun h => ⟨⟨⟨by omega, h.1.1⟩, h.1.2⟩, h.2⟩, fun h => ⟨⟨h.1.1.2, h.1.2⟩, h.2⟩⟩)
theorem InsI_ok (x : Ins) (hs : x.size ≤ 1048576) : impl_InsOk x.ts = rB (insB x) := by
  obtain ⟨op, a, b, lit, to⟩ := x
  have hs' : lit.length + to.length ≤ 1048576 := hs
  have j1 : impl_InsOk_j1 (op, a, b, bytes lit, ints to, ()) = rB (toB to) := by
    rw [impl_InsOk_j1_eq]
    simp only
    rw [toI_ok to (by omega), ocall_bool, Bool.not_not]
  have j5 : ∀ (bad A B T L : Bool), impl_InsOk_j5 bad (op, a, b, bytes lit, ints to, ()) A B T L = rB (!bad && (!T || decide (1 ≤ to.length ∧ to.length ≤ 5)) && (!L || litB lit) && toB to) := by
    intro bad A B T L
    rw [impl_InsOk_j5_eq]
    simp only [impl_InsOk_j10_eq, impl_InsOk_j9_eq, j1, within_ok, litI_ok, ocall_bool, show (ints to).1 = to.length from rfl]
    generalize toB to = C
    generalize litB lit = D
    cases bad
    · rw [oite_f]
      cases T
      · cases L <;> cases D <;> simp [oite_t, oite_f]
      · by_cases h : 1 ≤ to.length ∧ to.length ≤ 5
        · rw [decide_eq_true h, decide_eq_true (show (1 : Int) ≤ (to.length : Nat) ∧ ((to.length : Nat) : Int) ≤ 5 by omega)]
          cases L <;> cases D <;> simp [oite_t, oite_f]
        · rw [decide_eq_false h, decide_eq_false (show ¬ ((1 : Int) ≤ (to.length : Nat) ∧ ((to.length : Nat) : Int) ≤ 5) by omega)]
          simp [oite_t, oite_f]
    · simp [oite_t]
  have j2 : ∀ (bad A B T L : Bool), impl_InsOk_j2 bad (op, a, b, bytes lit, ints to, ()) A B T L = rB (!bad && ((A || decide (a = 0)) && ((B || decide (b = 0)) && ((T || decide (to.length = 0)) && (L || decide (lit.length = 0))))) && (!T || decide (1 ≤ to.length ∧ to.length ≤ 5)) && (!L || litB lit) && toB to) := by
    intro bad A B T L
    rw [impl_InsOk_j2_eq]
    simp only [impl_InsOk_j6_eq, impl_InsOk_j7_eq, impl_InsOk_j8_eq, j5, show (ints to).1 = to.length from rfl, show (bytes lit).1 = lit.length from rfl]
    generalize toB to = C
    generalize litB lit = D
    generalize decide (1 ≤ to.length ∧ to.length ≤ 5) = F
    rw [show (a == 0) = decide (a = 0) from rfl, show (b == 0) = decide (b = 0) from rfl, show decide (((to.length : Nat) : Int) > 0) = !decide (to.length = 0) by rw [← decide_not]; exact decide_eq_decide.2 (by omega), show decide (((lit.length : Nat) : Int) > 0) = !decide (lit.length = 0) by rw [← decide_not]; exact decide_eq_decide.2 (by omega)]
    generalize decide (a = 0) = a0
    generalize decide (b = 0) = b0
    generalize decide (to.length = 0) = t0
    generalize decide (lit.length = 0) = l0
    cases bad <;> cases A <;> cases B <;> cases T <;> cases L <;> cases a0 <;> cases b0 <;> cases t0 <;> cases l0 <;> simp [oite_t, oite_f]
  rw [impl_InsOk_eq, Ins.ts_mk]
  simp only [within_ok, ocall_bool, partsI_ok, ocall_agg (show LS.alld [.bool, .bool, .bool, .bool] = true from rfl), impl_wholeOk_eq, impl_InsOk_j3_eq, impl_InsOk_j4_eq, j2]
  have hp : op = 1 → partsN op = 1 := by rintro rfl; rfl
  have hC : litB lit = true → lit.length ≤ 20 := fun h => by
    simp only [Bool.and_eq_true, litB, decide_eq_true_eq] at h; exact h.1
  have hD : lit.length = 0 → litB lit = true := fun h => by
    have : lit = [] := List.eq_nil_of_length_eq_zero h
    subst this; rfl
  have hp4 : partsN op ≤ 4 := by
    unfold partsN
    repeat' split
    all_goals omega
  unfold insB headB
  generalize partsN op = p at hp hp4
  generalize toB to = C
  have hD' : litB lit = false → lit.length ≠ 0 := fun h h' => by rw [hD h'] at h; cases h
  generalize litB lit = D at hC hD hD'
  clear hD
  simp only [oite_if, beq_iff_eq, reduceIte, Bool.not_eq_true', ne_eq, decide_eq_false_iff_not, Bool.false_eq_true, beq_eq_false_iff_ne]
  cases C
  · repeat' split
    all_goals
      refine resP ?_
      simp
  · cases D
    · have := hD' rfl
      clear hC hD'
      repeat' split
      all_goals
        refine resP ?_
        simp only [Bool.false_eq_true, false_iff, Bool.and_eq_true, decide_eq_true_eq, Bool.or_eq_true, Bool.not_eq_true', Bool.not_eq_false', decide_eq_false_iff_not, and_true, and_false, or_false, or_true, not_true_eq_false, not_false_eq_true, true_and, false_and, iff_false, iff_true] <;> omega
    · have := hC rfl
      clear hC hD'
      repeat' split
      all_goals
        refine resP ?_
        simp only [Bool.false_eq_true, false_iff, Bool.and_eq_true, decide_eq_true_eq, Bool.or_eq_true, Bool.not_eq_true', Bool.not_eq_false', decide_eq_false_iff_not, and_true, and_false, or_false, or_true, not_true_eq_false, not_false_eq_true, true_and, false_and, iff_false, iff_true] <;> omega
end Go.Ev.Q

/-
  Both sides agree on which blocks are right; which programs.
-/
namespace Go.Ev.Q
open Go Go.Ev

/-! Lists put behind each other -/
theorem grow_ok (n : Nat) (hn : n ≤ 2000000) : ∃ mv, slices_Grow_impl_Ty_impl_Ty_n (n : Int) = some (.own 0, [.row 3 0 false mv []]) := by
  rw [slices_Grow_impl_Ty_impl_Ty_n_eq, oite_dec, if_neg (by omega), oite_dec]
  have e : w64 ((n : Int) - 0) = n := by rw [w64_id (by omega) (by omega)]; omega
  rw [e]
  by_cases h : (0 : Int) < n
  · refine ⟨true, ?_⟩
    rw [if_pos h, oguard_t rfl, olet_eq, oguard_dec ⟨by omega, by omega⟩, olet_eq, oguard_dec ⟨by omega, by omega⟩, slices_Grow_impl_Ty_impl_Ty_n_j1_eq]
    simp
  · refine ⟨false, ?_⟩
    rw [if_neg (by omega), slices_Grow_impl_Ty_impl_Ty_n_j1v1_eq]
theorem ocall_own {mv : Bool} {R : Type} {f : Unit → Sl × Unit → Option R} : ocall (.m (.one (.own 0))) [(.row 3 false true)] (some (.own 0, [.row 3 0 false mv []])) f = f () ((0, []), ()) := by
  refine ocall_t (s := .m (.one (.own 0))) (m := [.row 3 false true]) rfl rfl ?_
  cases mv <;> rfl
theorem tys_append (a b : List Ty) : ((tys a).1 + (tys b).1, (tys a).2 ++ (tys b).2) = tys (a ++ b) := by
  simp [tys, sl]
theorem concat_ok (ls : List (List Ty)) (hs : ls.flatten.length ≤ 2000000) (hl : ls.length ≤ 2000000) : slices_Concat_impl_Ty_impl_Ty (tyss ls) = some (.d (.sl false 3 (tys ls.flatten).1 (tys ls.flatten).2), []) := by
  have at1 : ∀ {pre q : List (List Ty)} {c : List Ty} {R : Type} (_ : pre ++ c :: q = ls) (f : LS.Ts [.sl 3] → Option R), oat [(.sl 3)] (tyss ls).1 (tyss ls).2 (pre.length : Int) f = f (tys c, ()) := fun h f => oat_mid (g := consTs) h rfl
  have j2 : slices_Concat_impl_Ty_impl_Ty_j2 0 (tyss ls) (((tyss ls).1 : Nat) : Int) (tys ([] : List (List Ty)).flatten) = some (.d (.sl false 3 (tys ls.flatten).1 (tys ls.flatten).2), []) := by
    refine loop_state (J := fun i s => slices_Concat_impl_Ty_impl_Ty_j2 i (tyss ls) (((tyss ls).1 : Nat) : Int) s) (l := ls) (f := fun p => tys p.flatten) (fun pre c q hp => ?_) ?_
    · have hlt := len_mid hp
      have hle : (pre.flatten ++ c).length ≤ 2000000 := by
        have : ls.flatten.length = (pre.flatten ++ c).length + q.flatten.length := by rw [← hp]; simp; omega
        omega
      rw [slices_Concat_impl_Ty_impl_Ty_j2_eq, oite_dec, if_pos (show (pre.length : Int) < ((tyss ls).1 : Nat) by show (pre.length : Int) < (ls.length : Nat); omega)]
      simp only [at1 hp]
      rw [oguard_dec (show ((tys pre.flatten).1 + (tys c).1) * 40 ≤ 140737488351232 by
        show (pre.flatten.length + c.length) * 40 ≤ _
        rw [List.length_append] at hle; omega), olet_eq, tys_append, w64_succ (by omega)]
      simp
    · rw [slices_Concat_impl_Ty_impl_Ty_j2_eq, oite_dec, if_neg (by simp [tyss, sl])]
  have j1 : slices_Concat_impl_Ty_impl_Ty_j1 0 ((([] : List (List Ty)).flatten.length : Nat) : Int) (tyss ls) (tyss ls) (((tyss ls).1 : Nat) : Int) = some (.d (.sl false 3 (tys ls.flatten).1 (tys ls.flatten).2), []) := by
    refine loop_state (J := fun i (s : Nat) => slices_Concat_impl_Ty_impl_Ty_j1 i (s : Int) (tyss ls) (tyss ls) (((tyss ls).1 : Nat) : Int)) (l := ls) (f := fun p => p.flatten.length) (fun pre c q hp => ?_) ?_
    · have hlt := len_mid hp
      have hle : (pre.flatten ++ c).length ≤ 2000000 := by
        have : ls.flatten.length = (pre.flatten ++ c).length + q.flatten.length := by rw [← hp]; simp; omega
        omega
      rw [List.length_append] at hle
      rw [slices_Concat_impl_Ty_impl_Ty_j1_eq, oite_dec, if_pos (show (pre.length : Int) < ((tyss ls).1 : Nat) by show (pre.length : Int) < (ls.length : Nat); omega)]
      simp only [at1 hp]
      have e : w64 ((pre.flatten.length : Int) + ((tys c).1 : Nat)) = (((pre ++ [c]).flatten.length : Nat) : Int) := by
        rw [show ((tys c).1 : Int) = (c.length : Nat) from rfl, w64_id (by omega) (by omega)]
        simp
      rw [e, oite_dec, if_neg (by omega), w64_succ (by omega)]
    · rw [slices_Concat_impl_Ty_impl_Ty_j1_eq, oite_dec, if_neg (by simp [tyss, sl])]
      obtain ⟨mv, h⟩ := grow_ok ls.flatten.length hs
      rw [h, ocall_own]
      exact j2
  rw [slices_Concat_impl_Ty_impl_Ty_eq]
  exact j1

theorem ocall_agg_box {l l' : List LS} (h : LS.alld l = true) (h' : LS.alld l' = true) {t : LS.Ts l} {t' : LS.Ts l'} {R : Type} {f : LS.Ts l → LS.Ts l' × Unit → Option R} : ocall (.m (.agg l)) [.box l'] (some (.agg (LS.encs l t), [.box (LS.encs l' t')])) f = f t (t', ()) :=
  ocall_t (s := .m (.agg l)) (m := [.box l']) rfl (LS.decs_encs h t) (ES.decs_box h' t')

/-! Blocks -/
def funTy (a r : Ty) : Ty := .mk 4 0 [a, r]
theorem funTy_size (a r : Ty) : (funTy a r).size = 2 + a.size + r.size := by unfold funTy; rw [Ty.size_mk]; simp; omega
def tysB (l : List Ty) (m : Nat) : Bool := l.all fun t => t.lowOk m
def blkB (x : Blk) (m : Nat) : Bool := (decide (x.env.length ≤ 60) && tysB x.env m) && ((decide (x.locals.length ≤ 60) && tysB x.locals m) && (tysB [x.arg, x.res, funTy x.arg x.res] m && (decide (1 ≤ x.code.length ∧ x.code.length ≤ 1000) && x.code.all insB)))

theorem tysOk_ok (l : List Ty) (lim : Int) (m : Nat) (hm : m ≤ 2000000) (hl : l.length ≤ 2000000) (hs : ∀ t ∈ l, t.size ≤ 2000000) : spec_l8tysOk (tys l) lim m = rB (decide ((l.length : Int) ≤ lim) && tysB l m) := by
  have j1 := loopB (J := fun i => spec_l8tysOk_j1 i m (tys l)) (l := l) (p := fun t => t.lowOk m) (c := true) (fun pre t q hp => by
    have hlt := len_mid hp
    have hts := hs t (mem_mid hp)
    have at3 : ∀ {R : Type} (f : T_Ty → Option R), oat sh_Ty (tys l).1 (tys l).2 (pre.length : Int) f = f t.ts := fun f => oat_mid hp rfl
    rw [spec_l8tysOk_j1_eq, oite_dec, if_pos (show (pre.length : Int) < ((tys l).1 : Nat) by show (pre.length : Int) < (l.length : Nat); omega)]
    simp only [at3]
    rw [spec_TyOk_ok t hts, ocall_bool, l7closed_ok t m hm hts, ocall_bool]
    simp only [spec_l8tysOk_j2_eq, oite_t, oite_nbool, w64_succ (show (pre.length : Int) < 9223372036854775807 by omega)]
    show _ = if (t.okB && t.low m) = true then _ else _
    cases t.okB <;> cases t.low m <;> rfl)
    (by rw [spec_l8tysOk_j1_eq, oite_dec, if_neg (by simp [tys, sl])])
  rw [spec_l8tysOk_eq, j1, oite_rB]
  unfold tysB
  refine resP ?_
  rw [show (((tys l).1 : Nat) : Int) = (l.length : Nat) from rfl]
  simp only [Bool.and_true, Bool.and_eq_true, Bool.not_eq_true', decide_eq_false_iff_not, decide_eq_true_eq]
  refine ⟨fun h => ⟨by omega, h.2⟩, fun h => ⟨by omega, h.2⟩⟩

theorem blockOk_ok (x : Blk) (ly : Sl) (hm : ly.1 ≤ 2000000) (hs : x.size ≤ 1048576) : impl_blockOk x.ts ly = rB (blkB x ly.1) := by
  obtain ⟨env, arg, res, locals, code⟩ := x
  have hsz : tysSize env + arg.size + res.size + tysSize locals + (code.length + (code.map Ins.size).sum) ≤ 1048576 := hs
  unfold tysSize at hsz
  have tsz : ∀ t ∈ env ++ (locals ++ [arg, res, funTy arg res]), t.size ≤ 2000000 := by
    intro t ht
    simp only [List.mem_append, List.mem_cons, List.not_mem_nil, or_false] at ht
    rcases ht with h | h | rfl | rfl | rfl
    · have := sizes_mem (f := Ty.size) h; omega
    · have := sizes_mem (f := Ty.size) h; omega
    · omega
    · omega
    · rw [funTy_size]; omega
  have cont : slices_ContainsFunc_impl_Ins_impl_Ins_Fimpl_blockOk_1 (inss code) = rB (!code.all insB) := by
    obtain ⟨i, h1, h2⟩ := index_all (J := fun i => slices_IndexFunc_impl_Ins_impl_Ins_Fimpl_blockOk_1_j1 i (inss code) (((inss code).1 : Nat) : Int)) (l := code) (p := insB) (Mm := []) (fun pre a q hp => by
      have hlt := len_mid hp
      have := sizes_mem (f := Ins.size) (mem_mid hp)
      have at1 : ∀ {R : Type} (f : T_Ins → Option R), oat sh_Ins (inss code).1 (inss code).2 (pre.length : Int) f = f a.ts := fun f => oat_mid hp rfl
      rw [slices_IndexFunc_impl_Ins_impl_Ins_Fimpl_blockOk_1_j1_eq, oite_dec, if_pos (show (pre.length : Int) < ((inss code).1 : Nat) by show (pre.length : Int) < (code.length : Nat); omega)]
      simp only [at1]
      rw [impl_blockOk_1_eq, InsI_ok a (by omega), ocall_bool, ocall_bool, oite_nbool, w64_succ (by omega)])
      (by rw [slices_IndexFunc_impl_Ins_impl_Ins_Fimpl_blockOk_1_j1_eq, oite_dec, if_neg (by simp [inss, sl])])
    rw [slices_ContainsFunc_impl_Ins_impl_Ins_Fimpl_blockOk_1_eq, slices_IndexFunc_impl_Ins_impl_Ins_Fimpl_blockOk_1_eq, h1, ocall_int, h2]
  let all := env ++ (locals ++ [arg, res, funTy arg res])
  have j3 : impl_blockOk_j3 0 ly (tys all) (((tys all).1 : Nat) : Int) (Blk.ts (.mk env arg res locals code)) = rB (tysB all ly.1 && code.all insB) := by
    refine loopB (J := fun i => impl_blockOk_j3 i ly (tys all) (((tys all).1 : Nat) : Int) (Blk.ts (.mk env arg res locals code))) (fun pre t q hp => ?_) ?_
    · have hlt := len_mid hp
      have hl : all.length ≤ 2000000 := by simp only [all, List.length_append, List.length_cons, List.length_nil]; omega
      have at3 : ∀ {R : Type} (f : T_Ty → Option R), oat sh_Ty (tys all).1 (tys all).2 (pre.length : Int) f = f t.ts := fun f => oat_mid hp rfl
      rw [impl_blockOk_j3_eq, oite_dec, if_pos (show (pre.length : Int) < ((tys all).1 : Nat) by show (pre.length : Int) < (all.length : Nat); omega)]
      simp only [at3]
      rw [lowTyOk_ok t ly hm (tsz t (mem_mid hp)), ocall_bool, oite_nbool, w64_succ (by omega)]
    · rw [impl_blockOk_j3_eq, oite_dec, if_neg (by simp [tys, sl])]
      rw [show (Blk.ts (.mk env arg res locals code)).2.2.2.2.2.2.2.2.1 = inss code from rfl, cont, ocall_bool, Bool.not_not]
  have j1 : impl_blockOk_j1 ly (Blk.ts (.mk env arg res locals code)) = rB (tysB all ly.1 && code.all insB) := by
    rw [impl_blockOk_j1_eq, impl_Block_fun_eq, ocall_agg_box rfl rfl]
    rw [osame_t, osame_t, osame_t, osame_t]
    have hc := concat_ok [env, locals, [arg, res, funTy arg res]] (by simp; omega) (by simp)
    have he : ([env, locals, [arg, res, funTy arg res]] : List (List Ty)).flatten = all := by simp [all]
    rw [he] at hc
    have h := congrArg (fun x => ocall (.m (.one (.sl 3))) [] x fun (r4 : Sl) (m5 : Unit) => impl_blockOk_j3 (0 : Int) ly r4 ((r4.1 : Nat) : Int) (Blk.ts (.mk env arg res locals code))) hc
    refine Eq.trans h ?_
    rw [ocall_sl]
    exact j3
  rw [impl_blockOk_eq]
  simp only [impl_blockOk_j2_eq, j1, within_ok, ocall_bool]
  unfold blkB
  rw [Blk.ts_mk]
  simp only [show (tys env).1 = env.length from rfl, show (tys locals).1 = locals.length from rfl, show (inss code).1 = code.length from rfl]
  have ea : tysB all ly.1 = (tysB env ly.1 && (tysB locals ly.1 && tysB [arg, res, funTy arg res] ly.1)) := by simp only [tysB, all, List.all_append]
  rw [ea]
  generalize tysB env ly.1 = A
  generalize tysB locals ly.1 = B
  generalize tysB [arg, res, funTy arg res] ly.1 = C
  generalize code.all insB = D
  simp only [oite_if, decide_eq_true_eq, reduceIte, Bool.not_eq_true', decide_eq_false_iff_not]
  cases A <;> cases B <;> cases C <;> cases D <;> (repeat' split) <;> (refine resP ?_) <;> simp <;> omega

/-! Programs -/
def allP {α : Type} (p : List α → α → Bool) : List α → List α → Bool
  | _, [] => true
  | pre, a :: l => p pre a && allP p (pre ++ [a]) l
theorem loopP {α : Type} {J : Int → Res} {l : List α} {p : List α → α → Bool} {c : Bool} (hs : ∀ pre a q, pre ++ a :: q = l → J (pre.length : Int) = if p pre a = true then J ((pre.length + 1 : Nat) : Int) else rB false) (he : J (l.length : Int) = rB c) :
    J 0 = rB (allP p [] l && c) := by
  have key : ∀ (q pre : List α), pre ++ q = l → J (pre.length : Int) = rB (allP p pre q && c) := by
    intro q
    induction q with
    | nil => intro pre h; simp at h; subst h; rw [he, allP]; simp
    | cons a q ih =>
      intro pre h
      rw [hs pre a q h, allP]
      have := ih (pre ++ [a]) (by simpa using h)
      rw [List.length_append, List.length_singleton] at this
      rw [this]
      cases p pre a <;> simp
  exact key l [] rfl
/-- Is an element right, told by what lies ahead of it. -/
def capAt (pre : List Int) (a : Int) : Bool := decide (0 ≤ a ∧ a ≤ 4) && (match pre.getLast? with | none => true | some b => decide (b < a))
def capsB (l : List Int) : Bool := allP capAt [] l
theorem capsB_len (l : List Int) (h : capsB l = true) : l.length ≤ 5 := by
  have key : ∀ (l pre : List Int) (b : Int), allP capAt (pre ++ [b]) l = true → b ≤ 4 → (l.length : Int) ≤ 4 - b := by
    intro l
    induction l with
    | nil => intro pre b _ hb; simp; omega
    | cons a l ih =>
      intro pre b h hb
      rw [allP, Bool.and_eq_true] at h
      obtain ⟨h1, h2⟩ := h
      unfold capAt at h1
      simp only [List.getLast?_append, List.getLast?_singleton, Option.some_or, Bool.and_eq_true, decide_eq_true_eq] at h1
      have := ih (pre ++ [b]) a h2 (by omega)
      simp only [List.length_cons]
      omega
  cases l with
  | nil => simp
  | cons a l =>
    unfold capsB at h
    rw [allP, Bool.and_eq_true] at h
    obtain ⟨h1, h2⟩ := h
    unfold capAt at h1
    simp only [Bool.and_eq_true, decide_eq_true_eq] at h1
    have := key l [] a h2 (by omega)
    simp only [List.length_cons]
    omega
def formB (x : Prog) : Bool := (layoutsB x.layouts && (decide (1 ≤ x.blocks.length ∧ x.blocks.length ≤ 150) && capsB x.caps)) && x.blocks.all fun b => blkB b x.layouts.length

theorem ascending_ok (l : List Int) (hl : l.length ≤ 1048576) : impl_ascending (ints l) 0 4 = rB (capsB l) := by
  have h := loopP (J := fun i => impl_ascending_j1 i (ints l) 4 0 (ints l) (((ints l).1 : Nat) : Int)) (l := l) (p := capAt) (c := true) (fun pre a q hp => by
    have hlt := len_mid hp
    rw [impl_ascending_j1_eq, oite_dec, if_pos (show (pre.length : Int) < ((ints l).1 : Nat) by show (pre.length : Int) < (l.length : Nat); omega)]
    simp only [at_nums hp]
    rw [within_ok, ocall_bool]
    simp only [impl_ascending_j2_eq, oite_t, oite_f, w64_succ (show (pre.length : Int) < 9223372036854775807 by omega), oite_nbool, decide_eq_true_eq, oite_dec]
    unfold capAt
    rcases List.eq_nil_or_concat pre with rfl | ⟨pre', b, e0⟩
    · rw [if_neg (show ¬ (([] : List Int).length : Int) > 0 by simp)]
      by_cases h : 0 ≤ a ∧ a ≤ 4 <;> simp [h]
    · rw [List.concat_eq_append] at e0
      subst e0
      rw [if_pos (show ((pre' ++ [b]).length : Int) > 0 by simp)]
      have e : w64 (((pre' ++ [b]).length : Int) - 1) = (pre'.length : Int) := by
        rw [w64_id (by simp) (by simp at hlt ⊢; omega)]; simp
      rw [e]
      simp only [at_nums (show pre' ++ b :: (a :: q) = l by rw [← hp]; simp)]
      simp only [List.getLast?_append, List.getLast?_singleton, Option.some_or]
      by_cases h : 0 ≤ a ∧ a ≤ 4
      · rw [if_pos h, decide_eq_true h, Bool.true_and]
        by_cases h' : b < a
        · rw [if_neg (by omega), if_pos (by simpa using h')]
        · rw [if_pos (by omega), if_neg (by simpa using h')]
      · rw [if_neg h, decide_eq_false h, Bool.false_and, if_neg (by simp)])
    (by rw [impl_ascending_j1_eq, oite_dec, if_neg (by simp [ints, sl])])
  rw [impl_ascending_eq, h, Bool.and_true]
  rfl

theorem formI_ok (x : Prog) (hs : x.size ≤ 1048576) : impl_formOk x.ts = rB (formB x) := by
  obtain ⟨ly, bl, cp⟩ := x
  have hsz : (ly.length + (ly.map Layout.size).sum) + (bl.length + (bl.map Blk.size).sum) + cp.length ≤ 1048576 := hs
  have cont : ∃ k : Int, slices_IndexFunc_impl_Block_impl_Block_Fimpl_formOk_1c (blocks bl) (Prog.ts (.mk ly bl cp)) = some (.d (.int .i64 k), [.box (LS.encs sh_Program (Prog.ts (.mk ly bl cp)))]) ∧ decide (k ≥ 0) = !(bl.all fun b => blkB b ly.length) := by
    obtain ⟨i, h1, h2⟩ := index_all (J := fun i => slices_IndexFunc_impl_Block_impl_Block_Fimpl_formOk_1c_j1 i (blocks bl) (((blocks bl).1 : Nat) : Int) (Prog.ts (.mk ly bl cp))) (l := bl) (p := fun b => blkB b ly.length) (Mm := [.box (LS.encs sh_Program (Prog.ts (.mk ly bl cp)))]) (fun pre a q hp => by
      have hlt := len_mid hp
      have := sizes_mem (f := Blk.size) (mem_mid hp)
      have at1 : ∀ {R : Type} (f : T_Block → Option R), oat sh_Block (blocks bl).1 (blocks bl).2 (pre.length : Int) f = f a.ts := fun f => oat_mid hp rfl
      rw [slices_IndexFunc_impl_Block_impl_Block_Fimpl_formOk_1c_j1_eq, oite_dec, if_pos (show (pre.length : Int) < ((blocks bl).1 : Nat) by show (pre.length : Int) < (bl.length : Nat); omega)]
      simp only [at1]
      rw [impl_formOk_1_eq, show (Prog.ts (.mk ly bl cp)).1 = layouts ly from rfl, blockOk_ok a _ (by show ly.length ≤ _; omega) (by omega), ocall_bool, ocall_bool_box rfl, oite_nbool, w64_succ (by omega)]
      rfl)
      (by rw [slices_IndexFunc_impl_Block_impl_Block_Fimpl_formOk_1c_j1_eq, oite_dec, if_neg (by simp [blocks, sl])])
    exact ⟨i, by rw [slices_IndexFunc_impl_Block_impl_Block_Fimpl_formOk_1c_eq]; exact h1, h2⟩
  obtain ⟨k, hk, hk'⟩ := cont
  rw [impl_formOk_eq]
  simp only [impl_formOk_j2_eq, impl_formOk_j1_eq, slices_ContainsFunc_impl_Block_impl_Block_Fimpl_formOk_1c_eq, show (Prog.ts (.mk ly bl cp)).1 = layouts ly from rfl, show (Prog.ts (.mk ly bl cp)).2.1 = blocks bl from rfl, show (Prog.ts (.mk ly bl cp)).2.2.1 = ints cp from rfl, hk, ocall_int_box (show LS.alld sh_Program = true from rfl), ocall_bool_box (show LS.alld sh_Program = true from rfl), hk', Bool.not_not, layoutsI_ok ly (by omega), within_ok, ascending_ok cp (by omega), ocall_bool, show (blocks bl).1 = bl.length from rfl, oite_t, oite_nbool]
  unfold formB
  simp only
  generalize layoutsB ly = A
  generalize capsB cp = B
  generalize (bl.all fun b => blkB b ly.length) = C
  simp only [decide_eq_true_eq]
  cases A <;> cases B <;> cases C <;> simp only [reduceIte, Bool.false_eq_true] <;> (repeat' split) <;> (refine resP ?_) <;> simp <;> omega
end Go.Ev.Q

/-
  The reference's word on which programs are right.
-/
namespace Go.Ev.Q
open Go Go.Ev
set_option linter.unusedSimpArgs false

theorem formS_ok (x : Prog) (hs : x.size ≤ 1048576) : spec_l8programOk x.ts = rB (formB x) := by
  obtain ⟨ly, bl, cp⟩ := x
  have hsz : (ly.length + (ly.map Layout.size).sum) + (bl.length + (bl.map Blk.size).sum) + cp.length ≤ 1048576 := hs
  let X := Prog.ts (.mk ly bl cp)
  have j5 : spec_l8programOk_j5 0 (ly.length : Int) X = rB ((bl.all fun b => blkB b ly.length) && true) := by
    refine loopB (J := fun i => spec_l8programOk_j5 i (ly.length : Int) X) (fun pre b q hp => ?_) ?_
    · have hlt := len_mid hp
      have hbs := sizes_mem (f := Blk.size) (mem_mid hp)
      have at1 : ∀ {R : Type} (f : T_Block → Option R), oat sh_Block X.2.1.1 X.2.1.2 (pre.length : Int) f = f b.ts := fun f => oat_mid hp rfl
      obtain ⟨env, arg, res, locals, code⟩ := b
      have hb : tysSize env + arg.size + res.size + tysSize locals + (code.length + (code.map Ins.size).sum) = Blk.size (.mk env arg res locals code) := rfl
      have h1 : tysSize env = env.length + (env.map Ty.size).sum := rfl
      have h2 : tysSize locals = locals.length + (locals.map Ty.size).sum := rfl
      have j8 : spec_l8programOk_j8 0 (ly.length : Int) (pre.length : Int) (Blk.ts (.mk env arg res locals code)) X = if code.all insB = true then spec_l8programOk_j5 ((pre.length + 1 : Nat) : Int) (ly.length : Int) X else rB false := by
        refine loop_all (J := fun i => spec_l8programOk_j8 i (ly.length : Int) (pre.length : Int) (Blk.ts (.mk env arg res locals code)) X) (fun pre2 c q2 hp2 => ?_) ?_
        · have hlt2 := len_mid hp2
          have hcs := sizes_mem (f := Ins.size) (mem_mid hp2)
          have at2 : ∀ {R : Type} (f : T_Ins → Option R), oat sh_Ins (inss code).1 (inss code).2 (pre2.length : Int) f = f c.ts := fun f => oat_mid hp2 rfl
          rw [spec_l8programOk_j8_eq, show (Blk.ts (.mk env arg res locals code)).2.2.2.2.2.2.2.2.1 = inss code from rfl, oite_dec, if_pos (show (pre2.length : Int) < ((inss code).1 : Nat) by show (pre2.length : Int) < (code.length : Nat); omega)]
          simp only [at2]
          rw [InsS_ok c (by omega), ocall_bool, oite_nbool, w64_succ (by omega)]
        · rw [spec_l8programOk_j8_eq, show (Blk.ts (.mk env arg res locals code)).2.2.2.2.2.2.2.2.1 = inss code from rfl, oite_dec, if_neg (by simp [inss, sl]), w64_succ (by omega)]
      have t1 := tysOk_ok env 60 ly.length (by omega) (by omega) (fun t h => by have := sizes_mem (f := Ty.size) h; omega)
      have t2 := tysOk_ok locals 60 ly.length (by omega) (by omega) (fun t h => by have := sizes_mem (f := Ty.size) h; omega)
      have t3 := tysOk_ok [arg, res, funTy arg res] 3 ly.length (by omega) (by simp) (fun t h => by
        simp only [List.mem_cons, List.not_mem_nil, or_false] at h
        rcases h with rfl | rfl | rfl
        · omega
        · omega
        · rw [funTy_size]; omega)
      have e6 : spec_l6fun arg.ts res.ts = some (.agg (LS.encs sh_Ty (funTy arg res).ts), []) := by
        rw [spec_l6fun_eq]; rfl
      rw [spec_l8programOk_j5_eq, oite_dec, if_pos (show (pre.length : Int) < (X.2.1.1 : Nat) by show (pre.length : Int) < (bl.length : Nat); omega)]
      simp only [at1]
      rw [Blk.ts_mk]
      simp only [Ty.eta', t1, ocall_bool, t2, e6, ocall_agg (show LS.alld sh_Ty = true from rfl), spec_l8programOk_j7_eq, spec_l8programOk_j6_eq]
      rw [show (3, (vDs (LS.encs sh_Ty arg.ts) :: vDs (LS.encs sh_Ty res.ts) :: vDs (LS.encs sh_Ty (funTy arg res).ts) :: [] : List (List D))) = tys [arg, res, funTy arg res] from rfl, t3]
      have j8' := j8
      rw [Blk.ts_mk] at j8'
      simp only [ocall_bool, j8', show (inss code).1 = code.length from rfl]
      have eb : blkB (.mk env arg res locals code) ly.length = ((decide (env.length ≤ 60) && tysB env ly.length) && ((decide (locals.length ≤ 60) && tysB locals ly.length) && (tysB [arg, res, funTy arg res] ly.length && (decide (1 ≤ code.length ∧ code.length ≤ 1000) && code.all insB)))) := rfl
      rw [eb]
      generalize tysB env ly.length = A
      generalize tysB locals ly.length = B
      generalize tysB [arg, res, funTy arg res] ly.length = C
      generalize code.all insB = D
      generalize spec_l8programOk_j5 ((pre.length + 1 : Nat) : Int) (ly.length : Int) X = K
      rw [show decide (((env.length : Nat) : Int) ≤ 60) = decide (env.length ≤ 60) from decide_eq_decide.2 (by omega), show decide (((locals.length : Nat) : Int) ≤ 60) = decide (locals.length ≤ 60) from decide_eq_decide.2 (by omega), show decide ((([arg, res, funTy arg res] : List Ty).length : Int) ≤ 3) = true from rfl]
      generalize decide (env.length ≤ 60) = E
      generalize decide (locals.length ≤ 60) = F
      have eg : (decide (1 ≤ code.length ∧ code.length ≤ 1000)) = (!decide (((code.length : Nat) : Int) < 1) && !decide (((code.length : Nat) : Int) > 1000)) := by
        rw [Bool.eq_iff_iff]
        simp only [Bool.and_eq_true, Bool.not_eq_true', decide_eq_true_eq, decide_eq_false_iff_not]
        omega
      rw [eg]
      generalize decide (((code.length : Nat) : Int) < 1) = G
      generalize decide (((code.length : Nat) : Int) > 1000) = H
      cases A <;> cases B <;> cases C <;> cases D <;> cases E <;> cases F <;> cases G <;> cases H <;> simp [oite_t, oite_f]
    · rw [spec_l8programOk_j5_eq, oite_dec, if_neg (by show ¬ (bl.length : Int) < (bl.length : Nat); omega)]
  have j3 : spec_l8programOk_j3 0 (ly.length : Int) X = rB (capsB cp && (bl.all fun b => blkB b ly.length)) := by
    refine loopP (J := fun i => spec_l8programOk_j3 i (ly.length : Int) X) (l := cp) (p := capAt) (fun pre a q hp => ?_) ?_
    · have hlt := len_mid hp
      rw [spec_l8programOk_j3_eq, show X.2.2.1 = ints cp from rfl, oite_dec, if_pos (show (pre.length : Int) < ((ints cp).1 : Nat) by show (pre.length : Int) < (cp.length : Nat); omega)]
      simp only [at_nums hp]
      simp only [spec_l8programOk_j4_eq, oite_t, oite_f, w64_succ (show (pre.length : Int) < 9223372036854775807 by omega), oite_dec]
      unfold capAt
      rcases List.eq_nil_or_concat pre with rfl | ⟨pre', b, e0⟩
      · rw [if_neg (show ¬ (([] : List Int).length : Int) > 0 by simp)]
        by_cases h1 : a < 0
        · rw [if_pos h1, if_neg (by simp; omega)]
        · rw [if_neg h1]
          by_cases h2 : a > 4
          · rw [if_pos h2, if_neg (by simp; omega)]
          · rw [if_neg h2, if_pos (by simp; omega)]
      · rw [List.concat_eq_append] at e0
        subst e0
        rw [if_pos (show ((pre' ++ [b]).length : Int) > 0 by simp)]
        have e : w64 (((pre' ++ [b]).length : Int) - 1) = (pre'.length : Int) := by
          rw [w64_id (by simp) (by simp at hlt ⊢; omega)]; simp
        rw [e]
        simp only [at_nums (show pre' ++ b :: (a :: q) = cp by rw [← hp]; simp)]
        simp only [List.getLast?_append, List.getLast?_singleton, Option.some_or]
        by_cases h1 : a < 0
        · rw [if_pos h1, if_neg (by simp; omega)]
        · rw [if_neg h1]
          by_cases h2 : a > 4
          · rw [if_pos h2, if_neg (by simp; omega)]
          · rw [if_neg h2]
            by_cases h3 : a ≤ b
            · rw [if_pos h3, if_neg (by simp; omega)]
            · rw [if_neg h3, if_pos (by simp; omega)]
    · rw [spec_l8programOk_j3_eq, oite_dec, if_neg (by show ¬ (cp.length : Int) < (cp.length : Nat); omega), j5, Bool.and_true]
  have hc5 := capsB_len cp
  show spec_l8programOk X = _
  rw [spec_l8programOk_eq]
  simp only [spec_l8programOk_j2_eq, spec_l8programOk_j1_eq, show X.1 = layouts ly from rfl, show (layouts ly).1 = ly.length from rfl, layoutsS_ok ly (by omega), ocall_bool, show X.2.1.1 = bl.length from rfl, show X.2.2.1.1 = cp.length from rfl, oite_t, oite_nbool, oite_dec, j3]
  unfold formB
  simp only
  generalize layoutsB ly = A
  generalize capsB cp = B at hc5
  generalize (bl.all fun b => blkB b ly.length) = C
  cases A <;> cases B <;> cases C <;> (try simp only [reduceIte, Bool.false_eq_true]) <;> (repeat' split) <;> (refine resP ?_) <;> (try have := hc5 rfl) <;> simp <;> omega
end Go.Ev.Q
