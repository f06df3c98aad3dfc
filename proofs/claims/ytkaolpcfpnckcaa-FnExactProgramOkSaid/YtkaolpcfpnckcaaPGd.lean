import Derived.Test.YtkaolpcfpnckcaaPGb
import Derived.Test.YtkaolpcfpnckcaaPGc
set_option linter.unusedVariables false
set_option linter.unusedSimpArgs false
/-
  The bytes of numbers, types, instructions, programs.
-/
namespace Go.Ev
open Go Go.Ev.Q

def numB (n : Nat) : List Int := if n < 128 then [(n : Int)] else ((128 + n % 128 : Nat) : Int) :: numB (n / 128)
termination_by n
decreasing_by omega
theorem numB_len : ∀ (k n : Nat), n < 128 ^ (k + 1) → (numB n).length ≤ k + 1
  | 0, n, h => by rw [numB, if_pos (by simpa using h)]; simp
  | k + 1, n, h => by
    rw [numB]
    split
    · simp
    · have := numB_len k (n / 128) (by rw [Nat.div_lt_iff_lt_mul (by decide)]; rw [Nat.pow_succ] at h; exact h)
      simp; omega
def encNum (n : Int) : List Int := if 0 ≤ n ∧ n ≤ 2147483647 then numB n.toNat else []
theorem encNum_len (n : Int) : (encNum n).length ≤ 5 := by
  unfold encNum
  split
  · exact numB_len 4 _ (by omega)
  · simp
abbrev w8 (x : Int) : Int := IntKind.wrap .u8 x
mutual
def Ty.enc : Ty → List Int
  | .mk k n l => w8 k :: (if k = 6 ∨ k = 7 then encNum n else []) ++ (if k = 6 then encNum l.length else []) ++ Ty.encs l
def Ty.encs : List Ty → List Int
  | [] => []
  | a :: l => Ty.enc a ++ Ty.encs l
end
theorem Ty.encs_eq : ∀ l : List Ty, Ty.encs l = (l.map Ty.enc).flatten
  | [] => by rw [Ty.encs]; rfl
  | a :: l => by rw [Ty.encs, Ty.encs_eq l]; rfl
theorem Ty.enc_mk {k n : Int} {l : List Ty} : Ty.enc (.mk k n l) = w8 k :: (if k = 6 ∨ k = 7 then encNum n else []) ++ (if k = 6 then encNum l.length else []) ++ (l.map Ty.enc).flatten := by rw [Ty.enc, Ty.encs_eq]
theorem flen {α : Type} (f : α → List Int) (g : α → Nat) (c d : Nat) : ∀ (l : List α), (∀ a ∈ l, (f a).length ≤ c + d * g a) → ((l.map f).flatten).length ≤ c * l.length + d * (l.map g).sum
  | [], _ => by simp
  | a :: l, h => by
    have h1 := h a (by simp)
    have h2 := flen f g c d l (fun b hb => h b (by simp [hb]))
    simp only [List.map_cons, List.flatten_cons, List.length_append, List.sum_cons, List.length_cons, Nat.mul_add, Nat.mul_one]
    omega
theorem Ty.enc_len (t : Ty) : t.enc.length ≤ 11 + 11 * t.size := by
  induction t using Ty.ind with
  | h k n l ih =>
    rw [Ty.enc_mk, Ty.size_mk]
    have h := flen Ty.enc Ty.size 11 11 l ih
    have h1 := encNum_len n
    have h2 := encNum_len (l.length : Int)
    have e1 : (if k = 6 ∨ k = 7 then encNum n else []).length ≤ 5 := by split <;> simp [h1]
    have e2 : (if k = 6 then encNum (l.length : Int) else []).length ≤ 5 := by split <;> simp [h2]
    simp only [List.cons_append, List.length_cons, List.length_append]
    omega
def encTys (l : List Ty) : List Int := encNum l.length ++ (l.map Ty.enc).flatten
theorem encTys_len (l : List Ty) : (encTys l).length ≤ 5 + 11 * tysSize l := by
  have h := flen Ty.enc Ty.size 11 11 l (fun a _ => a.enc_len)
  have h1 := encNum_len (l.length : Int)
  unfold encTys tysSize
  rw [List.length_append]
  omega
def encNums (l : List Int) : List Int := encNum l.length ++ (l.map encNum).flatten
theorem encNums_len (l : List Int) : (encNums l).length ≤ 5 + 5 * l.length := by
  have h := flen encNum (fun _ => 0) 5 0 l (fun a _ => by simpa using encNum_len a)
  have h1 := encNum_len (l.length : Int)
  unfold encNums
  rw [List.length_append]
  omega
def encText (t : List Int) : List Int := if 40 < t.length then [] else encNum t.length ++ t
theorem encText_len (t : List Int) : (encText t).length ≤ 5 + t.length := by
  have h1 := encNum_len (t.length : Int)
  unfold encText
  split
  · simp
  · rw [List.length_append]; omega
def foldN (n : Int) : Int := if 0 ≤ n ∧ n ≤ 1073741823 then 2 * n else if -1073741824 ≤ n ∧ n < 0 then -2 * n - 1 else -1
/-- Which parts an operation has: 1: a, 2: a and b, 3: a and targets, 4: a literal. -/
def partsN (op : Int) : Nat := if op = 1 ∨ op = 4 ∨ op = 6 ∨ op = 7 ∨ op = 23 ∨ op = 26 ∨ op = 27 ∨ op = 29 ∨ op = 31 then 1 else if op = 21 then 2 else if op = 22 then 3 else if op = 2 then 4 else 0
def Ins.enc (x : Ins) : List Int := w8 x.op :: (if partsN x.op = 1 then (if x.op = 1 then encNum (foldN x.a) else encNum x.a) else if partsN x.op = 2 then encNum x.a ++ encNum x.b else if partsN x.op = 3 then encNum x.a ++ encNums x.to else if partsN x.op = 4 then encText x.lit else [])
theorem Ins.enc_len (x : Ins) : x.enc.length ≤ 16 + 5 * x.size := by
  have h1 := encNum_len x.a
  have h2 := encNum_len x.b
  have h3 := encNum_len (foldN x.a)
  have h4 := encNums_len x.to
  have h5 := encText_len x.lit
  unfold Ins.enc Ins.size
  rw [List.length_cons]
  repeat' split
  all_goals (try simp only [List.length_append, List.length_nil]); omega
def encIns (l : List Ins) : List Int := encNum l.length ++ (l.map Ins.enc).flatten
def Blk.enc (x : Blk) : List Int := encTys x.env ++ x.arg.enc ++ x.res.enc ++ encTys x.locals ++ encIns x.code
theorem Blk.enc_len (x : Blk) : x.enc.length ≤ 40 + 26 * x.size := by
  have h1 := encTys_len x.env
  have h2 := x.arg.enc_len
  have h3 := x.res.enc_len
  have h4 := encTys_len x.locals
  have h5 := flen Ins.enc Ins.size 16 5 x.code (fun a _ => a.enc_len)
  have h6 := encNum_len (x.code.length : Int)
  unfold Blk.enc Blk.size encIns
  simp only [List.length_append]
  omega
def Layout.enc (x : Layout) : List Int := encNum x.cons.length ++ (x.cons.map encTys).flatten
theorem Layout.enc_len (x : Layout) : x.enc.length ≤ 5 + 16 * x.size := by
  have h1 := flen encTys tysSize 5 11 x.cons (fun a _ => encTys_len a)
  have h2 := encNum_len (x.cons.length : Int)
  unfold Layout.enc Layout.size
  rw [List.length_append]
  omega
def encLays (l : List Layout) : List Int := encNum l.length ++ (l.map Layout.enc).flatten
def encBlks (l : List Blk) : List Int := encNum l.length ++ (l.map Blk.enc).flatten
def Prog.enc (x : Prog) : List Int := [76, 75] ++ encLays x.layouts ++ encNums x.caps ++ encBlks x.blocks
theorem Prog.enc_len (x : Prog) : x.enc.length ≤ 100 + 66 * x.size := by
  have h1 := flen Layout.enc Layout.size 5 16 x.layouts (fun a _ => a.enc_len)
  have h2 := encNum_len (x.layouts.length : Int)
  have h3 := encNums_len x.caps
  have h4 := flen Blk.enc Blk.size 40 26 x.blocks (fun a _ => a.enc_len)
  have h5 := encNum_len (x.blocks.length : Int)
  unfold Prog.enc Prog.size encLays encBlks
  simp only [List.length_append, List.length_cons, List.length_nil]
  omega
end Go.Ev

/-
  Both sides agree on which instructions are right.
-/
namespace Go.Ev.Q
open Go Go.Ev
set_option linter.unusedSimpArgs false

def litB (l : List Int) : Bool := decide (l.length ≤ 20) && l.all fun c => decide (32 ≤ c ∧ c ≤ 126 ∧ c ≠ 34 ∧ c ≠ 92)
def toB (l : List Int) : Bool := l.all fun n => decide (0 ≤ n ∧ n ≤ 2147483647)
def headB (p : Nat) (x : Ins) : Bool := decide ((0 ≤ x.b ∧ x.b ≤ 2147483647) ∧ (p ≠ 2 → x.b = 0) ∧ (p ≠ 4 → x.lit.length = 0) ∧ (p = 3 → 1 ≤ x.to.length ∧ x.to.length ≤ 5) ∧ (p ≠ 3 → x.to.length = 0))
def insB (x : Ins) : Bool := (decide ((0 ≤ x.op ∧ x.op ≤ 31) ∧ (x.op = 1 → -1073741824 ≤ x.a ∧ x.a ≤ 1073741823) ∧ (x.op ≠ 1 → 0 ≤ x.a ∧ x.a ≤ 2147483647) ∧ (partsN x.op = 0 ∨ partsN x.op = 4 → x.a = 0)) && headB (partsN x.op) x) && (toB x.to && litB x.lit)

theorem at_nums {l pre q : List Int} {a : Int} (h : pre ++ a :: q = l) {R : Type} (f : LS.Ts [.int .i64] → Option R) : oat [(.int .i64)] (ints l).1 (ints l).2 (pre.length : Int) f = f (a, ()) := oat_mid h rfl
theorem at_byte {l pre q : List Int} {a : Int} (h : pre ++ a :: q = l) {R : Type} (f : LS.Ts [.int .u8] → Option R) : oat [(.int .u8)] (bytes l).1 (bytes l).2 (pre.length : Int) f = f (a, ()) := oat_mid h rfl

theorem parts_ok (k : Int) : spec_l8parts k = rI (partsN k : Nat) := by
  rw [spec_l8parts_eq]
  simp only [spec_l8parts_j1_eq, oite_if, beq_iff_eq]
  unfold partsN
  by_cases h : k = 1 ∨ k = 4 ∨ k = 6 ∨ k = 7 ∨ k = 23 ∨ k = 26 ∨ k = 27 ∨ k = 29 ∨ k = 31
  · rw [if_pos h]
    rcases h with rfl | rfl | rfl | rfl | rfl | rfl | rfl | rfl | rfl <;> rfl
  · rw [if_neg h, if_neg (by omega), if_neg (by omega), if_neg (by omega), if_neg (by omega), if_neg (by omega), if_neg (by omega), if_neg (by omega), if_neg (by omega), if_neg (by omega)]
    split
    · rfl
    · split
      · rfl
      · split <;> rfl

theorem partsI_ok (k : Int) : impl_partsOfIns k = some (.agg (LS.encs [.bool, .bool, .bool, .bool] (decide (partsN k = 1 ∨ partsN k = 2 ∨ partsN k = 3), decide (partsN k = 2), decide (partsN k = 3), decide (partsN k = 4), ())), []) := by
  rw [impl_partsOfIns_eq]
  simp only [impl_partsOfIns_j2_eq, impl_partsOfIns_j1_eq, oite_if, beq_iff_eq]
  unfold partsN
  by_cases h : k = 1 ∨ k = 4 ∨ k = 6 ∨ k = 7 ∨ k = 23 ∨ k = 26 ∨ k = 27 ∨ k = 29 ∨ k = 31
  · rw [if_pos h]
    rcases h with rfl | rfl | rfl | rfl | rfl | rfl | rfl | rfl | rfl <;> rfl
  · rw [if_neg h, if_neg (by omega), if_neg (by omega), if_neg (by omega), if_neg (by omega), if_neg (by omega), if_neg (by omega), if_neg (by omega), if_neg (by omega), if_neg (by omega)]
    split
    · rfl
    · split
      · rfl
      · split <;> rfl

theorem litS_ok (l : List Int) : spec_l5lit (bytes l) = rB (litB l) := by
  rw [spec_l5lit_eq]
  by_cases h0 : l.length ≤ 20
  · have j1 := loopB (J := fun i => spec_l5lit_j1 i (bytes l)) (l := l) (p := fun c => decide (32 ≤ c ∧ c ≤ 126 ∧ c ≠ 34 ∧ c ≠ 92)) (c := true) (fun pre a q hp => by
      have hlt := len_mid hp
      rw [spec_l5lit_j1_eq, oite_dec, if_pos (show (pre.length : Int) < ((bytes l).1 : Nat) by show (pre.length : Int) < (l.length : Nat); omega)]
      simp only [at_byte hp, spec_l5lit_j2_eq, w64_succ (show (pre.length : Int) < 9223372036854775807 by omega), oite_if, beq_iff_eq, decide_eq_true_eq, reduceIte]
      repeat' split
      all_goals first | rfl | (exfalso; omega))
      (by rw [spec_l5lit_j1_eq, oite_dec, if_neg (by simp [bytes, sl])])
    rw [oite_dec, if_neg (show ¬ (((bytes l).1 : Nat) : Int) > 20 by show ¬ ((l.length : Nat) : Int) > 20; omega), j1]
    unfold litB
    rw [decide_eq_true h0, Bool.true_and, Bool.and_true]
  · rw [oite_dec, if_pos (show (((bytes l).1 : Nat) : Int) > 20 by show ((l.length : Nat) : Int) > 20; omega)]
    unfold litB
    rw [decide_eq_false h0, Bool.false_and]
theorem litI_ok (l : List Int) : impl_litOk (bytes l) = rB (litB l) := by
  rw [impl_litOk_eq]
  by_cases h0 : l.length ≤ 20
  · obtain ⟨i, h1, h2⟩ := index_all (J := fun i => slices_IndexFunc_byte_byte_Fimpl_litOk_1_j1 i (bytes l) (((bytes l).1 : Nat) : Int)) (l := l) (p := fun c => decide (32 ≤ c ∧ c ≤ 126 ∧ c ≠ 34 ∧ c ≠ 92)) (Mm := []) (fun pre a q hp => by
      have hlt := len_mid hp
      have e : impl_litOk_1 a = rB (!decide (32 ≤ a ∧ a ≤ 126 ∧ a ≠ 34 ∧ a ≠ 92)) := by
        rw [impl_litOk_1_eq]
        simp only [oite_if, beq_iff_eq, decide_eq_true_eq]
        repeat' split
        all_goals
          refine resP ?_
          simp only [Bool.not_eq_true', decide_eq_false_iff_not, true_iff, beq_iff_eq]
          omega
      rw [slices_IndexFunc_byte_byte_Fimpl_litOk_1_j1_eq, oite_dec, if_pos (show (pre.length : Int) < ((bytes l).1 : Nat) by show (pre.length : Int) < (l.length : Nat); omega)]
      simp only [at_byte hp]
      rw [e, ocall_bool, oite_nbool, w64_succ (by omega)])
      (by rw [slices_IndexFunc_byte_byte_Fimpl_litOk_1_j1_eq, oite_dec, if_neg (by simp [bytes, sl])])
    rw [oite_dec, if_pos (show (((bytes l).1 : Nat) : Int) ≤ 20 by show ((l.length : Nat) : Int) ≤ 20; omega), slices_ContainsFunc_byte_byte_Fimpl_litOk_1_eq, slices_IndexFunc_byte_byte_Fimpl_litOk_1_eq, h1, ocall_int, ocall_bool, h2, Bool.not_not]
    unfold litB
    rw [decide_eq_true h0, Bool.true_and]
  · rw [oite_dec, if_neg (show ¬ (((bytes l).1 : Nat) : Int) ≤ 20 by show ¬ ((l.length : Nat) : Int) ≤ 20; omega)]
    unfold litB
    rw [decide_eq_false h0, Bool.false_and]
theorem toI_ok (l : List Int) (hl : l.length ≤ 1048576) : slices_ContainsFunc_int_int_Fimpl_InsOk_1 (ints l) = rB (!toB l) := by
  obtain ⟨i, h1, h2⟩ := index_all (J := fun i => slices_IndexFunc_int_int_Fimpl_InsOk_1_j1 i (ints l) (((ints l).1 : Nat) : Int)) (l := l) (p := fun n => decide (0 ≤ n ∧ n ≤ 2147483647)) (Mm := []) (fun pre a q hp => by
    have hlt := len_mid hp
    rw [slices_IndexFunc_int_int_Fimpl_InsOk_1_j1_eq, oite_dec, if_pos (show (pre.length : Int) < ((ints l).1 : Nat) by show (pre.length : Int) < (l.length : Nat); omega)]
    simp only [at_nums hp]
    rw [impl_InsOk_1_eq, within_ok, ocall_bool, ocall_bool, oite_nbool, w64_succ (by omega)])
    (by rw [slices_IndexFunc_int_int_Fimpl_InsOk_1_j1_eq, oite_dec, if_neg (by simp [ints, sl])])
  rw [slices_ContainsFunc_int_int_Fimpl_InsOk_1_eq, slices_IndexFunc_int_int_Fimpl_InsOk_1_eq, h1, ocall_int, h2]
  rfl

theorem bne_iff {a : Prop} [Decidable a] {x c : Int} : (!(decide a == (x == c))) = decide (¬ (a ↔ x = c)) := by
  by_cases h : a <;> by_cases h' : x = c <;> simp [h, h']
theorem InsS_ok (x : Ins) (hs : x.size ≤ 1048576) : spec_InsOk x.ts = rB (insB x) := by
  obtain ⟨op, a, b, lit, to⟩ := x
  have hs' : lit.length + to.length ≤ 1048576 := hs
  have j7 : spec_InsOk_j7 0 (op, a, b, bytes lit, ints to, ()) = rB (toB to && litB lit) := by
    refine loopB (J := fun i => spec_InsOk_j7 i (op, a, b, bytes lit, ints to, ())) (fun pre n q hp => ?_) ?_
    · have hlt := len_mid hp
      rw [spec_InsOk_j7_eq, oite_dec, if_pos (show (pre.length : Int) < ((ints to).1 : Nat) by show (pre.length : Int) < (to.length : Nat); omega)]
      simp only [at_nums hp, spec_InsOk_j8_eq, w64_succ (show (pre.length : Int) < 9223372036854775807 by omega), oite_if, decide_eq_true_eq, reduceIte]
      repeat' split
      all_goals first | rfl | (exfalso; omega)
    · rw [spec_InsOk_j7_eq, oite_dec, if_neg (by simp [ints, sl])]
      simp only [litS_ok, ocall_bool]
  generalize hC : (toB to && litB lit) = C at j7
  have hlen : C = true → lit.length ≤ 20 := by
    rw [← hC]
    intro h
    simp only [Bool.and_eq_true, litB, decide_eq_true_eq] at h
    exact h.2.1
  have j3 : ∀ p : Nat, spec_InsOk_j3 p (op, a, b, bytes lit, ints to, ()) = rB (headB p ⟨op, a, b, lit, to⟩ && C) := by
    intro p
    rw [spec_InsOk_j3_eq]
    simp only [bne_iff, spec_InsOk_j6_eq, spec_InsOk_j5_eq, j7, oite_if, Bool.not_eq_true', beq_eq_false_iff_ne, decide_eq_true_eq, reduceIte, ne_eq, show (bytes lit).1 = lit.length from rfl, show (ints to).1 = to.length from rfl]
    unfold headB
    repeat' split
    all_goals
      refine resP ?_
      simp only [Bool.false_eq_true, false_iff, Bool.and_eq_true, decide_eq_true_eq]
      first
        | (rintro ⟨h, h'⟩; have := hlen h'; omega)
        | (refine ⟨fun h => ⟨by have := hlen h; omega, h⟩, fun h => h.2⟩)
  have j1 : spec_InsOk_j1 (op, a, b, bytes lit, ints to, ()) = rB ((decide ((op = 1 → -1073741824 ≤ a ∧ a ≤ 1073741823) ∧ (op ≠ 1 → 0 ≤ a ∧ a ≤ 2147483647) ∧ (partsN op = 0 ∨ partsN op = 4 → a = 0)) && headB (partsN op) ⟨op, a, b, lit, to⟩) && C) := by
    have hp1 : op = 1 → partsN op = 1 := by rintro rfl; rfl
    rw [spec_InsOk_j1_eq]
    simp only [parts_ok, ocall_int, spec_l5intOk_eq, oite_rB', ocall_bool, spec_InsOk_j4_eq, j3, oite_nbool]
    generalize partsN op = p at hp1
    generalize headB p ⟨op, a, b, lit, to⟩ = H
    simp only [oite_if, beq_iff_eq, decide_eq_true_eq, reduceIte, ne_eq, Bool.and_eq_true]
    repeat' split
    all_goals
      refine resP ?_
      simp only [Bool.false_eq_true, false_iff, Bool.and_eq_true, decide_eq_true_eq]
      first
        | (rintro ⟨⟨h, h'⟩, h''⟩; omega)
        | (refine ⟨fun h => ⟨⟨by omega, h.1⟩, h.2⟩, fun h => ⟨h.1.2, h.2⟩⟩)
        | contradiction
  rw [spec_InsOk_eq, Ins.ts_mk]
  simp only [spec_InsOk_j2_eq, j1]
  unfold insB
  simp only [hC]
  generalize headB (partsN op) ⟨op, a, b, lit, to⟩ = H
  simp only [oite_if, decide_eq_true_eq, reduceIte]
  repeat' split
  all_goals
    refine resP ?_
    simp only [Bool.false_eq_true, false_iff, Bool.and_eq_true, decide_eq_true_eq]
    first
      | (rintro ⟨⟨h, h'⟩, h''⟩; omega)
      | (refine ⟨fun h => ⟨⟨⟨by omega, h.1.1⟩, h.1.2⟩, h.2⟩, fun h => ⟨⟨h.1.1.2, h.1.2⟩, h.2⟩⟩)
theorem InsI_ok (x : Ins) (hs : x.size ≤ 1048576) : impl_InsOk x.ts = rB (insB x) := by
  obtain ⟨op, a, b, lit, to⟩ := x
  have hs' : lit.length + to.length ≤ 1048576 := hs
  have j1 : impl_InsOk_j1 (op, a, b, bytes lit, ints to, ()) = rB (toB to) := by
    rw [impl_InsOk_j1_eq]
    simp only
    rw [toI_ok to (by omega), ocall_bool, Bool.not_not]
  have j5 : ∀ (bad A B T L : Bool), impl_InsOk_j5 bad (op, a, b, bytes lit, ints to, ()) A B T L = rB (!bad && (!T || decide (1 ≤ to.length ∧ to.length ≤ 5)) && (!L || litB lit) && toB to) := by
    intro bad A B T L
    rw [impl_InsOk_j5_eq]
    simp only [impl_InsOk_j10_eq, impl_InsOk_j9_eq, j1, within_ok, litI_ok, ocall_bool, show (ints to).1 = to.length from rfl]
    generalize toB to = C
    generalize litB lit = D
    cases bad
    · rw [oite_f]
      cases T
      · cases L <;> cases D <;> simp [oite_t, oite_f]
      · by_cases h : 1 ≤ to.length ∧ to.length ≤ 5
        · rw [decide_eq_true h, decide_eq_true (show (1 : Int) ≤ (to.length : Nat) ∧ ((to.length : Nat) : Int) ≤ 5 by omega)]
          cases L <;> cases D <;> simp [oite_t, oite_f]
        · rw [decide_eq_false h, decide_eq_false (show ¬ ((1 : Int) ≤ (to.length : Nat) ∧ ((to.length : Nat) : Int) ≤ 5) by omega)]
          simp [oite_t, oite_f]
    · simp [oite_t]
  have j2 : ∀ (bad A B T L : Bool), impl_InsOk_j2 bad (op, a, b, bytes lit, ints to, ()) A B T L = rB (!bad && ((A || decide (a = 0)) && ((B || decide (b = 0)) && ((T || decide (to.length = 0)) && (L || decide (lit.length = 0))))) && (!T || decide (1 ≤ to.length ∧ to.length ≤ 5)) && (!L || litB lit) && toB to) := by
    intro bad A B T L
    rw [impl_InsOk_j2_eq]
    simp only [impl_InsOk_j6_eq, impl_InsOk_j7_eq, impl_InsOk_j8_eq, j5, show (ints to).1 = to.length from rfl, show (bytes lit).1 = lit.length from rfl]
    generalize toB to = C
    generalize litB lit = D
    generalize decide (1 ≤ to.length ∧ to.length ≤ 5) = F
    rw [show (a == 0) = decide (a = 0) from rfl, show (b == 0) = decide (b = 0) from rfl, show decide (((to.length : Nat) : Int) > 0) = !decide (to.length = 0) by rw [← decide_not]; exact decide_eq_decide.2 (by omega), show decide (((lit.length : Nat) : Int) > 0) = !decide (lit.length = 0) by rw [← decide_not]; exact decide_eq_decide.2 (by omega)]
    generalize decide (a = 0) = a0
    generalize decide (b = 0) = b0
    generalize decide (to.length = 0) = t0
    generalize decide (lit.length = 0) = l0
    cases bad <;> cases A <;> cases B <;> cases T <;> cases L <;> cases a0 <;> cases b0 <;> cases t0 <;> cases l0 <;> simp [oite_t, oite_f]
  rw [impl_InsOk_eq, Ins.ts_mk]
  simp only [within_ok, ocall_bool, partsI_ok, ocall_agg (show LS.alld [.bool, .bool, .bool, .bool] = true from rfl), impl_wholeOk_eq, impl_InsOk_j3_eq, impl_InsOk_j4_eq, j2]
  have hp : op = 1 → partsN op = 1 := by rintro rfl; rfl
  have hC : litB lit = true → lit.length ≤ 20 := fun h => by
    simp only [Bool.and_eq_true, litB, decide_eq_true_eq] at h; exact h.1
  have hD : lit.length = 0 → litB lit = true := fun h => by
    have : lit = [] := List.eq_nil_of_length_eq_zero h
    subst this; rfl
  have hp4 : partsN op ≤ 4 := by
    unfold partsN
    repeat' split
    all_goals omega
  unfold insB headB
  generalize partsN op = p at hp hp4
  generalize toB to = C
  have hD' : litB lit = false → lit.length ≠ 0 := fun h h' => by rw [hD h'] at h; cases h
  generalize litB lit = D at hC hD hD'
  clear hD
  simp only [oite_if, beq_iff_eq, reduceIte, Bool.not_eq_true', ne_eq, decide_eq_false_iff_not, Bool.false_eq_true, beq_eq_false_iff_ne]
  cases C
  · repeat' split
    all_goals
      refine resP ?_
      simp
  · cases D
    · have := hD' rfl
      clear hC hD'
      repeat' split
      all_goals
        refine resP ?_
        simp only [Bool.false_eq_true, false_iff, Bool.and_eq_true, decide_eq_true_eq, Bool.or_eq_true, Bool.not_eq_true', Bool.not_eq_false', decide_eq_false_iff_not, and_true, and_false, or_false, or_true, not_true_eq_false, not_false_eq_true, true_and, false_and, iff_false, iff_true] <;> omega
    · have := hC rfl
      clear hC hD'
      repeat' split
      all_goals
        refine resP ?_
        simp only [Bool.false_eq_true, false_iff, Bool.and_eq_true, decide_eq_true_eq, Bool.or_eq_true, Bool.not_eq_true', Bool.not_eq_false', decide_eq_false_iff_not, and_true, and_false, or_false, or_true, not_true_eq_false, not_false_eq_true, true_and, false_and, iff_false, iff_true] <;> omega
end Go.Ev.Q
