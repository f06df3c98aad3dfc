/- What InsOk comes to, in the program and in the reference. -/
import Derived.Test.YtmbacnnbpnlekaaB
import Derived.Test.YtmbacnnbpnlekaaE0
import Derived.Test.YtmbacnnbpnlekaaH
import Derived.Test.YtmbacnnbpnlekaaPAx0
import Derived.Test.YtmbacnnbpnlekaaPAx4
import Derived.Test.YtmbacnnbpnlekaaPAx5
import Derived.Test.YtmbacnnbpnlekaaPAx6
import Derived.Test.YtmbacnnbpnlekaaPAx7
import Derived.Test.YtmbacnnbpnlekaaPAx12
import Derived.Test.YtmbacnnbpnlekaaPAx13
import Derived.Test.YtmbacnnbpnlekaaPAx14
import Derived.Test.YtmbacnnbpnlekaaPAx15
import Derived.Test.YtmbacnnbpnlekaaPAx16
import Derived.Test.YtmbacnnbpnlekaaPAx17
import Derived.Test.YtmbacnnbpnlekaaPAx18
import Derived.Test.YtmbacnnbpnlekaaPAx19
import Derived.Test.YtmbacnnbpnlekaaPAx20
import Derived.Test.YtmbacnnbpnlekaaPAx21
namespace Go.Proofs.Ytmbacnnbpnlekaa.E
open Go Go.RowKit Go.Proofs.Ytmbacnnbpnlekaa.PA Go.Proofs.Ytmbacnnbpnlekaa.M Go.Proofs.YtmbacnnbpnlekaaW.PrintWords Go.Proofs.YtmbacnnbpnlekaaW.PrintLast Go.Proofs.YtmbacnnbpnlekaaW.PrintMore

theorem beqD (a b : Int) : (a == b) = decide (a = b) := rfl

def litB (c : Int) : Bool := decide (32 ≤ c ∧ c ≤ 126 ∧ c ≠ 34 ∧ c ≠ 92)
def litOkB (l : List Int) : Bool := decide (l.length ≤ 20) && l.all litB
def numIn (n : Int) : Bool := decide (0 ≤ n ∧ n ≤ 2147483647)

theorem litOk_1 (c : Int) : impl_litOk_1.f c = some (!litB c) := by
  unfold impl_litOk_1.f litB
  by_cases h1 : c < 32
  · rw [if_pos h1, decide_eq_false (by omega)]; rfl
  · rw [if_neg h1]
    by_cases h2 : c > 126
    · rw [if_pos h2, decide_eq_false (by omega)]; rfl
    · rw [if_neg h2]
      by_cases h3 : c = 34
      · rw [if_pos h3, decide_eq_false (by omega)]; rfl
      · rw [if_neg h3]
        by_cases h4 : c = 92
        · rw [decide_eq_false (by omega)]; simp [h4]
        · rw [decide_eq_true (by omega)]; simp [h4]

theorem index_litOk (l : List Int) : ∀ (p : List Int), p.length + l.length ≤ 281474976710656 → ∃ r, Ev (fun k => slices_IndexFunc_impl_litOk_1.l0 k (p ++ l) ((p ++ l).length : Int) (p.length : Int)) r ∧ decide (r ≥ 0) = !l.all litB := by
  induction l with
  | nil =>
    intro p _
    refine ⟨-1, Ev.at1 fun k => ?_, rfl⟩
    rw [slices_IndexFunc_impl_litOk_1.l0, if_neg (by simp)]
  | cons a t ih =>
    intro p hp
    rw [List.length_cons] at hp
    by_cases h : litB a = true
    · obtain ⟨r, e, hr⟩ := ih (p ++ [a]) (by simp; omega)
      refine ⟨r, Ev.step (fun k => ?_) e, by rw [hr, List.all_cons, h, Bool.true_and]⟩
      rw [slices_IndexFunc_impl_litOk_1.l0, if_pos (by simp; omega), if_pos (by omega), if_pos (by simp; omega), rdI, litOk_1, Option.bind_some, h, if_neg (by decide), wl p a (by omega), appl p t a]
    · have h' : litB a = false := by simpa using h
      refine ⟨p.length, Ev.at1 fun k => ?_, by rw [List.all_cons, h', decide_eq_true (by omega)]; rfl⟩
      rw [slices_IndexFunc_impl_litOk_1.l0, if_pos (by simp; omega), if_pos (by omega), if_pos (by simp; omega), rdI, litOk_1, Option.bind_some, h', if_pos (by decide)]

theorem impl_litOk {l : List Int} (hl : l.length ≤ 281474976710656) : Ev (fun k => impl_litOk.f k l) (litOkB l) := by
  unfold litOkB
  by_cases h : (l.length : Int) ≤ 20
  · obtain ⟨r, ⟨K, e⟩, hr⟩ := index_litOk l [] (by simpa using hl)
    refine ⟨K, fun k hk => ?_⟩
    have e' := e k hk
    dsimp only [List.nil_append, List.length_nil] at e'
    show impl_litOk.f k l = _
    have e2 : slices_IndexFunc_impl_litOk_1.f k l = some r := e'
    rw [impl_litOk.f, if_pos h, slices_ContainsFunc_impl_litOk_1.f, e2, Option.bind_some, Option.bind_some, hr, decide_eq_true (by omega)]
    simp
  · refine Ev.const fun k => ?_
    rw [impl_litOk.f, if_neg h, decide_eq_false (by omega)]
    rfl

theorem spec_lit_l (l : List Int) : ∀ (p : List Int), p.length + l.length ≤ 281474976710656 → Ev (fun k => spec_l5lit.l0 k (p ++ l) (p.length : Int)) (l.all litB) := by
  induction l with
  | nil =>
    intro p _
    refine Ev.at1 fun k => ?_
    rw [spec_l5lit.l0, if_neg (by simp)]
    rfl
  | cons a t ih =>
    intro p hp
    rw [List.length_cons] at hp
    rw [List.all_cons]
    by_cases h : litB a = true
    · have h2 := of_decide_eq_true h
      rw [h, Bool.true_and]
      refine Ev.step (fun k => ?_) (ih (p ++ [a]) (by simp; omega))
      rw [spec_l5lit.l0, if_pos (by simp; omega), if_pos (by omega), rdI, if_neg (by omega), if_neg (by omega), if_neg (by omega), if_neg (by omega), wl p a (by omega), appl p t a]
    · have h' : litB a = false := by simpa using h
      have h2 := of_decide_eq_false h'
      rw [h', Bool.false_and]
      refine Ev.at1 fun k => ?_
      rw [spec_l5lit.l0, if_pos (by simp; omega), if_pos (by omega), rdI]
      by_cases c1 : a < 32
      · rw [if_pos c1]
      rw [if_neg c1]
      by_cases c2 : a > 126
      · rw [if_pos c2]
      rw [if_neg c2]
      by_cases c3 : a = 34
      · rw [if_pos c3]
      rw [if_neg c3, if_pos (by omega)]

theorem spec_lit {l : List Int} (hl : l.length ≤ 281474976710656) : Ev (fun k => spec_l5lit.f k l) (litOkB l) := by
  unfold litOkB
  by_cases h : (l.length : Int) > 20
  · refine Ev.const fun k => ?_
    rw [spec_l5lit.f, if_pos h, decide_eq_false (by omega)]
    rfl
  · rw [decide_eq_true (by omega), Bool.true_and]
    refine Ev.congr (fun k => ?_) (spec_lit_l l [] (by simpa using hl))
    rw [spec_l5lit.f, if_neg h]
    rfl

theorem InsOk_1 (n : Int) : impl_InsOk_1.f n = some (!numIn n) := by rw [impl_InsOk_1.f, within]; rfl

theorem index_ins (l : List Int) : ∀ (p : List Int), p.length + l.length ≤ 281474976710656 → ∃ r, Ev (fun k => slices_IndexFunc_impl_InsOk_1.l0 k (p ++ l) ((p ++ l).length : Int) (p.length : Int)) r ∧ decide (r ≥ 0) = !l.all numIn := by
  induction l with
  | nil =>
    intro p _
    refine ⟨-1, Ev.at1 fun k => ?_, rfl⟩
    rw [slices_IndexFunc_impl_InsOk_1.l0, if_neg (by simp)]
  | cons a t ih =>
    intro p hp
    rw [List.length_cons] at hp
    by_cases h : numIn a = true
    · obtain ⟨r, e, hr⟩ := ih (p ++ [a]) (by simp; omega)
      refine ⟨r, Ev.step (fun k => ?_) e, by rw [hr, List.all_cons, h, Bool.true_and]⟩
      rw [slices_IndexFunc_impl_InsOk_1.l0, if_pos (by simp; omega), if_pos (by omega), if_pos (by simp; omega), rdI, InsOk_1, Option.bind_some, h, if_neg (by decide), wl p a (by omega), appl p t a]
    · have h' : numIn a = false := by simpa using h
      refine ⟨p.length, Ev.at1 fun k => ?_, by rw [List.all_cons, h', decide_eq_true (by omega)]; rfl⟩
      rw [slices_IndexFunc_impl_InsOk_1.l0, if_pos (by simp; omega), if_pos (by omega), if_pos (by simp; omega), rdI, InsOk_1, Option.bind_some, h', if_pos (by decide)]

theorem contains_ins {l : List Int} (hl : l.length ≤ 281474976710656) : Ev (fun k => slices_ContainsFunc_impl_InsOk_1.f k l) (!l.all numIn) := by
  obtain ⟨r, e, hr⟩ := index_ins l [] (by simpa using hl)
  have e2 : Ev (fun k => slices_IndexFunc_impl_InsOk_1.f k l) r := e
  rw [← hr]
  exact Ev.congr (fun k => by rw [slices_ContainsFunc_impl_InsOk_1.f]) (Ev.bind e2 (Ev.now _))

def isA (op : Int) : Bool := decide (op = 1 ∨ op = 4 ∨ op = 6 ∨ op = 7 ∨ op = 23 ∨ op = 26 ∨ op = 27 ∨ op = 29 ∨ op = 31)
def partN (op : Int) : Int := if isA op = true then 1 else if op = 21 then 2 else if op = 22 then 3 else if op = 2 then 4 else 0
def partsB (op : Int) : Bool × Bool × Bool × Bool := if isA op = true then (true, false, false, false) else if op = 21 then (true, true, false, false) else if op = 22 then (true, false, true, false) else if op = 2 then (false, false, false, true) else (false, false, false, false)

theorem parts (op : Int) : Ev (fun k => impl_partsOfIns.f k op) (partsB op) ∧ Ev (fun k => spec_l8parts.f k op) (partN op) := by
  have h1 : ∀ k, impl_partsOfIns.f (k + 1) op = impl_partsOfIns.j0 (k + 1) op (isA op) := by
    intro k
    unfold impl_partsOfIns.f isA
    by_cases c1 : op = 1
    · subst c1; rfl
    by_cases c2 : op = 4
    · subst c2; rfl
    by_cases c3 : op = 6
    · subst c3; rfl
    by_cases c4 : op = 7
    · subst c4; rfl
    by_cases c5 : op = 23
    · subst c5; rfl
    by_cases c6 : op = 26
    · subst c6; rfl
    by_cases c7 : op = 27
    · subst c7; rfl
    by_cases c8 : op = 29
    · subst c8; rfl
    rw [if_neg c1, if_neg c2, if_neg c3, if_neg c4, if_neg c5, if_neg c6, if_neg c7, if_neg c8]
    congr 1
    simp [c1, c2, c3, c4, c5, c6, c7, c8, beqD]
  have h2 : ∀ k, spec_l8parts.f (k + 1) op = spec_l8parts.j0 (k + 1) op (isA op) := by
    intro k
    unfold spec_l8parts.f isA
    by_cases c1 : op = 1
    · subst c1; rfl
    by_cases c2 : op = 4
    · subst c2; rfl
    by_cases c3 : op = 6
    · subst c3; rfl
    by_cases c4 : op = 7
    · subst c4; rfl
    by_cases c5 : op = 23
    · subst c5; rfl
    by_cases c6 : op = 26
    · subst c6; rfl
    by_cases c7 : op = 27
    · subst c7; rfl
    by_cases c8 : op = 29
    · subst c8; rfl
    rw [if_neg c1, if_neg c2, if_neg c3, if_neg c4, if_neg c5, if_neg c6, if_neg c7, if_neg c8]
    congr 1
    simp [c1, c2, c3, c4, c5, c6, c7, c8, beqD]
  constructor
  · refine Ev.at1 fun k => ?_
    rw [h1, impl_partsOfIns.j0]
    unfold partsB
    repeat' split
    all_goals rfl
  · refine Ev.at1 fun k => ?_
    rw [h2, spec_l8parts.j0]
    unfold partN
    repeat' split
    all_goals rfl

section
variable (op a b : Int) (lit dst : List Int) (hlit : lit.length ≤ 281474976710656) (hto : dst.length ≤ 281474976710656) (pa pb pt pl : Bool)
include hlit hto

def r5 (lit dst : List Int) (pl : Bool) : Bool := (if pl = true then litOkB lit else true) && dst.all numIn
def r4 (lit dst : List Int) (pt pl : Bool) : Bool := (if pt = true then decide (1 ≤ (dst.length : Int) ∧ (dst.length : Int) ≤ 5) else true) && r5 lit dst pl
def r3 (lit dst : List Int) (pt pl : Bool) : Bool := (pt || decide (dst.length = 0)) && ((pl || decide (lit.length = 0)) && r4 lit dst pt pl)
def r2 (b : Int) (lit dst : List Int) (pb pt pl : Bool) : Bool := (pb || decide (b = 0)) && r3 lit dst pt pl
def r1 (a b : Int) (lit dst : List Int) (pa pb pt pl : Bool) : Bool := (pa || decide (a = 0)) && r2 b lit dst pb pt pl

theorem impl_j5 (x : Bool) : Ev (fun k => impl_InsOk.j5 k x op a b lit dst pa pb pt pl) (!x && r5 lit dst pl) := by
  cases x with
  | true => exact Ev.at1 fun k => by rw [impl_InsOk.j5, if_pos rfl]; rfl
  | false =>
    have e1 := contains_ins hto
    cases pl with
    | false =>
      refine Ev.step (fun k => by rw [impl_InsOk.j5, if_neg (by decide), if_neg (by decide)]) (Ev.bind e1 (Ev.const fun k => ?_))
      simp [r5]
    | true =>
      have e2 := impl_litOk hlit
      refine Ev.step (fun k => by rw [impl_InsOk.j5, if_neg (by decide), if_pos rfl]) (Ev.bind e2 ?_)
      cases h : litOkB lit with
      | true =>
        refine Ev.congr (fun k => by rw [if_pos rfl]) (Ev.bind e1 (Ev.const fun k => ?_))
        simp [r5, h]
      | false =>
        refine Ev.const fun k => ?_
        rw [if_neg (by decide)]
        simp [r5, h]

theorem impl_j4 (x : Bool) : Ev (fun k => impl_InsOk.j4 k x op a b lit dst pa pb pt pl) (!x && r4 lit dst pt pl) := by
  cases x with
  | true => exact Ev.at1 fun k => by rw [impl_InsOk.j4, if_pos rfl]; rfl
  | false =>
    cases pt with
    | false =>
      refine Ev.val (Ev.step (fun k => by rw [impl_InsOk.j4, if_neg (by decide), if_neg (by decide)]) (impl_j5 op a b lit dst hlit hto pa pb false pl false)) ?_
      simp [r4]
    | true =>
      refine Ev.val (Ev.step (fun k => by rw [impl_InsOk.j4, if_neg (by decide), if_pos rfl, within, Option.bind_some]) (impl_j5 op a b lit dst hlit hto pa pb true pl _)) ?_
      simp [r4]

theorem impl_j3 (x : Bool) : Ev (fun k => impl_InsOk.j3 k x op a b lit dst pa pb pt pl) (!x && r3 lit dst pt pl) := by
  have e4 := impl_j4 op a b lit dst hlit hto pa pb pt pl
  have hz : ∀ l : List Int, decide ((l.length : Int) > 0) = !decide (l.length = 0) := by
    intro l
    rw [Bool.eq_iff_iff]
    simp
    cases l <;> simp
  cases x with
  | true => exact Ev.val (Ev.step (fun k => by rw [impl_InsOk.j3, if_pos rfl]) (e4 true)) (by simp)
  | false =>
    cases pt with
    | true =>
      cases pl with
      | true => exact Ev.val (Ev.step (fun k => by rw [impl_InsOk.j3, if_neg (by decide), if_pos rfl, if_pos rfl]) (e4 false)) (by simp [r3])
      | false => exact Ev.val (Ev.step (fun k => by rw [impl_InsOk.j3, if_neg (by decide), if_pos rfl, if_neg (by decide)]) (e4 _)) (by rw [hz]; simp [r3])
    | false =>
      by_cases c : (dst.length : Int) > 0
      · have : decide (dst.length = 0) = false := decide_eq_false (by omega)
        exact Ev.val (Ev.step (fun k => by rw [impl_InsOk.j3, if_neg (by decide), if_neg (by decide), if_pos c]) (e4 _)) (by rw [hz]; unfold r3; rw [this]; simp)
      · have : decide (dst.length = 0) = true := decide_eq_true (by omega)
        cases pl with
        | true => exact Ev.val (Ev.step (fun k => by rw [impl_InsOk.j3, if_neg (by decide), if_neg (by decide), if_neg c, if_pos rfl]) (e4 false)) (by unfold r3; rw [this]; simp)
        | false => exact Ev.val (Ev.step (fun k => by rw [impl_InsOk.j3, if_neg (by decide), if_neg (by decide), if_neg c, if_neg (by decide)]) (e4 _)) (by rw [hz]; unfold r3; rw [this]; simp)

theorem impl_j2 (x : Bool) : Ev (fun k => impl_InsOk.j2 k x op a b lit dst pa pb pt pl) (!x && r2 b lit dst pb pt pl) := by
  have e4 := impl_j4 op a b lit dst hlit hto pa pb pt pl
  have e3 := impl_j3 op a b lit dst hlit hto pa pb pt pl
  cases x with
  | true => exact Ev.val (Ev.step (fun k => by rw [impl_InsOk.j2, if_pos rfl]) (e4 true)) (by simp)
  | false =>
    cases pb with
    | true => exact Ev.val (Ev.step (fun k => by rw [impl_InsOk.j2, if_neg (by decide), if_pos rfl]) (e3 false)) (by simp [r2])
    | false => exact Ev.val (Ev.step (fun k => by rw [impl_InsOk.j2, if_neg (by decide), if_neg (by decide)]) (e3 _)) (by simp [r2, bne, beqD])

theorem impl_j1 (x : Bool) : Ev (fun k => impl_InsOk.j1 k x op a b lit dst pa pb pt pl) (!x && r1 a b lit dst pa pb pt pl) := by
  have e2 := impl_j2 op a b lit dst hlit hto pa pb pt pl
  cases x with
  | true => exact Ev.at1 fun k => by rw [impl_InsOk.j1, if_pos rfl]; rfl
  | false =>
    cases pa with
    | true => exact Ev.val (Ev.step (fun k => by rw [impl_InsOk.j1, if_neg (by decide), if_pos rfl]) (e2 false)) (by simp [r1])
    | false => exact Ev.val (Ev.step (fun k => by rw [impl_InsOk.j1, if_neg (by decide), if_neg (by decide)]) (e2 _)) (by simp [r1, bne, beqD])

theorem impl_j0 (x : Bool) : Ev (fun k => impl_InsOk.j0 k x op a b lit dst pa pb pt pl) (!x && ((if op = 1 then true else numIn a) && (numIn b && r1 a b lit dst pa pb pt pl))) := by
  have e1 := impl_j1 op a b lit dst hlit hto pa pb pt pl
  cases x with
  | true => exact Ev.val (Ev.step (fun k => by rw [impl_InsOk.j0, if_pos rfl]) (e1 true)) (by simp)
  | false =>
    by_cases c : op = 1
    · exact Ev.val (Ev.step (fun k => by rw [impl_InsOk.j0, if_neg (by decide), if_pos c, within, Option.bind_some]) (e1 _)) (by simp [c, numIn])
    · by_cases ca : 0 ≤ a ∧ a ≤ 2147483647
      · exact Ev.val (Ev.step (fun k => by rw [impl_InsOk.j0, if_neg (by decide), if_neg c, within_in ca.1 ca.2, Option.bind_some, if_pos rfl, within, Option.bind_some]) (e1 _)) (by simp [c, numIn, ca])
      · exact Ev.val (Ev.step (fun k => by rw [impl_InsOk.j0, if_neg (by decide), if_neg c, within_out ca, Option.bind_some, if_neg (by decide)]) (e1 _)) (by simp [c, numIn, ca])
end

def wholeB (a : Int) : Bool := decide (-1073741824 ≤ a ∧ a ≤ 1073741823)
def insB (op a b : Int) (lit dst : List Int) : Bool := decide (0 ≤ op ∧ op ≤ 31) && ((if op = 1 then wholeB a else numIn a) && (numIn b && r1 a b lit dst (partsB op).1 (partsB op).2.1 (partsB op).2.2.1 (partsB op).2.2.2))

theorem impl_InsOk (op a b : Int) (lit dst : List Int) (hlit : lit.length ≤ 281474976710656) (hto : dst.length ≤ 281474976710656) : Ev (fun k => impl_InsOk.f k op a b lit dst) (insB op a b lit dst) := by
  unfold insB
  by_cases c : 0 ≤ op ∧ op ≤ 31
  · rw [decide_eq_true c, Bool.true_and]
    have hj := impl_j0 op a b lit dst hlit hto (partsB op).1 (partsB op).2.1 (partsB op).2.2.1 (partsB op).2.2.2
    refine Ev.congr (fun k => by rw [impl_InsOk.f, within_in c.1 c.2, Option.bind_some, if_pos rfl]) (Ev.bind (parts op).1 ?_)
    by_cases c1 : op = 1
    · refine Ev.val (Ev.congr (fun k => ?_) (hj (!wholeB a))) ?_
      · rw [if_pos c1, impl_wholeOk.f, within]; rfl
      · simp [c1]
    · refine Ev.val (Ev.congr (fun k => ?_) (hj false)) ?_
      · rw [if_neg c1]
      · simp [c1]
  · rw [decide_eq_false c, Bool.false_and]
    exact Ev.const fun k => by rw [impl_InsOk.f, within_out c, Option.bind_some, if_neg (by decide)]

def S1 (t b : Int) (lit dst : List Int) : Prop := 0 ≤ b ∧ b ≤ 2147483647 ∧ (b = 0 ∨ t = 2) ∧ (lit.length = 0 ∨ t = 4) ∧ lit.length ≤ 20 ∧ dst.length ≤ 5 ∧ (0 < dst.length ↔ t = 3)
instance (t b : Int) (lit dst : List Int) : Decidable (S1 t b lit dst) := by unfold S1; infer_instance
def s1 (t b : Int) (lit dst : List Int) : Bool := decide (S1 t b lit dst) && (dst.all numIn && litOkB lit)
def s0 (t op a b : Int) (lit dst : List Int) : Bool := (if op = 1 then wholeB a else decide (0 ≤ a ∧ a ≤ 2147483647 ∧ (a = 0 ∨ (t ≠ 0 ∧ t ≠ 4)))) && s1 t b lit dst

section
variable (op a b : Int) (lit : List Int) (hlit : lit.length ≤ 281474976710656)
include hlit

theorem spec_l0 (l : List Int) : ∀ (p : List Int), p.length + l.length ≤ 281474976710656 → Ev (fun k => spec_InsOk.l0 k (p.length : Int) op a b lit (p ++ l)) (l.all numIn && litOkB lit) := by
  induction l with
  | nil =>
    intro p _
    refine Ev.val (Ev.step (fun k => by rw [spec_InsOk.l0, if_neg (by simp)]) (Ev.bind (spec_lit hlit) (Ev.now _))) ?_
    simp
  | cons c t ih =>
    intro p hp
    rw [List.length_cons] at hp
    rw [List.all_cons]
    by_cases h : numIn c = true
    · have h2 := of_decide_eq_true h
      rw [h, Bool.true_and]
      refine Ev.step (fun k => ?_) (ih (p ++ [c]) (by simp; omega))
      rw [spec_InsOk.l0, if_pos (by simp; omega), if_pos (by omega), rdI, if_neg (by omega), if_neg (by omega), wl p c (by omega), appl p t c]
    · have h' : numIn c = false := by simpa using h
      have h2 := of_decide_eq_false h'
      rw [h', Bool.false_and, Bool.false_and]
      refine Ev.at1 fun k => ?_
      rw [spec_InsOk.l0, if_pos (by simp; omega), if_pos (by omega), rdI]
      by_cases c1 : c < 0
      · rw [if_pos c1]
      rw [if_neg c1, if_pos (by omega)]

variable (dst : List Int) (hto : dst.length ≤ 281474976710656)
include hto

theorem spec_j2 (x : Bool) : Ev (fun k => spec_InsOk.j2 k x op a b lit dst) (!x && (dst.all numIn && litOkB lit)) := by
  cases x with
  | true => exact Ev.at1 fun k => by rw [spec_InsOk.j2, if_pos rfl]; rfl
  | false => exact Ev.val (Ev.step (fun k => by rw [spec_InsOk.j2, if_neg (by decide)]; rfl) (spec_l0 op a b lit hlit dst [] (by simpa using hto))) (by simp)

theorem spec_j1 (t : Int) : Ev (fun k => spec_InsOk.j1 k t op a b lit dst) (s1 t b lit dst) := by
  refine Ev.val (Ev.step (fun k => ?_) (spec_j2 op a b lit hlit dst hto (!decide (S1 t b lit dst)))) (by rw [Bool.not_not]; rfl)
  have hx : ∀ {x : Bool}, x = (!decide (S1 t b lit dst)) → spec_InsOk.j2 k x op a b lit dst = spec_InsOk.j2 k (!decide (S1 t b lit dst)) op a b lit dst := fun e => by rw [e]
  have hy : ¬ S1 t b lit dst → true = !decide (S1 t b lit dst) := fun e => by rw [decide_eq_false e]; rfl
  have hz : (0 ≤ b ∧ b ≤ 2147483647 ∧ (b = 0 ∨ t = 2) ∧ (lit.length = 0 ∨ t = 4) ∧ lit.length ≤ 20 ∧ dst.length ≤ 5) → (decide ((dst.length : Int) > 0) != (t == 3)) = !decide (S1 t b lit dst) := by
    intro h
    by_cases c1 : 0 < dst.length
    · rw [decide_eq_true (by omega)]
      by_cases c2 : t = 3
      · rw [decide_eq_true (by unfold S1; omega), c2]; rfl
      · rw [decide_eq_false (by unfold S1; omega), beqD, decide_eq_false c2]; rfl
    · rw [decide_eq_false (by omega)]
      by_cases c2 : t = 3
      · rw [decide_eq_false (by unfold S1; omega), c2]; rfl
      · rw [decide_eq_true (by unfold S1; omega), beqD, decide_eq_false c2]; rfl
  rw [spec_InsOk.j1]
  repeat' split
  all_goals first
    | exact hx (hy (by unfold S1; omega))
    | exact hx (hz (by omega))

theorem spec_j0 (x : Bool) : Ev (fun k => spec_InsOk.j0 k x op a b lit dst) (!x && s0 (partN op) op a b lit dst) := by
  have h1 := spec_j1 op a b lit hlit dst hto (partN op)
  cases x with
  | true => exact Ev.at1 fun k => by rw [spec_InsOk.j0, if_pos rfl]; rfl
  | false =>
    rw [Bool.not_false, Bool.true_and]
    unfold s0
    refine Ev.step (fun k => by rw [spec_InsOk.j0, if_neg (by decide)]) (Ev.bind (parts op).2 ?_)
    by_cases c : op = 1
    · rw [if_pos c]
      have hw : spec_l5intOk.f a = some (wholeB a) := by
        unfold spec_l5intOk.f wholeB
        by_cases c2 : a ≥ -1073741824
        · rw [if_pos c2]; congr 1; rw [decide_eq_decide]; omega
        · rw [if_neg c2, decide_eq_false (by omega)]
      by_cases c2 : wholeB a = true
      · exact Ev.val (Ev.congr (fun k => by rw [if_pos c, hw, Option.bind_some, if_pos c2]) h1) (by rw [c2, Bool.true_and])
      · exact Ev.const fun k => by rw [if_pos c, hw, Option.bind_some, if_neg c2]; simp [c2]
    · rw [if_neg c]
      by_cases c1 : a < 0
      · exact Ev.const fun k => by rw [if_neg c, if_pos c1, decide_eq_false (by omega), Bool.false_and]
      by_cases c2 : a > 2147483647
      · exact Ev.const fun k => by rw [if_neg c, if_neg c1, if_pos c2, decide_eq_false (by omega), Bool.false_and]
      by_cases c3 : a = 0
      · exact Ev.val (Ev.congr (fun k => by rw [if_neg c, if_neg c1, if_neg c2, if_pos c3]) h1) (by rw [decide_eq_true (by omega), Bool.true_and])
      by_cases c4 : partN op = 0
      · exact Ev.const fun k => by rw [if_neg c, if_neg c1, if_neg c2, if_neg c3, if_pos c4, decide_eq_false (by omega), Bool.false_and]
      by_cases c5 : partN op = 4
      · exact Ev.const fun k => by rw [if_neg c, if_neg c1, if_neg c2, if_neg c3, if_neg c4, if_pos c5, decide_eq_false (by omega), Bool.false_and]
      exact Ev.val (Ev.congr (fun k => by rw [if_neg c, if_neg c1, if_neg c2, if_neg c3, if_neg c4, if_neg c5]) h1) (by rw [decide_eq_true (by omega), Bool.true_and])
end

theorem s0_insB (op a b : Int) (lit dst : List Int) : (decide (0 ≤ op ∧ op ≤ 31) && s0 (partN op) op a b lit dst) = insB op a b lit dst := by
  unfold insB
  congr 1
  have hn : litOkB [] = true := rfl
  have hl : ∀ l, litOkB l = true → l.length ≤ 20 := by
    intro l h
    unfold litOkB at h
    exact of_decide_eq_true (Bool.and_eq_true_iff.mp h).1
  by_cases h : isA op = true
  · have e1 : partN op = 1 := by unfold partN; rw [if_pos h]
    have e2 : partsB op = (true, false, false, false) := by unfold partsB; rw [if_pos h]
    rw [e1, e2]
    unfold s0
    by_cases c : op = 1
    · rw [if_pos c, if_pos c]
      cases lit <;> cases dst <;> simp [s1, S1, r1, r2, r3, r4, r5, hn, numIn] <;> grind
    · rw [if_neg c, if_neg c]
      cases lit <;> cases dst <;> simp [s1, S1, r1, r2, r3, r4, r5, hn, numIn] <;> grind
  · have c0 : op ≠ 1 := fun e => h (by rw [e]; rfl)
    unfold s0
    rw [if_neg c0, if_neg c0]
    by_cases c1 : op = 21
    · subst c1
      have e1 : partN 21 = 2 := rfl
      have e2 : partsB 21 = (true, true, false, false) := rfl
      rw [e1, e2]
      cases lit <;> cases dst <;> simp [s1, S1, r1, r2, r3, r4, r5, hn, numIn] <;> grind
    by_cases c2 : op = 22
    · subst c2
      have e1 : partN 22 = 3 := rfl
      have e2 : partsB 22 = (true, false, true, false) := rfl
      rw [e1, e2]
      cases lit <;> cases dst <;> simp [s1, S1, r1, r2, r3, r4, r5, hn, numIn] <;> grind
    by_cases c3 : op = 2
    · subst c3
      have e1 : partN 2 = 4 := rfl
      have e2 : partsB 2 = (false, false, false, true) := rfl
      rw [e1, e2]
      cases lit <;> cases dst <;> simp [s1, S1, r1, r2, r3, r4, r5, hn, numIn] <;> grind
    · have e1 : partN op = 0 := by unfold partN; rw [if_neg h, if_neg c1, if_neg c2, if_neg c3]
      have e2 : partsB op = (false, false, false, false) := by unfold partsB; rw [if_neg h, if_neg c1, if_neg c2, if_neg c3]
      rw [e1, e2]
      cases lit <;> cases dst <;> simp [s1, S1, r1, r2, r3, r4, r5, hn, numIn] <;> grind

theorem spec_InsOk (op a b : Int) (lit dst : List Int) (hlit : lit.length ≤ 281474976710656) (hto : dst.length ≤ 281474976710656) : Ev (fun k => spec_InsOk.f k op a b lit dst) (insB op a b lit dst) := by
  rw [← s0_insB]
  have h := spec_j0 op a b lit hlit dst hto
  by_cases c : op < 0
  · exact Ev.val (Ev.congr (fun k => by rw [spec_InsOk.f, if_pos c]) (h true)) (by rw [decide_eq_false (by omega)]; simp)
  · refine Ev.val (Ev.congr (fun k => by rw [spec_InsOk.f, if_neg c]) (h _)) ?_
    by_cases c2 : op > 31
    · rw [decide_eq_true c2, decide_eq_false (by omega)]; rfl
    · rw [decide_eq_false c2, decide_eq_true (by omega)]; rfl

end Go.Proofs.Ytmbacnnbpnlekaa.E
