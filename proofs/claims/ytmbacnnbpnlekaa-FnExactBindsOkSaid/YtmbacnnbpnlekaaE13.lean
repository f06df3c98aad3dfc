/- What BindsOk comes to, in the program and in the reference. -/
import Derived.Test.YtmbacnnbpnlekaaV2
import Derived.Test.YtmbacnnbpnlekaaE3
import Derived.Test.YtmbacnnbpnlekaaPDx0
import Derived.Test.YtmbacnnbpnlekaaPDx4
import Derived.Test.YtmbacnnbpnlekaaPDx5
import Derived.Test.YtmbacnnbpnlekaaPDx6
import Derived.Test.YtmbacnnbpnlekaaPDx7
import Derived.Test.YtmbacnnbpnlekaaPDx9
import Derived.Test.YtmbacnnbpnlekaaPDx12
import Derived.Test.YtmbacnnbpnlekaaPDx13
import Derived.Test.YtmbacnnbpnlekaaPDx14
namespace Go.Proofs.Ytmbacnnbpnlekaa.E
open Go Go.RowKit Go.Proofs.Ytmbacnnbpnlekaa.PD Go.Proofs.Ytmbacnnbpnlekaa.M Go.Proofs.YtmbacnnbpnlekaaW.PrintWords Go.Proofs.YtmbacnnbpnlekaaW.PrintLast Go.Proofs.YtmbacnnbpnlekaaW.PrintMore

abbrev Bd := S84
abbrev BL := S114

/-- No more than three parts each; a variable has none, and a number. -/
def N6 : Nat → T → Prop
  | 0, _ => False
  | n + 1, x => x.f2.length ≤ 3 ∧ (x.f0 = 7 → x.f2 = [] ∧ 0 ≤ x.f1 ∧ x.f1 ≤ 99999) ∧ ∀ a ∈ x.f2, N6 n a
theorem measL_all (f : T → Int) (hf : ∀ a, 1 ≤ f a) : ∀ (l : List T) (s : Int), 0 ≤ s → measL f l s ≤ 60 → ∀ a ∈ l, f a ≤ 60 := by
  intro l
  induction l with
  | nil => intro s _ _ a h; cases h
  | cons b t ih =>
    intro s h0 h a ha
    rw [measL] at h
    have hb := hf b
    split at h
    · omega
    · rcases List.mem_cons.1 ha with h1 | h1
      · subst h1; omega
      · exact ih _ (by omega) h a h1
theorem head7 {t : T} (h : headB t = true) (h7 : t.f0 = 7) : t.f2 = [] ∧ 0 ≤ t.f1 ∧ t.f1 ≤ 99999 := by
  unfold headB manyB numB at h
  rw [Bool.and_eq_true] at h
  obtain ⟨h, h2⟩ := h
  rw [h7] at h h2
  have e : argsN 7 = 0 := rfl
  rw [e, if_neg (by decide)] at h
  rw [if_neg (by decide), if_pos rfl] at h2
  have := of_decide_eq_true h
  exact ⟨List.eq_nil_of_length_eq_zero (by omega), of_decide_eq_true h2⟩
theorem meas_N6 (d : Nat) : ∀ t, meas d t ≤ 60 → N6 d t := by
  induction d with
  | zero => intro t h; simp [meas] at h
  | succ d ih =>
    intro t h
    rw [meas] at h
    split at h
    · rename_i hh
      exact ⟨headB_len hh, head7 hh, fun a ha => ih a (measL_all _ (fun a => (meas_le d a).1) _ _ (by omega) h a ha)⟩
    · omega

/-- The numbers of all variables, from the left. -/
def vs : Nat → T → List Int
  | 0, _ => []
  | n + 1, t => if t.f0 = 7 then [t.f1] else (t.f2.map (vs n)).flatten
def vl : Nat → Nat
  | 0 => 0
  | n + 1 => 1 + 3 * vl n
theorem flat_len (d : Nat) (hd : ∀ t : T, N6 d t → (vs d t).length ≤ vl d) : ∀ l : List T, (∀ a ∈ l, N6 d a) → (l.map (vs d)).flatten.length ≤ l.length * vl d := by
  intro l
  induction l with
  | nil => intro _; simp
  | cons a t ih =>
    intro h
    have h1 := ih (fun c hc => h c (List.mem_cons_of_mem _ hc))
    have h2 := hd a (h a List.mem_cons_self)
    rw [List.map_cons, List.flatten_cons, List.length_append, List.length_cons, Nat.add_mul, Nat.one_mul]
    omega
theorem vs_len (d : Nat) : ∀ t : T, N6 d t → (vs d t).length ≤ vl d := by
  induction d with
  | zero => intro t h; exact h.elim
  | succ d ih =>
    intro t h
    rw [vs, vl]
    split
    · simp
    · have h1 := flat_len d ih t.f2 h.2.2
      have h3 : t.f2.length * vl d ≤ 3 * vl d := Nat.mul_le_mul_right _ h.1
      omega

theorem wlI {α : Type} (p : List α) (a : α) (h : p.length ≤ 281474976710656) : wrap64 ((p.length : Int) + 1) = ((p ++ [a]).length : Int) := by rw [w64 (by omega) (by omega)]; simp
theorem applI {α : Type} (p t : List α) (a : α) : p ++ a :: t = p ++ [a] ++ t := by simp
theorem rdI (p t : List Int) (a : Int) : rd (p ++ a :: t) (p.length : Int) = a := by simp [rd]
theorem rdB (p t : List Bd) (a : Bd) : rd_T84 (p ++ a :: t) (p.length : Int) = a := by simp [rd_T84]
theorem rdBL (p t : List BL) (a : BL) : rd_T114 (p ++ a :: t) (p.length : Int) = a := by simp [rd_T114]

theorem l3ins (n : Int) (l : List Int) : ∀ p : List Int, p.length + l.length ≤ 1000000 → Ev (fun k => spec_l3insert.l0 k (p ++ l) n (p.length : Int)) (p ++ insR l n) := by
  induction l with
  | nil =>
    intro p hp
    rw [List.length_nil] at hp
    refine Ev.at1 fun k => ?_
    rw [spec_l3insert.l0, if_neg (by simp), if_pos (by omega), if_pos (by simp)]
    simp only [Int.toNat_natCast, List.append_nil, List.take_length, List.drop_length, Option.bind_some, List.nil_append, List.length_nil, List.length_append, List.length_cons, Nat.zero_add, Nat.add_zero]
    rw [if_pos (by omega), if_pos (by omega), if_pos (by omega), insR]
  | cons a t ih =>
    intro p hp
    rw [List.length_cons] at hp
    rw [insR]
    by_cases c : a < n
    · rw [if_pos c]
      refine Ev.val (Ev.step (fun k => ?_) (ih (p ++ [a]) (by simp; omega))) (by simp)
      rw [spec_l3insert.l0, if_pos (by simp; omega), if_pos (by omega), rdI, if_pos c, wlI p a (by omega), applI p t a]
    · rw [if_neg c]
      by_cases c2 : a = n
      · rw [if_pos c2]
        refine Ev.at1 fun k => ?_
        rw [spec_l3insert.l0, if_pos (by simp; omega), if_pos (by omega), rdI, if_neg c, if_pos c2]
      · rw [if_neg c2]
        refine Ev.at1 fun k => ?_
        rw [spec_l3insert.l0, if_pos (by simp; omega), if_pos (by omega), rdI, if_neg c, if_neg c2, if_pos (by simp; omega)]
        simp only [Int.toNat_natCast, List.take_left, List.drop_left, Option.bind_some, List.nil_append, List.length_nil, List.length_append, List.length_cons, Nat.zero_add]
        rw [if_pos (by omega), if_pos (by omega), if_pos (by omega)]
        simp

theorem fold_flat {f : List Int → Int → List Int} (d : Nat) : ∀ (l : List T) (b : List Int), ((l.map (vs d)).flatten).foldl f b = l.foldl (fun b a => (vs d a).foldl f b) b := by
  intro l
  induction l with
  | nil => intro b; rfl
  | cons a t ih => intro b; rw [List.map_cons, List.flatten_cons, List.foldl_append, List.foldl_cons, ih]

theorem spec_vars (d : Nat) : ∀ (t : T) (b : List Int), N6 d t → b.length + vl d ≤ 900000 → Ev (fun k => spec_l3vars_ap.f k b t.f0 t.f1 t.f2) ((vs d t).foldl insR b) := by
  induction d with
  | zero => intro t b h; exact h.elim
  | succ d ih =>
    have loop : ∀ (l p : List T) (b : List Int), (∀ a ∈ l, N6 d a) → p.length + l.length ≤ 3 → b.length + l.length * vl d ≤ 900000 → Ev (fun k => spec_l3vars_ap.l0 k (p ++ l) (p.length : Int) b) (l.foldl (fun b a => (vs d a).foldl insR b) b) := by
      intro l
      induction l with
      | nil =>
        intro p b _ _ _
        refine Ev.at1 fun k => ?_
        rw [spec_l3vars_ap.l0, if_neg (by simp)]
        rfl
      | cons a t iht =>
        intro p b hq hp hb
        rw [List.length_cons] at hp
        rw [List.length_cons, Nat.add_mul, Nat.one_mul] at hb
        have h1 := vs_len d a (hq a List.mem_cons_self)
        have h2 := fold_len1 (vs d a) b
        refine Ev.step (fun k => ?_) (Ev.bind (ih a b (hq a List.mem_cons_self) (by omega)) (f := fun k t1 => spec_l3vars_ap.l0 k (p ++ a :: t) (wrap64 ((p.length : Int) + 1)) t1) (Ev.congr (fun k => ?_) (iht (p ++ [a]) ((vs d a).foldl insR b) (fun c hc => hq c (List.mem_cons_of_mem _ hc)) (by simp; omega) (by omega))))
        · rw [spec_l3vars_ap.l0, if_pos (by simp; omega), if_pos (by omega), rdT]
        · rw [w1 p a (by omega), app1 p t a]
    intro t b h hb
    rw [vl] at hb
    rw [vs]
    by_cases c7 : t.f0 = 7
    · rw [if_pos c7]
      refine Ev.step (f := fun k => spec_l3insert.f k b t.f1) (fun k => by rw [spec_l3vars_ap.f, if_pos c7]) ?_
      exact Ev.congr (fun k => by rw [spec_l3insert.f]; rfl) (l3ins t.f1 b [] (by simp; omega))
    · rw [if_neg c7, fold_flat]
      have h3 : t.f2.length * vl d ≤ 3 * vl d := Nat.mul_le_mul_right _ h.1
      exact Ev.step (fun k => by rw [spec_l3vars_ap.f, if_neg c7]; rfl) (loop t.f2 [] b h.2.2 (by simpa using h.1) (by omega))

theorem wf_var {x : Int} (h0 : 0 ≤ x) (h1 : x ≤ 99999) : (Lit.int .i64 x).wf = true := by
  simp only [Lit.wf, IntKind.min, IntKind.max, IntKind.signed, IntKind.bits, Bool.and_eq_true]
  simp
  omega

/-- The program's eachVar, with the closure that looks. -/
theorem impl_each (S : List Int) (d : Nat) : ∀ (t : T) (b : Bool), N6 d t → Ev (fun k => impl_eachVar.f k S b t.f0 t.f1 t.f2) (b || (vs d t).any fun v => decide (v ∈ S)) := by
  induction d with
  | zero => intro t b h; exact h.elim
  | succ d ih =>
    have loop : ∀ (l p : List T) (b : Bool), (∀ a ∈ l, N6 d a) → p.length + l.length ≤ 3 → Ev (fun k => impl_eachVar.l0 k S (p ++ l) (p.length : Int) b) (b || ((l.map (vs d)).flatten).any fun v => decide (v ∈ S)) := by
      intro l
      induction l with
      | nil =>
        intro p b _ _
        refine Ev.at1 fun k => ?_
        rw [impl_eachVar.l0, if_neg (by simp)]
        simp
      | cons a t iht =>
        intro p b hq hp
        rw [List.length_cons] at hp
        refine Ev.val (Ev.step (fun k => ?_) (Ev.bind (ih a b (hq a List.mem_cons_self)) (f := fun k t1 => impl_eachVar.l0 k S (p ++ a :: t) (wrap64 ((p.length : Int) + 1)) t1) (Ev.congr (fun k => ?_) (iht (p ++ [a]) (b || (vs d a).any fun v => decide (v ∈ S)) (fun c hc => hq c (List.mem_cons_of_mem _ hc)) (by simp; omega))))) (by rw [List.map_cons, List.flatten_cons, List.any_append, Bool.or_assoc])
        · rw [impl_eachVar.l0, if_pos (by simp; omega), if_pos (by omega), rdT]
        · rw [w1 p a (by omega), app1 p t a]
    intro t b h
    rw [vs]
    by_cases c7 : t.f0 = 7
    · rw [if_pos c7]
      obtain ⟨hn, h0, h1⟩ := h.2.1 c7
      refine Ev.step2 (f := fun _ => some (b || decide (t.f1 ∈ S))) (fun k => ?_) (Ev.val (Ev.now _) (by simp))
      rw [impl_eachVar.f, if_pos c7, impl_BindsOk_1.f, if_pos (wf_var h0 h1), Option.bind_some, hn, impl_eachVar.l0, if_neg (by simp)]
    · rw [if_neg c7]
      exact Ev.step (fun k => by rw [impl_eachVar.f, if_neg c7]; rfl) (loop t.f2 [] b h.2.2 (by simpa using h.1))

/-- One bind, behind those of S. -/
def bindOk (b : Bd) (S : List Int) : Bool := decide (0 ≤ b.f0 ∧ b.f0 ≤ 99999) && (TyOk b.f1 && (!decide (b.f0 ∈ S) && !(vs 10 b.f1).any fun v => decide (v ∈ b.f0 :: S)))
def bo : List Bd → List Int → Bool
  | [], _ => true
  | b :: l, S => if bindOk b S = true then bo l (b.f0 :: S) else false
theorem vs_N6 {t : T} (h : TyOk t = true) : N6 10 t := meas_N6 10 t (of_decide_eq_true h)

theorem impl_bo : ∀ (l p : List Bd) (S : List Int), p.length + l.length ≤ 400 → Ev (fun k => impl_BindsOk.l0 k (p ++ l) (p.length : Int) S) (bo l S) := by
  intro l
  induction l with
  | nil =>
    intro p S _
    refine Ev.at1 fun k => ?_
    rw [impl_BindsOk.l0, if_neg (by simp)]
    rfl
  | cons a t ih =>
    intro p S hp
    rw [List.length_cons] at hp
    rw [bo]
    refine Ev.step (f := fun k => (impl_within.f a.f0 0 99999).bind fun t1 => if t1 = true then ((impl_TyOk.f k a.f1.f0 a.f1.f1 a.f1.f2).bind fun t2 => if t2 = true then (if (Lit.int .i64 a.f0).wf = true then (if decide (a.f0 ∈ S) = true then some false else ((impl_eachVar.f k (a.f0 :: S) false a.f1.f0 a.f1.f1 a.f1.f2).bind fun t3 => if t3 = true then some false else impl_BindsOk.l0 k (p ++ a :: t) (wrap64 ((p.length : Int) + 1)) (a.f0 :: S))) else none) else some false) else some false) (fun k => by rw [impl_BindsOk.l0, if_pos (by simp; omega), if_pos (by omega), rdB]) ?_
    unfold bindOk
    by_cases c1 : 0 ≤ a.f0 ∧ a.f0 ≤ 99999
    · rw [decide_eq_true c1, Bool.true_and]
      refine Ev.congr (fun k => by rw [within_in c1.1 c1.2, Option.bind_some, if_pos rfl]) ?_
      refine Ev.bind (impl_TyOk a.f1) (f := fun k t2 => if t2 = true then (if (Lit.int .i64 a.f0).wf = true then (if decide (a.f0 ∈ S) = true then some false else ((impl_eachVar.f k (a.f0 :: S) false a.f1.f0 a.f1.f1 a.f1.f2).bind fun t3 => if t3 = true then some false else impl_BindsOk.l0 k (p ++ a :: t) (wrap64 ((p.length : Int) + 1)) (a.f0 :: S))) else none) else some false) ?_
      cases c2 : TyOk a.f1 with
      | false => exact Ev.const fun k => by rw [if_neg (by decide)]; rfl
      | true =>
        rw [Bool.true_and]
        have hn := vs_N6 c2
        by_cases c3 : a.f0 ∈ S
        · rw [decide_eq_true c3]
          exact Ev.const fun k => by rw [if_pos rfl, if_pos (wf_var c1.1 c1.2), if_pos rfl]; rfl
        · rw [decide_eq_false c3, Bool.not_false, Bool.true_and]
          refine Ev.congr (fun k => by rw [if_pos rfl, if_pos (wf_var c1.1 c1.2), if_neg (by decide)]) ?_
          refine Ev.bind (impl_each (a.f0 :: S) 10 a.f1 false hn) (f := fun k t3 => if t3 = true then some false else impl_BindsOk.l0 k (p ++ a :: t) (wrap64 ((p.length : Int) + 1)) (a.f0 :: S)) ?_
          rw [Bool.false_or]
          cases c4 : (vs 10 a.f1).any fun v => decide (v ∈ a.f0 :: S) with
          | true => exact Ev.const fun k => by rw [if_pos rfl]; rfl
          | false =>
            refine Ev.congr (fun k => ?_) (ih (p ++ [a]) (a.f0 :: S) (by simp; omega))
            rw [if_neg (by decide), wlI p a (by omega), applI p t a]
    · rw [decide_eq_false c1, Bool.false_and]
      exact Ev.const fun k => by rw [within_out c1, Option.bind_some, if_neg (by decide)]; rfl

theorem impl_BindsOk (l : List Bd) : Ev (fun k => impl_BindsOk.f k l) (if (l.length : Int) > 400 then false else bo l []) := by
  by_cases c : (l.length : Int) > 400
  · rw [if_pos c]
    exact Ev.const fun k => by rw [impl_BindsOk.f, if_pos c]
  · rw [if_neg c]
    exact Ev.congr (fun k => by rw [impl_BindsOk.f, if_neg c]; rfl) (impl_bo l [] [] (by simp; omega))

/-- The reference's search. -/
theorem l4find_l (v : Int) : ∀ (l p : List Bd), p.length + l.length ≤ 1048576 → ∃ r, Ev (fun k => spec_l4find.l0 k (p ++ l) v (p.length : Int)) r ∧ (decide (r ≥ 0) = decide (v ∈ l.map (·.f0))) := by
  intro l
  induction l with
  | nil =>
    intro p _
    refine ⟨-1, Ev.at1 fun k => ?_, by simp⟩
    rw [spec_l4find.l0, if_neg (by simp)]
  | cons a t ih =>
    intro p hp
    rw [List.length_cons] at hp
    by_cases c : a.f0 = v
    · refine ⟨(p.length : Int), Ev.at1 fun k => ?_, ?_⟩
      · rw [spec_l4find.l0, if_pos (by simp; omega), if_pos (by omega), rdB, if_pos c]
      · rw [decide_eq_true (by omega), decide_eq_true (by simp [c])]
    · obtain ⟨r, e, h⟩ := ih (p ++ [a]) (by simp; omega)
      refine ⟨r, Ev.step (fun k => ?_) e, ?_⟩
      · rw [spec_l4find.l0, if_pos (by simp; omega), if_pos (by omega), rdB, if_neg c, wlI p a (by omega), applI p t a]
      · rw [h]
        have : ¬ v = a.f0 := fun e => c e.symm
        simp [this]
theorem l4find (v : Int) (l : List Bd) (h : l.length ≤ 1048576) : ∃ r, Ev (fun k => spec_l4find.f k l v) r ∧ (decide (r ≥ 0) = decide (v ∈ l.map (·.f0))) := by
  obtain ⟨r, e, hr⟩ := l4find_l v l [] (by simpa using h)
  exact ⟨r, Ev.congr (fun k => by rw [spec_l4find.f]; rfl) e, hr⟩

theorem l1_loop {x0 : List Bd} {n : Nat} (hn : n ≤ x0.length) (hx : x0.length ≤ 400) (V c0 c1 : Int) (c2 : List T) {X : Bool} (hX : Ev (fun k => spec_BindsOk.l0 k x0 (wrap64 ((n : Int) + 1))) X) :
    ∀ (r q : List Int), q.length + r.length ≤ 1000000 → Ev (fun k => spec_BindsOk.l1 k x0 (n : Int) (q ++ r) (q.length : Int) V c0 c1 c2) (if r.any (fun v => decide (v ∈ V :: (x0.take n).map (·.f0))) = true then false else X) := by
  intro r
  induction r with
  | nil =>
    intro q _
    refine Ev.step (f := fun k => spec_BindsOk.l0 k x0 (wrap64 ((n : Int) + 1))) (fun k => ?_) (Ev.val hX (by simp))
    rw [spec_BindsOk.l1, if_neg (by simp)]
  | cons a t ih =>
    intro q hq
    rw [List.length_cons] at hq
    by_cases c : a = V
    · refine Ev.val (Ev.at1 (r := false) fun k => ?_) (by simp [c])
      rw [spec_BindsOk.l1, if_pos (by simp; omega), if_pos (by omega), rdI, if_pos c]
    · obtain ⟨r1, e1, h1⟩ := l4find a (x0.take n) (by rw [List.length_take]; omega)
      refine Ev.step (f := fun k => (spec_l4find.f k (x0.take n) a).bind fun t168 => if t168 ≥ 0 then some false else spec_BindsOk.l1 k x0 (n : Int) (q ++ a :: t) (wrap64 ((q.length : Int) + 1)) V c0 c1 c2) (fun k => ?_) ?_
      · rw [spec_BindsOk.l1, if_pos (by simp; omega), if_pos (by omega), rdI, if_neg c, if_pos (by omega), if_pos (by omega), Int.toNat_natCast]
      · refine Ev.bind e1 (f := fun k t168 => if t168 ≥ 0 then some false else spec_BindsOk.l1 k x0 (n : Int) (q ++ a :: t) (wrap64 ((q.length : Int) + 1)) V c0 c1 c2) ?_
        by_cases c2' : r1 ≥ 0
        · rw [decide_eq_true c2'] at h1
          refine Ev.val (Ev.const (r := false) fun k => by rw [if_pos c2']) ?_
          rw [List.any_cons, show decide (a ∈ V :: (x0.take n).map (·.f0)) = true from decide_eq_true (List.mem_cons_of_mem _ (of_decide_eq_true h1.symm)), Bool.true_or, if_pos rfl]
        · rw [decide_eq_false c2'] at h1
          have hna : ¬ a ∈ (x0.take n).map (·.f0) := of_decide_eq_false h1.symm
          refine Ev.val (Ev.congr (fun k => ?_) (ih (q ++ [a]) (by simp; omega))) ?_
          · rw [if_neg c2', wlI q a (by omega), applI q t a]
          · rw [List.any_cons, show decide (a ∈ V :: (x0.take n).map (·.f0)) = false from decide_eq_false (by rw [List.mem_cons]; exact fun h => h.elim c hna), Bool.false_or]

theorem any_ext {l l' : List Int} (h : ∀ x, x ∈ l ↔ x ∈ l') (f : Int → Bool) : l.any f = l'.any f := by
  rw [Bool.eq_iff_iff, List.any_eq_true, List.any_eq_true]
  exact ⟨fun ⟨x, hx, hf⟩ => ⟨x, (h x).1 hx, hf⟩, fun ⟨x, hx, hf⟩ => ⟨x, (h x).2 hx, hf⟩⟩
theorem any_pred {l : List Int} {f g : Int → Bool} (h : ∀ x, f x = g x) : l.any f = l.any g := by rw [show f = g from funext h]
theorem bindOk_ext {b : Bd} {S S' : List Int} (h : ∀ x, x ∈ S ↔ x ∈ S') : bindOk b S = bindOk b S' := by
  have e1 : decide (b.f0 ∈ S) = decide (b.f0 ∈ S') := decide_eq_decide.2 (h _)
  have e2 : ((vs 10 b.f1).any fun v => decide (v ∈ b.f0 :: S)) = (vs 10 b.f1).any fun v => decide (v ∈ b.f0 :: S') := any_pred fun v => decide_eq_decide.2 (by rw [List.mem_cons, List.mem_cons, h])
  unfold bindOk
  rw [e1, e2]
theorem bo_ext : ∀ (l : List Bd) (S S' : List Int), (∀ x, x ∈ S ↔ x ∈ S') → bo l S = bo l S' := by
  intro l
  induction l with
  | nil => intro S S' _; rfl
  | cons a t ih => intro S S' h; rw [bo, bo, bindOk_ext h, ih (a.f0 :: S) (a.f0 :: S') (fun x => by rw [List.mem_cons, List.mem_cons, h])]

theorem vl10 : vl 10 = 29524 := by decide
theorem spec_bo : ∀ (l p : List Bd), p.length + l.length ≤ 400 → Ev (fun k => spec_BindsOk.l0 k (p ++ l) (p.length : Int)) (bo l (p.map (·.f0))) := by
  intro l
  induction l with
  | nil =>
    intro p _
    refine Ev.at1 fun k => ?_
    rw [spec_BindsOk.l0, if_neg (by simp)]
    rfl
  | cons a t ih =>
    intro p hp
    rw [List.length_cons] at hp
    have htake : (p ++ a :: t).take p.length = p := by simp
    have hnext := ih (p ++ [a]) (by simp; omega)
    rw [bo]
    have hS : bo t ((p ++ [a]).map (·.f0)) = bo t (a.f0 :: p.map (·.f0)) := bo_ext _ _ _ (fun x => by simp [or_comm])
    rw [hS] at hnext
    have J1 : Ev (fun k => spec_BindsOk.j1 k (p ++ a :: t) (p.length : Int) true a.f0 a.f1.f0 a.f1.f1 a.f1.f2) false := Ev.at1 fun k => by rw [spec_BindsOk.j1, if_pos rfl]
    unfold bindOk
    by_cases c1 : 0 ≤ a.f0 ∧ a.f0 ≤ 99999
    · rw [decide_eq_true c1, Bool.true_and]
      refine Ev.step (f := fun k => (spec_TyOk.f k a.f1.f0 a.f1.f1 a.f1.f2).bind fun t153 => (if t153 = true then (if (p.length : Int) ≤ ((p ++ a :: t).length : Int) then ((spec_l4find.f k ((p ++ a :: t).take (p.length : Int).toNat) a.f0).bind fun t158 => (spec_BindsOk.j1 k (p ++ a :: t) (p.length : Int) (decide (t158 ≥ 0)) a.f0 a.f1.f0 a.f1.f1 a.f1.f2)) else (none)) else (spec_BindsOk.j1 k (p ++ a :: t) (p.length : Int) true a.f0 a.f1.f0 a.f1.f1 a.f1.f2))) (fun k => ?_) ?_
      · rw [spec_BindsOk.l0, if_pos (by simp; omega), if_pos (by omega), rdB, if_neg (by omega), if_neg (by omega)]
      refine Ev.bind (spec_TyOk a.f1) (f := fun k t153 => (if t153 = true then (if (p.length : Int) ≤ ((p ++ a :: t).length : Int) then ((spec_l4find.f k ((p ++ a :: t).take (p.length : Int).toNat) a.f0).bind fun t158 => (spec_BindsOk.j1 k (p ++ a :: t) (p.length : Int) (decide (t158 ≥ 0)) a.f0 a.f1.f0 a.f1.f1 a.f1.f2)) else (none)) else (spec_BindsOk.j1 k (p ++ a :: t) (p.length : Int) true a.f0 a.f1.f0 a.f1.f1 a.f1.f2))) ?_
      cases c2 : TyOk a.f1 with
      | false => exact Ev.congr (fun k => by rw [if_neg (by decide)]) J1
      | true =>
        rw [Bool.true_and]
        have hn := vs_N6 c2
        obtain ⟨r1, e1, h1⟩ := l4find a.f0 p (by omega)
        refine Ev.congr (fun k => by rw [if_pos rfl, if_pos (by simp; omega), Int.toNat_natCast, htake]) ?_
        refine Ev.bind e1 (f := fun k t158 => spec_BindsOk.j1 k (p ++ a :: t) (p.length : Int) (decide (t158 ≥ 0)) a.f0 a.f1.f0 a.f1.f1 a.f1.f2) ?_
        rw [h1]
        by_cases c3 : a.f0 ∈ p.map (·.f0)
        · rw [decide_eq_true c3]
          exact J1
        · rw [decide_eq_false c3, Bool.not_false, Bool.true_and]
          have hv := spec_vars 10 a.f1 [] hn (by rw [vl10, List.length_nil]; omega)
          have hlen := vs_len 10 a.f1 hn
          rw [vl10] at hlen
          have hl2 := fold_len1 (vs 10 a.f1) []
          rw [List.length_nil] at hl2
          have hmem := (fold_ins (vs 10 a.f1) [] List.Pairwise.nil).2
          refine Ev.step (f := fun k => (spec_l3vars.f k a.f1.f0 a.f1.f1 a.f1.f2 ([] : List Int)).bind fun t159 => spec_BindsOk.l1 k (p ++ a :: t) (p.length : Int) t159 0 a.f0 a.f1.f0 a.f1.f1 a.f1.f2) (fun k => by rw [spec_BindsOk.j1, if_neg (by decide)]) ?_
          refine Ev.bind (Ev.congr (fun k => by rw [spec_l3vars.f, if_pos rfl]) hv) (f := fun k t159 => spec_BindsOk.l1 k (p ++ a :: t) (p.length : Int) t159 0 a.f0 a.f1.f0 a.f1.f1 a.f1.f2) ?_
          refine Ev.val (l1_loop (x0 := p ++ a :: t) (n := p.length) (by simp) (by simp; omega) a.f0 a.f1.f0 a.f1.f1 a.f1.f2 (Ev.congr (fun k => ?_) hnext) ((vs 10 a.f1).foldl insR []) [] (by simp; omega)) ?_
          · rw [wlI p a (by omega), applI p t a]
          · rw [htake, any_ext (l' := vs 10 a.f1) (fun x => by rw [hmem x]; simp)]
            cases (vs 10 a.f1).any fun v => decide (v ∈ a.f0 :: p.map (·.f0)) <;> rfl
    · rw [decide_eq_false c1, Bool.false_and]
      refine Ev.step (f := fun k => spec_BindsOk.j1 k (p ++ a :: t) (p.length : Int) true a.f0 a.f1.f0 a.f1.f1 a.f1.f2) (fun k => ?_) (Ev.val J1 (by rfl))
      rw [spec_BindsOk.l0, if_pos (by simp; omega), if_pos (by omega), rdB]
      by_cases c : a.f0 < 0
      · rw [if_pos c]
      · rw [if_neg c, if_pos (by omega)]

theorem spec_BindsOk (l : List Bd) : Ev (fun k => spec_BindsOk.f k l) (if (l.length : Int) > 400 then false else bo l []) := by
  by_cases c : (l.length : Int) > 400
  · rw [if_pos c]
    exact Ev.const fun k => by rw [spec_BindsOk.f, if_pos c]
  · rw [if_neg c]
    exact Ev.congr (fun k => by rw [spec_BindsOk.f, if_neg c]; rfl) (spec_bo l [] (by simp; omega))

end Go.Proofs.Ytmbacnnbpnlekaa.E
