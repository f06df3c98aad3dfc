import Derived.Test.YtkgabahlbmonfaaDoorEvGrow
import Derived.Test.YtkgabahlbmonfaaDoorEvRegOk
import Derived.Orders
set_option linter.unusedVariables false
set_option linter.unusedSimpArgs false
/-
  The evaluator's regions are the machine's: in whatever order is drawn.
-/
namespace Go.Ev
open Go

theorem getD_left {α : Type} {l r : List α} {i : Nat} {d : α} (h : i < l.length) : (l ++ r).getD i d = l.getD i d := by
  rw [List.getD_eq_getElem?_getD, List.getD_eq_getElem?_getD, List.getElem?_append_left h]
theorem getD_right {α : Type} {l r : List α} {i : Nat} {d : α} (h : l.length ≤ i) : (l ++ r).getD i d = r.getD (i - l.length) d := by
  rw [List.getD_eq_getElem?_getD, List.getD_eq_getElem?_getD, List.getElem?_append_right h]

section
variable {ops : Array Oper}

theorem fold1_bit {acc : List Nat} {j : Nat} : ∀ (es : List Edge) (s : Nat), (fold1 acc es s).testBit j = true → s.testBit j = true ∨ ∃ e ∈ es, Region.binds .any e = true ∧ (j = e.on ∨ (acc.getD e.on 0).testBit j = true)
  | [], s, h => .inl h
  | e :: es, s, h => by
    unfold fold1 at h
    rcases fold1_bit es _ h with h | ⟨e', h1, h2⟩
    · cases hb : Region.binds .any e with
      | false => rw [hb] at h; exact .inl h
      | true =>
        rw [hb] at h
        simp only [cond_true, Nat.testBit_or, Bool.or_eq_true] at h
        rcases h with (h | h) | h
        · exact .inl h
        · rw [Nat.testBit_two_pow] at h
          exact .inr ⟨e, by simp, hb, .inl (by have := of_decide_eq_true h; omega)⟩
        · exact .inr ⟨e, by simp, hb, .inr h⟩
    · exact .inr ⟨e', by simp [h1], h2⟩

/-- A set that holds, with an operation, all that surely comes ahead of it. -/
def Down (ops : Array Oper) (S : Nat → Prop) : Prop := ∀ i o, ops[i]? = some o → S i → ∀ e ∈ o.after.toList, Region.binds .any e = true → S e.on

theorem clos_bit {S : Nat → Prop} (hS : Down ops S) : ∀ (l : List Oper) (acc : List Nat), (∀ j o, l[j]? = some o → ops[acc.length + j]? = some o) → (∀ i j, S i → (acc.getD i 0).testBit j = true → S j) → ∀ i j, S i → ((clos l acc).getD i 0).testBit j = true → S j
  | [], acc, _, h, i, j, hi, hb => h i j hi hb
  | o :: r, acc, hl, h, i, j, hi, hb => by
    unfold clos at hb
    refine clos_bit hS r _ (fun q o' hq => ?_) (fun a b ha hab => ?_) i j hi hb
    · have := hl (q + 1) o' (by simpa using hq)
      simpa [Nat.add_assoc, Nat.add_comm 1 q] using this
    · rcases Nat.lt_trichotomy a acc.length with hlt | heq | hgt
      · rw [getD_left hlt] at hab
        exact h a b ha hab
      · subst heq
        rw [getD_right (Nat.le_refl _)] at hab
        simp at hab
        rcases fold1_bit _ _ hab with h0 | ⟨e, he, hbe, h1⟩
        · simp at h0
        · have ho : ops[acc.length]? = some o := by have := hl 0 o (by simp); simpa using this
          have hSe := hS _ o ho ha e he hbe
          rcases h1 with h1 | h1
          · subst h1; exact hSe
          · exact h e.on b hSe h1
      · rw [getD_right (Nat.le_of_lt hgt)] at hab
        have : a - acc.length ≠ 0 := by omega
        obtain ⟨m, hm⟩ : ∃ m, a - acc.length = m + 1 := ⟨a - acc.length - 1, by omega⟩
        rw [hm] at hab
        simp at hab

theorem clos_down {S : Nat → Prop} (hS : Down ops S) {i j : Nat} (hi : S i) (hb : ((clos ops.toList []).getD i 0).testBit j = true) : S j :=
  clos_bit hS ops.toList [] (fun j o h => by simpa using h) (fun i j _ h => by simp at h) i j hi hb

structure RegOk0 (ops : Array Oper) (p : List Nat) (nr nm : Nat) : Prop where
  len : p.length = ops.size
  all : ∀ i, i < ops.size → ∃ x : Nat, p[x]? = some i
  nd : p.Nodup
  lt : ∀ i ∈ p, i < ops.size
  le : nr + nm ≤ p.length
  sel : Region.noSelect ops = true
  r : rOk ops (Array.replicate ops.size false) (p.take nr) = true
  back : ∀ i o, ops[i]? = some o → ∀ e ∈ o.after.toList, Region.binds .any e = true → e.on < i
  early : ∀ x y i j o q d, x < nr + nm → y < nr + nm → x ≠ y → p[x]? = some i → p[y]? = some j → ops[i]? = some o → ops[j]? = some q → q.dst = some d → o.dst ≠ some d ∧ (d ∈ o.looksAt ops → y < x ∧ (y < nr ∨ ((clos ops.toList []).getD i 0).testBit j = true))
structure RegOk (ops : Array Oper) (p : List Nat) (nr nm : Nat) (gs : List Nat) : Prop extends RegOk0 ops p nr nm where
  late : ∀ x y i j, nr + nm ≤ x → nr ≤ y → y < x → p[x]? = some i → p[y]? = some j → ((clos ops.toList []).getD i 0).testBit j = true ∨ (nr + nm ≤ y ∧ fOk ops p y = true)
  grow : ∀ x y i j, nr ≤ x → x < nr + nm → y < x → p[x]? = some i → p[y]? = some j → (idx gs j).isSome = true → ((clos ops.toList []).getD i 0).testBit j = true

theorem nodupB_nodup' : ∀ {l : List Nat}, nodupB l = true → l.Nodup
  | [], _ => by simp
  | i :: r, h => by
    simp only [nodupB, Bool.and_eq_true] at h
    rw [List.nodup_cons]
    refine ⟨?_, nodupB_nodup' h.2⟩
    cases hi : idx r i with
    | none => exact idx_none hi
    | some j => rw [hi] at h; cases h.1

theorem RegOk.of {p : List Nat} {nr nm : Nat} {gs : List Nat} (h : regOk ops p nr nm gs = true) : RegOk ops p nr nm gs := by
  unfold regOk at h
  simp only [Bool.and_eq_true] at h
  obtain ⟨h1, h0, h2, h3, h4, h5, h6, h7, h8⟩ := h
  have h1 := Nat.eq_of_beq_eq_true h1
  have h4 := Nat.le_of_ble_eq_true h4
  simp only [List.all_eq_true, List.mem_range] at h0 h3 h7 h8
  have hlt : ∀ i ∈ p, i < ops.size := fun i hi => by simpa [Nat.blt_eq] using h3 i hi
  have at_ : ∀ x i o, p[x]? = some i → ops[i]? = some o → _ := fun x i o hx ho => by
    have hxl := (List.getElem?_eq_some_iff.1 hx).1
    have hl : ops.toList[i]? = some o := by simpa using ho
    have := h8 x hxl
    simp only [hx, hl] at this
    exact this
  have get : ∀ x i, p[x]? = some i → ∃ o, ops[i]? = some o := fun x i hx => by
    have := hlt i (List.mem_of_getElem? hx)
    exact ⟨ops[i], Array.getElem?_eq_getElem this⟩
  have el : ∀ x y i j o q, x < nr + nm → y < nr + nm → x ≠ y → p[x]? = some i → p[y]? = some j → ops[i]? = some o → ops[j]? = some q → _ := fun x y i j o q hx hy hne hpx hpy ho hq => by
    have := at_ x i o hpx ho
    have hf : Nat.ble (nr + nm) x = false := by
      rw [Bool.eq_false_iff]; intro h; have := Nat.le_of_ble_eq_true h; omega
    rw [hf] at this
    simp only [cond_false, List.all_eq_true, List.mem_range] at this
    have h9 := this y hy
    have hb : Nat.beq x y = false := by rw [Bool.eq_false_iff]; intro e'; exact hne (Nat.eq_of_beq_eq_true e')
    have hl : ops.toList[j]? = some q := by simpa using hq
    rw [hb, hpy] at h9
    simp only [hl, Bool.false_or, Bool.and_eq_true] at h9
    exact h9
  refine ⟨⟨h1, fun i hi => by
    have := h0 i hi
    cases hx : idx p i with
    | none => rw [hx] at this; cases this
    | some x => exact ⟨x, idx_get hx⟩, nodupB_nodup' h2, hlt, h4, h5, h6, fun i o ho e he hb => ?back, fun x y i j o q d hx hy hne hpx hpy ho hq hd => ?early⟩, fun x y i j hcx hny hyx hpx hpy => ?late, fun x y i j hnx hx hyx hpx hpy hg => ?grow⟩
  case back =>
    have hi := (Array.getElem?_eq_some_iff.1 ho).1
    have hl : ops.toList[i]? = some o := by simpa using ho
    have := h7 i hi
    rw [hl] at this
    simp only [List.all_eq_true] at this
    have := this e he
    simp only [hb, Bool.not_true, Bool.false_or] at this
    simpa [Nat.blt_eq] using this
  case late =>
    obtain ⟨o, ho⟩ := get x i hpx
    have := at_ x i o hpx ho
    rw [show Nat.ble (nr + nm) x = true by simpa using hcx] at this
    simp only [cond_true, List.all_eq_true, List.mem_range] at this
    have := this y hyx
    rw [hpy] at this
    have hf : Nat.blt y nr = false := by rw [Bool.eq_false_iff]; intro h; simp [Nat.blt_eq] at h; omega
    rw [hf] at this
    simp only [Bool.false_or, Bool.or_eq_true, Bool.and_eq_true] at this
    exact this.imp id fun h => ⟨Nat.le_of_ble_eq_true h.1, h.2⟩
  case early =>
    have h9 := (el x y i j o q hx hy hne hpx hpy ho hq).1
    rw [hd] at h9
    simp only [Bool.and_eq_true, Bool.not_eq_true', beq_eq_false_iff_ne, Bool.or_eq_true] at h9
    refine ⟨h9.1, fun hm => ?_⟩
    rcases h9.2 with h10 | h10
    · simp only [List.contains_eq_mem, decide_eq_false_iff_not] at h10
      exact absurd hm h10
    · exact ⟨by simpa [Nat.blt_eq] using h10.1, h10.2.imp (fun h => by simpa [Nat.blt_eq] using h) id⟩
  case grow =>
    obtain ⟨o, ho⟩ := get x i hpx
    obtain ⟨q, hq⟩ := get y j hpy
    have h9 := (el x y i j o q hx (by omega) (by omega) hpx hpy ho hq).2
    have e1 : Nat.blt y x = true := by simpa [Nat.blt_eq] using hyx
    have e2 : Nat.ble nr x = true := by simpa using hnx
    cases hi : idx gs j with
    | none => rw [hi] at hg; cases hg
    | some z =>
      rw [e1, e2, hi] at h9
      simpa using h9

/-! The operations at some places -/
theorem pickO_get {l : List Oper} {gs : List Nat} : ∀ {p : List Nat}, (∀ i ∈ p, i < l.length) → ∀ x : Nat, (pickO l gs p)[x]? = (p[x]?).bind fun i => (l[i]?).map fun o => ((match idx gs i with | some _ => true | none => false), o)
  | [], _, x => by simp [pickO]
  | i :: r, h, x => by
    have hi := h i (by simp)
    have e : l[i]? = some l[i] := by simp [hi]
    simp only [pickO, e]
    cases x with
    | zero => simp [e]; rfl
    | succ x => simpa using pickO_get (fun j hj => h j (by simp [hj])) x
theorem pickO_len {l : List Oper} {gs : List Nat} : ∀ {p : List Nat}, (∀ i ∈ p, i < l.length) → (pickO l gs p).length = p.length
  | [], _ => rfl
  | i :: r, h => by
    have hi := h i (by simp)
    have e : l[i]? = some l[i] := by simp [hi]
    have ih := pickO_len (l := l) (gs := gs) (p := r) (fun j hj => h j (List.mem_cons_of_mem _ hj))
    simp only [pickO, e, List.length_cons, ih]

/-! What the slots hold when some of the operations are done -/
def valD (D : Nat → Bool) : Nat → List Oper → List V → Nat → V → V
  | i, o :: L, v :: vs, t, x => if D i = true ∧ o.dst = some t then v else valD D (i + 1) L vs t x
  | _, _, _, _, x => x

theorem valD_congr {D D' : Nat → Bool} {t : Nat} {x : V} : ∀ {L : List Oper} {vs : List V} {i : Nat}, (∀ j o, L[j]? = some o → o.dst = some t → D (i + j) = D' (i + j)) → valD D i L vs t x = valD D' i L vs t x
  | [], _, _, _ => by simp [valD]
  | _ :: _, [], _, _ => by simp [valD]
  | o :: L, v :: vs, i, h => by
    simp only [valD]
    have h0 := h 0 o rfl
    rw [valD_congr (i := i + 1) (L := L) (vs := vs) (fun j o hj hd => by
      have := h (j + 1) o (by simpa using hj) hd
      simpa [Nat.add_assoc, Nat.add_comm 1 j] using this)]
    by_cases hd : o.dst = some t
    · have := h0 hd
      simp only [Nat.add_zero] at this
      simp only [hd, and_true, this]
    · simp [hd]
theorem valD_none {D : Nat → Bool} {t : Nat} {x : V} : ∀ {L : List Oper} {vs : List V} {i : Nat}, (∀ j o, L[j]? = some o → o.dst = some t → D (i + j) = false) → valD D i L vs t x = x
  | [], _, _, _ => by simp [valD]
  | _ :: _, [], _, _ => by simp [valD]
  | o :: L, v :: vs, i, h => by
    simp only [valD]
    rw [if_neg, valD_none (i := i + 1) (L := L) (vs := vs) (fun j o hj hd => by
      have := h (j + 1) o (by simpa using hj) hd
      simpa [Nat.add_assoc, Nat.add_comm 1 j] using this)]
    rintro ⟨h1, h2⟩
    have := h 0 o rfl h2
    simp only [Nat.add_zero] at this
    rw [this] at h1; cases h1
/-- Where just one operation has that slot. -/
theorem valD_at {D : Nat → Bool} {t : Nat} {x : V} : ∀ {L : List Oper} {vs : List V} {i j : Nat} {o : Oper} {v : V}, L[j]? = some o → vs[j]? = some v → o.dst = some t → D (i + j) = true → (∀ q p, L[q]? = some p → p.dst = some t → q = j) → valD D i L vs t x = v
  | [], _, _, _, _, _, h, _, _, _, _ => by simp at h
  | _ :: _, [], _, _, _, _, _, h, _, _, _ => by simp at h
  | o' :: L, v' :: vs, i, 0, o, v, h1, h2, h3, h4, _ => by
    simp at h1 h2; subst h1 h2
    simp only [valD]
    rw [if_pos ⟨by simpa using h4, h3⟩]
  | o' :: L, v' :: vs, i, j + 1, o, v, h1, h2, h3, h4, h5 => by
    simp only [valD]
    rw [if_neg (by rintro ⟨_, hd⟩; have := h5 0 o' rfl hd; omega)]
    exact valD_at (i := i + 1) (j := j) (by simpa using h1) (by simpa using h2) h3 (by simpa [Nat.add_assoc, Nat.add_comm 1 j] using h4) (fun q p hq hp => by
      have := h5 (q + 1) p (by simpa using hq) hp; omega)

def puts : Env → List Oper → List V → Env
  | e, o :: L, v :: vs => puts (putE o.dst v e) L vs
  | e, _, _ => e

theorem puts_get {t : Nat} : ∀ {L : List Oper} {vs : List V} {e : Env} {i : Nat}, (∀ (a b : Nat) (o p : Oper), L[a]? = some o → L[b]? = some p → o.dst = some t → p.dst = some t → a = b) → getE (puts e L vs) t = valD (fun _ => true) i L vs t (getE e t)
  | [], vs, e, i, _ => by cases vs <;> simp [puts, valD]
  | _ :: _, [], e, i, _ => by simp [puts, valD]
  | o :: L, v :: vs, e, i, h => by
    simp only [puts, valD]
    rw [puts_get (i := i + 1) (fun a b o p ha hb h1 h2 => by have := h (a + 1) (b + 1) o p (by simpa using ha) (by simpa using hb) h1 h2; omega)]
    by_cases hd : o.dst = some t
    · rw [if_pos ⟨trivial, hd⟩]
      rw [valD_none (fun j p hj hp => by have := h 0 (j + 1) o p rfl (by simpa using hj) hd hp; omega)]
      rw [hd, getE_put]; simp
    · rw [if_neg (by rintro ⟨_, h⟩; exact hd h)]
      congr 1
      cases hdd : o.dst with
      | none => rfl
      | some d => rw [getE_put, if_neg (fun e' => hd (by rw [hdd, e']))]
end
end Go.Ev

/-
  The evaluator's regions are the machine's, in whatever order is drawn: what each operation comes to, copies and places first, the end.
-/
namespace Go.Ev
open Go

section
variable {R : Type} {P : Program} {C0 : Com} {ι0 : Locs} {w0 : World}

/-- What an operation comes to, and which entries it adds. -/
def RunM (cx : Cx) (call : CallF) (g : Bool) (o : Oper) (rd : Operand → V) (M : Mem) (v : V) (X : Mem) : Prop :=
  match g with
  | true => evOpG cx call o.op rd M (fun v X => some (v, X)) = some (v, X)
  | false => evOpQ cx call o.type o.op rd M some = some v ∧ X = []

theorem evOpM_par {cx : Cx} {call : CallF} {g : Bool} {o : Oper} {rd : Operand → V} {M : Mem} {k : V → Mem → Option R} {q : R} (h : evOpM cx call o.type g o.op rd M k = some q) :
    ∃ v X, RunM cx call g o rd M v X ∧ k v X = some q ∧ (g = false → X = []) := by
  unfold evOpM at h
  cases g with
  | true => obtain ⟨v, X, h1, h2⟩ := evOpG_par (ty := o.type) h; exact ⟨v, X, h1, h2, fun h => by cases h⟩
  | false =>
    obtain ⟨v, h1, h2⟩ := evOpQ_par (k := fun v => k v []) h
    exact ⟨v, [], ⟨h1, rfl⟩, h2, fun _ => rfl⟩

/-- What one of the first operations came to. -/
def OkAt (cx : Cx) (call : CallF) (nt : Nat) (all : List Oper) (e : Env) (M : Mem) (g : Bool) (o : Oper) (v : V) (X : Mem) : Prop :=
  dstOk nt o.dst = true ∧ (g = false → X = []) ∧ match o.guard with
    | none => RunM cx call g o (rdE e) M v X
    | some (j, want) => ∃ gg t, all[j]? = some gg ∧ gg.dst = some t ∧ ((∃ b, (getE e t = .kb b ∨ getE e t = .d (.bool b)) ∧ ((b = want ∧ RunM cx call g o (rdE e) M v X) ∨ (b ≠ want ∧ v = .tup [] ∧ X = []))) ∨ ((∃ xs, getE e t = .tup xs) ∧ v = .tup [] ∧ X = []))

theorem rdE_of {e e' : Env} (h : ∀ t, getE e t = getE e' t) : rdE e = rdE e' := by
  funext x
  unfold rdE
  split <;> first | exact h _ | rfl
theorem OkAt.of {cx : Cx} {call : CallF} {nt : Nat} {all : List Oper} {e e' : Env} (h : ∀ t, getE e t = getE e' t) {M : Mem} {g : Bool} {o : Oper} {v : V} {X : Mem} (hk : OkAt cx call nt all e M g o v X) : OkAt cx call nt all e' M g o v X := by
  have hr := rdE_of h
  unfold OkAt at hk ⊢
  rw [← hr]
  simp only [← h]
  exact hk
theorem puts_of {L : List Oper} : ∀ {vs : List V} {e e' : Env}, (∀ t, getE e t = getE e' t) → ∀ t, getE (puts e L vs) t = getE (puts e' L vs) t := by
  induction L with
  | nil => intro vs e e' h t; simpa [puts] using h t
  | cons o L ih =>
    intro vs e e' h t
    cases vs with
    | nil => simpa [puts] using h t
    | cons v vs =>
      simp only [puts]
      refine ih (fun t => ?_) t
      cases o.dst with
      | none => exact h t
      | some d => rw [getE_put, getE_put, h]
theorem getE_same {e : Env} {t : Nat} {v : V} (h : getE e t = v) (s : Nat) : getE ((t, v) :: e) s = getE e s := by
  have := getE_put (d := t) (t := s) (v := v) (e := e)
  simp only [putE] at this
  rw [this]
  split
  · rename_i e'; rw [← e', h]
  · rfl

theorem evM_rec {cx : Cx} {call : CallF} {nt : Nat} {all : List Oper} : ∀ {L : List (Bool × Oper)} {e : Env} {M : Mem} {k : Env → Mem → Option R} {q : R}, evM cx call nt all L e M k = some q →
    ∃ (vs : List V) (Xs : List Mem) (ef : Env), vs.length = L.length ∧ Xs.length = L.length ∧ (∀ t, getE ef t = getE (puts e (L.map (·.2)) vs) t) ∧ k ef (M ++ Xs.flatten) = some q ∧ ∀ (i : Nat) (g : Bool) (o : Oper) (v : V) (X : Mem), L[i]? = some (g, o) → vs[i]? = some v → Xs[i]? = some X → OkAt cx call nt all (puts e ((L.map (·.2)).take i) (vs.take i)) (M ++ (Xs.take i).flatten) g o v X
  | [], e, M, k, q, h => ⟨[], [], e, rfl, rfl, fun _ => rfl, by simpa [evM] using h, fun i g o v X h => by simp at h⟩
  | (g, o) :: L, e, M, k, q, h => by
    simp only [evM, fV_eq, fM_eq] at h
    obtain ⟨hd, h'⟩ := bif_some h; clear h; have h := h'; clear h'
    have fin : ∀ v X e', (∀ t, getE e' t = getE e t) → OkAt cx call nt all e M g o v X → evM cx call nt all L (putE o.dst v e') (M ++ X) k = some q → ∃ (vs : List V) (Xs : List Mem) (ef : Env), vs.length = ((g, o) :: L).length ∧ Xs.length = ((g, o) :: L).length ∧ (∀ t, getE ef t = getE (puts e (((g, o) :: L).map (·.2)) vs) t) ∧ k ef (M ++ Xs.flatten) = some q ∧ ∀ (i : Nat) (g' : Bool) (o' : Oper) (v : V) (X : Mem), ((g, o) :: L)[i]? = some (g', o') → vs[i]? = some v → Xs[i]? = some X → OkAt cx call nt all (puts e ((((g, o) :: L).map (·.2)).take i) (vs.take i)) (M ++ (Xs.take i).flatten) g' o' v X := by
      intro v X e' hee hok h
      obtain ⟨vs, Xs, ef, e1, e2, e5, e3, e4⟩ := evM_rec h
      have hput : ∀ t, getE (putE o.dst v e') t = getE (putE o.dst v e) t := fun t => by
        cases o.dst with
        | none => exact hee t
        | some d => rw [getE_put, getE_put, hee]
      refine ⟨v :: vs, X :: Xs, ef, by simp [e1], by simp [e2], fun t => (e5 t).trans (puts_of hput t), by simpa [List.append_assoc] using e3, fun i g' o' v' X' h1 h2 h3 => ?_⟩
      cases i with
      | zero =>
        simp at h1 h2 h3
        obtain ⟨rfl, rfl⟩ := h1; subst h2 h3
        simpa [puts] using hok
      | succ i =>
        simp at h1 h2 h3
        have := (e4 i g' o' v' X' h1 h2 h3).of (puts_of hput)
        simpa [puts, List.append_assoc] using this
    have skip : ∀ {gg t j want}, o.guard = some (j, want) → all[j]? = some gg → gg.dst = some t → ((∃ b, (getE e t = .kb b ∨ getE e t = .d (.bool b)) ∧ b ≠ want) ∨ ∃ xs, getE e t = .tup xs) → OkAt cx call nt all e M g o (.tup []) [] := by
      intro gg t j want hg h1 h2 h3
      refine ⟨hd, fun _ => rfl, ?_⟩
      rw [hg]
      refine ⟨gg, t, h1, h2, ?_⟩
      rcases h3 with ⟨b, hb, hne⟩ | hx
      · exact .inl ⟨b, hb, .inr ⟨hne, rfl, rfl⟩⟩
      · exact .inr ⟨hx, rfl, rfl⟩
    have sk2 : ∀ {e' : Env}, evM cx call nt all L (putE o.dst (.tup []) e') M k = some q → evM cx call nt all L (putE o.dst (.tup []) e') (M ++ []) k = some q := fun h => by rw [List.append_nil]; exact h
    cases hg : o.guard with
    | none =>
      rw [hg] at h
      obtain ⟨v, X, h1, h2, h3⟩ := evOpM_par h
      exact fin v X e (fun _ => rfl) ⟨hd, h3, by rw [hg]; exact h1⟩ h2
    | some jw =>
      obtain ⟨j, want⟩ := jw
      rw [hg] at h; simp only at h
      cases hj : all[j]? with
      | none => rw [hj] at h; cases h
      | some gg =>
        rw [hj] at h; simp only at h
        cases hgd : gg.dst with
        | none => rw [hgd] at h; cases h
        | some t =>
          rw [hgd] at h; simp only at h
          cases hv : getE e t with
          | kb b =>
            rw [hv] at h; simp only at h
            cases hbw : (b == want) with
            | true =>
              rw [hbw] at h; simp only [cond_true] at h
              obtain ⟨v, X, h1, h2, h3⟩ := evOpM_par h
              exact fin v X e (fun _ => rfl) ⟨hd, h3, by rw [hg]; exact ⟨gg, t, hj, hgd, .inl ⟨b, .inl hv, .inl ⟨by simpa using hbw, h1⟩⟩⟩⟩ h2
            | false =>
              rw [hbw] at h; simp only [cond_false] at h
              exact fin (.tup []) [] e (fun _ => rfl) (skip hg hj hgd (.inl ⟨b, .inl hv, by simpa using hbw⟩)) (sk2 h)
          | d x =>
            rw [hv] at h
            cases x with
            | bool b =>
              simp only [oite_eq] at h
              have yes : ∀ {c}, b = c → b = want → (evOpM cx call o.type g o.op (rdE ((t, .d (.bool c)) :: e)) M fun v X => evM cx call nt all L (putE o.dst v ((t, .d (.bool c)) :: e)) (M ++ X) k) = some q → ∃ v X, OkAt cx call nt all e M g o v X ∧ evM cx call nt all L (putE o.dst v ((t, .d (.bool c)) :: e)) (M ++ X) k = some q := fun hbc hb h => by
                subst hbc
                rw [rdE_of (getE_same hv)] at h
                obtain ⟨v, X, h1, h2, h3⟩ := evOpM_par h
                exact ⟨v, X, ⟨hd, h3, by rw [hg]; exact ⟨gg, t, hj, hgd, .inl ⟨b, .inr hv, .inl ⟨hb, h1⟩⟩⟩⟩, h2⟩
              have no : ∀ {c}, b = c → b ≠ want → evM cx call nt all L (putE o.dst (.tup []) ((t, .d (.bool c)) :: e)) M k = some q → ∃ v X, OkAt cx call nt all e M g o v X ∧ evM cx call nt all L (putE o.dst v ((t, .d (.bool c)) :: e)) (M ++ X) k = some q := fun _ hb h => ⟨.tup [], [], skip hg hj hgd (.inl ⟨b, .inr hv, hb⟩), sk2 h⟩
              have both : ∃ v X, OkAt cx call nt all e M g o v X ∧ evM cx call nt all L (putE o.dst v ((t, .d (.bool b)) :: e)) (M ++ X) k = some q := by
                cases b <;> cases want <;> simp only [cond_true, cond_false] at h
                · exact yes rfl rfl h
                · exact no rfl (by decide) h
                · exact no rfl (by decide) h
                · exact yes rfl rfl h
              obtain ⟨v, X, h1, h2⟩ := both
              exact fin v X _ (getE_same hv) h1 h2
            | _ => cases h
          | tup xs =>
            rw [hv] at h
            exact fin (.tup []) [] e (fun _ => rfl) (skip hg hj hgd (.inr ⟨xs, hv⟩)) (sk2 h)
          | _ => rw [hv] at h; cases h
end
end Go.Ev

/-
  The evaluator's regions are the machine's: in whatever order is drawn, the end.
-/
namespace Go.Ev
open Go

theorem least : ∀ (l : List Nat) (f : Nat → Nat), l ≠ [] → ∃ m ∈ l, ∀ j ∈ l, f m ≤ f j
  | [], _, h => absurd rfl h
  | [a], f, _ => ⟨a, by simp, fun j hj => by simp at hj; subst hj; exact Nat.le_refl _⟩
  | a :: b :: r, f, _ => by
    obtain ⟨m, h1, h2⟩ := least (b :: r) f (by simp)
    by_cases h : f a ≤ f m
    · exact ⟨a, by simp, fun j hj => by
        cases hj with
        | head => exact Nat.le_refl _
        | tail _ hj => exact Nat.le_trans h (h2 j hj)⟩
    · exact ⟨m, by simp at h1 ⊢; exact .inr h1, fun j hj => by
        cases hj with
        | head => omega
        | tail _ hj => exact h2 j hj⟩

theorem valD_take {t : Nat} {x : V} : ∀ {L : List Oper} {vs : List V} {n i : Nat}, valD (fun j => decide (j < i + n)) i L vs t x = valD (fun _ => true) i (L.take n) (vs.take n) t x
  | [], vs, n, i => by simp [valD]
  | o :: L, [], n, i => by cases n <;> simp [valD]
  | o :: L, v :: vs, 0, i => by
    simp only [List.take_zero, Nat.add_zero]
    rw [show valD (fun _ => true) i [] [] t x = x from rfl]
    exact valD_none (fun j p _ _ => by simp)
  | o :: L, v :: vs, n + 1, i => by
    simp only [List.take_succ_cons, valD]
    have ih := valD_take (t := t) (x := x) (L := L) (vs := vs) (n := n) (i := i + 1)
    rw [← ih]
    rw [show i + 1 + n = i + (n + 1) by omega]
    simp

theorem rdE_const {e e' : Env} : ∀ v, rdE e (.const v) = rdE e' (.const v) := by
  intro v
  cases v with
  | slice a l c => cases a <;> cases l <;> cases c <;> rfl
  | _ => rfl

/-! The entries that were added by those that are done -/
def accX (D : Nat → Bool) : Nat → List Mem → Mem
  | _, [] => []
  | i, X :: r => (bif D i then X else []) ++ accX D (i + 1) r

theorem accX_split {D : Nat → Bool} : ∀ {n i : Nat} {Xs : List Mem}, accX D i Xs = accX D i (Xs.take n) ++ accX D (i + n) (Xs.drop n)
  | 0, i, Xs => by simp [accX]
  | n + 1, i, [] => by simp [accX]
  | n + 1, i, X :: Xs => by
    simp only [List.take_succ_cons, List.drop_succ_cons, accX, List.append_assoc]
    rw [accX_split (n := n) (i := i + 1) (Xs := Xs), show i + 1 + n = i + (n + 1) by omega]
theorem accX_all {D : Nat → Bool} : ∀ {i : Nat} {Xs : List Mem}, (∀ (j : Nat) X, Xs[j]? = some X → D (i + j) = true ∨ X = []) → accX D i Xs = Xs.flatten
  | i, [], _ => rfl
  | i, X :: Xs, h => by
    simp only [accX, List.flatten_cons]
    rw [accX_all (i := i + 1) (fun j Y hj => by have := h (j + 1) Y (by simpa using hj); rwa [show i + 1 + j = i + (j + 1) by omega])]
    congr 1
    rcases h 0 X rfl with h0 | h0
    · simp only [Nat.add_zero] at h0; rw [h0]; rfl
    · subst h0; cases D i <;> rfl
theorem accX_none {D : Nat → Bool} : ∀ {i : Nat} {Xs : List Mem}, (∀ (j : Nat) X, Xs[j]? = some X → D (i + j) = false ∨ X = []) → accX D i Xs = []
  | i, [], _ => rfl
  | i, X :: Xs, h => by
    simp only [accX]
    rw [accX_none (i := i + 1) (fun j Y hj => by have := h (j + 1) Y (by simpa using hj); rwa [show i + 1 + j = i + (j + 1) by omega])]
    rcases h 0 X rfl with h0 | h0
    · simp only [Nat.add_zero] at h0; rw [h0]; rfl
    · subst h0; cases D i <;> rfl
theorem accX_congr {D D' : Nat → Bool} : ∀ {i : Nat} {Xs : List Mem}, (∀ (j : Nat) X, Xs[j]? = some X → D (i + j) = D' (i + j)) → accX D i Xs = accX D' i Xs
  | i, [], _ => rfl
  | i, X :: Xs, h => by
    simp only [accX]
    rw [accX_congr (D' := D') (i := i + 1) (fun j Y hj => by have := h (j + 1) Y (by simpa using hj); rw [show i + 1 + j = i + (j + 1) by omega]; exact this)]
    have := h 0 X rfl
    simp only [Nat.add_zero] at this
    rw [this]

/-- Just the operations at some places are done. -/
def LD (p : List Nat) (D : Nat → Prop) (listed : Array Bool) : Prop := ∀ j, listed.getD j false = true ↔ ∃ x : Nat, D x ∧ p[x]? = some j

theorem LD.set {p : List Nat} {D : Nat → Prop} {listed : Array Bool} (h : LD p D listed) {x i : Nat} (hx : p[x]? = some i) (hi : i < listed.size) : LD p (fun y => D y ∨ y = x) (listed.setIfInBounds i true) := by
  intro j
  by_cases e : i = j
  · subst e
    simp only [Array.getD_eq_getD_getElem?, Array.getElem?_setIfInBounds_self, hi, if_true, Option.getD_some, true_iff]
    exact ⟨x, .inr rfl, hx⟩
  · rw [getD_set_ne false e, h j]
    constructor
    · rintro ⟨y, h1, h2⟩; exact ⟨y, .inl h1, h2⟩
    · rintro ⟨y, h1 | h1, h2⟩
      · exact ⟨y, h1, h2⟩
      · subst h1; rw [hx] at h2; cases h2; exact absurd rfl e

theorem nodup_inj {p : List Nat} (h : p.Nodup) {x y i : Nat} (hx : p[x]? = some i) (hy : p[y]? = some i) : x = y := by
  obtain ⟨h1, e1⟩ := List.getElem?_eq_some_iff.1 hx
  obtain ⟨h2, e2⟩ := List.getElem?_eq_some_iff.1 hy
  exact (List.getElem_inj h).1 (e1.trans e2.symm)

section
variable {R : Type} {P : Program} {C0 : Com} {ι0 : Locs} {w0 : World}

/-- A reading of the slots. -/
def rdD (f : Nat → V) : Operand → V
  | .tmp t => f t
  | x => rdE [] x

theorem bit_le {ops : Array Oper} {p : List Nat} {nr nm : Nat} {gs : List Nat} (hr : RegOk ops p nr nm gs) {i j : Nat} (hb : ((clos ops.toList []).getD i 0).testBit j = true) : j ≤ i := by
  have hS : Down ops (fun k => k ≤ i) := fun k o hk hle e he hbi => by
    have := hr.back k o hk e he hbi
    show e.on ≤ i
    have hle : k ≤ i := hle
    omega
  exact clos_down hS (i := i) (Nat.le_refl _) hb

theorem r_yields {cx : Cx} (hcx : CxOk0 P cx) {call : CallF} {g : Bool} {o : Oper} (hk : rKind o.op = true) {ρ : Operand → Value} {rd : Operand → V} {C : Com} {ι : Locs} {M : Mem} {w : World} (hrd : ∀ x, RV w C ι (ρ x) (rd x)) {v : V} {X : Mem} (h : RunM cx call g o rd M v X) :
    ∃ u, (∀ w', (execOp ρ o).run P w' = .ok (.value u) w') ∧ RV w C ι u v ∧ X = [] := by
  obtain ⟨dst, op, type, pos, after, guard⟩ := o
  cases g with
  | true =>
    have h : evOpG cx call op rd M (fun v X => some (v, X)) = some (v, X) := h
    cases op <;> simp [rKind] at hk <;> simp [evOpG] at h
  | false =>
    obtain ⟨h, hX⟩ := h
    refine Exists.elim (?_ : ∃ u, (∀ w', (execOp ρ ⟨dst, op, type, pos, after, guard⟩).run P w' = .ok (.value u) w') ∧ RV w C ι u v) (fun u hu => ⟨u, hu.1, hu.2, hX⟩)
    simp only at h hk
    unfold execOp
    simp only
    cases op with
    | move x =>
      simp only [evOpQ, nilOp, evOpR, cond_false] at h
      cases h
      exact ⟨ρ x, fun w' => rfl, fixNil_ok (hrd x)⟩
    | nilCheck x =>
      simp only [evOpQ, nilOp, evOpR, cond_false] at h
      dsimp only
      have hx := hrd x
      split at h
      · rename_i i o hr; cases h; rw [hr] at hx; have h0 := hx; unfold RV at h0; obtain ⟨L, _, _, e⟩ := h0; rw [e] at hx ⊢; exact ⟨_, fun w' => rfl, hx⟩
      · rename_i i a b hr; cases h; rw [hr] at hx; have h0 := hx; unfold RV at h0; obtain ⟨L, _, _, _, e⟩ := h0; rw [e] at hx ⊢; exact ⟨_, fun w' => rfl, hx⟩
      · rename_i c j hr; cases h; rw [hr] at hx; have h0 := hx; unfold RV at h0; obtain ⟨b, off, e, _⟩ := h0; rw [e] at hx ⊢; exact ⟨_, fun w' => rfl, hx⟩
      · rename_i f cs hr; cases h; rw [hr] at hx; have h0 := hx; unfold RV at h0; obtain ⟨c, e, _⟩ := h0; rw [e] at hx ⊢; exact ⟨_, fun w' => rfl, hx⟩
      · cases h
    | fieldAddr t x f =>
      simp only [evOpQ, nilOp, evOpR, cond_false] at h
      dsimp only
      split at h
      · rename_i T hT
        split at h
        · rename_i fs hk2
          split at h
          · rename_i off u hf
            split at h
            · rename_i U hU
              obtain ⟨hpos, h⟩ := bif_some h
              have hpos := Nat.le_of_ble_eq_true hpos
              have hkk := (hcx.ty _ _ hT).kind
              rw [hk2] at hkk
              obtain ⟨fields, hu, hfs, _⟩ := hkk
              have hUs := (hcx.ty _ _ hU).size
              have hx := hrd x
              have run : ∀ (b o : Nat), ρ x = .pointer (some ⟨b, o, none⟩) → ∀ w', (do pure (Next.value (← Instr.fieldAt t (ρ x) f)) : Sem Next).run P w' = .ok (.value (.pointer (some ⟨b, o + off, none⟩))) w' := by
                intro b o e w'
                refine run_v ?_
                have hf' := hf
                rw [← hfs] at hf'
                simp only [List.getElem?_map, Option.map_eq_some_iff] at hf'
                obtain ⟨fd, hfd, e2⟩ := hf'
                cases e2
                have hfa : fields[f]? = some fd := by simpa using hfd
                unfold Instr.fieldAt Instr.sureAddr fieldPlace
                rw [e]
                simp only [Sem.run_bind, hu, Result.andThen_ok, hfa, Sem.run_pure, hUs]
                rw [if_neg (by omega)]
                simp only [Sem.run_pure, Result.andThen_ok, add_at]
              split at h
              · rename_i i o hr; cases h; rw [hr] at hx; have h0 := hx; unfold RV at h0; obtain ⟨L, hL, hrow, e⟩ := h0
                exact ⟨_, run _ _ e, by unfold RV; exact ⟨L, hL, hrow, rfl⟩⟩
              · rename_i i a b hr; cases h; rw [hr] at hx; have h0 := hx; unfold RV at h0; obtain ⟨L, hL, hrow, hi, e⟩ := h0
                exact ⟨_, run _ _ e, by unfold RV; exact ⟨L, hL, hrow, hi, by rw [Nat.add_assoc]⟩⟩
              · rename_i c j hr; rw [hr] at hx; have h0 := hx; unfold RV at h0; obtain ⟨b, o, e, hc, hrc⟩ := h0
                obtain ⟨hle, h⟩ := bif_some h
                cases h
                have hle := Nat.le_of_ble_eq_true hle
                have hl : ((c.drop (j + off)).take U.size).length ≤ c.length - (j + off) := by simp; omega
                refine ⟨_, run _ _ e, ?_⟩
                unfold RV
                exact ⟨b, o + (j + off), by rw [Nat.add_zero, Nat.add_assoc], by omega, RCs.take _ (RCs.drop (j + off) hrc)⟩
              · cases h
            · cases h
          · cases h
        · cases h
      · cases h
    | _ => simp [rKind] at hk

theorem rKind_par {cx : Cx} {call : CallF} {o : Oper} (hk : rKind o.op = true) {rd : Operand → V} {M : Mem} {K : V → Mem → List Nat → Option R} {q : R} (h : evOp cx call o.type o.op rd M K = some q) : ∃ v, RunM cx call false o rd M v [] ∧ K v M [] = some q := by
  have e : evOp cx call o.type o.op rd M K = evOpQ cx call o.type o.op rd M (fun v => K v M []) := by
    cases ho : o.op <;> rw [ho] at hk <;> first | (simp [rKind] at hk; done) | rfl
  rw [e] at h
  obtain ⟨v, h1, h2⟩ := evOpQ_par h
  exact ⟨v, ⟨h1, rfl⟩, h2⟩

theorem lsts_get : ∀ {l : List Nat} {A : Array Bool}, (∀ i ∈ l, i < A.size) → ∀ j, ((l.foldl (fun a i => a.setIfInBounds i true) A).getD j false = true ↔ A.getD j false = true ∨ j ∈ l)
  | [], A, _, j => by simp
  | i :: l, A, h, j => by
    rw [List.foldl_cons, lsts_get (l := l) (fun x hx => by simpa using h x (List.mem_cons_of_mem _ hx)) j]
    have hi := h i (by simp)
    by_cases e : i = j
    · subst e; simp [hi]
    · rw [getD_set_ne false e]
      have : j ≠ i := fun h => e h.symm
      simp [this]

theorem lsts_size : ∀ {l : List Nat} {A : Array Bool}, (l.foldl (fun a i => a.setIfInBounds i true) A).size = A.size
  | [], _ => rfl
  | i :: l, A => by rw [List.foldl_cons, lsts_size]; simp

theorem LD.lsts {p : List Nat} {m n : Nat} {listed : Array Bool} (h : LD p (· < m) listed) (hs : listed.size = n) (hlt : ∀ i ∈ p, i < n) : listed = lsts n (p.take m) := by
  have hg := lsts_get (l := p.take m) (A := Array.replicate n false) (fun i hi => by simpa using hlt i (List.mem_of_mem_take hi))
  have hsz : (Ev.lsts n (p.take m)).size = n := by unfold Ev.lsts; rw [lsts_size]; simp
  apply Array.ext
  · rw [hs, hsz]
  · intro j h1 h2
    have e1 : listed[j] = listed.getD j false := by simp [h1]
    have e2 : (Ev.lsts n (p.take m))[j] = (Ev.lsts n (p.take m)).getD j false := by simp [h2]
    rw [e1, e2, Bool.eq_iff_iff, h j]
    unfold Ev.lsts
    rw [hg j]
    have h0 : (Array.replicate n false).getD j false = false := by
      by_cases hj : j < n <;> simp [hj]
    rw [h0]
    constructor
    · rintro ⟨x, hx, hp⟩
      right
      exact List.mem_of_getElem? (i := x) (by rw [List.getElem?_take, if_pos hx]; exact hp)
    · rintro (h | h)
      · cases h
      · obtain ⟨x, hx⟩ := List.getElem?_of_mem h
        rw [List.getElem?_take] at hx
        split at hx
        · exact ⟨x, by assumption, hx⟩
        · cases hx

theorem phase2 {tl : List String} {cx : Cx} (hcx : CxOk0 P cx) {call : CallF} (hcall : CallOk P tl call) (htab : Tabs P tl C0 ι0 w0) {nt : Nat} {ops : Array Oper} {p : List Nat} {nr nm : Nat} {gs : List Nat} (hr : RegOk ops p nr nm gs) {Q : Exit → Act → World → Prop} {d : List Deferred} {k : Env → Mem → Option R} {q : R} (hQ : ∀ c a w, ¬ Q (.panic c) a w) (ht : Then C0 ι0 w0 nt d k q (Q .normal)) :
    ∀ (fuel m : Nat) (listed : Array Bool) {e : Env} {M : Mem} {a : Act} {C : Com} {ι : Locs} {w : World}, fuel + m = ops.size → nr + nm ≤ m → listed.size = ops.size → LD p (· < m) listed → Down ops (fun j => listed.getD j false = true) → evOps cx call nt ops.toList (((pickO ops.toList gs p).map (·.2)).drop m) e M k = some q → a.tmps.size = nt → a.defers = d → Inv C0 ι0 w0 C ι M w → ER w C ι a e →
      wpAny P .any ops Q fuel listed a w := by
  have hlt' : ∀ i ∈ p, i < ops.toList.length := fun i hi => by simpa using hr.lt i hi
  have pl := hr.len
  intro fuel
  induction fuel with
  | zero =>
    intro m listed e M a C ι w hf hc hs hl hdown h hn hdf hi he
    have hm : m = ops.size := by omega
    refine ⟨?_, ?_⟩
    · cases hrd : Region.ready .any ops listed with
      | nil => rfl
      | cons i r =>
        have hi' : i ∈ Region.ready .any ops listed := by rw [hrd]; simp
        obtain ⟨h0, o, ho, _⟩ := mem_ready.1 hi'
        have hlt := (Array.getElem?_eq_some_iff.1 ho).1
        obtain ⟨x, hx⟩ := hr.all i hlt
        have hxl := (List.getElem?_eq_some_iff.1 hx).1
        have := (hl i).2 ⟨x, by omega, hx⟩
        have e2 : listed.getD i false = listed.getD i true := by simp [hs, hlt]
        rw [e2, h0] at this; cases this
    · rw [List.drop_of_length_le (by simp [pickO_len hlt']; omega)] at h
      exact ht a e M C ι w h hn hdf hi he
  | succ fuel ih =>
    intro m listed e M a C ι w hf hc hs hl hdown h hn hdf hi he
    have hmlt : m < p.length := by omega
    have hpm : p[m]? = some p[m] := by simp [hmlt]
    generalize hi0 : p[m] = i0 at hpm
    have hi0lt : i0 < ops.size := hr.lt i0 (List.mem_of_getElem? hpm)
    have hom : ops[i0]? = some ops[i0] := by simp [hi0lt]
    have unl : ∀ j, j < ops.size → listed.getD j true = listed.getD j false := fun j hj => by simp [hs, hj]
    have hdrop0 : ((pickO ops.toList gs p).map (·.2)).drop m = ops[i0] :: ((pickO ops.toList gs p).map (·.2)).drop (m + 1) := by
      have hlen : m < ((pickO ops.toList gs p).map (·.2)).length := by simp [pickO_len hlt']; omega
      rw [List.drop_eq_getElem_cons hlen]
      congr 1
      have h1 : ((pickO ops.toList gs p).map (·.2))[m]? = some ops[i0] := by
        rw [List.getElem?_map, pickO_get hlt', hpm]
        simp [hom]
      exact (List.getElem?_eq_some_iff.1 h1).2
    cases hfl : fOk ops p m with
    | true =>
      unfold fOk at hfl
      rw [← LD.lsts hl hs hr.lt, show p.getD m 0 = i0 by simp [List.getD_eq_getElem?_getD, hpm]] at hfl
      simp only [rOk, hom, Bool.and_eq_true, Bool.and_true] at hfl
      obtain ⟨hkind, hgn, hds, hrdy, hfree⟩ := hfl
      have hgn : ops[i0].guard = none := by cases hg : ops[i0].guard with | none => rfl | some _ => rw [hg] at hgn; cases hgn
      rw [hdrop0] at h
      simp only [evOps, fV_eq, fM_eq] at h
      obtain ⟨hd, h'⟩ := bif_some h; clear h; have h := h'; clear h'
      rw [hgn] at h
      obtain ⟨v, hrun, hk2⟩ := rKind_par hkind h
      obtain ⟨u, hu1, hu2, _⟩ := r_yields hcx hkind (ρ := a.eval) he.rd hrun
      have he' : ER w C ι (a.put ops[i0].dst u) (putE ops[i0].dst v (killE [] e)) := ER.put he hn hd hu2
      refine wpAny_take (v := u) hom hr.sel hfree hrdy (fun c a w h => absurd h (hQ _ _ _)) (.inl ⟨by simp [Region.wanted, hgn], hu1⟩) ?_
      refine ih (m + 1) (listed.setIfInBounds i0 true) (by omega) (by omega) (by simpa using hs) (fun j => ?_) ?_ hk2 (put_size.trans hn) (put_defers.trans hdf) hi he'
      · rw [(hl.set hpm (by omega)) j]
        constructor
        · rintro ⟨x, hx1, hx2⟩; exact ⟨x, by omega, hx2⟩
        · rintro ⟨x, hx1, hx2⟩; exact ⟨x, by omega, hx2⟩
      · have hmr : i0 ∈ Region.ready .any ops listed := by simpa using hrdy
        obtain ⟨_, o2, ho2, hall2⟩ := mem_ready.1 hmr
        rw [hom] at ho2; cases ho2
        have e3 : ∀ j, (listed.setIfInBounds i0 true).getD j false = true ↔ listed.getD j false = true ∨ j = i0 := by
          intro j
          by_cases e : i0 = j
          · subst e; simp [hs, hi0lt]
          · rw [getD_set_ne false e]
            exact ⟨.inl, fun h => h.resolve_right (fun h => e h.symm)⟩
        intro j o' hj hS e he hb
        rcases (e3 j).1 hS with h1 | h1
        · exact (e3 _).2 (.inl (hdown j o' hj h1 e he hb))
        · subst h1
          rw [hom] at hj; cases hj
          exact (e3 _).2 (.inl (hall2 e (by simpa using he) hb))
    | false =>
    have nofl : ∀ {x : Prop}, x ∨ (nr + nm ≤ m ∧ fOk ops p m = true) → x := fun h => h.resolve_right fun h => by rw [hfl] at h; cases h.2
    have hready : i0 ∈ Region.ready .any ops listed := by
      refine mem_ready.2 ⟨?_, _, hom, fun e he hb => ?_⟩
      · rw [unl _ hi0lt, Bool.eq_false_iff]
        intro h1
        obtain ⟨x, hx1, hx2⟩ := (hl i0).1 h1
        have := nodup_inj hr.nd hx2 hpm
        omega
      · have hlt := hr.back i0 _ hom e (by simpa using he) hb
        obtain ⟨y, hy⟩ := hr.all e.on (by omega)
        refine (hl e.on).2 ⟨y, ?_, hy⟩
        rcases Nat.lt_trichotomy y m with h1 | h1 | h1
        · exact h1
        · subst h1; rw [hpm] at hy; cases hy; omega
        · have := bit_le hr (nofl (hr.late y m e.on i0 (by omega) (by omega) h1 hy hpm))
          omega
    refine ⟨fun h0 => by rw [h0] at hready; simp at hready, fun i hir => ?_⟩
    obtain ⟨h0, o, ho, hall⟩ := mem_ready.1 hir
    have hilt := (Array.getElem?_eq_some_iff.1 ho).1
    have hSi : Down ops (fun j => listed.getD j false = true ∨ j = i) := by
      intro j o' hj hS e he hb
      rcases hS with hS | rfl
      · exact .inl (hdown j o' hj hS e he hb)
      · rw [ho] at hj; cases hj
        exact .inl (hall e (by simpa using he) hb)
    have him : i = i0 := by
      obtain ⟨x, hx⟩ := hr.all i hilt
      rcases Nat.lt_trichotomy x m with h1 | h1 | h1
      · exfalso
        have := (hl i).2 ⟨x, h1, hx⟩
        rw [← unl _ hilt, h0] at this; cases this
      · subst h1; rw [hpm] at hx; cases hx; rfl
      · exfalso
        have hb := nofl (hr.late x m i i0 (by omega) (by omega) h1 hx hpm)
        rcases clos_down hSi (i := i) (.inr rfl) hb with h2 | h2
        · obtain ⟨y, hy1, hy2⟩ := (hl i0).1 h2
          have := nodup_inj hr.nd hy2 hpm
          omega
        · subst h2
          have := nodup_inj hr.nd hx hpm
          omega
    subst him
    rw [hom] at ho; cases ho
    have hdrop : ((pickO ops.toList gs p).map (·.2)).drop m = ops[i] :: ((pickO ops.toList gs p).map (·.2)).drop (m + 1) := by
      have hlen : m < ((pickO ops.toList gs p).map (·.2)).length := by simp [pickO_len hlt']; omega
      rw [List.drop_eq_getElem_cons hlen]
      congr 1
      have h1 : ((pickO ops.toList gs p).map (·.2))[m]? = some ops[i] := by
        rw [List.getElem?_map, pickO_get hlt', hpm]
        simp [hom]
      exact (List.getElem?_eq_some_iff.1 h1).2
    rw [hdrop] at h
    unfold wpOp
    rw [hom]
    refine evOps_step hcx hcall htab rfl h hn hdf hi he (fun a' e' M' C' ι' w' h1 h2 h3 h4 h5 => ?_)
    refine ih (m + 1) (listed.setIfInBounds i true) (by omega) (by omega) (by simpa using hs) (fun j => ?_) ?_ h1 h2 h3 h4 h5
    · rw [(hl.set hpm (by omega)) j]
      constructor
      · rintro ⟨x, hx1, hx2⟩; exact ⟨x, by omega, hx2⟩
      · rintro ⟨x, hx1, hx2⟩; exact ⟨x, by omega, hx2⟩
    · intro j o' hj hS e he hb
      have e3 : ∀ j, (listed.setIfInBounds i true).getD j false = true ↔ listed.getD j false = true ∨ j = i := by
        intro j
        by_cases e : i = j
        · subst e; simp [hs, hilt]
        · rw [getD_set_ne false e]
          exact ⟨.inl, fun h => h.resolve_right (fun h => e h.symm)⟩
      exact (e3 _).2 (hSi j o' hj ((e3 _).1 hS) e he hb)
end
end Go.Ev

/-
  The evaluator's regions are the machine's: in whatever order is drawn, put together.
-/
namespace Go.Ev
open Go

section
variable {R : Type} {P : Program} {C0 : Com} {ι0 : Locs} {w0 : World}

theorem phase1 {tl : List String} {cx : Cx} (hcx : CxOk0 P cx) {call : CallF} (hcall : CallOk P tl call) (htab : Tabs P tl C0 ι0 w0) {nt : Nat} {ops : Array Oper} {p : List Nat} {nr nm : Nat} {gs : List Nat} (hr : RegOk ops p nr nm gs) {Q : Exit → Act → World → Prop} {d : List Deferred} {k : Env → Mem → Option R} {q : R} (hQ : ∀ c a w, ¬ Q (.panic c) a w) (ht : Then C0 ι0 w0 nt d k q (Q .normal))
    {e0 : Env} {M0 : Mem} {L : List (Bool × Oper)} (hL : ∀ x : Nat, L[x]? = if x < nr + nm then (p[x]?).bind fun i => (ops[i]?).map fun o => ((match idx gs i with | some _ => true | none => false), o) else none)
    {vs : List V} {Xs : List Mem} (hvl : vs.length = nr + nm) (hXl : Xs.length = nr + nm)
    (hrec : ∀ (i : Nat) (g : Bool) (o : Oper) (v : V) (X : Mem), L[i]? = some (g, o) → vs[i]? = some v → Xs[i]? = some X → OkAt cx call nt ops.toList (puts e0 ((L.map (·.2)).take i) (vs.take i)) (M0 ++ (Xs.take i).flatten) g o v X)
    {ef : Env} (hef : ∀ t, getE ef t = getE (puts e0 (L.map (·.2)) vs) t) (hk : evOps cx call nt ops.toList (((pickO ops.toList gs p).map (·.2)).drop (nr + nm)) ef (M0 ++ Xs.flatten) k = some q) :
    ∀ (rem : List Nat) (fuel : Nat) (listed : Array Bool) {a : Act} {C : Com} {ι : Locs} {w : World}, rem.Nodup → (∀ x ∈ rem, nr ≤ x ∧ x < nr + nm) → fuel = rem.length + (ops.size - (nr + nm)) → listed.size = ops.size → LD p (fun x => x < nr + nm ∧ x ∉ rem) listed → Down ops (fun j => listed.getD j false = true) →
      a.tmps.size = nt → a.defers = d → Inv C0 ι0 w0 C ι (M0 ++ accX (fun x => decide (x ∉ rem)) 0 Xs) w → (∀ t, RV w C ι (a.tmps.getD t undef) (valD (fun x => decide (x ∉ rem)) 0 (L.map (·.2)) vs t (getE e0 t))) →
      wpAny P .any ops Q fuel listed a w := by
  have pl := hr.len
  have hple := hr.le
  have Lat : ∀ {x : Nat} {o : Oper}, (L.map (·.2))[x]? = some o → x < nr + nm ∧ ∃ i, p[x]? = some i ∧ ops[i]? = some o := fun {x o} h => by
    rw [List.getElem?_map, hL] at h
    split at h
    · rename_i hx
      refine ⟨hx, ?_⟩
      cases hp : p[x]? with
      | none => rw [hp] at h; cases h
      | some i =>
        rw [hp] at h
        cases ho : ops[i]? with
        | none => simp [ho] at h
        | some o' => simp [ho] at h; subst h; exact ⟨i, rfl, ho⟩
    · cases h
  have uniq : ∀ (t : Nat) (x y : Nat) (o o' : Oper), (L.map (·.2))[x]? = some o → (L.map (·.2))[y]? = some o' → o.dst = some t → o'.dst = some t → x = y := by
    intro t x y o o' hx hy h1 h2
    obtain ⟨hx1, i, hpx, hox⟩ := Lat hx
    obtain ⟨hy1, j, hpy, hoy⟩ := Lat hy
    by_cases e : x = y
    · exact e
    · exact absurd h1 ((hr.early x y i j o o' t hx1 hy1 e hpx hpy hox hoy h2).1)
  intro rem
  generalize hn' : rem.length = n
  induction n generalizing rem with
  | zero =>
    intro fuel listed a C ι w _ _ hf hs hl hdown hn hdf hi hv
    have : rem = [] := List.eq_nil_of_length_eq_zero hn'
    subst this
    rw [accX_all (fun j X _ => .inl (by simp))] at hi
    refine phase2 hcx hcall htab hr hQ ht fuel (nr + nm) listed (by omega) (Nat.le_refl _) hs (fun j => ?_) hdown hk hn hdf hi (fun t => ?_)
    · rw [hl j]
      constructor
      · rintro ⟨x, h1, h2⟩; exact ⟨x, h1.1, h2⟩
      · rintro ⟨x, h1, h2⟩; exact ⟨x, ⟨h1, by simp⟩, h2⟩
    · have := hv t
      rw [hef, puts_get (i := 0) (fun x y o o' h1 h2 h3 h4 => uniq t x y o o' h1 h2 h3 h4)]
      simpa using this
  | succ n ih =>
    intro fuel listed a C ι w hnd hlt hf hs hl hdown hn hdf hi hv
    have hne : rem ≠ [] := by intro h; subst h; simp at hn'
    obtain ⟨z, hz1, hz2⟩ := least rem (fun x => p.getD x 0) hne
    have hzc := hlt z hz1
    obtain ⟨fuel', rfl⟩ : ∃ f, fuel = f + 1 := ⟨fuel - 1, by omega⟩
    have unl : ∀ j, j < ops.size → listed.getD j true = listed.getD j false := fun j hj => by simp [hs, hj]
    have inp : ∀ {x i : Nat}, p[x]? = some i → i < ops.size := fun h => hr.lt _ (List.mem_of_getElem? h)
    have hnl : ∀ {x i : Nat}, p[x]? = some i → x ∈ rem → listed.getD i false = false := fun {x i} hx hm => by
      rw [Bool.eq_false_iff]
      intro h
      obtain ⟨y, hy1, hy2⟩ := (hl i).1 h
      have := nodup_inj hr.nd hy2 hx
      subst this
      exact hy1.2 hm
    have hpz : p[z]? = some p[z] := by simp
    generalize hiz : p[z] = iz at hpz
    have hizlt := inp hpz
    have hoz : ops[iz]? = some ops[iz] := by simp [hizlt]
    have hready : iz ∈ Region.ready .any ops listed := by
      refine mem_ready.2 ⟨by rw [unl _ hizlt]; exact hnl hpz hz1, _, hoz, fun e he hb => ?_⟩
      have hlt2 := hr.back iz _ hoz e (by simpa using he) hb
      obtain ⟨y, hy⟩ := hr.all e.on (by omega)
      refine (hl e.on).2 ⟨y, ⟨?_, fun hm => ?_⟩, hy⟩
      · rcases Nat.lt_or_ge y (nr + nm) with h1 | h1
        · exact h1
        · have := bit_le hr ((hr.late y z e.on iz h1 hzc.1 (by omega) hy hpz).resolve_right fun h => by omega)
          omega
      · have := hz2 y hm
        simp only [List.getD_eq_getElem?_getD, hpz, hy, Option.getD_some] at this
        omega
    refine ⟨fun h0 => by rw [h0] at hready; simp at hready, fun i hir => ?_⟩
    obtain ⟨h0, o, ho, hall⟩ := mem_ready.1 hir
    have hilt := (Array.getElem?_eq_some_iff.1 ho).1
    have hSi : Down ops (fun j => listed.getD j false = true ∨ j = i) := by
      intro j o' hj hS e he hb
      rcases hS with hS | rfl
      · exact .inl (hdown j o' hj hS e he hb)
      · rw [ho] at hj; cases hj
        exact .inl (hall e (by simpa using he) hb)
    obtain ⟨x, hx⟩ := hr.all i hilt
    have hxmem : x ∈ rem := by
      by_cases hm : x ∈ rem
      · exact hm
      · exfalso
        rcases Nat.lt_or_ge x (nr + nm) with h1 | h1
        · have := (hl i).2 ⟨x, ⟨h1, hm⟩, hx⟩
          rw [← unl _ hilt, h0] at this; cases this
        · have hb := (hr.late x z i iz h1 hzc.1 (by omega) hx hpz).resolve_right fun h => by omega
          rcases clos_down hSi (i := i) (.inr rfl) hb with h2 | h2
          · rw [hnl hpz hz1] at h2; cases h2
          · subst h2
            have := nodup_inj hr.nd hx hpz
            subst this; exact hm hz1
    have hxc := hlt x hxmem
    have hLx : L[x]? = some ((match idx gs i with | some _ => true | none => false), o) := by rw [hL, if_pos hxc.2, hx]; simp [ho]
    generalize hgg : (match idx gs i with | some _ => true | none => false) = g at hLx
    have hLo : (L.map (·.2))[x]? = some o := by rw [List.getElem?_map, hLx]; rfl
    have hvi : vs[x]? = some (vs[x]'(by omega)) := by simp
    generalize hvv : vs[x]'(by omega) = v at hvi
    have hXi : Xs[x]? = some (Xs[x]'(by omega)) := by simp
    generalize hXX : Xs[x]'(by omega) = X at hXi
    obtain ⟨hdst, hgX, hg⟩ := hrec x g o v X hLx hvi hXi
    -- who adds entries
    have grower : ∀ {y : Nat} {Y : Mem} {j : Nat}, Xs[y]? = some Y → p[y]? = some j → Y = [] ∨ (idx gs j).isSome = true := by
      intro y Y j hY hj
      have hyc : y < nr + nm := by rw [← hXl]; exact lt_of_get hY
      have hjlt := inp hj
      have hLy : L[y]? = some ((match idx gs j with | some _ => true | none => false), ops[j]) := by rw [hL, if_pos hyc, hj]; simp [hjlt]
      have hvy : vs[y]? = some (vs[y]'(by omega)) := by simp
      obtain ⟨_, h2, _⟩ := hrec y _ _ _ _ hLy hvy hY
      cases hi : idx gs j with
      | none => rw [hi] at h2; exact .inl (h2 rfl)
      | some _ => exact .inr rfl
    -- the entries as they stand
    have hA : accX (fun x => decide (x ∉ rem)) 0 (Xs.take x) = (Xs.take x).flatten := by
      refine accX_all (fun y Y hY => ?_)
      have hyx : y < x := by
        have := lt_of_get hY
        simp at this; omega
      have hY' : Xs[y]? = some Y := by rw [List.getElem?_take, if_pos hyx] at hY; exact hY
      have hpy : p[y]? = some p[y] := by simp
      rcases grower hY' hpy with h1 | h1
      · exact .inr h1
      · left
        simp only [Nat.zero_add, decide_eq_true_eq]
        intro hm
        have hb := hr.grow x y i _ hxc.1 hxc.2 hyx hx hpy h1
        rcases clos_down hSi (i := i) (.inr rfl) hb with h2 | h2
        · rw [hnl hpy hm] at h2; cases h2
        · have := nodup_inj hr.nd (h2 ▸ hpy) hx
          omega
    obtain ⟨Y, hY⟩ : ∃ Y, Y = accX (fun x => decide (x ∉ rem)) (0 + x) (Xs.drop x) := ⟨_, rfl⟩
    have hcur : M0 ++ accX (fun x => decide (x ∉ rem)) 0 Xs = M0 ++ (Xs.take x).flatten ++ Y := by
      rw [accX_split (n := x), hA, ← hY, List.append_assoc]
    have hdropx : Xs.drop x = X :: Xs.drop (x + 1) := by
      rw [List.drop_eq_getElem_cons (by omega), hXX]
    have hY' : Y = accX (fun x => decide (x ∉ rem)) (0 + x + 1) (Xs.drop (x + 1)) := by
      rw [hY, hdropx]
      simp only [accX, Nat.zero_add, hxmem, not_true_eq_false, decide_false, cond_false, List.nil_append]
    have hmem : ∀ j, j ∈ rem.erase x ↔ j ≠ x ∧ j ∈ rem := fun j => hnd.mem_erase_iff
    have hnew : accX (fun y => decide (y ∉ rem.erase x)) 0 Xs = (Xs.take x).flatten ++ (X ++ Y) := by
      rw [accX_split (n := x)]
      congr 1
      · rw [← hA]
        refine accX_congr (fun y Z hZ => ?_)
        have := lt_of_get hZ
        simp at this
        congr 1
        simp only [Nat.zero_add, hmem]
        exact propext ⟨fun h hm => h ⟨by omega, hm⟩, fun h hm => h hm.2⟩
      · rw [hdropx]
        simp only [accX, Nat.zero_add]
        have e1 : decide (x ∉ rem.erase x) = true := by simp [hmem]
        rw [e1, cond_true]
        congr 1
        rw [hY']
        simp only [Nat.zero_add]
        refine accX_congr (fun y Z hZ => ?_)
        congr 1
        simp only [hmem]
        exact propext ⟨fun h hm => h ⟨by omega, hm⟩, fun h hm => h hm.2⟩
    have hYg : g = true → Y = [] := by
      intro hgt
      rw [hY']
      refine accX_none (fun y Z hZ => ?_)
      have hZ' : Xs[x + 1 + y]? = some Z := by rw [List.getElem?_drop] at hZ; exact hZ
      have hlt3 := lt_of_get hZ'
      have hpy : p[x + 1 + y]? = some (p[x + 1 + y]'(by omega)) := by simp
      rcases grower hZ' hpy with h1 | h1
      · exact .inr h1
      · left
        simp only [Nat.zero_add, decide_eq_false_iff_not, Decidable.not_not]
        by_cases hm : x + 1 + y ∈ rem
        · exact hm
        · exfalso
          have hgi : (idx gs i).isSome = true := by
            rw [hgt] at hgg
            cases hi2 : idx gs i with
            | none => rw [hi2] at hgg; cases hgg
            | some _ => rfl
          have hb := hr.grow (x + 1 + y) x _ i (by omega) (by omega) (by omega) hpy hx hgi
          have hd2 : listed.getD (p[x + 1 + y]'(by omega)) false = true := (hl _).2 ⟨_, ⟨by omega, hm⟩, hpy⟩
          have := clos_down hdown hd2 hb
          rw [hnl hx hxmem] at this; cases this
    have hXY : X ++ Y = Y ++ X := by
      cases hgc : g with
      | true => rw [hYg hgc]; simp
      | false => rw [hgX hgc]; simp
    have hcur' : M0 ++ accX (fun y => decide (y ∉ rem.erase x)) 0 Xs = (M0 ++ accX (fun x => decide (x ∉ rem)) 0 Xs) ++ X := by
      rw [hnew, hcur, hXY]; simp
    -- what the operation looks at is there
    have look : ∀ t ∈ o.looksAt ops, getE (puts e0 ((L.map (·.2)).take x) (vs.take x)) t = valD (fun y => decide (y ∉ rem)) 0 (L.map (·.2)) vs t (getE e0 t) := by
      intro t htl
      rw [puts_get (i := 0) (fun y z' o1 o2 h1 h2 h3 h4 => by
        rw [List.getElem?_take] at h1 h2
        split at h1
        · split at h2
          · exact uniq t y z' o1 o2 h1 h2 h3 h4
          · cases h2
        · cases h1)]
      have := valD_take (t := t) (x := getE e0 t) (L := L.map (·.2)) (vs := vs) (n := x) (i := 0)
      rw [← this]
      refine valD_congr (fun y o' hj hd => ?_)
      simp only [Nat.zero_add]
      obtain ⟨hyc, j, hpj, hoj⟩ := Lat hj
      by_cases hyx : y = x
      · subst hyx; simp [hxmem]
      · have h2 := (hr.early x y i j o o' t hxc.2 hyc (fun e => hyx e.symm) hx hpj ho hoj hd).2 htl
        have hnm : y ∉ rem := by
          rcases h2.2 with h3 | h3
          · intro hm; have := hlt y hm; omega
          · rcases clos_down hSi (i := i) (.inr rfl) h3 with h4 | h4
            · intro hm; rw [hnl hpj hm] at h4; cases h4
            · subst h4; exact absurd (nodup_inj hr.nd hpj hx) hyx
        simp [h2.1, hnm]
    have hrd : ∀ y, RV w C ι (a.eval y) (rdD (fun t => valD (fun y => decide (y ∉ rem)) 0 (L.map (·.2)) vs t (getE e0 t)) y) := by
      intro y
      cases y with
      | tmp t => exact hv t
      | _ => exact ER.rd (e := []) (fun t => by simp [getE, find, RV]) _
    have hcong : ∀ y ∈ o.op.operands, rdE (puts e0 ((L.map (·.2)).take x) (vs.take x)) y = rdD (fun t => valD (fun y => decide (y ∉ rem)) 0 (L.map (·.2)) vs t (getE e0 t)) y := by
      intro y hy
      cases y with
      | tmp t =>
        simp only [rdE, rdD]
        refine look t ?_
        unfold Oper.looksAt
        exact List.mem_append_left _ (List.mem_filterMap.2 ⟨.tmp t, by simpa using hy, rfl⟩)
      | const v => exact rdE_const v
      | _ => rfl
    -- behind it
    have next : ∀ (u : Value) (C' : Com) (ι' : Locs) (w' : World), Go1 C ι (M0 ++ accX (fun x => decide (x ∉ rem)) 0 Xs) w C' ι' (M0 ++ accX (fun x => decide (x ∉ rem)) 0 Xs ++ X) w' (fun _ => False) → RV w' C' ι' u v → wpAny P .any ops Q fuel' (listed.setIfInBounds i true) (a.put o.dst u) w' := by
      intro u C' ι' w' g1 hu
      refine ih (rem.erase x) (by rw [List.length_erase_of_mem hxmem, hn']; rfl) fuel' _ (hnd.erase x) (fun j hj => hlt j ((hmem j).1 hj).2) (by omega) (by simpa using hs) (fun j => ?_) ?_ (put_size.trans hn) (put_defers.trans hdf) (by rw [hcur']; exact hi.go g1) (fun t => ?_)
      · rw [(hl.set hx (by omega)) j]
        constructor
        · rintro ⟨y, h1 | h1, h2⟩
          · exact ⟨y, ⟨h1.1, fun hm => h1.2 ((hmem y).1 hm).2⟩, h2⟩
          · subst h1; exact ⟨y, ⟨hxc.2, fun hm => ((hmem y).1 hm).1 rfl⟩, h2⟩
        · rintro ⟨y, h1, h2⟩
          by_cases hyx : y = x
          · exact ⟨y, .inr hyx, h2⟩
          · exact ⟨y, .inl ⟨h1.1, fun hm => h1.2 ((hmem y).2 ⟨hyx, hm⟩)⟩, h2⟩
      · intro j o' hj hS e he hb
        have e3 : ∀ j, (listed.setIfInBounds i true).getD j false = true ↔ listed.getD j false = true ∨ j = i := by
          intro j
          by_cases e : i = j
          · subst e; simp [hs, hilt]
          · rw [getD_set_ne false e]
            exact ⟨.inl, fun h => h.resolve_right (fun h => e h.symm)⟩
        exact (e3 _).2 (hSi j o' hj ((e3 _).1 hS) e he hb)
      · by_cases hd : o.dst = some t
        · rw [valD_at hLo hvi hd (by simp [hmem]) (fun y o' hq hp => uniq t y x o' o hq hLo hp hd)]
          have htn : t < a.tmps.size := by rw [hn]; rw [hd] at hdst; simpa [dstOk, Nat.blt_eq] using hdst
          rw [hd]
          simpa [Act.put, htn] using hu
        · have e1 : (a.put o.dst u).tmps.getD t undef = a.tmps.getD t undef := by
            cases hdd : o.dst with
            | none => rfl
            | some d' =>
              have hne' : d' ≠ t := fun e => hd (by rw [hdd, e])
              simp [Act.put, Array.getElem?_setIfInBounds_ne hne']
          rw [e1, valD_congr (D' := fun j => decide (j ∉ rem)) (fun j o' hj hp => by
            have hji : j ≠ x := fun e => by subst e; rw [hLo] at hj; cases hj; exact hd hp
            simp only [Nat.zero_add]
            congr 1
            exact propext ⟨fun h hm => h ((hmem j).2 ⟨hji, hm⟩), fun h hm => h ((hmem j).1 hm).2⟩)]
          exact g1.rv (hv t)
    have exec : RunM cx call g o (rdE (puts e0 ((L.map (·.2)).take x) (vs.take x))) (M0 ++ (Xs.take x).flatten) v X → o.wp P a w (wpAny P .any ops Q fuel' (listed.setIfInBounds i true)) Q := by
      intro h
      cases hgc : g with
      | false =>
        rw [hgc] at h
        obtain ⟨h, hX0⟩ := h
        rw [evOpQ_congr hcong] at h
        have h := evOpQ_ext (X := Y) h
        rw [← hcur] at h
        refine upon_of_after (evOpQ_ok hcx hcall (htab.stp hi.stp) (o := o) (ρ := a.eval) hi.st hrd (fun _ => rfl) h (Nx := fun u w' => wpAny P .any ops Q fuel' (listed.setIfInBounds i true) (a.put o.dst u) w') ?_) (fun u w' h => h)
        intro u v' C' w' hv' g1 hu
        cases hv'
        refine next u C' ι w' ?_ hu
        rw [hX0, List.append_nil]; exact g1
      | true =>
        rw [hgc] at h
        have h : evOpG cx call o.op (rdE (puts e0 ((L.map (·.2)).take x) (vs.take x))) (M0 ++ (Xs.take x).flatten) (fun v X => some (v, X)) = some (v, X) := h
        rw [evOpG_congr hcong] at h
        have hc2 := hcur
        rw [hYg hgc, List.append_nil] at hc2
        rw [← hc2] at h
        refine upon_of_after (evOpG_ok hcx hcall (htab.stp hi.stp) (o := o) (ρ := a.eval) hi.st hrd (fun _ => rfl) h (Nx := fun u w' => wpAny P .any ops Q fuel' (listed.setIfInBounds i true) (a.put o.dst u) w') ?_) (fun u w' h => h)
        intro u C' ι' w' g1 hu
        exact next u C' ι' w' g1 hu
    have skip : X = [] → v = .tup [] → wpAny P .any ops Q fuel' (listed.setIfInBounds i true) (a.put o.dst undef) w := by
      intro h1 h2
      subst h2
      refine next undef C ι w ?_ (by unfold RV; exact ⟨#[], rfl, by simp [RVs]⟩)
      rw [h1, List.append_nil]
      exact Go1.refl hi.st
    unfold wpOp
    rw [ho]
    simp only
    cases hgd : o.guard with
    | none =>
      rw [hgd] at hg
      rw [if_pos (by simp [Region.wanted, hgd])]
      exact .inl (exec hg)
    | some jw =>
      obtain ⟨j, want⟩ := jw
      rw [hgd] at hg
      obtain ⟨gg, t, hj, hgt, hor⟩ := hg
      have htl : t ∈ o.looksAt ops := by
        unfold Oper.looksAt
        refine List.mem_append_right _ ?_
        have hjo : ops[j]? = some gg := by simpa using hj
        simp [hgd, hjo, hgt]
      have hvt := hv t
      rw [← look t htl] at hvt
      rcases hor with ⟨b, hb, hcase⟩ | ⟨⟨xs, hx2⟩, hvx, hXx⟩
      · have hbt : a.tmps.getD t undef = .bool b := by
          rcases hb with hb | hb
          · rw [hb] at hvt; unfold RV at hvt; exact hvt
          · rw [hb] at hvt; unfold RV RD at hvt; exact hvt
        have hw : Region.wanted o (yielded ops a.tmps) = (b == want) := by
          simp only [Region.wanted, hgd, yielded_of rfl hj hgt hbt]
          cases b <;> cases want <;> rfl
        rw [hw]
        rcases hcase with ⟨e1, h1⟩ | ⟨e1, h1, h2⟩
        · rw [if_pos (by simpa using e1)]; exact .inl (exec h1)
        · rw [if_neg (by simpa using e1)]
          exact skip h2 h1
      · rw [hx2] at hvt; unfold RV at hvt
        obtain ⟨cs, hc, _⟩ := hvt
        have hw : Region.wanted o (yielded ops a.tmps) = false := by
          simp only [Region.wanted, hgd, yielded_tup rfl hj hgt hc]
          cases want <;> rfl
        rw [hw, if_neg (by simp)]
        exact skip hXx hvx
end
end Go.Ev
