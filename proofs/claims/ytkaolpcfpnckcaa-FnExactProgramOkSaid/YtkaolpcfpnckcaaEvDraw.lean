/-
  The evaluator's regions are the machine's: in whatever order is drawn.
-/
import Derived.Test.YtkaolpcfpnckcaaEvGrow
import Derived.Test.YtkaolpcfpnckcaaEvRegOk
import Derived.Orders
set_option linter.unusedVariables false
set_option linter.unusedSimpArgs false
namespace Go.Ev
open Go

theorem getD_left {α : Type} {l r : List α} {i : Nat} {d : α} (h : i < l.length) : (l ++ r).getD i d = l.getD i d := by
  rw [List.getD_eq_getElem?_getD, List.getD_eq_getElem?_getD, List.getElem?_append_left h]
theorem getD_right {α : Type} {l r : List α} {i : Nat} {d : α} (h : l.length ≤ i) : (l ++ r).getD i d = r.getD (i - l.length) d := by
  rw [List.getD_eq_getElem?_getD, List.getD_eq_getElem?_getD, List.getElem?_append_right h]

section
variable {ops : Array Oper}

theorem fold1_bit {acc : List Nat} {j : Nat} : ∀ (es : List Edge) (s : Nat), (fold1 acc es s).testBit j = true → s.testBit j = true ∨ ∃ e ∈ es, Region.binds .any e = true ∧ (j = e.on ∨ (acc.getD e.on 0).testBit j = true)
  | [], s, h => .inl h
  | e :: es, s, h => by
    unfold fold1 at h
    rcases fold1_bit es _ h with h | ⟨e', h1, h2⟩
    · cases hb : Region.binds .any e with
      | false => rw [hb] at h; exact .inl h
      | true =>
        rw [hb] at h
        simp only [cond_true, Nat.testBit_or, Bool.or_eq_true] at h
        rcases h with (h | h) | h
        · exact .inl h
        · rw [Nat.testBit_two_pow] at h
          exact .inr ⟨e, by simp, hb, .inl (by have := of_decide_eq_true h; omega)⟩
        · exact .inr ⟨e, by simp, hb, .inr h⟩
    · exact .inr ⟨e', by simp [h1], h2⟩

/-- A set that holds, with an operation, all that surely comes ahead of it. -/
def Down (ops : Array Oper) (S : Nat → Prop) : Prop := ∀ i o, ops[i]? = some o → S i → ∀ e ∈ o.after.toList, Region.binds .any e = true → S e.on

theorem clos_bit {S : Nat → Prop} (hS : Down ops S) : ∀ (l : List Oper) (acc : List Nat), (∀ j o, l[j]? = some o → ops[acc.length + j]? = some o) → (∀ i j, S i → (acc.getD i 0).testBit j = true → S j) → ∀ i j, S i → ((clos l acc).getD i 0).testBit j = true → S j
  | [], acc, _, h, i, j, hi, hb => h i j hi hb
  | o :: r, acc, hl, h, i, j, hi, hb => by
    unfold clos at hb
    refine clos_bit hS r _ (fun q o' hq => ?_) (fun a b ha hab => ?_) i j hi hb
    · have := hl (q + 1) o' (by simpa using hq)
      simpa [Nat.add_assoc, Nat.add_comm 1 q] using this
    · rcases Nat.lt_trichotomy a acc.length with hlt | heq | hgt
      · rw [getD_left hlt] at hab
        exact h a b ha hab
      · subst heq
        rw [getD_right (Nat.le_refl _)] at hab
        simp at hab
        rcases fold1_bit _ _ hab with h0 | ⟨e, he, hbe, h1⟩
        · simp at h0
        · have ho : ops[acc.length]? = some o := by have := hl 0 o (by simp); simpa using this
          have hSe := hS _ o ho ha e he hbe
          rcases h1 with h1 | h1
          · subst h1; exact hSe
          · exact h e.on b hSe h1
      · rw [getD_right (Nat.le_of_lt hgt)] at hab
        have : a - acc.length ≠ 0 := by omega
        obtain ⟨m, hm⟩ : ∃ m, a - acc.length = m + 1 := ⟨a - acc.length - 1, by omega⟩
        rw [hm] at hab
        simp at hab

theorem clos_down {S : Nat → Prop} (hS : Down ops S) {i j : Nat} (hi : S i) (hb : ((clos ops.toList []).getD i 0).testBit j = true) : S j :=
  clos_bit hS ops.toList [] (fun j o h => by simpa using h) (fun i j _ h => by simp at h) i j hi hb

structure RegOk0 (ops : Array Oper) (p : List Nat) (nr nm : Nat) : Prop where
  len : p.length = ops.size
  all : ∀ i, i < ops.size → ∃ x : Nat, p[x]? = some i
  nd : p.Nodup
  lt : ∀ i ∈ p, i < ops.size
  le : nr + nm ≤ p.length
  sel : Region.noSelect ops = true
  r : rOk ops (Array.replicate ops.size false) (p.take nr) = true
  back : ∀ i o, ops[i]? = some o → ∀ e ∈ o.after.toList, Region.binds .any e = true → e.on < i
  early : ∀ x y i j o q d, x < nr + nm → y < nr + nm → x ≠ y → p[x]? = some i → p[y]? = some j → ops[i]? = some o → ops[j]? = some q → q.dst = some d → o.dst ≠ some d ∧ (d ∈ o.looksAt ops → y < x ∧ (y < nr ∨ ((clos ops.toList []).getD i 0).testBit j = true))
structure RegOk (ops : Array Oper) (p : List Nat) (nr nm : Nat) (gs : List Nat) : Prop extends RegOk0 ops p nr nm where
  late : ∀ x y i j, nr + nm ≤ x → nr ≤ y → y < x → p[x]? = some i → p[y]? = some j → ((clos ops.toList []).getD i 0).testBit j = true ∨ (nr + nm ≤ y ∧ fOk ops p y = true)
  grow : ∀ x y i j, nr ≤ x → x < nr + nm → y < x → p[x]? = some i → p[y]? = some j → (idx gs j).isSome = true → ((clos ops.toList []).getD i 0).testBit j = true

theorem nodupB_nodup' : ∀ {l : List Nat}, nodupB l = true → l.Nodup
  | [], _ => by simp
  | i :: r, h => by
    simp only [nodupB, Bool.and_eq_true] at h
    rw [List.nodup_cons]
    refine ⟨?_, nodupB_nodup' h.2⟩
    cases hi : idx r i with
    | none => exact idx_none hi
    | some j => rw [hi] at h; cases h.1

theorem RegOk.of {p : List Nat} {nr nm : Nat} {gs : List Nat} (h : regOk ops p nr nm gs = true) : RegOk ops p nr nm gs := by
  unfold regOk at h
  simp only [Bool.and_eq_true] at h
  obtain ⟨h1, h0, h2, h3, h4, h5, h6, h7, h8⟩ := h
  have h1 := Nat.eq_of_beq_eq_true h1
  have h4 := Nat.le_of_ble_eq_true h4
  simp only [List.all_eq_true, List.mem_range] at h0 h3 h7 h8
  have hlt : ∀ i ∈ p, i < ops.size := fun i hi => by simpa [Nat.blt_eq] using h3 i hi
  have at_ : ∀ x i o, p[x]? = some i → ops[i]? = some o → _ := fun x i o hx ho => by
    have hxl := (List.getElem?_eq_some_iff.1 hx).1
    have hl : ops.toList[i]? = some o := by simpa using ho
    have := h8 x hxl
    simp only [hx, hl] at this
    exact this
  have get : ∀ x i, p[x]? = some i → ∃ o, ops[i]? = some o := fun x i hx => by
    have := hlt i (List.mem_of_getElem? hx)
    exact ⟨ops[i], Array.getElem?_eq_getElem this⟩
  have el : ∀ x y i j o q, x < nr + nm → y < nr + nm → x ≠ y → p[x]? = some i → p[y]? = some j → ops[i]? = some o → ops[j]? = some q → _ := fun x y i j o q hx hy hne hpx hpy ho hq => by
    have := at_ x i o hpx ho
    have hf : Nat.ble (nr + nm) x = false := by
      rw [Bool.eq_false_iff]; intro h; have := Nat.le_of_ble_eq_true h; omega
    rw [hf] at this
    simp only [cond_false, List.all_eq_true, List.mem_range] at this
    have h9 := this y hy
    have hb : Nat.beq x y = false := by rw [Bool.eq_false_iff]; intro e'; exact hne (Nat.eq_of_beq_eq_true e')
    have hl : ops.toList[j]? = some q := by simpa using hq
    rw [hb, hpy] at h9
    simp only [hl, Bool.false_or, Bool.and_eq_true] at h9
    exact h9
  refine ⟨⟨h1, fun i hi => by
    have := h0 i hi
    cases hx : idx p i with
    | none => rw [hx] at this; cases this
    | some x => exact ⟨x, idx_get hx⟩, nodupB_nodup' h2, hlt, h4, h5, h6, fun i o ho e he hb => ?back, fun x y i j o q d hx hy hne hpx hpy ho hq hd => ?early⟩, fun x y i j hcx hny hyx hpx hpy => ?late, fun x y i j hnx hx hyx hpx hpy hg => ?grow⟩
  case back =>
    have hi := (Array.getElem?_eq_some_iff.1 ho).1
    have hl : ops.toList[i]? = some o := by simpa using ho
    have := h7 i hi
    rw [hl] at this
    simp only [List.all_eq_true] at this
    have := this e he
    simp only [hb, Bool.not_true, Bool.false_or] at this
    simpa [Nat.blt_eq] using this
  case late =>
    obtain ⟨o, ho⟩ := get x i hpx
    have := at_ x i o hpx ho
    rw [show Nat.ble (nr + nm) x = true by simpa using hcx] at this
    simp only [cond_true, List.all_eq_true, List.mem_range] at this
    have := this y hyx
    rw [hpy] at this
    have hf : Nat.blt y nr = false := by rw [Bool.eq_false_iff]; intro h; simp [Nat.blt_eq] at h; omega
    rw [hf] at this
    simp only [Bool.false_or, Bool.or_eq_true, Bool.and_eq_true] at this
    exact this.imp id fun h => ⟨Nat.le_of_ble_eq_true h.1, h.2⟩
  case early =>
    have h9 := (el x y i j o q hx hy hne hpx hpy ho hq).1
    rw [hd] at h9
    simp only [Bool.and_eq_true, Bool.not_eq_true', beq_eq_false_iff_ne, Bool.or_eq_true] at h9
    refine ⟨h9.1, fun hm => ?_⟩
    rcases h9.2 with h10 | h10
    · simp only [List.contains_eq_mem, decide_eq_false_iff_not] at h10
      exact absurd hm h10
    · exact ⟨by simpa [Nat.blt_eq] using h10.1, h10.2.imp (fun h => by simpa [Nat.blt_eq] using h) id⟩
  case grow =>
    obtain ⟨o, ho⟩ := get x i hpx
    obtain ⟨q, hq⟩ := get y j hpy
    have h9 := (el x y i j o q hx (by omega) (by omega) hpx hpy ho hq).2
    have e1 : Nat.blt y x = true := by simpa [Nat.blt_eq] using hyx
    have e2 : Nat.ble nr x = true := by simpa using hnx
    cases hi : idx gs j with
    | none => rw [hi] at hg; cases hg
    | some z =>
      rw [e1, e2, hi] at h9
      simpa using h9

/-! The operations at some places -/
theorem pickO_get {l : List Oper} {gs : List Nat} : ∀ {p : List Nat}, (∀ i ∈ p, i < l.length) → ∀ x : Nat, (pickO l gs p)[x]? = (p[x]?).bind fun i => (l[i]?).map fun o => ((match idx gs i with | some _ => true | none => false), o)
  | [], _, x => by simp [pickO]
  | i :: r, h, x => by
    have hi := h i (by simp)
    have e : l[i]? = some l[i] := by simp [hi]
    simp only [pickO, e]
    cases x with
    | zero => simp [e]; rfl
    | succ x => simpa using pickO_get (fun j hj => h j (by simp [hj])) x
theorem pickO_len {l : List Oper} {gs : List Nat} : ∀ {p : List Nat}, (∀ i ∈ p, i < l.length) → (pickO l gs p).length = p.length
  | [], _ => rfl
  | i :: r, h => by
    have hi := h i (by simp)
    have e : l[i]? = some l[i] := by simp [hi]
    have ih := pickO_len (l := l) (gs := gs) (p := r) (fun j hj => h j (List.mem_cons_of_mem _ hj))
    simp only [pickO, e, List.length_cons, ih]

/-! What the slots hold when some of the operations are done -/
def valD (D : Nat → Bool) : Nat → List Oper → List V → Nat → V → V
  | i, o :: L, v :: vs, t, x => if D i = true ∧ o.dst = some t then v else valD D (i + 1) L vs t x
  | _, _, _, _, x => x

theorem valD_congr {D D' : Nat → Bool} {t : Nat} {x : V} : ∀ {L : List Oper} {vs : List V} {i : Nat}, (∀ j o, L[j]? = some o → o.dst = some t → D (i + j) = D' (i + j)) → valD D i L vs t x = valD D' i L vs t x
  | [], _, _, _ => by simp [valD]
  | _ :: _, [], _, _ => by simp [valD]
  | o :: L, v :: vs, i, h => by
    simp only [valD]
    have h0 := h 0 o rfl
    rw [valD_congr (i := i + 1) (L := L) (vs := vs) (fun j o hj hd => by
      have := h (j + 1) o (by simpa using hj) hd
      simpa [Nat.add_assoc, Nat.add_comm 1 j] using this)]
    by_cases hd : o.dst = some t
    · have := h0 hd
      simp only [Nat.add_zero] at this
      simp only [hd, and_true, this]
    · simp [hd]
theorem valD_none {D : Nat → Bool} {t : Nat} {x : V} : ∀ {L : List Oper} {vs : List V} {i : Nat}, (∀ j o, L[j]? = some o → o.dst = some t → D (i + j) = false) → valD D i L vs t x = x
  | [], _, _, _ => by simp [valD]
  | _ :: _, [], _, _ => by simp [valD]
  | o :: L, v :: vs, i, h => by
    simp only [valD]
    rw [if_neg, valD_none (i := i + 1) (L := L) (vs := vs) (fun j o hj hd => by
      have := h (j + 1) o (by simpa using hj) hd
      simpa [Nat.add_assoc, Nat.add_comm 1 j] using this)]
    rintro ⟨h1, h2⟩
    have := h 0 o rfl h2
    simp only [Nat.add_zero] at this
    rw [this] at h1; cases h1
/-- Where just one operation has that slot. -/
theorem valD_at {D : Nat → Bool} {t : Nat} {x : V} : ∀ {L : List Oper} {vs : List V} {i j : Nat} {o : Oper} {v : V}, L[j]? = some o → vs[j]? = some v → o.dst = some t → D (i + j) = true → (∀ q p, L[q]? = some p → p.dst = some t → q = j) → valD D i L vs t x = v
  | [], _, _, _, _, _, h, _, _, _, _ => by simp at h
  | _ :: _, [], _, _, _, _, _, h, _, _, _ => by simp at h
  | o' :: L, v' :: vs, i, 0, o, v, h1, h2, h3, h4, _ => by
    simp at h1 h2; subst h1 h2
    simp only [valD]
    rw [if_pos ⟨by simpa using h4, h3⟩]
  | o' :: L, v' :: vs, i, j + 1, o, v, h1, h2, h3, h4, h5 => by
    simp only [valD]
    rw [if_neg (by rintro ⟨_, hd⟩; have := h5 0 o' rfl hd; omega)]
    exact valD_at (i := i + 1) (j := j) (by simpa using h1) (by simpa using h2) h3 (by simpa [Nat.add_assoc, Nat.add_comm 1 j] using h4) (fun q p hq hp => by
      have := h5 (q + 1) p (by simpa using hq) hp; omega)

def puts : Env → List Oper → List V → Env
  | e, o :: L, v :: vs => puts (putE o.dst v e) L vs
  | e, _, _ => e

theorem puts_get {t : Nat} : ∀ {L : List Oper} {vs : List V} {e : Env} {i : Nat}, (∀ (a b : Nat) (o p : Oper), L[a]? = some o → L[b]? = some p → o.dst = some t → p.dst = some t → a = b) → getE (puts e L vs) t = valD (fun _ => true) i L vs t (getE e t)
  | [], vs, e, i, _ => by cases vs <;> simp [puts, valD]
  | _ :: _, [], e, i, _ => by simp [puts, valD]
  | o :: L, v :: vs, e, i, h => by
    simp only [puts, valD]
    rw [puts_get (i := i + 1) (fun a b o p ha hb h1 h2 => by have := h (a + 1) (b + 1) o p (by simpa using ha) (by simpa using hb) h1 h2; omega)]
    by_cases hd : o.dst = some t
    · rw [if_pos ⟨trivial, hd⟩]
      rw [valD_none (fun j p hj hp => by have := h 0 (j + 1) o p rfl (by simpa using hj) hd hp; omega)]
      rw [hd, getE_put]; simp
    · rw [if_neg (by rintro ⟨_, h⟩; exact hd h)]
      congr 1
      cases hdd : o.dst with
      | none => rfl
      | some d => rw [getE_put, if_neg (fun e' => hd (by rw [hdd, e']))]
end
end Go.Ev
