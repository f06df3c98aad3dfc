/-
  The evaluator's regions are the machine's: in whatever order is drawn.
-/
import Derived.Test.YtepljphcjpcpiaaEvQuiet
import Derived.Test.YtepljphcjpcpiaaEvRegOk
import Derived.Orders
set_option linter.unusedVariables false
set_option linter.unusedSimpArgs false
namespace Go.Ev
open Go

theorem getD_left {α : Type} {l r : List α} {i : Nat} {d : α} (h : i < l.length) : (l ++ r).getD i d = l.getD i d := by
  rw [List.getD_eq_getElem?_getD, List.getD_eq_getElem?_getD, List.getElem?_append_left h]
theorem getD_right {α : Type} {l r : List α} {i : Nat} {d : α} (h : l.length ≤ i) : (l ++ r).getD i d = r.getD (i - l.length) d := by
  rw [List.getD_eq_getElem?_getD, List.getD_eq_getElem?_getD, List.getElem?_append_right h]

section
variable {ops : Array Oper}

theorem fold1_bit {acc : List Nat} {j : Nat} : ∀ (es : List Edge) (s : Nat), (fold1 acc es s).testBit j = true → s.testBit j = true ∨ ∃ e ∈ es, Region.binds .any e = true ∧ (j = e.on ∨ (acc.getD e.on 0).testBit j = true)
  | [], s, h => .inl h
  | e :: es, s, h => by
    unfold fold1 at h
    rcases fold1_bit es _ h with h | ⟨e', h1, h2⟩
    · cases hb : Region.binds .any e with
      | false => rw [hb] at h; exact .inl h
      | true =>
        rw [hb] at h
        simp only [cond_true, Nat.testBit_or, Bool.or_eq_true] at h
        rcases h with (h | h) | h
        · exact .inl h
        · rw [Nat.testBit_two_pow] at h
          exact .inr ⟨e, by simp, hb, .inl (by have := of_decide_eq_true h; omega)⟩
        · exact .inr ⟨e, by simp, hb, .inr h⟩
    · exact .inr ⟨e', by simp [h1], h2⟩

/-- A set that holds, with an operation, all that surely comes ahead of it. -/
def Down (ops : Array Oper) (S : Nat → Prop) : Prop := ∀ i o, ops[i]? = some o → S i → ∀ e ∈ o.after.toList, Region.binds .any e = true → S e.on

theorem clos_bit {S : Nat → Prop} (hS : Down ops S) : ∀ (l : List Oper) (acc : List Nat), (∀ j o, l[j]? = some o → ops[acc.length + j]? = some o) → (∀ i j, S i → (acc.getD i 0).testBit j = true → S j) → ∀ i j, S i → ((clos l acc).getD i 0).testBit j = true → S j
  | [], acc, _, h, i, j, hi, hb => h i j hi hb
  | o :: r, acc, hl, h, i, j, hi, hb => by
    unfold clos at hb
    refine clos_bit hS r _ (fun q o' hq => ?_) (fun a b ha hab => ?_) i j hi hb
    · have := hl (q + 1) o' (by simpa using hq)
      simpa [Nat.add_assoc, Nat.add_comm 1 q] using this
    · rcases Nat.lt_trichotomy a acc.length with hlt | heq | hgt
      · rw [getD_left hlt] at hab
        exact h a b ha hab
      · subst heq
        rw [getD_right (Nat.le_refl _)] at hab
        simp at hab
        rcases fold1_bit _ _ hab with h0 | ⟨e, he, hbe, h1⟩
        · simp at h0
        · have ho : ops[acc.length]? = some o := by have := hl 0 o (by simp); simpa using this
          have hSe := hS _ o ho ha e he hbe
          rcases h1 with h1 | h1
          · subst h1; exact hSe
          · exact h e.on b hSe h1
      · rw [getD_right (Nat.le_of_lt hgt)] at hab
        have : a - acc.length ≠ 0 := by omega
        obtain ⟨m, hm⟩ : ∃ m, a - acc.length = m + 1 := ⟨a - acc.length - 1, by omega⟩
        rw [hm] at hab
        simp at hab

theorem clos_down {S : Nat → Prop} (hS : Down ops S) {i j : Nat} (hi : S i) (hb : ((clos ops.toList []).getD i 0).testBit j = true) : S j :=
  clos_bit hS ops.toList [] (fun j o h => by simpa using h) (fun i j _ h => by simp at h) i j hi hb

structure RegOk (ops : Array Oper) (c : Nat) : Prop where
  le : c ≤ ops.size
  back : ∀ i o, ops[i]? = some o → ∀ e ∈ o.after.toList, Region.binds .any e = true → e.on < i
  late : ∀ i, c ≤ i → i < ops.size → ∀ j, j < i → ((clos ops.toList []).getD i 0).testBit j = true
  early : ∀ i o, i < c → ops[i]? = some o → ∀ j p d, j < c → i ≠ j → ops[j]? = some p → p.dst = some d → o.dst ≠ some d ∧ (d ∈ o.looksAt ops → j < i ∧ ((clos ops.toList []).getD i 0).testBit j = true)

theorem RegOk.of {c : Nat} (h : regOk ops c = true) : RegOk ops c := by
  unfold regOk at h
  simp only [Bool.and_eq_true] at h
  obtain ⟨h1, h2⟩ := h
  have h1 := Nat.le_of_ble_eq_true h1
  simp only [List.all_eq_true, List.mem_range] at h2
  have at_ : ∀ i o, ops[i]? = some o → _ := fun i o ho => by
    have hlt := (Array.getElem?_eq_some_iff.1 ho).1
    have hl : ops.toList[i]? = some o := by simpa using ho
    have := h2 i hlt
    rw [hl] at this
    simp only [Bool.and_eq_true, List.all_eq_true] at this
    exact this
  refine ⟨h1, fun i o ho e he hb => ?_, fun i hci hlt j hj => ?_, fun i o hic ho j p d hjc hne hp hd => ?_⟩
  · have := (at_ i o ho).1 e he
    simp only [hb, Bool.not_true, Bool.false_or] at this
    simpa [Nat.blt_eq] using this
  · have ho : ops[i]? = some ops[i] := by simp [hlt]
    have := (at_ i _ ho).2
    rw [show Nat.ble c i = true by simpa using hci] at this
    simp only [cond_true, List.all_eq_true, List.mem_range] at this
    exact this j hj
  · have := (at_ i o ho).2
    have hf : Nat.ble c i = false := by
      rw [Bool.eq_false_iff]; intro h; have := Nat.le_of_ble_eq_true h; omega
    rw [hf] at this
    simp only [cond_false, List.all_eq_true, List.mem_range] at this
    have h3 := this j hjc
    have hb : Nat.beq i j = false := by rw [Bool.eq_false_iff]; intro e'; exact hne (Nat.eq_of_beq_eq_true e')
    have hl : ops.toList[j]? = some p := by simpa using hp
    rw [hb, hl] at h3
    simp only [Bool.false_or, hd, Bool.and_eq_true, Bool.not_eq_true', beq_eq_false_iff_ne, Bool.or_eq_true] at h3
    refine ⟨h3.1, fun hm => ?_⟩
    rcases h3.2 with h4 | h4
    · simp only [List.contains_eq_mem, decide_eq_false_iff_not] at h4
      exact absurd hm h4
    · exact ⟨by simpa [Nat.blt_eq] using h4.1, h4.2⟩

/-! What the slots hold when some of the operations are done -/
def valD (D : Nat → Bool) : Nat → List Oper → List V → Nat → V → V
  | i, o :: L, v :: vs, t, x => if D i = true ∧ o.dst = some t then v else valD D (i + 1) L vs t x
  | _, _, _, _, x => x

theorem valD_congr {D D' : Nat → Bool} {t : Nat} {x : V} : ∀ {L : List Oper} {vs : List V} {i : Nat}, (∀ j o, L[j]? = some o → o.dst = some t → D (i + j) = D' (i + j)) → valD D i L vs t x = valD D' i L vs t x
  | [], _, _, _ => by simp [valD]
  | _ :: _, [], _, _ => by simp [valD]
  | o :: L, v :: vs, i, h => by
    simp only [valD]
    have h0 := h 0 o rfl
    rw [valD_congr (i := i + 1) (L := L) (vs := vs) (fun j o hj hd => by
      have := h (j + 1) o (by simpa using hj) hd
      simpa [Nat.add_assoc, Nat.add_comm 1 j] using this)]
    by_cases hd : o.dst = some t
    · have := h0 hd
      simp only [Nat.add_zero] at this
      simp only [hd, and_true, this]
    · simp [hd]
theorem valD_none {D : Nat → Bool} {t : Nat} {x : V} : ∀ {L : List Oper} {vs : List V} {i : Nat}, (∀ j o, L[j]? = some o → o.dst = some t → D (i + j) = false) → valD D i L vs t x = x
  | [], _, _, _ => by simp [valD]
  | _ :: _, [], _, _ => by simp [valD]
  | o :: L, v :: vs, i, h => by
    simp only [valD]
    rw [if_neg, valD_none (i := i + 1) (L := L) (vs := vs) (fun j o hj hd => by
      have := h (j + 1) o (by simpa using hj) hd
      simpa [Nat.add_assoc, Nat.add_comm 1 j] using this)]
    rintro ⟨h1, h2⟩
    have := h 0 o rfl h2
    simp only [Nat.add_zero] at this
    rw [this] at h1; cases h1
/-- Where just one operation has that slot. -/
theorem valD_at {D : Nat → Bool} {t : Nat} {x : V} : ∀ {L : List Oper} {vs : List V} {i j : Nat} {o : Oper} {v : V}, L[j]? = some o → vs[j]? = some v → o.dst = some t → D (i + j) = true → (∀ q p, L[q]? = some p → p.dst = some t → q = j) → valD D i L vs t x = v
  | [], _, _, _, _, _, h, _, _, _, _ => by simp at h
  | _ :: _, [], _, _, _, _, _, h, _, _, _ => by simp at h
  | o' :: L, v' :: vs, i, 0, o, v, h1, h2, h3, h4, _ => by
    simp at h1 h2; subst h1 h2
    simp only [valD]
    rw [if_pos ⟨by simpa using h4, h3⟩]
  | o' :: L, v' :: vs, i, j + 1, o, v, h1, h2, h3, h4, h5 => by
    simp only [valD]
    rw [if_neg (by rintro ⟨_, hd⟩; have := h5 0 o' rfl hd; omega)]
    exact valD_at (i := i + 1) (j := j) (by simpa using h1) (by simpa using h2) h3 (by simpa [Nat.add_assoc, Nat.add_comm 1 j] using h4) (fun q p hq hp => by
      have := h5 (q + 1) p (by simpa using hq) hp; omega)

def puts : Env → List Oper → List V → Env
  | e, o :: L, v :: vs => puts (putE o.dst v e) L vs
  | e, _, _ => e

theorem puts_get {t : Nat} : ∀ {L : List Oper} {vs : List V} {e : Env} {i : Nat}, (∀ (a b : Nat) (o p : Oper), L[a]? = some o → L[b]? = some p → o.dst = some t → p.dst = some t → a = b) → getE (puts e L vs) t = valD (fun _ => true) i L vs t (getE e t)
  | [], vs, e, i, _ => by cases vs <;> simp [puts, valD]
  | _ :: _, [], e, i, _ => by simp [puts, valD]
  | o :: L, v :: vs, e, i, h => by
    simp only [puts, valD]
    rw [puts_get (i := i + 1) (fun a b o p ha hb h1 h2 => by have := h (a + 1) (b + 1) o p (by simpa using ha) (by simpa using hb) h1 h2; omega)]
    by_cases hd : o.dst = some t
    · rw [if_pos ⟨trivial, hd⟩]
      rw [valD_none (fun j p hj hp => by have := h 0 (j + 1) o p rfl (by simpa using hj) hd hp; omega)]
      rw [hd, getE_put]; simp
    · rw [if_neg (by rintro ⟨_, h⟩; exact hd h)]
      congr 1
      cases hdd : o.dst with
      | none => rfl
      | some d => rw [getE_put, if_neg (fun e' => hd (by rw [hdd, e']))]
end
end Go.Ev
