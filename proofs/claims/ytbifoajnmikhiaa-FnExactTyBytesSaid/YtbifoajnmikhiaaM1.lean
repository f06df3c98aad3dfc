/- Plain facts on numbers as bytes: what getNum reads, what putNum writes. -/
namespace Go.Proofs.Ytbifoajnmikhiaa.M

def Byt (l : List Int) : Prop := ∀ x ∈ l, 0 ≤ x ∧ x < 256

theorem Byt.nil : Byt [] := fun x h => by cases h
theorem Byt.append {a b : List Int} (ha : Byt a) (hb : Byt b) : Byt (a ++ b) := fun x h => by
  rcases List.mem_append.1 h with h | h
  · exact ha x h
  · exact hb x h
theorem Byt.left {a b : List Int} (h : Byt (a ++ b)) : Byt a := fun x hx => h x (List.mem_append_left _ hx)
theorem Byt.right {a b : List Int} (h : Byt (a ++ b)) : Byt b := fun x hx => h x (List.mem_append_right _ hx)
theorem Byt.cons {c : Int} {a : List Int} (h0 : 0 ≤ c) (h1 : c < 256) (ha : Byt a) : Byt (c :: a) := fun x h => by
  rcases List.mem_cons.1 h with h | h
  · subst h
    exact ⟨h0, h1⟩
  · exact ha x h
theorem Byt.take {a : List Int} (n : Nat) (h : Byt a) : Byt (a.take n) := fun x hx => h x (List.mem_of_mem_take hx)
theorem Byt.drop {a : List Int} (n : Nat) (h : Byt a) : Byt (a.drop n) := fun x hx => h x (List.mem_of_mem_drop hx)

def gnl : Nat → Nat → Int → List Int → Option (Int × Nat)
  | 0, _, _, _ => none
  | _ + 1, _, _, [] => none
  | d + 1, i, n, c :: t =>
    if 128 ≤ c then gnl d (i + 1) (n + c % 128 * 128 ^ i) t
    else if (0 < i ∧ c = 0) ∨ 2147483647 < n + c % 128 * 128 ^ i then none else some (n + c % 128 * 128 ^ i, i + 1)

def gres (a : Int) : Option (Int × Nat) → Int × Int
  | none => (0, -1)
  | some (m, c) => (m, a + c)
def getNum (l : List Int) (a : Int) : Int × Int := if a < 0 then (0, -1) else gres a (gnl 5 0 0 (l.drop a.toNat))

def pnl : Nat → Int → List Int
  | 0, n => [n % 256]
  | d + 1, n => if 127 < n then (128 + n % 128) :: pnl d (n / 128) else [n]

def putNum (b : List Int) (n : Int) : List Int := if 0 ≤ n ∧ n ≤ 2147483647 then b ++ pnl 4 n else b

theorem pnl_len (d : Nat) : ∀ n, 1 ≤ (pnl d n).length ∧ (pnl d n).length ≤ d + 1 := by
  induction d with
  | zero => intro n; simp [pnl]
  | succ d ih =>
    intro n
    unfold pnl
    have := ih (n / 128)
    split
    · simp only [List.length_cons]; omega
    · simp only [List.length_cons, List.length_nil]; omega

theorem pnl_byt (d : Nat) : ∀ n, 0 ≤ n → Byt (pnl d n) := by
  induction d with
  | zero =>
    intro n h0
    exact Byt.cons (by omega) (by omega) Byt.nil
  | succ d ih =>
    intro n h0
    unfold pnl
    split
    · exact Byt.cons (by omega) (by omega) (ih _ (by omega))
    · exact Byt.cons (by omega) (by omega) Byt.nil

theorem putNum_byt {b : List Int} (n : Int) (hb : Byt b) : Byt (putNum b n) := by
  unfold putNum
  split
  · rename_i h
    exact hb.append (pnl_byt 4 n h.1)
  · exact hb

theorem putNum_len (b : List Int) (n : Int) : (putNum b n).length ≤ b.length + 5 := by
  unfold putNum
  have := (pnl_len 4 n).2
  split
  · rw [List.length_append]; omega
  · omega

theorem split128 (v u : Int) : v % 128 * u + v / 128 * (u * 128) = v * u := by
  have h := Int.emod_add_mul_ediv v 128
  calc v % 128 * u + v / 128 * (u * 128) = (v % 128 + 128 * (v / 128)) * u := by
        rw [Int.add_mul]; congr 1; rw [Int.mul_comm u 128, ← Int.mul_assoc, Int.mul_comm (v / 128) 128]
    _ = v * u := by rw [h]

theorem gnl_pnl (d : Nat) : ∀ (i : Nat) (n v : Int) (t : List Int), 0 ≤ v → v < 128 ^ (d + 1) → (0 < i → v ≠ 0) → n + v * 128 ^ i ≤ 2147483647 →
    gnl (d + 1) i n (pnl d v ++ t) = some (n + v * 128 ^ i, i + (pnl d v).length) := by
  induction d with
  | zero =>
    intro i n v t h0 h1 h2 h3
    have hv : v % 256 = v := by omega
    have hv2 : v % 128 = v := by omega
    have hc : ¬ ((0 < i ∧ v = 0) ∨ 2147483647 < n + v * 128 ^ i) := by
      rintro (⟨a, b⟩ | a)
      · exact h2 a b
      · omega
    simp only [pnl, hv, List.cons_append, List.nil_append, gnl, hv2, List.length_cons, List.length_nil]
    rw [if_neg (by omega), if_neg hc]
  | succ d ih =>
    intro i n v t h0 h1 h2 h3
    by_cases h : 127 < v
    · have e : pnl (d + 1) v = (128 + v % 128) :: pnl d (v / 128) := by rw [pnl, if_pos h]
      have e2 : (128 + v % 128) % 128 = v % 128 := by omega
      have hs := split128 v (128 ^ i)
      have h128 : v / 128 < 128 ^ (d + 1) := by
        rw [Int.pow_succ] at h1
        omega
      have := ih (i + 1) (n + v % 128 * 128 ^ i) (v / 128) t (by omega) h128 (fun _ => by omega) (by rw [Int.pow_succ, Int.add_assoc, hs]; exact h3)
      rw [e, List.cons_append, gnl, if_pos (by omega), e2, this, Int.pow_succ, Int.add_assoc, hs, List.length_cons]
      congr 2
      omega
    · have hv2 : v % 128 = v := by omega
      have hc : ¬ ((0 < i ∧ v = 0) ∨ 2147483647 < n + v * 128 ^ i) := by
        rintro (⟨a, b⟩ | a)
        · exact h2 a b
        · omega
      have e : pnl (d + 1) v = [v] := by rw [pnl, if_neg h]
      rw [e, List.cons_append, gnl, if_neg (by omega), hv2, if_neg hc]
      rfl

theorem gnl_some (d : Nat) : ∀ (i : Nat) (n : Int) (l : List Int) (m : Int) (c : Nat), Byt l → gnl (d + 1) i n l = some (m, c) →
    ∃ v t, 0 ≤ v ∧ v < 128 ^ (d + 1) ∧ (0 < i → v ≠ 0) ∧ m = n + v * 128 ^ i ∧ l = pnl d v ++ t ∧ c = i + (pnl d v).length ∧ m ≤ 2147483647 := by
  induction d with
  | zero =>
    intro i n l m c hl h
    cases l with
    | nil => simp [gnl] at h
    | cons x t =>
      have hx := hl x List.mem_cons_self
      rw [gnl] at h
      split at h
      · simp [gnl] at h
      · split at h
        · cases h
        · rename_i h1 h2
          have e : x % 128 = x := by omega
          simp only [Option.some.injEq, Prod.mk.injEq, e] at h
          rw [e] at h2
          refine ⟨x, t, hx.1, by omega, fun a b => h2 (.inl ⟨a, b⟩), h.1.symm, ?_, ?_, ?_⟩
          · have : x % 256 = x := by omega
            simp [pnl, this]
          · simp [pnl, h.2]
          · have : ¬ (2147483647 < n + x * 128 ^ i) := fun a => h2 (.inr a)
            omega
  | succ d ih =>
    intro i n l m c hl h
    cases l with
    | nil => simp [gnl] at h
    | cons x t =>
      have hx := hl x List.mem_cons_self
      rw [gnl] at h
      split at h
      · rename_i h1
        obtain ⟨v, t', hv0, hv1, hv2, hm, ht, hc, hmm⟩ := ih _ _ _ _ _ (fun y hy => hl y (List.mem_cons_of_mem _ hy)) h
        have hv3 := hv2 (by omega)
        have hd : (x % 128 + 128 * v) / 128 = v := by omega
        have hmo : (x % 128 + 128 * v) % 128 = x % 128 := by omega
        have e : pnl (d + 1) (x % 128 + 128 * v) = x :: pnl d v := by
          rw [pnl, if_pos (by omega), hd, hmo]
          congr 1
          omega
        refine ⟨x % 128 + 128 * v, t', by omega, ?_, fun _ => by omega, ?_, ?_, ?_, hmm⟩
        · rw [Int.pow_succ]
          omega
        · rw [hm, Int.pow_succ, Int.add_mul, Int.add_assoc, Int.mul_comm 128 v, Int.mul_assoc, Int.mul_comm 128]
        · rw [e, ht]; rfl
        · rw [e, hc, List.length_cons]; omega
      · split at h
        · cases h
        · rename_i h1 h2
          have e : x % 128 = x := by omega
          simp only [Option.some.injEq, Prod.mk.injEq, e] at h
          rw [e] at h2
          have e3 : pnl (d + 1) x = [x] := by rw [pnl, if_neg (by omega)]
          have hp : (128 : Int) ≤ 128 ^ (d + 1 + 1) := by
            rw [Int.pow_succ]
            have : (0 : Int) < 128 ^ (d + 1) := Int.pow_pos (by omega)
            omega
          refine ⟨x, t, hx.1, by omega, fun a b => h2 (.inl ⟨a, b⟩), h.1.symm, ?_, ?_, ?_⟩
          · rw [e3]; rfl
          · rw [e3, ← h.2]; rfl
          · have : ¬ (2147483647 < n + x * 128 ^ i) := fun a => h2 (.inr a)
            omega

theorem getNum_put (b t : List Int) (n : Int) (h0 : 0 ≤ n) (h1 : n ≤ 2147483647) : getNum (b ++ pnl 4 n ++ t) b.length = (n, (b.length : Int) + ((pnl 4 n).length : Int)) := by
  unfold getNum
  rw [if_neg (by omega), Int.toNat_natCast, List.append_assoc, List.drop_left]
  rw [gnl_pnl 4 0 0 n t h0 (by omega) (fun h => by omega) (by omega)]
  simp [gres]

/-- What is read: nothing, or just the bytes of a number. -/
theorem getNum_cases {l : List Int} (a : Int) (hl : Byt l) : getNum l a = (0, -1) ∨
    ∃ m t, 0 ≤ a ∧ 0 ≤ m ∧ m ≤ 2147483647 ∧ a.toNat ≤ l.length ∧ l = l.take a.toNat ++ (pnl 4 m ++ t) ∧ getNum l a = (m, a + (pnl 4 m).length) := by
  unfold getNum
  split
  · exact .inl rfl
  · rename_i h
    cases e : gnl 5 0 0 (l.drop a.toNat) with
    | none => exact .inl rfl
    | some p =>
      obtain ⟨m, c⟩ := p
      obtain ⟨v, t, hv0, hv1, _, hm, ht, hc, hmm⟩ := gnl_some 4 _ _ _ _ _ (hl.drop _) e
      have hmv : m = v := by omega
      subst hmv
      refine .inr ⟨m, t, by omega, hv0, hmm, ?_, ?_, ?_⟩
      · have h1 := congrArg List.length ht
        have h2 := pnl_len 4 m
        rw [List.length_drop, List.length_append] at h1
        omega
      · rw [← ht, List.take_append_drop]
      · simp only [gres, hc, Nat.zero_add]

theorem getNum_fst (l : List Int) (a : Int) (h : (getNum l a).2 < 0) (hl : Byt l) : getNum l a = (0, -1) := by
  rcases getNum_cases a hl with e | ⟨m, t, h0, _, _, _, _, e⟩
  · exact e
  · rw [e] at h
    simp only at h
    omega

theorem getNum_le {l : List Int} (hl : Byt l) (a : Int) : 0 ≤ (getNum l a).1 ∧ (getNum l a).1 ≤ 2147483647 ∧ -1 ≤ (getNum l a).2 ∧ (getNum l a).2 ≤ l.length := by
  rcases getNum_cases a hl with e | ⟨m, t, h0, h1, h2, h3, h4, e⟩
  · rw [e]
    simp only
    omega
  · have hll := congrArg List.length h4
    rw [List.length_append, List.length_append, List.length_take] at hll
    rw [e]
    simp only
    omega

def putText (b t : List Int) : List Int := if t.length ≤ 40 then putNum b t.length ++ t else b

def getText (l : List Int) (a : Int) : List Int × Int :=
  if (getNum l a).2 < 0 ∨ 40 < (getNum l a).1 ∨ (l.length : Int) - (getNum l a).2 < (getNum l a).1 then ([], -1)
  else ((l.drop (getNum l a).2.toNat).take (getNum l a).1.toNat, (getNum l a).2 + (getNum l a).1)

theorem putText_len (b t : List Int) : (putText b t).length ≤ b.length + 45 := by
  unfold putText
  have := putNum_len b (t.length : Int)
  split
  · rw [List.length_append]; omega
  · omega

theorem getText_len (l : List Int) (a : Int) : (getText l a).1.length ≤ l.length := by
  unfold getText
  split
  · simp
  · rw [List.length_take, List.length_drop]
    omega

theorem getText_put (b t c : List Int) (h : t.length ≤ 40) : getText (putText b t ++ c) b.length = (t, ((putText b t).length : Int)) := by
  have e : putText b t ++ c = b ++ pnl 4 t.length ++ (t ++ c) := by
    unfold putText putNum
    rw [if_pos h, if_pos (by omega)]
    simp
  have e2 : (putText b t).length = b.length + (pnl 4 t.length).length + t.length := by
    unfold putText putNum
    rw [if_pos h, if_pos (by omega), List.length_append, List.length_append]
  have g := getNum_put b (t ++ c) t.length (by omega) (by omega)
  rw [e]
  unfold getText
  rw [g]
  have hlen : ((b ++ pnl 4 (t.length : Int) ++ (t ++ c)).length : Int) = b.length + (pnl 4 (t.length : Int)).length + t.length + c.length := by
    simp only [List.length_append]; omega
  rw [if_neg (by simp only [hlen]; omega), e2]
  simp only
  have hd : ((b.length : Int) + ((pnl 4 (t.length : Int)).length : Int)).toNat = (b ++ pnl 4 (t.length : Int)).length := by rw [List.length_append]; omega
  rw [hd, List.drop_left, Int.toNat_natCast, List.take_left]
  congr 1

theorem getText_cases {l : List Int} (a : Int) (hl : Byt l) : getText l a = ([], -1) ∨
    ∃ t r, 0 ≤ a ∧ a.toNat ≤ l.length ∧ t.length ≤ 40 ∧ l = putText (l.take a.toNat) t ++ r ∧ getText l a = (t, ((putText (l.take a.toNat) t).length : Int)) := by
  unfold getText
  split
  · exact .inl rfl
  · rename_i h
    rcases getNum_cases a hl with e | ⟨m, t, h0, hm0, hm1, hal, hl2, e⟩
    · rw [e] at h
      exact absurd (Or.inl (by decide)) h
    · rw [e] at h ⊢
      simp only at h ⊢
      have h1 : m ≤ 40 := by omega
      have hll := congrArg List.length hl2
      have hmin : min a.toNat l.length = a.toNat := by omega
      rw [List.length_append, List.length_append, List.length_take, hmin] at hll
      have hmt : m ≤ t.length := by omega
      have hd : l.drop (a + (pnl 4 m).length).toNat = t := by
        have e3 : (a + ((pnl 4 m).length : Int)).toNat = (l.take a.toNat ++ pnl 4 m).length := by
          rw [List.length_append, List.length_take, hmin]
          omega
        conv => lhs; rw [hl2]
        rw [← List.append_assoc, e3, List.drop_left]
      rw [hd]
      have htl : (t.take m.toNat).length = m.toNat := by rw [List.length_take]; omega
      have hpt : putText (l.take a.toNat) (t.take m.toNat) = l.take a.toNat ++ pnl 4 m ++ t.take m.toNat := by
        unfold putText putNum
        rw [htl, if_pos (by omega), Int.toNat_of_nonneg hm0, if_pos ⟨hm0, by omega⟩]
      refine .inr ⟨t.take m.toNat, t.drop m.toNat, h0, hal, by omega, ?_, ?_⟩
      · rw [hpt, List.append_assoc, List.append_assoc, List.take_append_drop]
        exact hl2
      · rw [hpt, List.length_append, List.length_append, htl, List.length_take, hmin]
        congr 1
        omega

end Go.Proofs.Ytbifoajnmikhiaa.M
