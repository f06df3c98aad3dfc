import Derived.Test.YtkgabahlbmonfaaDoorPNc
set_option linter.unusedVariables false
set_option linter.unusedSimpArgs false
/-
  How many parts an expression has, by both sides.
-/
namespace Go.Ev
open Go Go.Ev.Q
mutual
noncomputable def Expr.cnt : Expr → Nat → Nat
  | .mk k n name arg lit kids ar, d => if d ≤ 40 ∧ headB k n (nm name) (nm arg) (nm lit) kids ar.length = true then (if Expr.cnts kids (d + 1) 1 ≤ 300 then Arm.cnts ar (d + 1) (Expr.cnts kids (d + 1) 1) else 301) else 301
noncomputable def Expr.cnts : List Expr → Nat → Nat → Nat
  | [], _, acc => acc
  | a :: l, d, acc => if acc + Expr.cnt a d ≤ 300 then Expr.cnts l d (acc + Expr.cnt a d) else 301
noncomputable def Arm.cntB : Arm → Nat → Nat
  | .mk c vars b, d => if armB c vars = true then Expr.cnt b d else 301
noncomputable def Arm.cnts : List Arm → Nat → Nat → Nat
  | [], _, acc => acc
  | a :: l, d, acc => if acc + Arm.cntB a d ≤ 300 then Arm.cnts l d (acc + Arm.cntB a d) else 301
end
theorem Arm.cnts_le : ∀ (l : List Arm) (d acc : Nat), acc ≤ 301 → Arm.cnts l d acc ≤ 301
  | [], d, acc, h => by rw [Arm.cnts]; exact h
  | a :: l, d, acc, h => by
    rw [Arm.cnts]
    split
    · exact Arm.cnts_le l d _ (by omega)
    · omega
theorem Expr.cnts_le : ∀ (l : List Expr) (d acc : Nat), acc ≤ 301 → Expr.cnts l d acc ≤ 301
  | [], d, acc, h => by rw [Expr.cnts]; exact h
  | a :: l, d, acc, h => by
    rw [Expr.cnts]
    split
    · exact Expr.cnts_le l d _ (by omega)
    · omega
theorem Expr.cnt_le (t : Expr) (d : Nat) : t.cnt d ≤ 301 := by
  cases t
  rw [Expr.cnt]
  split
  · split
    · exact Arm.cnts_le _ _ _ (by omega)
    · omega
  · omega
theorem Arm.cntB_le (a : Arm) (d : Nat) : a.cntB d ≤ 301 := by
  cases a
  rw [Arm.cntB]
  split
  · exact Expr.cnt_le _ _
  · omega
theorem Arm.ts_body (a : Arm) : a.ts.2.2 = a.body.ts := by
  cases a
  rw [Arm.ts_mk]
  rfl
namespace Q
open Go Go.Ev
theorem isX {k n : Int} {name arg lit : List Int} {kids : List Expr} {ar : List Arm} (h1 : byteL name) (h2 : byteL arg) (h3 : byteL lit) : IsX (Expr.mk k n name arg lit kids ar).ts k n (nm name) (nm arg) (nm lit) kids ar := by
  rw [Expr.ts_mk, bnm h1, bnm h2, bnm h3]
  exact ⟨rfl, rfl, rfl, rfl, rfl, rfl, rfl⟩
theorem oat_ex {R : Type} {pre q l : List Expr} {a : Expr} (h : pre ++ a :: q = l) {f : T_Expr → Option R} : oat sh_Expr (exprs l).1 (exprs l).2 (pre.length : Int) f = f a.ts := oat_mid (sh := sh_Expr) (g := Expr.ts) h rfl
theorem oat_ar {R : Type} {pre q l : List Arm} {a : Arm} (h : pre ++ a :: q = l) {f : T_Arm → Option R} : oat sh_Arm (Ev.arms l).1 (Ev.arms l).2 (pre.length : Int) f = f a.ts := oat_mid (sh := sh_Arm) (g := Arm.ts) h rfl
/-- An arm's own test. -/
def armT : Arm → Bool
  | .mk c vars _ => armB c vars
theorem cntB_eq (a : Arm) (d : Nat) : a.cntB d = if armT a = true then a.body.cnt d else 301 := by
  cases a
  rw [Arm.cntB]
  rfl

section
variable {x : T_Expr} {k n : Int} {name arg lit : List UInt8} {kids : List Expr} {ar : List Arm}
theorem r_arms (hX : IsX x k n name arg lit kids ar) (d : Nat) (hd : d ≤ 40) (hlen : ar.length ≤ 1048576) (hA : ∀ a ∈ ar, impl_armOk a.ts = rB (armT a) ∧ impl_count_r a.body.ts ((d + 1 : Nat) : Int) = rI (a.body.cnt (d + 1) : Nat)) :
    ∀ (q pre : List Arm), pre ++ q = ar → ∀ acc : Nat, acc ≤ 300 → impl_count_r_j4 (pre.length : Int) (d : Int) x (acc : Int) (ar.length : Int) = rI (Arm.cnts q (d + 1) acc : Nat) := by
  intro q
  induction q with
  | nil =>
    intro pre h acc ha
    rw [List.append_nil] at h
    rw [impl_count_r_j4_eq, oite_dec, if_neg (by rw [← h]; omega), Arm.cnts]
  | cons a q ih =>
    intro pre h acc ha
    have hm := mem_mid h
    have hlt := len_mid h
    obtain ⟨h1, h2⟩ := hA a hm
    have hn := ih (pre ++ [a]) (by simpa using h)
    rw [List.length_append, List.length_singleton] at hn
    have hc := Expr.cnt_le a.body (d + 1)
    rw [impl_count_r_j4_eq, oite_dec, if_pos (by omega), hX.ar, oat_ar h, h1, ocall_bool, oite_nbool, Arm.cnts, cntB_eq]
    by_cases ht : armT a = true
    · rw [if_pos ht, if_pos ht, oat_ar h, Arm.ts_body, w64_succ (by omega), h2, ocall_int, w64_id (by omega) (by omega), oite_dec, w64_succ (by omega)]
      by_cases hs : acc + a.body.cnt (d + 1) ≤ 300
      · rw [if_neg (by omega), if_pos hs, ← hn _ hs]
        congr 1
      · rw [if_pos (by omega), if_neg hs]
        rfl
    · rw [if_neg ht, if_neg ht, if_neg (by omega)]
      rfl
theorem r_kids (hX : IsX x k n name arg lit kids ar) (d : Nat) (hd : d ≤ 40) (hlen : kids.length ≤ 1048576) (hK : ∀ a ∈ kids, impl_count_r a.ts ((d + 1 : Nat) : Int) = rI (a.cnt (d + 1) : Nat)) :
    ∀ (q pre : List Expr), pre ++ q = kids → ∀ acc : Nat, acc ≤ 300 → impl_count_r_j3 (pre.length : Int) (d : Int) x (acc : Int) (kids.length : Int) = if Expr.cnts q (d + 1) acc ≤ 300 then impl_count_r_j4 0 (d : Int) x (Expr.cnts q (d + 1) acc : Nat) (ar.length : Int) else rI 301 := by
  intro q
  induction q with
  | nil =>
    intro pre h acc ha
    rw [List.append_nil] at h
    rw [impl_count_r_j3_eq, oite_dec, if_neg (by rw [← h]; omega), hX.ar, arms_n, Expr.cnts, if_pos ha]
  | cons a q ih =>
    intro pre h acc ha
    have hm := mem_mid h
    have hlt := len_mid h
    have hn := ih (pre ++ [a]) (by simpa using h)
    rw [List.length_append, List.length_singleton] at hn
    have hc := Expr.cnt_le a (d + 1)
    rw [impl_count_r_j3_eq, oite_dec, if_pos (by omega), hX.kids, oat_ex h, w64_succ (by omega), hK a hm, ocall_int, w64_id (by omega) (by omega), oite_dec, w64_succ (by omega), Expr.cnts]
    by_cases hs : acc + a.cnt (d + 1) ≤ 300
    · rw [if_neg (by omega), if_pos hs, ← hn _ hs]
      congr 1
    · rw [if_pos (by omega), if_neg hs, if_neg (by omega)]
theorem b_arms (hX : IsX x k n name arg lit kids ar) (d : Nat) (hd : d ≤ 40) (hlen : ar.length ≤ 1048576) (hA : ∀ a ∈ ar, impl_armOk a.ts = rB (armT a) ∧ impl_count_r a.body.ts ((d + 1 : Nat) : Int) = rI (a.body.cnt (d + 1) : Nat)) :
    ∀ (q pre : List Arm), pre ++ q = ar → ∀ acc : Nat, acc ≤ 300 → impl_count_j4 (pre.length : Int) (d : Int) (acc : Int) (ar.length : Int) x = some (.d (.int .i64 (Arm.cnts q (d + 1) acc : Nat)), [.box (LS.encs sh_Expr x)]) := by
  intro q
  induction q with
  | nil =>
    intro pre h acc ha
    rw [List.append_nil] at h
    rw [impl_count_j4_eq, oite_dec, if_neg (by rw [← h]; omega), Arm.cnts]
  | cons a q ih =>
    intro pre h acc ha
    have hm := mem_mid h
    have hlt := len_mid h
    obtain ⟨h1, h2⟩ := hA a hm
    have hn := ih (pre ++ [a]) (by simpa using h)
    rw [List.length_append, List.length_singleton] at hn
    have hc := Expr.cnt_le a.body (d + 1)
    rw [impl_count_j4_eq, oite_dec, if_pos (by omega), hX.ar, oat_ar h, h1, ocall_bool, oite_nbool, Arm.cnts, cntB_eq]
    by_cases ht : armT a = true
    · rw [if_pos ht, if_pos ht, oat_ar h, Arm.ts_body, w64_succ (by omega), h2, ocall_int, w64_id (by omega) (by omega), oite_dec, w64_succ (by omega)]
      by_cases hs : acc + a.body.cnt (d + 1) ≤ 300
      · rw [if_neg (by omega), if_pos hs, ← hn _ hs]
        congr 1
      · rw [if_pos (by omega), if_neg hs]
        rfl
    · rw [if_neg ht, if_neg ht, if_neg (by omega)]
      rfl
theorem b_kids (hX : IsX x k n name arg lit kids ar) (d : Nat) (hd : d ≤ 40) (hlen : kids.length ≤ 1048576) (hK : ∀ a ∈ kids, impl_count_r a.ts ((d + 1 : Nat) : Int) = rI (a.cnt (d + 1) : Nat)) :
    ∀ (q pre : List Expr), pre ++ q = kids → ∀ acc : Nat, acc ≤ 300 → impl_count_j3 (pre.length : Int) (d : Int) (acc : Int) (kids.length : Int) x = if Expr.cnts q (d + 1) acc ≤ 300 then impl_count_j4 0 (d : Int) (Expr.cnts q (d + 1) acc : Nat) (ar.length : Int) x else some (.d (.int .i64 301), [.box (LS.encs sh_Expr x)]) := by
  intro q
  induction q with
  | nil =>
    intro pre h acc ha
    rw [List.append_nil] at h
    rw [impl_count_j3_eq, oite_dec, if_neg (by rw [← h]; omega), hX.ar, arms_n, Expr.cnts, if_pos ha]
  | cons a q ih =>
    intro pre h acc ha
    have hm := mem_mid h
    have hlt := len_mid h
    have hn := ih (pre ++ [a]) (by simpa using h)
    rw [List.length_append, List.length_singleton] at hn
    have hc := Expr.cnt_le a (d + 1)
    rw [impl_count_j3_eq, oite_dec, if_pos (by omega), hX.kids, oat_ex h, w64_succ (by omega), hK a hm, ocall_int, w64_id (by omega) (by omega), oite_dec, w64_succ (by omega), Expr.cnts]
    by_cases hs : acc + a.cnt (d + 1) ≤ 300
    · rw [if_neg (by omega), if_pos hs, ← hn _ hs]
      congr 1
    · rw [if_pos (by omega), if_neg hs, if_neg (by omega)]
abbrev rN (c : Nat) : Res := rI (if c ≤ 300 then (c : Int) else -1)
theorem s_arms (hX : IsX x k n name arg lit kids ar) (d : Nat) (hd : d ≤ 40) (hlen : ar.length ≤ 1048576) (hA : ∀ a ∈ ar, spec_l5arm a.ts ((d + 1 : Nat) : Int) = rN (a.cntB (d + 1))) :
    ∀ (q pre : List Arm), pre ++ q = ar → ∀ acc : Nat, acc ≤ 300 → spec_l5expr_j18 (pre.length : Int) (acc : Int) (d : Int) x = rN (Arm.cnts q (d + 1) acc) := by
  intro q
  induction q with
  | nil =>
    intro pre h acc ha
    rw [List.append_nil] at h
    rw [spec_l5expr_j18_eq, oite_dec, hX.ar, arms_n, if_neg (by rw [← h]; omega), Arm.cnts, rN, if_pos ha]
  | cons a q ih =>
    intro pre h acc ha
    have hm := mem_mid h
    have hlt := len_mid h
    have hn := ih (pre ++ [a]) (by simpa using h)
    rw [List.length_append, List.length_singleton] at hn
    rw [spec_l5expr_j18_eq, oite_dec, hX.ar, if_pos (by rw [arms_n]; omega), oat_ar h, w64_succ (by omega), hA a hm, ocall_int, oite_dec, oite_dec, Arm.cnts]
    by_cases hc : a.cntB (d + 1) ≤ 300
    · rw [if_pos hc, if_neg (by omega), w64_id (by omega) (by omega), w64_succ (by omega)]
      by_cases hs : acc + a.cntB (d + 1) ≤ 300
      · rw [if_neg (by omega), if_pos hs, ← hn _ hs]
        congr 1
      · rw [if_pos (by omega), if_neg hs]
        rfl
    · rw [if_neg hc, if_pos (by omega), if_neg (by omega)]
      rfl
theorem s_kids (hX : IsX x k n name arg lit kids ar) (d : Nat) (hd : d ≤ 40) (hlen : kids.length ≤ 1048576) (hal : ar.length ≤ 1048576) (hK : ∀ a ∈ kids, spec_l5expr a.ts ((d + 1 : Nat) : Int) = rN (a.cnt (d + 1))) (hA : ∀ a ∈ ar, spec_l5arm a.ts ((d + 1 : Nat) : Int) = rN (a.cntB (d + 1))) :
    ∀ (q pre : List Expr), pre ++ q = kids → ∀ acc : Nat, acc ≤ 300 → spec_l5expr_j15 (pre.length : Int) (acc : Int) (d : Int) x = if armsB k ar.length = true then (if Expr.cnts q (d + 1) acc ≤ 300 then rN (Arm.cnts ar (d + 1) (Expr.cnts q (d + 1) acc)) else rI (-1)) else rI (-1) := by
  intro q
  induction q with
  | nil =>
    intro pre h acc ha
    rw [List.append_nil] at h
    have h18 := s_arms hX d hd hal hA ar [] rfl acc ha
    simp only [List.length_nil] at h18
    have h17 : ∀ b : Bool, spec_l5expr_j17 (acc : Int) (d : Int) b x = if b = true then rI (-1) else rN (Arm.cnts ar (d + 1) acc) := fun b => by
      rw [spec_l5expr_j17_eq, oite_bool, spec_l5expr_j16_eq]
      exact congrArg (fun z => if b = true then rI (-1) else z) h18
    rw [spec_l5expr_j15_eq, oite_dec, hX.kids, exprs_n, if_neg (by rw [← h]; omega), oite_not, oite_if, hX.k, hX.ar, arms_n, oite_dec, oite_dec, h17, h17, Expr.cnts, if_pos ha]
    unfold armsB
    by_cases hk : k = 16
    · rw [if_pos (by simp [hk]), if_pos hk]
      by_cases h1 : ar.length < 1
      · rw [if_pos (by omega), if_pos rfl, if_neg (by simp; omega)]
      · rw [if_neg (by omega)]
        by_cases h6 : ar.length ≤ 6
        · rw [if_neg (by simp; omega), if_pos (by simp; omega)]
        · rw [if_pos (by simp; omega), if_neg (by simp; omega)]
    · rw [if_neg (by simp [hk]), if_neg hk]
      cases ar with
      | nil =>
        rw [if_neg (by simp), if_pos (by simp), Arm.cnts, rN, if_pos ha]
      | cons a l => rw [if_pos (by simp only [List.length_cons]; omega), if_neg (by simp)]
  | cons a q ih =>
    intro pre h acc ha
    have hm := mem_mid h
    have hlt := len_mid h
    have hn := ih (pre ++ [a]) (by simpa using h)
    rw [List.length_append, List.length_singleton] at hn
    rw [spec_l5expr_j15_eq, oite_dec, hX.kids, if_pos (by rw [exprs_n]; omega), oat_ex h, w64_succ (by omega), hK a hm, ocall_int, oite_dec, oite_dec, Expr.cnts]
    by_cases hc : a.cnt (d + 1) ≤ 300
    · rw [if_pos hc, if_neg (by omega), w64_id (by omega) (by omega), w64_succ (by omega)]
      by_cases hs : acc + a.cnt (d + 1) ≤ 300
      · rw [if_neg (by omega), if_pos hs, ← hn _ hs]
        congr 1
      · rw [if_pos (by omega), if_neg hs]
        simp only [show ¬ (301 : Nat) ≤ 300 by omega, if_false, ite_self]
    · rw [if_neg hc, if_pos (by omega), if_neg (show ¬ (acc + a.cnt (d + 1) ≤ 300) by omega)]
      simp only [show ¬ (301 : Nat) ≤ 300 by omega, if_false, ite_self]
end
end Q
end Go.Ev

/-
  Nodes: the law.
-/
namespace Go.Ev.Q
open Go Go.Ev

theorem dec_if {p : Prop} [Decidable p] {b : Bool} {X : Type} {u v : X} : (if (decide p && b) = true then u else v) = if p ∧ b = true then u else v := by
  by_cases h : p
  · cases b <;> simp [h]
  · simp [h]
/-- Both sides count alike. -/
theorem count_ok (t : Expr) : t.ok → t.size ≤ 1048576 → ∀ d : Nat, d ≤ 41 → impl_count_r t.ts (d : Int) = rI (t.cnt d : Nat) ∧ spec_l5expr t.ts (d : Int) = rN (t.cnt d) := by
  induction t using Expr.ind (Q := fun a => a.ok → a.size ≤ 1048576 → ∀ d : Nat, d ≤ 41 → (impl_armOk a.ts = rB (armT a) ∧ impl_count_r a.body.ts (d : Int) = rI (a.body.cnt d : Nat)) ∧ spec_l5arm a.ts (d : Int) = rN (a.cntB d)) with
  | h1 k n name arg lit kids ar ihk iha =>
    intro ho hs d hd
    rw [Expr.size_mk] at hs
    cases ho with
    | mk hk hn hname harg hlit hkids hkid harms harm =>
    have hX := isX (k := k) (n := n) (kids := kids) (ar := ar) hname.2 harg.2 hlit.2
    have hh := hR_ok hX (by rw [nm_len]; omega) (by rw [nm_len]; omega) (by rw [nm_len]; omega)
    have hK : d ≤ 40 → ∀ a ∈ kids, impl_count_r a.ts ((d + 1 : Nat) : Int) = rI (a.cnt (d + 1) : Nat) ∧ spec_l5expr a.ts ((d + 1 : Nat) : Int) = rN (a.cnt (d + 1)) := fun h a ha => ihk a ha (hkid a ha) (by have := sizes_mem (f := Expr.size) ha; omega) (d + 1) (by omega)
    have hA : d ≤ 40 → ∀ a ∈ ar, (impl_armOk a.ts = rB (armT a) ∧ impl_count_r a.body.ts ((d + 1 : Nat) : Int) = rI (a.body.cnt (d + 1) : Nat)) ∧ spec_l5arm a.ts ((d + 1 : Nat) : Int) = rN (a.cntB (d + 1)) := fun h a ha => iha a ha (harm a ha) (by have := sizes_mem (f := Arm.size) ha; omega) (d + 1) (by omega)
    have j2 : ∀ b : Bool, impl_count_r_j2 (d : Int) (Expr.mk k n name arg lit kids ar).ts b = if b = true then rI 301 else impl_count_r_j3 0 (d : Int) (Expr.mk k n name arg lit kids ar).ts 1 (kids.length : Int) := fun b => by
      rw [impl_count_r_j2_eq, oite_bool, impl_count_r_j1_eq, hX.kids, exprs_n]
    constructor
    · rw [impl_count_r_eq, oite_dec, hh, ocall_bool, j2, j2, Expr.cnt]
      by_cases h40 : d ≤ 40
      · rw [if_neg (by omega)]
        by_cases hb : headB k n (nm name) (nm arg) (nm lit) kids ar.length = true
        · have h3 := r_kids hX d h40 (by omega) (fun a ha => (hK h40 a ha).1) kids [] rfl 1 (by omega)
          rw [if_neg (by simp [hb]), if_pos ⟨h40, hb⟩]
          refine (show impl_count_r_j3 0 (d : Int) _ 1 _ = _ from h3).trans ?_
          have hle := Expr.cnts_le kids (d + 1) 1 (by omega)
          by_cases hc : Expr.cnts kids (d + 1) 1 ≤ 300
          · rw [if_pos hc, if_pos hc]
            exact r_arms hX d h40 (by omega) (fun a ha => (hA h40 a ha).1) ar [] rfl _ hc
          · rw [if_neg hc, if_neg hc]
            rfl
        · have hb' : headB k n (nm name) (nm arg) (nm lit) kids ar.length = false := by simpa using hb
          rw [if_pos (by simp [hb']), if_neg (fun h => hb h.2)]
          rfl
      · rw [if_pos (by omega), if_pos rfl, if_neg (fun h => h40 h.1)]
        rfl
    · rw [s0 hX, dec_if, Expr.cnt, head_eq]
      by_cases h40 : d ≤ 40
      · have h3 := s_kids hX d h40 (by omega) (by omega) (fun a ha => (hK h40 a ha).2) (fun a ha => (hA h40 a ha).2) kids [] rfl 1 (by omega)
        by_cases hb : headS k n (nm name) (nm arg) (nm lit) kids = true
        · rw [if_pos ⟨by omega, hb⟩]
          refine (show spec_l5expr_j15 0 1 (d : Int) _ = _ from h3).trans ?_
          by_cases ha : armsB k ar.length = true
          · have hP : d ≤ 40 ∧ (headS k n (nm name) (nm arg) (nm lit) kids && armsB k ar.length) = true := ⟨h40, by simp [hb, ha]⟩
            rw [if_pos ha, if_pos hP]
            by_cases hc : Expr.cnts kids (d + 1) 1 ≤ 300
            · rw [if_pos hc, if_pos hc]
            · rw [if_neg hc, if_neg hc, rN, if_neg (by omega)]
          · rw [if_neg ha, if_neg (fun h => ha (by have := h.2; simp only [Bool.and_eq_true] at this; exact this.2)), rN, if_neg (by omega)]
        · rw [if_neg (fun h => hb h.2), if_neg (fun h => hb (by have := h.2; simp only [Bool.and_eq_true] at this; exact this.1)), rN, if_neg (by omega)]
      · rw [if_neg (fun h => h40 (by omega)), if_neg (fun h => h40 h.1), rN, if_neg (by omega)]
  | h2 c vars b ih ho hs d hd =>
    rw [Arm.size_mk] at hs
    cases ho with
    | mk hc hvars hvs hb =>
    obtain ⟨h1, h2⟩ := ih hb (by omega) d hd
    have hv : ∀ v ∈ vars, v.length ≤ 1048576 := fun v hv => by have := sizes_mem (f := List.length) hv; omega
    refine ⟨⟨armOk_ok c vars b hc.2 (by omega) (by omega) (fun v h => (hvs v h).2) hv, h1⟩, ?_⟩
    rw [l5arm_ok c vars b _ hc.2 (by omega) (fun v h => (hvs v h).2) h2, Arm.cntB]
    by_cases ha : armB c vars = true
    · rw [if_pos ha, if_pos ha]
    · rw [if_neg ha, if_neg ha, rN, if_neg (by omega)]
theorem ocall_iX {R : Type} {c : Int} {x : T_Expr} {f : Int → T_Expr × Unit → Option R} : ocall (.m (.one (.int .i64))) [(.box sh_Expr)] (some (.d (.int .i64 c), [.box (LS.encs sh_Expr x)])) f = f c (x, ()) := ocall_int_box (l := sh_Expr) rfl (t := x)
theorem ocall_bX {R : Type} {c : Bool} {x : T_Expr} {f : Bool → T_Expr × Unit → Option R} : ocall (.m (.one .bool)) [(.box sh_Expr)] (some (.d (.bool c), [.box (LS.encs sh_Expr x)])) f = f c (x, ()) := ocall_bool_box (l := sh_Expr) rfl (t := x)
theorem implNodes_ok (t : Expr) (ho : t.ok) (hs : t.size ≤ 1048576) : impl_Nodes t.ts = rI (if t.cnt 1 ≤ 300 then (t.cnt 1 : Int) else 0) := by
  cases t with
  | mk k n name arg lit kids ar =>
  rw [Expr.size_mk] at hs
  cases ho with
  | mk hk hn hname harg hlit hkids hkid harms harm =>
  have hX := isX (k := k) (n := n) (kids := kids) (ar := ar) hname.2 harg.2 hlit.2
  have hh := hB_ok hX (by rw [nm_len]; omega) (by rw [nm_len]; omega) (by rw [nm_len]; omega)
  have hK : ∀ a ∈ kids, impl_count_r a.ts ((1 + 1 : Nat) : Int) = rI (a.cnt (1 + 1) : Nat) := fun a ha => (count_ok a (hkid a ha) (by have := sizes_mem (f := Expr.size) ha; omega) 2 (by omega)).1
  have hA : ∀ a ∈ ar, impl_armOk a.ts = rB (armT a) ∧ impl_count_r a.body.ts ((1 + 1 : Nat) : Int) = rI (a.body.cnt (1 + 1) : Nat) := fun a ha => by
    have hsz : a.size ≤ 1048576 := by have := sizes_mem (f := Arm.size) ha; omega
    cases harm a ha with
    | @mk c vars b hc hvars hvs hb =>
    rw [Arm.size_mk] at hsz
    have hv : ∀ v ∈ vars, v.length ≤ 1048576 := fun v hv => by have := sizes_mem (f := List.length) hv; omega
    exact ⟨armOk_ok c vars b hc.2 (by omega) (by omega) (fun v h => (hvs v h).2) hv, (count_ok b hb (by omega) 2 (by omega)).1⟩
  have hC : impl_count 1 (Expr.mk k n name arg lit kids ar).ts = some (.d (.int .i64 ((Expr.mk k n name arg lit kids ar).cnt 1 : Nat)), [.box (LS.encs sh_Expr (Expr.mk k n name arg lit kids ar).ts)]) := by
    have j2 : ∀ b : Bool, impl_count_j2 1 b (Expr.mk k n name arg lit kids ar).ts = if b = true then some (.d (.int .i64 301), [.box (LS.encs sh_Expr (Expr.mk k n name arg lit kids ar).ts)]) else impl_count_j3 0 1 1 (kids.length : Int) (Expr.mk k n name arg lit kids ar).ts := fun b => by
      rw [impl_count_j2_eq, oite_bool, impl_count_j1_eq, hX.kids, exprs_n]
    rw [impl_count_eq, oite_dec, if_neg (by omega), hh, ocall_bX, j2, Expr.cnt]
    by_cases hb : headB k n (nm name) (nm arg) (nm lit) kids ar.length = true
    · have h3 := b_kids hX 1 (by omega) (by omega) hK kids [] rfl 1 (by omega)
      rw [if_neg (by simp [hb]), if_pos ⟨by omega, hb⟩]
      refine (show impl_count_j3 0 1 1 _ _ = _ from h3).trans ?_
      by_cases hc : Expr.cnts kids (1 + 1) 1 ≤ 300
      · rw [if_pos hc, if_pos hc]
        exact b_arms hX 1 (by omega) (by omega) hA ar [] rfl _ hc
      · rw [if_neg hc, if_neg hc]
        rfl
    · have hb' : headB k n (nm name) (nm arg) (nm lit) kids ar.length = false := by simpa using hb
      rw [if_pos (by simp [hb']), if_neg (fun h => hb h.2)]
      rfl
  rw [impl_Nodes_eq, hC, ocall_iX, oite_dec]
  by_cases h3 : (Expr.mk k n name arg lit kids ar).cnt 1 ≤ 300
  · rw [if_pos (by omega), if_pos h3]
  · rw [if_neg (by omega), if_neg h3]
theorem specNodes_ok (t : Expr) (ho : t.ok) (hs : t.size ≤ 1048576) : spec_Nodes t.ts = rI (if t.cnt 1 ≤ 300 then (t.cnt 1 : Int) else 0) := by
  have h := (count_ok t ho hs 1 (by omega)).2
  rw [spec_Nodes_eq, show spec_l5expr t.ts 1 = _ from h, ocall_int, oite_dec]
  by_cases h3 : t.cnt 1 ≤ 300
  · rw [if_pos h3, if_neg (by omega), if_pos h3]
  · rw [if_neg h3, if_pos (by decide), if_neg h3]
theorem Nodes_ok (t : Expr) (ho : t.ok) : laws_FnExactNodes t.ts = some (.d (.bool true), []) := by
  rw [laws_FnExactNodes_eq, show (1048576 : Int) = ((1048576 : Nat) : Int) from rfl, szExpr_ok t ho 1048576 (by omega), ocall_int, oite_dec]
  by_cases hs : t.size ≤ 1048576
  · rw [if_pos hs, if_neg (by omega), toExpr_ok t hs, ocall_agg rfl, specNodes_ok t ho hs, ocall_int, ocall_agg rfl, implNodes_ok t ho hs, ocall_int, ocall_agg rfl]
    simp only [beq_self_eq_true, Bool.not_true, osame_t]
    rw [oite_f, eqExpr_ok t hs, ocall_bool, Bool.not_true, oite_f]
  · rw [if_neg hs, if_pos (by decide)]
end Go.Ev.Q
