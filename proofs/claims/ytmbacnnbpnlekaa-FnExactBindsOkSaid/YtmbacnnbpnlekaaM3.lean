/- Types as trees, plain: what a type is, and how many parts it has. -/
import Derived.Test.YtmbacnnbpnlekaaPDx0
namespace Go.Proofs.Ytmbacnnbpnlekaa.M
open Go.Proofs.Ytmbacnnbpnlekaa.PD

abbrev T := S63
abbrev TL := S54

def argsN (k : Int) : Int := if k = 0 ∨ k = 1 ∨ k = 2 ∨ k = 7 then 0 else if k = 3 ∨ k = 4 then 2 else if k = 5 then 1 else if k = 6 then -1 else -2
def manyB (k : Int) (n : Nat) : Bool := if argsN k = -1 then decide (n ≤ 3) else decide (argsN k = n)
def numB (k n : Int) : Bool := if k = 6 then decide (0 ≤ n ∧ n ≤ 19) else if k = 7 then decide (0 ≤ n ∧ n ≤ 99999) else decide (n = 0)
def headB (t : T) : Bool := manyB t.f0 t.f2.length && numB t.f0 t.f1

def measL (f : T → Int) : List T → Int → Int
  | [], s => s
  | a :: l, s => if s + f a > 60 then 61 else measL f l (s + f a)
def meas : Nat → T → Int
  | 0, _ => 61
  | d + 1, t => if headB t then measL (meas d) t.f2 1 else 61

theorem measL_le (f : T → Int) (hf : ∀ a, 1 ≤ f a ∧ f a ≤ 61) (l : List T) : ∀ s, 1 ≤ s → s ≤ 61 → 1 ≤ measL f l s ∧ measL f l s ≤ 61 := by
  induction l with
  | nil => intro s h0 h1; exact ⟨h0, h1⟩
  | cons a l ih =>
    intro s h0 h1
    have := hf a
    unfold measL
    split
    · omega
    · exact ih _ (by omega) (by omega)
theorem meas_le (d : Nat) : ∀ t, 1 ≤ meas d t ∧ meas d t ≤ 61 := by
  induction d with
  | zero => intro t; exact ⟨by simp [meas], by simp [meas]⟩
  | succ d ih =>
    intro t
    unfold meas
    split
    · exact measL_le _ ih _ _ (by omega) (by omega)
    · omega
theorem headB_len {t : T} (h : headB t = true) : t.f2.length ≤ 3 := by
  unfold headB manyB at h
  rw [Bool.and_eq_true] at h
  have h := h.1
  split at h
  · simpa using h
  · have h := of_decide_eq_true h
    unfold argsN at h
    split at h
    · omega
    · split at h
      · omega
      · split at h
        · omega
        · split at h <;> omega

def TyOk (t : T) : Bool := decide (meas 10 t ≤ 60)

/-- Depth and lengths. -/
def N1 : Nat → TL → Prop
  | 0, _ => False
  | n + 1, x => x.f2.length ≤ 1048576 ∧ ∀ a ∈ x.f2, N1 n a
def N2 : Nat → T → Prop
  | 0, _ => False
  | n + 1, x => x.f2.length ≤ 1048576 ∧ ∀ a ∈ x.f2, N2 n a

end Go.Proofs.Ytmbacnnbpnlekaa.M
