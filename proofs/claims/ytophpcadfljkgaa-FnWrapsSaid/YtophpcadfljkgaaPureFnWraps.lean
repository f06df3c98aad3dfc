/- Drawn numbers are summed and multiplied as if they had been brought to 63 bits at the end alone. No condition. -/
import Derived.Test.YtophpcadfljkgaaD1
import Derived.Test.YtophpcadfljkgaaPAx0
import Derived.Test.YtophpcadfljkgaaPAx7
import Derived.Test.YtophpcadfljkgaaPAx15
namespace Go.Proofs.Ytophpcadfljkgaa.Pure
open Go Go.RowKit Go.Proofs.Ytophpcadfljkgaa.PA Go.Proofs.Ytophpcadfljkgaa.M Go.Proofs.Ytophpcadfljkgaa.E Go.Proofs.YtophpcadfljkgaaW.PrintWords Go.Proofs.YtophpcadfljkgaaW.PrintLast

def W (n : Int) : Int := wrap64 (n * 2) / 2
theorem impl_Wrap (n : Int) : impl_Wrap.f n = some (W n) := rfl
theorem W_eq (n : Int) : ∃ q, W n = n + q * 9223372036854775808 := ⟨(W n - n) / 9223372036854775808, by unfold W wrap64; omega⟩
theorem wrap_eq (n : Int) : ∃ q, wrap64 n = n + q * 18446744073709551616 := ⟨(wrap64 n - n) / 18446744073709551616, by unfold wrap64; omega⟩
theorem W_congr {n m : Int} (q : Int) (h : n = m + q * 9223372036854775808) : W n = W m := by
  subst h
  unfold W wrap64
  omega
theorem W_idem (n : Int) : W (W n) = W n := by
  obtain ⟨q, h⟩ := W_eq n
  exact W_congr q h
theorem W_range (n : Int) : -4611686018427387904 ≤ W n ∧ W n ≤ 4611686018427387903 := by
  unfold W wrap64
  omega
theorem W_add (a b : Int) : W (wrap64 (a + b)) = W (wrap64 (W a + W b)) := by
  obtain ⟨p, hp⟩ := W_eq a
  obtain ⟨r, hr⟩ := W_eq b
  obtain ⟨q1, h1⟩ := wrap_eq (a + b)
  obtain ⟨q2, h2⟩ := wrap_eq (W a + W b)
  exact W_congr (2 * q1 - 2 * q2 - p - r) (by rw [h1, h2, hp, hr]; omega)
theorem W_sub (a b : Int) : W (wrap64 (a - b)) = W (wrap64 (W a - W b)) := by
  obtain ⟨p, hp⟩ := W_eq a
  obtain ⟨r, hr⟩ := W_eq b
  obtain ⟨q1, h1⟩ := wrap_eq (a - b)
  obtain ⟨q2, h2⟩ := wrap_eq (W a - W b)
  exact W_congr (2 * q1 - 2 * q2 - p + r) (by rw [h1, h2, hp, hr]; omega)
theorem W_mul (a b : Int) : W (wrap64 (a * b)) = W (wrap64 (W a * W b)) := by
  obtain ⟨p, hp⟩ := W_eq a
  obtain ⟨r, hr⟩ := W_eq b
  obtain ⟨q1, h1⟩ := wrap_eq (a * b)
  obtain ⟨q2, h2⟩ := wrap_eq (W a * W b)
  have hm : W a * W b = a * b + (a * r + p * b + p * r * 9223372036854775808) * 9223372036854775808 := by
    rw [hp, hr]
    grind
  exact W_congr (2 * q1 - 2 * q2 - (a * r + p * b + p * r * 9223372036854775808)) (by rw [h1, h2, hm]; omega)
theorem W_id {n : Int} (h0 : -4611686018427387904 ≤ n) (h1 : n ≤ 4611686018427387903) : W n = n := by
  unfold W wrap64
  omega

theorem FnWraps : laws_FnWraps.Pure := by
  intro l _ hlen hb
  obtain ⟨a, ⟨K1, h1⟩, ha⟩ := DrawWrap (l := l) (by omega)
  obtain ⟨b, ⟨K2, h2⟩, hb⟩ := DrawFold (l := l) (by omega)
  dsimp only at h1 h2
  have ra := W_range a
  have hc : (W 4611686018427387904 != -4611686018427387904) = false := by simp [W, wrap64]
  refine ⟨K1 + K2 + 1, ?_⟩
  rw [laws_FnWraps.f, h1 _ (by omega), Option.bind_some, h2 _ (by omega), Option.bind_some]
  simp only [impl_Wrap, Option.bind_some]
  rw [W_idem, if_pos rfl, if_neg (by omega), if_neg (by omega), hc, laws_FnWraps.j0]
  simp only [impl_Wrap, Option.bind_some]
  rw [if_neg (by decide), W_add, if_pos rfl, W_mul, if_pos rfl, W_sub, if_pos rfl]
  by_cases c : W a = a
  · rw [if_pos c]
  · rw [if_neg c]
    by_cases c2 : a < -4611686018427387904
    · rw [if_pos c2]
    · rw [if_neg c2, decide_eq_true]
      by_cases c3 : a > 4611686018427387903
      · exact c3
      · exact absurd (W_id (by omega) (by omega)) c

end Go.Proofs.Ytophpcadfljkgaa.Pure
