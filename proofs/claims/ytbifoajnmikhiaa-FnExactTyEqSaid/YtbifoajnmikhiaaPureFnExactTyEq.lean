/- The program's TyEq returns what the reference's TyEq returns, at every two trees, and leaves its arguments. No condition. -/
import Derived.Test.YtbifoajnmikhiaaE3e
import Derived.Test.YtbifoajnmikhiaaPAx0
import Derived.Test.YtbifoajnmikhiaaPAx27
import Derived.Test.YtbifoajnmikhiaaPASFnExactTyEq
namespace Go.Proofs.Ytbifoajnmikhiaa.Pure
open Go Go.RowKit Go.Proofs.Ytbifoajnmikhiaa.PA Go.Proofs.Ytbifoajnmikhiaa.M Go.Proofs.Ytbifoajnmikhiaa.E Go.Proofs.YtbifoajnmikhiaaW.PrintWords Go.Proofs.YtbifoajnmikhiaaW.PrintLast

theorem FnExactTyEq : laws_FnExactTyEq.Pure := by
  intro x y hx hy
  rcases tyStart x hx with ⟨r, e1, hr⟩ | ⟨r, n, x', e1, hr, hr2, e2, hx', e5⟩
  · obtain ⟨K1, h1⟩ := Ev.use e1
    exact ⟨K1, by rw [laws_FnExactTyEq.f, h1 _ (by omega), if_pos hr]⟩
  · obtain ⟨m, hy⟩ := hy
    obtain ⟨r2, f1, _, hb, hN⟩ := szTy m y hy r (by omega) hr2
    obtain ⟨K1, h1⟩ := Ev.use e1
    obtain ⟨K6, h6⟩ := Ev.use f1
    by_cases c : r2 < 0
    · exact ⟨K1 + K6, by rw [laws_FnExactTyEq.f, h1 _ (by omega), if_neg hr, h6 _ (by omega), if_pos c]⟩
    · obtain ⟨y', f2, hy'⟩ := toTy m y (hN (by omega))
      obtain ⟨b, g1, g2⟩ := tyEq x' y' hx'
      obtain ⟨K2, h2⟩ := Ev.use e2
      obtain ⟨K3, h3⟩ := Ev.use f2
      obtain ⟨K4, h4⟩ := Ev.use g1
      obtain ⟨K5, h5⟩ := Ev.use g2
      obtain ⟨K7, h7⟩ := Ev.use e5
      obtain ⟨K8, h8⟩ := Ev.use (eqTy m y' hy')
      refine ⟨K1 + K2 + K3 + K4 + K5 + K6 + K7 + K8, ?_⟩
      rw [laws_FnExactTyEq.f]
      simp (disch := omega) only [↓h1, ↓h2, ↓h3, ↓h4, ↓h5, ↓h6, ↓h7, ↓h8, hr, c, bne_self_eq_false, Bool.false_eq_true, ↓reduceIte]

end Go.Proofs.Ytbifoajnmikhiaa.Pure
