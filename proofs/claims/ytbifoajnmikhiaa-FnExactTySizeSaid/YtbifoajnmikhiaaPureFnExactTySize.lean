/- The program's TySize returns what the reference's TySize returns, at every tree, and leaves its argument. No condition. -/
import Derived.Test.YtbifoajnmikhiaaE3b
import Derived.Test.YtbifoajnmikhiaaPAx0
import Derived.Test.YtbifoajnmikhiaaPAx18
import Derived.Test.YtbifoajnmikhiaaPASFnExactTySize
namespace Go.Proofs.Ytbifoajnmikhiaa.Pure
open Go Go.RowKit Go.Proofs.Ytbifoajnmikhiaa.PA Go.Proofs.Ytbifoajnmikhiaa.M Go.Proofs.Ytbifoajnmikhiaa.E Go.Proofs.YtbifoajnmikhiaaW.PrintWords Go.Proofs.YtbifoajnmikhiaaW.PrintLast

theorem FnExactTySize : laws_FnExactTySize.Pure := by
  intro x hx
  rcases tyStart x hx with ⟨r, e1, hr⟩ | ⟨r, n, y, e1, hr, _, e2, hy, e5⟩
  · obtain ⟨K1, h1⟩ := Ev.use e1
    exact ⟨K1, by rw [laws_FnExactTySize.f, h1 _ (by omega), if_pos hr]⟩
  · obtain ⟨K1, h1⟩ := Ev.use e1
    obtain ⟨K2, h2⟩ := Ev.use e2
    obtain ⟨K3, h3⟩ := Ev.use (spec_TySize y)
    obtain ⟨K4, h4⟩ := Ev.use (impl_TySize y)
    obtain ⟨K5, h5⟩ := Ev.use e5
    refine ⟨K1 + K2 + K3 + K4 + K5, ?_⟩
    rw [laws_FnExactTySize.f]
    simp (disch := omega) only [↓h1, ↓h2, ↓h3, ↓h4, ↓h5, hr, ↓reduceIte]

end Go.Proofs.Ytbifoajnmikhiaa.Pure
