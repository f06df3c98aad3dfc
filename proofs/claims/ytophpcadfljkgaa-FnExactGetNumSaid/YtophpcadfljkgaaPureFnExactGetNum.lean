/- The program's GetNum returns what the reference's GetNum returns, at all bytes and places, and leaves its argument. No condition. -/
import Derived.Test.YtophpcadfljkgaaE2
import Derived.Test.YtophpcadfljkgaaPAx0
import Derived.Test.YtophpcadfljkgaaPAx6
namespace Go.Proofs.Ytophpcadfljkgaa.Pure
open Go Go.RowKit Go.Proofs.Ytophpcadfljkgaa.PA Go.Proofs.Ytophpcadfljkgaa.M Go.Proofs.Ytophpcadfljkgaa.E Go.Proofs.YtophpcadfljkgaaW.PrintWords Go.Proofs.YtophpcadfljkgaaW.PrintLast

theorem FnExactGetNum : laws_FnExactGetNum.Pure := by
  intro l a _ hlen hb ha
  have hl : Byt l := fun x hx => wf_u8 (hb x hx)
  have ha2 := wf_i64 ha
  by_cases hbig : (l.length : Int) > 1048576
  · exact ⟨0, by rw [laws_FnExactGetNum.f, if_pos hbig]⟩
  · obtain ⟨K1, h1⟩ := Ev.use (toByteS (l := l) (by omega))
    obtain ⟨K2, h2⟩ := Ev.use (spec_GetNum (l := l) (a := a) hl (by omega) ha2.2)
    obtain ⟨K3, h3⟩ := Ev.use (impl_GetNum (l := l) (a := a) hl (by omega) ha2.2)
    obtain ⟨K4, h4⟩ := Ev.use (eqB (a := l) (by omega))
    refine ⟨K1 + K2 + K3 + K4 + 1, ?_⟩
    rw [laws_FnExactGetNum.f, if_neg hbig]
    simp (disch := omega) only [↓h1, ↓h2, ↓h3, ↓h4, laws_FnExactGetNum.j0, bne_self_eq_false, Bool.false_eq_true, ↓reduceIte]

end Go.Proofs.Ytophpcadfljkgaa.Pure
