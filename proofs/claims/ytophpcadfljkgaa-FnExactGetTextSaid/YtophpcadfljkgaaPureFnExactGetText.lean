/- The program's GetText returns what the reference's GetText returns, at all bytes and places, in new memory, and leaves its argument. No condition. -/
import Derived.Test.YtophpcadfljkgaaE2
import Derived.Test.YtophpcadfljkgaaPAx0
import Derived.Test.YtophpcadfljkgaaPAx28
namespace Go.Proofs.Ytophpcadfljkgaa.Pure
open Go Go.RowKit Go.Proofs.Ytophpcadfljkgaa.PA Go.Proofs.Ytophpcadfljkgaa.M Go.Proofs.Ytophpcadfljkgaa.E Go.Proofs.YtophpcadfljkgaaW.PrintWords Go.Proofs.YtophpcadfljkgaaW.PrintLast

theorem FnExactGetText : laws_FnExactGetText.Pure := by
  intro l a _ hlen hb ha
  have hl : Byt l := fun x hx => wf_u8 (hb x hx)
  have ha2 := wf_i64 ha
  by_cases hbig : (l.length : Int) > 1048576
  · exact ⟨0, by rw [laws_FnExactGetText.f, if_pos hbig]⟩
  · have hp : (getText l a).1.length ≤ l.length := getText_len l a
    obtain ⟨K1, h1⟩ := Ev.use (toByteS (l := l) (by omega))
    obtain ⟨K2, h2⟩ := Ev.use (spec_GetText (l := l) (a := a) hl (by omega) ha2.2)
    obtain ⟨K3, h3⟩ := Ev.use (impl_GetText (l := l) (a := a) hl (by omega) ha2.2)
    obtain ⟨K4, h4⟩ := Ev.use (eqB (a := l) (by omega))
    obtain ⟨K5, h5⟩ := Ev.use (eqB (a := (getText l a).1) (by omega))
    obtain ⟨K6, h6⟩ := Ev.use (markB (l := l) (a := 1) (by omega) (by omega) (by omega))
    obtain ⟨K7, h7⟩ := Ev.use (markB (l := (getText l a).1) (a := 1) (by omega) (by omega) (by omega))
    obtain ⟨K8, h8⟩ := Ev.use (heldB (n := (getText l a).1.length) (a := 1) (by omega) (by omega) (by omega))
    have c1 : ¬ (1 + (l.length : Int) < 0) := by omega
    have c2 : ¬ (1 + ((getText l a).1.length : Int) < 0) := by omega
    refine ⟨K1 + K2 + K3 + K4 + K5 + K6 + K7 + K8 + 1 + 1 + 1, ?_⟩
    rw [laws_FnExactGetText.f, if_neg hbig]
    simp (disch := omega) only [↓h1, ↓h2, ↓h3, ↓h4, ↓h5, ↓h6, ↓h7, ↓h8, c1, c2, laws_FnExactGetText.j0, laws_FnExactGetText.j1, laws_FnExactGetText.j2, bne_self_eq_false, Bool.false_eq_true, ↓reduceIte]

end Go.Proofs.Ytophpcadfljkgaa.Pure
