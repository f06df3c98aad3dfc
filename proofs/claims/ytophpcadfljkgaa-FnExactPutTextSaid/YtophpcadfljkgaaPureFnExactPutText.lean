/- The program's PutText returns what the reference's PutText returns, at all bytes and texts, in new memory, and leaves its arguments. No condition. -/
import Derived.Test.YtophpcadfljkgaaE2
import Derived.Test.YtophpcadfljkgaaPAx0
import Derived.Test.YtophpcadfljkgaaPAx25
namespace Go.Proofs.Ytophpcadfljkgaa.Pure
open Go Go.RowKit Go.Proofs.Ytophpcadfljkgaa.PA Go.Proofs.Ytophpcadfljkgaa.M Go.Proofs.Ytophpcadfljkgaa.E Go.Proofs.YtophpcadfljkgaaW.PrintWords Go.Proofs.YtophpcadfljkgaaW.PrintLast

theorem FnExactPutText : laws_FnExactPutText.Pure := by
  intro l t _ hlen hb _ htlen htb
  by_cases hbig : (l.length : Int) > 1048576
  · exact ⟨0, by rw [laws_FnExactPutText.f, if_pos hbig]⟩
  · by_cases hbig2 : (t.length : Int) > 1048576
    · exact ⟨0, by rw [laws_FnExactPutText.f, if_neg hbig, if_pos hbig2]⟩
    · have hp : (putText l t).length ≤ l.length + 45 := putText_len l t
      obtain ⟨K1, h1⟩ := Ev.use (toByteS (l := l) (by omega))
      obtain ⟨K2, h2⟩ := Ev.use (toByteS (l := t) (by omega))
      obtain ⟨K3, h3⟩ := Ev.use (spec_PutText (l := l) (t := t) (by omega))
      obtain ⟨K4, h4⟩ := Ev.use (impl_PutText (l := l) (t := t) (by omega))
      obtain ⟨K5, h5⟩ := Ev.use (eqB (a := l) (by omega))
      obtain ⟨K6, h6⟩ := Ev.use (eqB (a := t) (by omega))
      obtain ⟨K7, h7⟩ := Ev.use (eqB (a := putText l t) (by omega))
      obtain ⟨K8, h8⟩ := Ev.use (markB (l := l) (a := 1) (by omega) (by omega) (by omega))
      obtain ⟨K9, h9⟩ := Ev.use (markB (l := t) (a := 1 + (l.length : Int)) (by omega) (by omega) (by omega))
      obtain ⟨K10, h10⟩ := Ev.use (markB (l := putText l t) (a := 1) (by omega) (by omega) (by omega))
      obtain ⟨K11, h11⟩ := Ev.use (heldB (n := (putText l t).length) (a := 1) (by omega) (by omega) (by omega))
      have c1 : ¬ (1 + (l.length : Int) + (t.length : Int) < 0) := by omega
      have c2 : ¬ (1 + ((putText l t).length : Int) < 0) := by omega
      refine ⟨K1 + K2 + K3 + K4 + K5 + K6 + K7 + K8 + K9 + K10 + K11 + 1, ?_⟩
      rw [laws_FnExactPutText.f, if_neg hbig, if_neg hbig2]
      simp (disch := omega) only [↓h1, ↓h2, ↓h3, ↓h4, ↓h5, ↓h6, ↓h7, ↓h8, ↓h9, ↓h10, ↓h11, c1, c2, laws_FnExactPutText.j0, Bool.not_true, Bool.false_eq_true, ↓reduceIte]

end Go.Proofs.Ytophpcadfljkgaa.Pure
