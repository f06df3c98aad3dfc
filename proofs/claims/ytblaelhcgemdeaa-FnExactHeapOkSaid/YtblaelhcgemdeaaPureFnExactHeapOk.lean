/- The program's HeapOk returns what the reference's HeapOk returns, at every heap, and leaves its argument. No condition. -/
import Derived.Test.YtblaelhcgemdeaaE5
import Derived.Test.YtblaelhcgemdeaaPAx0
import Derived.Test.YtblaelhcgemdeaaPAx12
import Derived.Test.YtblaelhcgemdeaaPASFnExactHeapOk
namespace Go.Proofs.Ytblaelhcgemdeaa.Pure
open Go Go.RowKit Go.Proofs.Ytblaelhcgemdeaa.PA Go.Proofs.Ytblaelhcgemdeaa.M Go.Proofs.Ytblaelhcgemdeaa.E Go.Proofs.YtblaelhcgemdeaaW.PrintWords Go.Proofs.YtblaelhcgemdeaaW.PrintLast

theorem FnExactHeapOk : laws_FnExactHeapOk.Pure := by
  intro x hx
  rcases heapStart x hx with ⟨r, e1, hr⟩ | ⟨r, e1, hr, _, _, e2, e3⟩
  · exact ⟨0, by rw [laws_FnExactHeapOk.f, e1, Option.bind_some, if_pos hr]⟩
  · obtain ⟨K2, h2⟩ := Ev.use e2
    obtain ⟨K3, h3⟩ := Ev.use e3
    refine ⟨K2 + K3, ?_⟩
    rw [laws_FnExactHeapOk.f, e1, Option.bind_some, if_neg hr]
    simp (disch := omega) only [↓h2, ↓h3, impl_HeapOk, spec_HeapOk, Option.bind_some, bne_self_eq_false, Bool.false_eq_true, ↓reduceIte]

end Go.Proofs.Ytblaelhcgemdeaa.Pure
