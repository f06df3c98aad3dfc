/- The program's HeapRoom returns what the reference's HeapRoom returns, at every heap, and leaves its argument. No condition. -/
import Derived.Test.YtblaelhcgemdeaaE5
import Derived.Test.YtblaelhcgemdeaaPAx0
import Derived.Test.YtblaelhcgemdeaaPAx21
import Derived.Test.YtblaelhcgemdeaaPAx22
import Derived.Test.YtblaelhcgemdeaaPAx23
import Derived.Test.YtblaelhcgemdeaaPASFnExactHeapRoom
namespace Go.Proofs.Ytblaelhcgemdeaa.Pure
open Go Go.RowKit Go.Proofs.Ytblaelhcgemdeaa.PA Go.Proofs.Ytblaelhcgemdeaa.M Go.Proofs.Ytblaelhcgemdeaa.E Go.Proofs.YtblaelhcgemdeaaW.PrintWords Go.Proofs.YtblaelhcgemdeaaW.PrintLast

def roomV (ws : List Int) (half low next : Int) (log : List AI) : Int := if HeapOk ws half low next log then wrap64 (wrap64 (low + half) - next) else 0
theorem impl_room (ws : List Int) (half low next : Int) (log : List AI) : impl_HeapRoom.f ws half low next log = some (roomV ws half low next log) := by
  unfold impl_HeapRoom.f roomV
  rw [impl_HeapOk, Option.bind_some]
  by_cases c : HeapOk ws half low next log
  · rw [if_pos (decide_eq_true c), if_pos c]
  · rw [if_neg (by simp [c]), if_neg c]
theorem spec_room (ws : List Int) (half low next : Int) (log : List AI) : spec_HeapRoom.f ws half low next log = some (roomV ws half low next log) := by
  unfold spec_HeapRoom.f roomV
  rw [spec_HeapOk, Option.bind_some]
  by_cases c : HeapOk ws half low next log
  · rw [if_pos (decide_eq_true c), if_pos c]
  · rw [if_neg (by simp [c]), if_neg c]

theorem FnExactHeapRoom : laws_FnExactHeapRoom.Pure := by
  intro x hx
  rcases heapStart x hx with ⟨r, e1, hr⟩ | ⟨r, e1, hr, _, _, e2, e3⟩
  · exact ⟨0, by rw [laws_FnExactHeapRoom.f, e1, Option.bind_some, if_pos hr]⟩
  · obtain ⟨K2, h2⟩ := Ev.use e2
    obtain ⟨K3, h3⟩ := Ev.use e3
    refine ⟨K2 + K3, ?_⟩
    rw [laws_FnExactHeapRoom.f, e1, Option.bind_some, if_neg hr]
    simp (disch := omega) only [↓h2, ↓h3, impl_room, spec_room, Option.bind_some, ↓reduceIte]

end Go.Proofs.Ytblaelhcgemdeaa.Pure
