/- The program's HeapNew returns what the reference's HeapNew returns, at every number, in new memory. No condition. -/
import Derived.Test.YtblaelhcgemdeaaE5
import Derived.Test.YtblaelhcgemdeaaPAx0
import Derived.Test.YtblaelhcgemdeaaPAx11
import Derived.Test.YtblaelhcgemdeaaPAx13
import Derived.Test.YtblaelhcgemdeaaPAx15
import Derived.Test.YtblaelhcgemdeaaPAx16
import Derived.Test.YtblaelhcgemdeaaPAx18
import Derived.Test.YtblaelhcgemdeaaPAx19
import Derived.Test.YtblaelhcgemdeaaPAx20
namespace Go.Proofs.Ytblaelhcgemdeaa.Pure
open Go Go.RowKit Go.Proofs.Ytblaelhcgemdeaa.PA Go.Proofs.Ytblaelhcgemdeaa.M Go.Proofs.Ytblaelhcgemdeaa.E Go.Proofs.YtblaelhcgemdeaaW.PrintWords Go.Proofs.YtblaelhcgemdeaaW.PrintLast

def new (a : Int) : List Int × Int × Int × Int × List AI × Bool := if 16 ≤ a ∧ a ≤ 4096 then (List.replicate (2 * a).toNat 0, a, 0, 0, [], true) else ([], 0, 0, 0, [], false)

theorem impl_HeapNew (a : Int) : impl_HeapNew.f a = some (new a) := by
  unfold impl_HeapNew.f new
  by_cases c : 16 ≤ a ∧ a ≤ 4096
  · rw [within_in c.1 c.2, Option.bind_some, if_pos rfl, w64 (by omega) (by omega), if_pos (by omega), if_pos (by omega), if_pos c]
  · rw [within_out c, Option.bind_some, if_neg (by decide), if_neg c]
theorem spec_HeapNew (a : Int) : spec_HeapNew.f a = some (new a) := by
  unfold spec_HeapNew.f new
  by_cases c1 : a < 16
  · rw [if_pos c1, if_neg (by omega)]
  · by_cases c2 : a > 4096
    · rw [if_neg c1, if_pos c2, if_neg (by omega)]
    · rw [if_neg c1, if_neg c2, w64 (by omega) (by omega), if_pos (by omega), if_pos (by omega), if_pos (by omega)]

theorem eqHeap0 (ws : List Int) (a b c : Int) (h : ws.length ≤ 281474976710656) : Ev (fun k => laws_eqHeap.f k ws a b c [] ws a b c []) true := by
  obtain ⟨K1, h1⟩ := Ev.use (eqIntS (l := ws) h)
  obtain ⟨K2, h2⟩ := Ev.use (eqAccessS (l := []) (by simp))
  refine ⟨K1 + K2, fun k hk => ?_⟩
  show laws_eqHeap.f k ws a b c [] ws a b c [] = _
  rw [laws_eqHeap.f, h1 k (by omega), if_pos rfl, if_pos rfl, if_pos rfl, if_pos rfl, h2 k (by omega), if_pos rfl]
theorem markHeap0 (ws : List Int) (a b c : Int) (h : ws.length ≤ 281474976710656) : Ev (fun k => laws_markHeap.f k ws a b c [] 1) (1 + (ws.length : Int), imarks ws.length 1, []) := by
  obtain ⟨K1, h1⟩ := Ev.use (markI (l := ws) (a := 1) h (by omega) (by omega))
  refine ⟨K1 + 1, fun k hk => ?_⟩
  obtain ⟨k, rfl⟩ : ∃ m, k = m + 1 := ⟨k - 1, by omega⟩
  show laws_markHeap.f (k + 1) ws a b c [] 1 = _
  rw [laws_markHeap.f, h1 (k + 1) (by omega), laws_markAccessS.f, laws_markAccessS.l0, if_neg (by decide), Option.bind_some]
theorem heldHeap0 (n : Nat) (a b c : Int) (h : n ≤ 281474976710656) : Ev (fun k => laws_heldHeap.f k (imarks n 1) a b c [] 1) (1 + (n : Int)) := by
  obtain ⟨K1, h1⟩ := Ev.use (heldI (n := n) (a := 1) h (by omega) (by omega))
  refine ⟨K1 + 1, fun k hk => ?_⟩
  obtain ⟨k, rfl⟩ : ∃ m, k = m + 1 := ⟨k - 1, by omega⟩
  show laws_heldHeap.f (k + 1) (imarks n 1) a b c [] 1 = _
  rw [laws_heldHeap.f, h1 (k + 1) (by omega), if_neg (by omega), laws_heldAccessS.f, laws_heldAccessS.l0, if_neg (by decide), Option.bind_some, if_neg (by omega)]

theorem FnExactHeapNew : laws_FnExactHeapNew.Pure := by
  intro a _
  obtain ⟨ws, b, c, d, ok, hn, hl⟩ : ∃ ws b c d ok, new a = (ws, b, c, d, [], ok) ∧ ws.length ≤ 281474976710656 := by
    unfold new
    by_cases c : 16 ≤ a ∧ a ≤ 4096
    · rw [if_pos c]
      exact ⟨_, _, _, _, _, rfl, by rw [List.length_replicate]; omega⟩
    · rw [if_neg c]
      exact ⟨_, _, _, _, _, rfl, by simp⟩
  obtain ⟨K1, h1⟩ := Ev.use (eqHeap0 ws b c d hl)
  obtain ⟨K2, h2⟩ := Ev.use (markHeap0 ws b c d hl)
  obtain ⟨K3, h3⟩ := Ev.use (heldHeap0 ws.length b c d hl)
  have hneg : ¬ (1 + (ws.length : Int) < 0) := by omega
  refine ⟨K1 + K2 + K3 + 1 + 1, ?_⟩
  rw [laws_FnExactHeapNew.f]
  simp (disch := omega) only [impl_HeapNew, spec_HeapNew, hn, ↓h1, ↓h2, ↓h3, hneg, laws_FnExactHeapNew.j0, laws_FnExactHeapNew.j1, Option.bind_some, bne_self_eq_false, Bool.false_eq_true, ↓reduceIte]

end Go.Proofs.Ytblaelhcgemdeaa.Pure
