/- What HeapOk comes to, in the program and in the reference; what the laws on a heap begin with. -/
import Derived.Test.YtblaelhcgemdeaaE4
import Derived.Test.YtblaelhcgemdeaaPAx0
import Derived.Test.YtblaelhcgemdeaaPAx1
import Derived.Test.YtblaelhcgemdeaaPAx2
import Derived.Test.YtblaelhcgemdeaaPAx6
import Derived.Test.YtblaelhcgemdeaaPAx7
import Derived.Test.YtblaelhcgemdeaaPAx11
import Derived.Test.YtblaelhcgemdeaaPAR
namespace Go.Proofs.Ytblaelhcgemdeaa.E
open Go Go.RowKit Go.Proofs.Ytblaelhcgemdeaa.PA Go.Proofs.Ytblaelhcgemdeaa.M Go.Proofs.YtblaelhcgemdeaaW.PrintWords Go.Proofs.YtblaelhcgemdeaaW.PrintLast Go.Proofs.YtblaelhcgemdeaaW.PrintMore

def HeapOk (ws : List Int) (half low next : Int) (log : List AI) : Prop := 16 ≤ half ∧ half ≤ 4096 ∧ (ws.length : Int) = 2 * half ∧ log.length ≤ 4000 ∧ (low = 0 ∨ low = half) ∧ low ≤ next ∧ next ≤ low + half
instance (ws : List Int) (half low next : Int) (log : List AI) : Decidable (HeapOk ws half low next log) := by unfold HeapOk; infer_instance

theorem impl_HeapOk (ws : List Int) (half low next : Int) (log : List AI) : impl_HeapOk.f ws half low next log = some (decide (HeapOk ws half low next log)) := by
  unfold impl_HeapOk.f
  by_cases c1 : 16 ≤ half ∧ half ≤ 4096
  · rw [within_in c1.1 c1.2, Option.bind_some, if_pos rfl, w64 (n := 2 * half) (by omega) (by omega)]
    by_cases c2 : (ws.length : Int) = 2 * half
    · rw [if_pos c2]
      by_cases c3 : (log.length : Int) ≤ 4000
      · rw [if_pos c3]
        by_cases c4 : low = 0
        · rw [if_pos c4, within, Option.bind_some, w64 (n := low + half) (by omega) (by omega)]
          congr 1
          rw [decide_eq_decide]
          unfold HeapOk
          omega
        · rw [if_neg c4]
          by_cases c5 : low = half
          · rw [if_pos c5, within, Option.bind_some, w64 (n := low + half) (by omega) (by omega)]
            congr 1
            rw [decide_eq_decide]
            unfold HeapOk
            omega
          · rw [if_neg c5, decide_eq_false (by unfold HeapOk; omega)]
      · rw [if_neg c3, decide_eq_false (by unfold HeapOk; omega)]
    · rw [if_neg c2, decide_eq_false (by unfold HeapOk; omega)]
  · rw [within_out c1, Option.bind_some, if_neg (by decide), decide_eq_false (by unfold HeapOk; omega)]

theorem spec_HeapOk (ws : List Int) (half low next : Int) (log : List AI) : spec_HeapOk.f ws half low next log = some (decide (HeapOk ws half low next log)) := by
  unfold spec_HeapOk.f
  by_cases c1 : half < 16
  · rw [if_pos c1, decide_eq_false (by unfold HeapOk; omega)]
  rw [if_neg c1]
  by_cases c2 : half > 4096
  · rw [if_pos c2, decide_eq_false (by unfold HeapOk; omega)]
  rw [if_neg c2, w64 (n := 2 * half) (by omega) (by omega)]
  by_cases c3 : (ws.length : Int) = 2 * half
  · rw [if_pos c3]
    by_cases c4 : (log.length : Int) > 4000
    · rw [if_pos c4, decide_eq_false (by unfold HeapOk; omega)]
    rw [if_neg c4]
    by_cases c5 : low = 0
    · rw [if_pos c5, w64 (n := low + half) (by omega) (by omega)]
      by_cases c6 : next ≥ low
      · rw [if_pos c6]
        congr 1
        rw [decide_eq_decide]
        unfold HeapOk
        omega
      · rw [if_neg c6, decide_eq_false (by unfold HeapOk; omega)]
    · rw [if_neg c5]
      by_cases c7 : low = half
      · rw [if_pos c7, w64 (n := low + half) (by omega) (by omega)]
        by_cases c6 : next ≥ low
        · rw [if_pos c6]
          congr 1
          rw [decide_eq_decide]
          unfold HeapOk
          omega
        · rw [if_neg c6, decide_eq_false (by unfold HeapOk; omega)]
      · rw [if_neg c7, decide_eq_false (by unfold HeapOk; omega)]
  · rw [if_neg c3, decide_eq_false (by unfold HeapOk; omega)]

abbrev HL := S25

def conv (l : List AL) : List AI := l.map fun a => ⟨a.f0, a.f1, a.f2⟩

/-- What all laws on one heap begin with. -/
theorem heapStart (x : HL) (hx : W25 x) : (∃ r, laws_szHeap.f x.f0 x.f1 x.f2 x.f3 x.f4 1048576 = some r ∧ r < 0) ∨
    ∃ r, laws_szHeap.f x.f0 x.f1 x.f2 x.f3 x.f4 1048576 = some r ∧ ¬ r < 0 ∧ x.f0.length ≤ 1048576 ∧ (conv x.f4).length ≤ 1048576 ∧ Ev (fun k => laws_toHeap.f k x.f0 x.f1 x.f2 x.f3 x.f4) (x.f0, x.f1, x.f2, x.f3, conv x.f4) ∧
      Ev (fun k => laws_eqHeap.f k x.f0 x.f1 x.f2 x.f3 (conv x.f4) x.f0 x.f1 x.f2 x.f3 (conv x.f4)) true := by
  obtain ⟨⟨hl0, _⟩, _, _, _, ⟨hl4, _⟩⟩ := hx
  simp only [maxLen] at hl0 hl4
  have w0 : wrap64 (1048576 - (x.f0.length : Int)) = 1048576 - (x.f0.length : Int) := w64 (by omega) (by omega)
  by_cases c : 1048576 - (x.f0.length : Int) < 0
  · refine .inl ⟨-1, ?_, by omega⟩
    rw [laws_szHeap.f, laws_szIntS.f, w0, if_pos c, Option.bind_some, if_pos (by omega)]
  · have w1 : wrap64 (1048576 - (x.f0.length : Int) - (x.f4.length : Int)) = 1048576 - (x.f0.length : Int) - (x.f4.length : Int) := w64 (by omega) (by omega)
    by_cases c2 : 1048576 - (x.f0.length : Int) - (x.f4.length : Int) < 0
    · refine .inl ⟨-1, ?_, by omega⟩
      rw [laws_szHeap.f, laws_szIntS.f, w0, if_neg c, Option.bind_some, if_neg c, laws_szAccessS.f, w1, if_pos c2, Option.bind_some, if_pos (by omega)]
    · have hc : (conv x.f4).length = x.f4.length := by simp [conv]
      obtain ⟨K1, h1⟩ := Ev.use (toIntS (l := x.f0) (by omega))
      obtain ⟨K2, h2⟩ := Ev.use (toAccessS (l := x.f4) (by omega))
      obtain ⟨K3, h3⟩ := Ev.use (eqIntS (l := x.f0) (by omega))
      obtain ⟨K4, h4⟩ := Ev.use (eqAccessS (l := conv x.f4) (by omega))
      refine .inr ⟨1048576 - (x.f0.length : Int) - (x.f4.length : Int), ?_, by omega, by omega, by omega, ⟨K1 + K2, fun k hk => ?_⟩, ⟨K3 + K4, fun k hk => ?_⟩⟩
      · rw [laws_szHeap.f, laws_szIntS.f, w0, if_neg c, Option.bind_some, if_neg c, laws_szAccessS.f, w1, if_neg c2, Option.bind_some, if_neg c2]
      · show laws_toHeap.f k x.f0 x.f1 x.f2 x.f3 x.f4 = _
        rw [laws_toHeap.f, h1 k (by omega), h2 k (by omega)]
        rfl
      · show laws_eqHeap.f k x.f0 x.f1 x.f2 x.f3 (conv x.f4) x.f0 x.f1 x.f2 x.f3 (conv x.f4) = _
        rw [laws_eqHeap.f, h3 k (by omega), if_pos rfl, if_pos rfl, if_pos rfl, if_pos rfl, h4 k (by omega), if_pos rfl]

end Go.Proofs.Ytblaelhcgemdeaa.E
