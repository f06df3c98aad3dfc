/-
  The law of Alloc.
-/
import Derived.Test.YtepljphcjpcpiaaPAlloc
set_option linter.unusedVariables false
set_option linter.unusedSimpArgs false
namespace Go.Ev.Q
open Go Go.Ev

abbrev aggT : MS := .agg [.own 2, .int .i64, .int .i64, .int .i64, .own 3]
abbrev rows4 : List ES := [.row 1 false false, .row 3 false false, .row 1 false true, .row 3 false true]

/-- What Alloc comes to. -/
theorem alloc_both (w : List Int) (h l n : Int) (g : List Access) (x : Int) (hs : w.length + g.length ≤ 1048576) : ∃ (w' : List Int) (h' l' n' : Int) (g' : List Access) (p : Int) (ok : Bool), w'.length ≤ 1048576 ∧ g'.length ≤ 1048576 ∧
    (∀ f : _ → _ → Res, ocall (.tup [aggT, .one (.int .i64), .one .bool]) rows4 (spec_Alloc h l n x (ints w) (accs g)) f = f (((), h', l', n', (), ()), p, ok, ()) (ints w, accs g, ints w', accs g', ())) ∧
    (∀ f : _ → _ → Res, ocall (.tup [aggT, .one (.int .i64), .one .bool]) rows4 (impl_Alloc h l n x (ints w) (accs g)) f = f (((), h', l', n', (), ()), p, ok, ()) (ints w, accs g, ints w', accs g', ())) := by
  by_cases ho : hOk w h l n g
  · by_cases hf : fits x h l n
    · refine ⟨zeroed w n.toNat x.toNat, h, l, n + x, g, n, true, by rw [zeroed_len (by omega)]; omega, by omega, fun f => ?_, fun f => ?_⟩
      · rw [spec_Alloc_eq, spec_HeapOk_ok, ocall_t (t := decide (hOk w h l n g)) (u := (ints w, accs g, ())) rfl rfl rfl, oite_not, oite_dec, if_pos ho, spec_l2copy_ok w h l n g (by omega) (by omega),
          ocall_t (t := ((), h, l, n, (), ())) (u := (ints w, accs g, ints w, accs g, ())) rfl rfl rfl, spec_l2alloc_ok x w h l n g ho, if_pos hf,
          ocall_t (t := (n, true, ())) (u := (((), h, l, n + x, (), ()), ints (zeroed w n.toNat x.toNat), accs g, ())) rfl rfl rfl]
        exact ocall_t rfl rfl rfl
      · rw [impl_Alloc_eq, impl_HeapOk_ok, ocall_t (t := decide (hOk w h l n g)) (u := (ints w, accs g, ())) rfl rfl rfl, oite_not, oite_dec, if_pos ho, cloneHeap_ok w h l n g (by omega) (by omega),
          ocall_t (t := ((), h, l, n, (), ())) (u := (ints w, accs g, ints w, accs g, ())) rfl rfl rfl, impl_alloc_ok x w h l n g ho, if_pos hf,
          ocall_t (t := (n, true, ())) (u := (((), h, l, n + x, (), ()), ints (zeroed w n.toNat x.toNat), accs g, ())) rfl rfl rfl]
        exact ocall_t rfl rfl rfl
    · refine ⟨w, h, l, n, g, 0, false, by omega, by omega, fun f => ?_, fun f => ?_⟩
      · rw [spec_Alloc_eq, spec_HeapOk_ok, ocall_t (t := decide (hOk w h l n g)) (u := (ints w, accs g, ())) rfl rfl rfl, oite_not, oite_dec, if_pos ho, spec_l2copy_ok w h l n g (by omega) (by omega),
          ocall_t (t := ((), h, l, n, (), ())) (u := (ints w, accs g, ints w, accs g, ())) rfl rfl rfl, spec_l2alloc_ok x w h l n g ho, if_neg hf,
          ocall_t (t := (0, false, ())) (u := (((), h, l, n, (), ()), ints w, accs g, ())) rfl rfl rfl]
        exact ocall_t rfl rfl rfl
      · rw [impl_Alloc_eq, impl_HeapOk_ok, ocall_t (t := decide (hOk w h l n g)) (u := (ints w, accs g, ())) rfl rfl rfl, oite_not, oite_dec, if_pos ho, cloneHeap_ok w h l n g (by omega) (by omega),
          ocall_t (t := ((), h, l, n, (), ())) (u := (ints w, accs g, ints w, accs g, ())) rfl rfl rfl, impl_alloc_ok x w h l n g ho, if_neg hf,
          ocall_t (t := (0, false, ())) (u := (((), h, l, n, (), ()), ints w, accs g, ())) rfl rfl rfl]
        exact ocall_t rfl rfl rfl
  · refine ⟨[], 0, 0, 0, [], 0, false, by simp, by simp, fun f => ?_, fun f => ?_⟩
    · rw [spec_Alloc_eq, spec_HeapOk_ok, ocall_t (t := decide (hOk w h l n g)) (u := (ints w, accs g, ())) rfl rfl rfl, oite_not, oite_dec, if_neg ho]
      exact ocall_t rfl rfl rfl
    · rw [impl_Alloc_eq, impl_HeapOk_ok, ocall_t (t := decide (hOk w h l n g)) (u := (ints w, accs g, ())) rfl rfl rfl, oite_not, oite_dec, if_neg ho]
      exact ocall_t rfl rfl rfl

theorem alloc_true (t : Heap) (ho : t.ok) (x : Int) (_ : inI x) : laws_FnExactAlloc t.ts x = some (.d (.bool true), []) := by
  cases ho with
  | @mk w h l n g hw hh hl hn hg ha =>
    rw [laws_FnExactAlloc_eq, szHeap_ok w h l n g hw hg, ocall_int, oite_dec]
    by_cases hs : w.length + g.length ≤ 1048576
    rotate_left
    · simp only [if_neg hs]
      rw [if_pos (by decide)]
    simp only [if_pos hs]
    rw [if_neg (show ¬ (((1048576 - (w.length + g.length) : Nat) : Int) < 0) by omega)]
    obtain ⟨w', h', l', n', g', p, ok, hw', hg', hS, hI⟩ := alloc_both w h l n g x hs
    have to : ∀ f : _ → _ → Res, ocall (.m (.agg [(.own 0), (.int .i64), (.int .i64), (.int .i64), (.own 1)])) [(.row 1 false true), (.row 3 false true)] (laws_toHeap (Heap.ts (.mk w h l n g))) f = f ((), h, l, n, (), ()) (ints w, accs g, ()) := fun f => by
      rw [toHeap_ok w h l n g hs]; exact ocall_t rfl rfl rfl
    have eq' : ∀ f : _ → _ → Res, ocall (.m (.one .bool)) [(.row 1 false false), (.row 3 false false), (.row 1 false false), (.row 3 false false)] (laws_eqHeap h' l' n' h' l' n' (ints w') (accs g') (ints w') (accs g')) f = f true (ints w', accs g', ints w', accs g', ()) := fun f => by
      rw [eqHeap_ok w' h' l' n' g' hw' hg']; exact ocall_t rfl rfl rfl
    have eq0 : ∀ f : _ → _ → Res, ocall (.m (.one .bool)) [(.row 1 false false), (.row 3 false false), (.row 1 false false), (.row 3 false false)] (laws_eqHeap h l n h l n (ints w) (accs g) (ints w) (accs g)) f = f true (ints w, accs g, ints w, accs g, ()) := fun f => by
      rw [eqHeap_ok w h l n g (by omega) (by omega)]; exact ocall_t rfl rfl rfl
    have hrest : laws_FnExactAlloc_j3 ok p x h' l' n' h' l' n' (Heap.ts (.mk w h l n g)) (ints w') (accs g') (ints w') (accs g') = some (.d (.bool true), []) := by
      rw [laws_FnExactAlloc_j3_eq, markHeap_ok w' h' l' n' g' (by omega) (by omega), ocall_rIA, heldHeap_ok _ _ h' l' n' (by omega) (by omega), ocall_rIA, oite_dec, if_neg (by omega), oite_not, beq_self_eq_true, oite_t]
      refine (to _).trans ?_
      refine (hI _).trans ?_
      refine (eq' _).trans ?_
      simp only [oite_not, oite_t, oite_f, beq_self_eq_true, Bool.not_true]
      rw [laws_FnExactAlloc_j6_eq, oite_f, laws_FnExactAlloc_j5_eq, heldHeap_ok _ _ h' l' n' (by omega) (by omega), ocall_rIA, oite_dec, if_neg (by omega), oite_not, beq_self_eq_true, oite_t]
    refine (to _).trans ?_
    refine (hS _).trans ?_
    refine (to _).trans ?_
    refine (hI _).trans ?_
    refine (eq' _).trans ?_
    simp only [oite_not, oite_t, oite_f, beq_self_eq_true, Bool.not_true]
    rw [laws_FnExactAlloc_j2_eq, oite_f, laws_FnExactAlloc_j1_eq]
    refine (to _).trans ?_
    refine (eq0 _).trans ?_
    simp only [oite_not, oite_t]
    rw [markHeap_ok w h l n g (by omega) (by omega), ocall_rIA, oite_dec, if_neg (by omega)]
    refine (eq' _).trans ?_
    simp only [oite_not, oite_t, oite_f, beq_self_eq_true, Bool.not_true]
    rw [laws_FnExactAlloc_j4_eq, oite_f]
    exact hrest
end Go.Ev.Q
