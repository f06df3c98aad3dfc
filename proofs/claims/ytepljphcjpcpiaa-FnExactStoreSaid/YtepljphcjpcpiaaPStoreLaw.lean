/-
  The law of Store.
-/
import Derived.Test.YtepljphcjpcpiaaPTouch
set_option linter.unusedVariables false
set_option linter.unusedSimpArgs false
namespace Go.Ev.Q
open Go Go.Ev

theorem put_word {w : List Int} {i v : Int} (h0 : 0 ≤ i) (h1 : i < w.length) : List.set (ints w).2 i.toNat (putD (List.getD (ints w).2 i.toNat []) 0 [D.int .i64 v]) = (ints (w.set i.toNat v)).2 := by
  have e : List.getD (ints w).2 i.toNat [] = [D.int .i64 (w[i.toNat]'(by omega))] := by
    rw [ints_es, List.getD_eq_getElem?_getD, List.getElem?_map, List.getElem?_eq_getElem (by omega)]; rfl
  rw [e, show ∀ b : Int, putD [D.int .i64 b] 0 [D.int .i64 v] = [D.int .i64 v] from fun _ => rfl, ints_es, ints_es, List.map_set]

theorem store_parts (p o v h l n : Int) (w : List Int) (g : List Access) (ho : hOk w h l n g) : ∃ (ok : Bool) (w' : List Int) (g' : List Access), w'.length = w.length ∧ g'.length ≤ 4001 ∧
    (∀ f : _ → _ → Res, ocall (.m (.one .bool)) [.box [.own 1, .int .i64, .int .i64, .int .i64, .own 2], .row 1 false false, .row 3 false true] (spec_l2store p o v h l n (ints w) (accs g)) f = f ok (((), h, l, n, (), ()), ints w', accs g', ())) ∧
    (∀ f : _ → _ → Res, ocall (.m (.one .bool)) [.box [.own 1, .int .i64, .int .i64, .int .i64, .own 2], .row 1 false false, .row 3 false true] (impl_Heap_store p o v h l n (ints w) (accs g)) f = f ok (((), h, l, n, (), ()), ints w', accs g', ())) := by
  by_cases hp : inP p o l n
  · have hn : (ints w).1 = (ints (w.set (p + o).toNat v)).1 := by rw [ints_n, ints_n, List.length_set]
    refine ⟨true, w.set (p + o).toNat v, logd g (.mk (p + o) l n), by rw [List.length_set], logd_len (by omega), fun f => ?_, fun f => ?_⟩
    · rw [spec_l2store_eq, l2in_ok p o h l n w g ho, ocall_t (t := decide (inP p o l n)) (u := (((), h, l, n, (), ()), ints w, accs g, ())) rfl rfl rfl, oite_not, oite_dec, if_pos hp, w64_id (x := p + o) (by omega) (by omega),
        l2log_ok (p + o) h l n w g (by omega), ocall_t (t := ()) (u := (((), h, l, n, (), ()), ints w, accs (logd g (.mk (p + o) l n)), ())) rfl rfl rfl, oguard_dec ⟨by omega, by simp only [ints_n]; omega⟩, olet_eq]
      simp only
      rw [put_word (by omega) (by omega), hn]
      exact ocall_t rfl rfl rfl
    · rw [impl_Heap_store_eq, touch_ok p o h l n w g ho, if_pos hp, ocall_t (t := true) (u := (((), h, l, n, (), ()), ints w, accs (logd g (.mk (p + o) l n)), ())) rfl rfl rfl, oite_not, oite_t, w64_id (x := p + o) (by omega) (by omega), oguard_dec ⟨by omega, by simp only [ints_n]; omega⟩, olet_eq]
      simp only
      rw [put_word (by omega) (by omega), hn]
      exact ocall_t rfl rfl rfl
  · refine ⟨false, w, g, rfl, by omega, fun f => ?_, fun f => ?_⟩
    · rw [spec_l2store_eq, l2in_ok p o h l n w g ho, ocall_t (t := decide (inP p o l n)) (u := (((), h, l, n, (), ()), ints w, accs g, ())) rfl rfl rfl, oite_not, oite_dec, if_neg hp]
      exact ocall_t rfl rfl rfl
    · rw [impl_Heap_store_eq, touch_ok p o h l n w g ho, if_neg hp, ocall_t (t := false) (u := (((), h, l, n, (), ()), ints w, accs g, ())) rfl rfl rfl, oite_not, oite_f]
      exact ocall_t rfl rfl rfl

theorem store_both (w : List Int) (h l n : Int) (g : List Access) (p o v : Int) : ∃ (w' : List Int) (h' l' n' : Int) (g' : List Access) (ok : Bool), w'.length ≤ 1048576 ∧ g'.length ≤ 1048576 ∧
    (∀ f : _ → _ → Res, ocall (.tup [aggT, .one .bool]) rows4 (spec_Store h l n p o v (ints w) (accs g)) f = f (((), h', l', n', (), ()), ok, ()) (ints w, accs g, ints w', accs g', ())) ∧
    (∀ f : _ → _ → Res, ocall (.tup [aggT, .one .bool]) rows4 (impl_Store h l n p o v (ints w) (accs g)) f = f (((), h', l', n', (), ()), ok, ()) (ints w, accs g, ints w', accs g', ())) := by
  by_cases ho : hOk w h l n g
  · obtain ⟨ok, w', g', hw', hg', hS, hI⟩ := store_parts p o v h l n w g ho
    refine ⟨w', h, l, n, g', ok, by omega, by omega, fun f => ?_, fun f => ?_⟩
    · rw [spec_Store_eq, spec_HeapOk_ok, ocall_t (t := decide (hOk w h l n g)) (u := (ints w, accs g, ())) rfl rfl rfl, oite_not, oite_dec, if_pos ho, spec_l2copy_ok w h l n g (by omega) (by omega),
        ocall_t (t := ((), h, l, n, (), ())) (u := (ints w, accs g, ints w, accs g, ())) rfl rfl rfl, hS]
      exact ocall_t rfl rfl rfl
    · rw [impl_Store_eq, impl_HeapOk_ok, ocall_t (t := decide (hOk w h l n g)) (u := (ints w, accs g, ())) rfl rfl rfl, oite_not, oite_dec, if_pos ho, cloneHeap_ok w h l n g (by omega) (by omega),
        ocall_t (t := ((), h, l, n, (), ())) (u := (ints w, accs g, ints w, accs g, ())) rfl rfl rfl, hI]
      exact ocall_t rfl rfl rfl
  · refine ⟨[], 0, 0, 0, [], false, by simp, by simp, fun f => ?_, fun f => ?_⟩
    · rw [spec_Store_eq, spec_HeapOk_ok, ocall_t (t := decide (hOk w h l n g)) (u := (ints w, accs g, ())) rfl rfl rfl, oite_not, oite_dec, if_neg ho]
      exact ocall_t rfl rfl rfl
    · rw [impl_Store_eq, impl_HeapOk_ok, ocall_t (t := decide (hOk w h l n g)) (u := (ints w, accs g, ())) rfl rfl rfl, oite_not, oite_dec, if_neg ho]
      exact ocall_t rfl rfl rfl

theorem store_true (t : Heap) (ho : t.ok) (x : Int) (_ : inI x) (y : Int) (_ : inI y) (z : Int) (_ : inI z) : laws_FnExactStore t.ts x y z = some (.d (.bool true), []) := by
  cases ho with
  | @mk w h l n g hw hh hl hn hg ha =>
    rw [laws_FnExactStore_eq, szHeap_ok w h l n g hw hg, ocall_int, oite_dec]
    by_cases hs : w.length + g.length ≤ 1048576
    rotate_left
    · simp only [if_neg hs]
      rw [if_pos (by decide)]
    simp only [if_pos hs]
    rw [if_neg (show ¬ (((1048576 - (w.length + g.length) : Nat) : Int) < 0) by omega)]
    obtain ⟨w', h', l', n', g', ok, hw', hg', hS, hI⟩ := store_both w h l n g x y z
    have to : ∀ f : _ → _ → Res, ocall (.m (.agg [(.own 0), (.int .i64), (.int .i64), (.int .i64), (.own 1)])) [(.row 1 false true), (.row 3 false true)] (laws_toHeap (Heap.ts (.mk w h l n g))) f = f ((), h, l, n, (), ()) (ints w, accs g, ()) := fun f => by
      rw [toHeap_ok w h l n g hs]; exact ocall_t rfl rfl rfl
    have eq' : ∀ f : _ → _ → Res, ocall (.m (.one .bool)) [(.row 1 false false), (.row 3 false false), (.row 1 false false), (.row 3 false false)] (laws_eqHeap h' l' n' h' l' n' (ints w') (accs g') (ints w') (accs g')) f = f true (ints w', accs g', ints w', accs g', ()) := fun f => by
      rw [eqHeap_ok w' h' l' n' g' hw' hg']; exact ocall_t rfl rfl rfl
    have eq0 : ∀ f : _ → _ → Res, ocall (.m (.one .bool)) [(.row 1 false false), (.row 3 false false), (.row 1 false false), (.row 3 false false)] (laws_eqHeap h l n h l n (ints w) (accs g) (ints w) (accs g)) f = f true (ints w, accs g, ints w, accs g, ()) := fun f => by
      rw [eqHeap_ok w h l n g (by omega) (by omega)]; exact ocall_t rfl rfl rfl
    have hrest : laws_FnExactStore_j3 ok z y x h' l' n' h' l' n' (Heap.ts (.mk w h l n g)) (ints w') (accs g') (ints w') (accs g') = some (.d (.bool true), []) := by
      rw [laws_FnExactStore_j3_eq, markHeap_ok w' h' l' n' g' (by omega) (by omega), ocall_rIA, heldHeap_ok _ _ h' l' n' (by omega) (by omega), ocall_rIA, oite_dec, if_neg (by omega), oite_not, beq_self_eq_true, oite_t]
      refine (to _).trans ?_
      refine (hI _).trans ?_
      refine (eq' _).trans ?_
      simp only [oite_not, oite_t, oite_f, beq_self_eq_true, Bool.not_true]
      rw [laws_FnExactStore_j6_eq, oite_f, laws_FnExactStore_j5_eq, heldHeap_ok _ _ h' l' n' (by omega) (by omega), ocall_rIA, oite_dec, if_neg (by omega), oite_not, beq_self_eq_true, oite_t]
    refine (to _).trans ?_
    refine (hS _).trans ?_
    refine (to _).trans ?_
    refine (hI _).trans ?_
    refine (eq' _).trans ?_
    simp only [oite_not, oite_t, oite_f, beq_self_eq_true, Bool.not_true]
    rw [laws_FnExactStore_j2_eq, oite_f, laws_FnExactStore_j1_eq]
    refine (to _).trans ?_
    refine (eq0 _).trans ?_
    simp only [oite_not, oite_t]
    rw [markHeap_ok w h l n g (by omega) (by omega), ocall_rIA, oite_dec, if_neg (by omega)]
    refine (eq' _).trans ?_
    simp only [oite_not, oite_t, oite_f, beq_self_eq_true, Bool.not_true]
    rw [laws_FnExactStore_j4_eq, oite_f]
    exact hrest
end Go.Ev.Q
