/-
  Accesses are put behind the log; words are loaded.
-/
import Derived.Test.YtepljphcjpcpiaaPAllocLaw
set_option linter.unusedVariables false
set_option linter.unusedSimpArgs false
namespace Go.Ev.Q
open Go Go.Ev

def logd (g : List Access) (a : Access) : List Access := (if g.length = 4000 then g.drop 1 else g) ++ [a]
theorem logd_len {g : List Access} {a : Access} (h : g.length ≤ 4000) : (logd g a).length ≤ 4001 := by
  unfold logd; split <;> simp <;> omega
theorem accs_es {l : List Access} : (accs l).2 = l.map fun a => vDs (LS.encs sh_Access a.ts) := rfl
theorem log_cut {g : List Access} {a l n : Int} : List.take (g.length - 1) (List.drop 1 (accs g).2) ++ (vDs (LS.encs sh_Access (a, l, n, ())) :: []) = (accs (g.drop 1 ++ [.mk a l n])).2 := by
  rw [List.take_of_length_le (by simp [accs_es])]
  simp only [accs_es, List.map_append, List.map_drop, List.map_cons, List.map_nil]
  rfl
theorem log_put {g : List Access} {a l n : Int} : (accs g).2 ++ (vDs (LS.encs sh_Access (a, l, n, ())) :: []) = (accs (g ++ [.mk a l n])).2 := by
  simp only [accs_es, List.map_append, List.map_cons, List.map_nil]
  rfl
theorem rA_eq {l : List Access} {n : Nat} {es : List (List D)} {al : Bool} (h1 : n = l.length) (h2 : es = (accs l).2) : Ent.row 3 n false al es = rA l al := by subst h1; subst h2; rfl

theorem l2log_ok (a h l n : Int) (w : List Int) (g : List Access) (hg : g.length ≤ 4000) : spec_l2log a h l n (ints w) (accs g) = some (.tup [], [bx h l n, rI w false, rA (logd g (.mk a l n)) true]) := by
  rw [spec_l2log_eq, oite_if, accs_n]
  by_cases h1 : g.length = 4000
  · rw [if_pos (by simp; omega), oguard_dec ⟨by omega, by omega⟩, spec_l2log_j1_eq, oguard_t (by simp; omega), olet_eq, log_cut, logd, if_pos h1]
    have e : g.length - 1 + 1 = (accs (g.drop 1 ++ [Access.mk a l n])).1 := by rw [accs_n]; simp
    rw [e]; try rfl
  · rw [if_neg (by simp; omega), spec_l2log_j1v1_eq, accs_n, oguard_dec (by omega), olet_eq, log_put, logd, if_neg h1]
    have e : g.length + 1 = (accs (g ++ [Access.mk a l n])).1 := by rw [accs_n]; simp
    rw [e]; try rfl

abbrev inP (p o l n : Int) : Prop := l ≤ p ∧ p < n ∧ 0 ≤ o ∧ o < n - p

theorem touch_ok (p o h l n : Int) (w : List Int) (g : List Access) (ho : hOk w h l n g) : impl_Heap_touch p o h l n (ints w) (accs g) =
    if inP p o l n then some (.d (.bool true), [bx h l n, rI w false, rA (logd g (.mk (p + o) l n)) true]) else some (.d (.bool false), [bx h l n, rI w false, rA g false]) := by
  rw [impl_Heap_touch_eq, impl_Heap_taken_eq, w64_id (x := n - 1) (by omega) (by omega), within_ok, ocall_bool, ocall_t (t := decide (l ≤ p ∧ p ≤ n - 1)) (u := (((), h, l, n, (), ()), ints w, accs g, ())) rfl rfl rfl, oite_not, oite_dec]
  by_cases h1 : l ≤ p ∧ p ≤ n - 1
  rotate_left
  · rw [if_neg h1, impl_Heap_touch_j2_eq, oite_t, if_neg (by omega)]
  rw [if_pos h1, oite_dec]
  by_cases h2 : o < 0
  · rw [if_pos h2, impl_Heap_touch_j2_eq, oite_t, if_neg (by omega)]
  rw [if_neg h2, impl_Heap_touch_j2_eq, oite_dec, w64_id (x := n - p) (by omega) (by omega)]
  by_cases h3 : o ≥ n - p
  · rw [if_pos h3, if_neg (by omega)]
  rw [if_neg h3, if_pos (by omega), impl_Heap_touch_j1_eq, oite_if, accs_n]
  by_cases h4 : g.length = 4000
  · rw [if_pos (by simp; omega), oguard_dec ⟨by omega, by omega⟩, impl_Heap_touch_j3_eq, oguard_t (by simp; omega), olet_eq, w64_id (by omega) (by omega), log_cut, logd, if_pos h4]
    have e : g.length - 1 + 1 = (accs (g.drop 1 ++ [Access.mk (p + o) l n])).1 := by rw [accs_n]; simp
    rw [e]; try rfl
  · rw [if_neg (by simp; omega), impl_Heap_touch_j3v1_eq, accs_n, oguard_dec (by omega), olet_eq, w64_id (by omega) (by omega), log_put, logd, if_neg h4]
    have e : g.length + 1 = (accs (g ++ [Access.mk (p + o) l n])).1 := by rw [accs_n]; simp
    rw [e]; try rfl

theorem l2in_ok (p o h l n : Int) (w : List Int) (g : List Access) (ho : hOk w h l n g) : spec_l2in p o h l n (ints w) (accs g) = some (.d (.bool (decide (inP p o l n))), [bx h l n, rI w false, rA g false]) := by
  rw [spec_l2in_eq, oite_dec]
  by_cases h1 : p ≥ l
  rotate_left
  · rw [if_neg h1]; exact res_bool (decide_eq_false (by omega)).symm
  rw [if_pos h1, oite_dec]
  by_cases h2 : p < n
  rotate_left
  · rw [if_neg h2]; exact res_bool (decide_eq_false (by omega)).symm
  rw [if_pos h2, oite_dec]
  by_cases h3 : o ≥ 0
  rotate_left
  · rw [if_neg h3]; exact res_bool (decide_eq_false (by omega)).symm
  rw [if_pos h3, w64_id (by omega) (by omega)]
  exact res_bool (decide_eq_decide.2 (by omega))

theorem word_at {w : List Int} {i : Int} (h0 : 0 ≤ i) (h1 : i < w.length) : ∃ v, List.take 1 (List.drop 0 (List.getD (ints w).2 i.toNat [])) = [D.int .i64 v] := by
  refine ⟨w[i.toNat]'(by omega), ?_⟩
  rw [ints_es, List.getD_eq_getElem?_getD, List.getElem?_map, List.getElem?_eq_getElem (by omega)]
  rfl

theorem load_parts (p o h l n : Int) (w : List Int) (g : List Access) (ho : hOk w h l n g) : ∃ (v : Int) (ok : Bool) (g' : List Access) (al : Bool), g'.length ≤ 4001 ∧
    (∀ f : _ → _ → Res, ocall (.tup [(.one (.int .i64)), (.one .bool)]) [.box [.own 1, .int .i64, .int .i64, .int .i64, .own 2], .row 1 false false, .row 3 false true] (spec_l2load p o h l n (ints w) (accs g)) f = f (v, ok, ()) (((), h, l, n, (), ()), ints w, accs g', ())) ∧
    (∀ f : _ → _ → Res, ocall (.tup [(.one (.int .i64)), (.one .bool)]) [.box [.own 1, .int .i64, .int .i64, .int .i64, .own 2], .row 1 false false, .row 3 false true] (impl_Heap_load p o h l n (ints w) (accs g)) f = f (v, ok, ()) (((), h, l, n, (), ()), ints w, accs g', ())) := by
  by_cases hp : inP p o l n
  · obtain ⟨v, hv⟩ := word_at (w := w) (i := p + o) (by omega) (by omega)
    refine ⟨v, true, logd g (.mk (p + o) l n), true, logd_len (by omega), fun f => ?_, fun f => ?_⟩
    · rw [spec_l2load_eq, l2in_ok p o h l n w g ho, ocall_t (t := decide (inP p o l n)) (u := (((), h, l, n, (), ()), ints w, accs g, ())) rfl rfl rfl, oite_not, oite_dec, if_pos hp, w64_id (x := p + o) (by omega) (by omega),
        l2log_ok (p + o) h l n w g (by omega), ocall_t (t := ()) (u := (((), h, l, n, (), ()), ints w, accs (logd g (.mk (p + o) l n)), ())) rfl rfl rfl, oguard_dec ⟨by omega, by simp only [ints_n]; omega⟩]
      simp only
      rw [hv, cell1]
      exact ocall_t rfl rfl rfl
    · rw [impl_Heap_load_eq, touch_ok p o h l n w g ho, if_pos hp, ocall_t (t := true) (u := (((), h, l, n, (), ()), ints w, accs (logd g (.mk (p + o) l n)), ())) rfl rfl rfl, oite_not, oite_t, w64_id (x := p + o) (by omega) (by omega), oguard_dec ⟨by omega, by simp only [ints_n]; omega⟩]
      simp only
      rw [hv, cell1]
      exact ocall_t rfl rfl rfl
  · refine ⟨0, false, g, true, by omega, fun f => ?_, fun f => ?_⟩
    · rw [spec_l2load_eq, l2in_ok p o h l n w g ho, ocall_t (t := decide (inP p o l n)) (u := (((), h, l, n, (), ()), ints w, accs g, ())) rfl rfl rfl, oite_not, oite_dec, if_neg hp]
      exact ocall_t rfl rfl rfl
    · rw [impl_Heap_load_eq, touch_ok p o h l n w g ho, if_neg hp, ocall_t (t := false) (u := (((), h, l, n, (), ()), ints w, accs g, ())) rfl rfl rfl, oite_not, oite_f]
      exact ocall_t rfl rfl rfl
end Go.Ev.Q
