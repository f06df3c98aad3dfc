/-
  Heaps: what is taken, stored and loaded.
-/
import Derived.Test.YtepljphcjpcpiaaQPlaces
set_option linter.unusedVariables false
set_option linter.unusedSimpArgs false
namespace Go.Ev.Q
open Go Go.Ev

abbrev rI (l : List Int) (al : Bool) : Ent := .row 1 (ints l).1 false al (ints l).2
abbrev rA (l : List Access) (al : Bool) : Ent := .row 3 (accs l).1 false al (accs l).2
theorem ints_at {p q : List Int} {a : Int} : (ints (p ++ a :: q)).2.getD p.length [] = [D.int .i64 a] := by
  rw [show (ints (p ++ a :: q)).2 = (sl (sh := [.int .i64]) (fun n => (n, ())) (p ++ a :: q)).2 from rfl, sl_es, List.getD_eq_getElem?_getD, List.getElem?_map]; simp; rfl
theorem cell1 {R : Type} {a : Int} {f : Int × Unit → Option R} : ocells [(.int .i64)] [D.int .i64 a] f = f (a, ()) := ocells_t (LS.decD_encs (l := [.int .i64]) rfl (a, ()))
theorem ints_set {p q : List Int} {a b : Int} : (ints (p ++ a :: q)).2.set p.length (putD ((ints (p ++ a :: q)).2.getD p.length []) 0 [D.int .i64 b]) = (ints (p ++ b :: q)).2 :=
  sl_set (sh := [.int .i64]) (g := fun n => (n, ()))
theorem accs_at {p q : List Access} {a : Access} : (accs (p ++ a :: q)).2.getD p.length [] = vDs (LS.encs sh_Access a.ts) := by
  rw [show (accs (p ++ a :: q)).2 = (sl (sh := sh_Access) Access.ts (p ++ a :: q)).2 from rfl, sl_es, List.getD_eq_getElem?_getD, List.getElem?_map]; simp
theorem accs_set {p q : List Access} {a b : Access} : (accs (p ++ a :: q)).2.set p.length (vDs (LS.encs sh_Access b.ts)) = (accs (p ++ b :: q)).2 := by
  rw [show (accs (p ++ a :: q)).2 = (sl (sh := sh_Access) Access.ts (p ++ a :: q)).2 from rfl, show (accs (p ++ b :: q)).2 = (sl (sh := sh_Access) Access.ts (p ++ b :: q)).2 from rfl, sl_es, sl_es]; simp
abbrev hOk (w : List Int) (h l n : Int) (g : List Access) : Prop := 16 ≤ h ∧ h ≤ 4096 ∧ (w.length : Int) = 2 * h ∧ (g.length : Int) ≤ 4000 ∧ (l = 0 ∨ l = h) ∧ l ≤ n ∧ n ≤ l + h
theorem res_bool {b c : Bool} {M : Mem} (h : b = c) : (some (V.d (.bool b), M) : Res) = some (V.d (.bool c), M) := by rw [h]
theorem accs_n {l : List Access} : (accs l).1 = l.length := rfl
theorem within_ok (a b c : Int) : impl_within a b c = some (.d (.bool (decide (b ≤ a ∧ a ≤ c))), []) := by
  rw [impl_within_eq, oite_dec]
  by_cases h : a ≥ b
  · rw [if_pos h]; exact res_bool (decide_eq_decide.2 (by omega))
  · rw [if_neg h]; exact res_bool (decide_eq_false (by omega)).symm
theorem impl_HeapOk_ok (w : List Int) (h l n : Int) (g : List Access) : impl_HeapOk h l n (ints w) (accs g) = some (.d (.bool (decide (hOk w h l n g))), [rI w false, rA g false]) := by
  have no : ¬ hOk w h l n g → (some (V.d (.bool false), [rI w false, rA g false]) : Res) = some (.d (.bool (decide (hOk w h l n g))), [rI w false, rA g false]) := fun hn => res_bool (decide_eq_false hn).symm
  rw [impl_HeapOk_eq, within_ok, ocall_bool, oite_dec]
  by_cases h1 : 16 ≤ h ∧ h ≤ 4096
  rotate_left
  · rw [if_neg h1, impl_HeapOk_j1_eq, oite_f]; exact no (by omega)
  rw [if_pos h1, w64_id (by omega) (by omega), oite_if, ints_n]
  by_cases h3 : (w.length : Int) = 2 * h
  rotate_left
  · rw [if_neg (by simpa using h3), impl_HeapOk_j1_eq, oite_f]; exact no (by omega)
  rw [if_pos (by simpa using h3), impl_HeapOk_j1_eq, oite_dec, accs_n]
  by_cases h4 : (g.length : Int) ≤ 4000
  rotate_left
  · rw [if_neg h4]; exact no (by omega)
  rw [if_pos h4, oite_if]
  by_cases h5 : l = 0
  · rw [if_pos (by simpa using h5), within_ok, ocall_bool, w64_id (by omega) (by omega)]
    exact res_bool (decide_eq_decide.2 (by omega))
  · rw [if_neg (by simpa using h5), oite_if]
    by_cases h7 : l = h
    · rw [if_pos (by simpa using h7), within_ok, ocall_bool, w64_id (by omega) (by omega)]
      exact res_bool (decide_eq_decide.2 (by omega))
    · rw [if_neg (by simpa using h7)]; exact no (by omega)
theorem cloneI_ok (w : List Int) (hw : w.length ≤ 1048576) : slices_Clone_int_int_o (ints w) = some (.own 1, [rI w false, rI w false]) := by
  rw [slices_Clone_int_int_o_eq]
  cases w with
  | nil => rw [oguard_dec (by decide)]; exact onil_same (n := 0)
  | cons a w =>
    rw [show (ints (a :: w)).1 = w.length + 1 from rfl, onil_pos (by omega), oguard_dec (by simp at hw; omega)]
    rfl
theorem cloneA_ok (g : List Access) (hg : g.length ≤ 1048576) : slices_Clone_impl_Access_impl_Access_o (accs g) = some (.own 1, [rA g false, rA g false]) := by
  rw [slices_Clone_impl_Access_impl_Access_o_eq]
  cases g with
  | nil => rw [oguard_dec (by decide)]; exact onil_same (n := 0)
  | cons a g =>
    rw [show (accs (a :: g)).1 = g.length + 1 from rfl, onil_pos (by omega), oguard_dec (by simp at hg; omega)]
    rfl
theorem cloneHeap_ok (w : List Int) (h l n : Int) (g : List Access) (hw : w.length ≤ 1048576) (hg : g.length ≤ 1048576) : impl_cloneHeap_v2 h l n (ints w) (accs g) = some (.agg [.own 2, .d (.int .i64 h), .d (.int .i64 l), .d (.int .i64 n), .own 3], [rI w false, rA g false, rI w true, rA g true]) := by
  rw [impl_cloneHeap_v2_eq, cloneI_ok w hw, ocall_t (t := ()) (u := (ints w, ints w, ())) rfl rfl rfl]
  simp only [osame_t]
  rw [cloneA_ok g hg, ocall_t (t := ()) (u := (accs g, accs g, ())) rfl rfl rfl]
  simp only [osame_t]
def zeroed (w : List Int) (k m : Nat) : List Int := w.take k ++ (List.replicate m 0 ++ w.drop (k + m))
theorem zeroed_len {w : List Int} {k m : Nat} (h : k + m ≤ w.length) : (zeroed w k m).length = w.length := by
  simp [zeroed]; omega
theorem ints_es {l : List Int} : (ints l).2 = l.map fun a => [D.int .i64 a] := rfl
theorem zeroed_es {w : List Int} {k m : Nat} : List.take k (ints w).2 ++ (List.replicate m [D.int .i64 0] ++ List.drop (k + m) (ints w).2) = (ints (zeroed w k m)).2 := by
  simp [ints_es, zeroed]
abbrev bx (h l n : Int) : Ent := .box [.own 1, .d (.int .i64 h), .d (.int .i64 l), .d (.int .i64 n), .own 2]
abbrev fits (x h l n : Int) : Prop := 1 ≤ x ∧ x ≤ 64 ∧ x ≤ l + h - n
theorem spec_j3_ok (w : List Int) (k : Nat) (h l : Int) (g : List Access) : ∀ (r i : Nat), k + (i + r) ≤ w.length → i + r ≤ 64 → w.length ≤ 1048576 →
    spec_l2alloc_j3 (i : Int) (k : Int) ((i + r : Nat) : Int) h l (k : Int) (ints (zeroed w k i)) (accs g) = some (.tup [.d (.int .i64 k), .d (.bool true)], [bx h l ((k + (i + r) : Nat) : Int), rI (zeroed w k (i + r)) false, rA g false])
  | 0, i, h1, h2, h3 => by
    rw [spec_l2alloc_j3_eq, oite_dec, if_neg (by omega), w64_id (by omega) (by omega)]
    rfl
  | r + 1, i, h1, h2, h3 => by
    rw [spec_l2alloc_j3_eq, oite_dec, if_pos (by omega), w64_id (x := (k : Int) + i) (by omega) (by omega), show (k : Int) + (i : Int) = ((k + i : Nat) : Int) by omega,
      oguard_dec ⟨by omega, by rw [ints_n, zeroed_len (by omega)]; omega⟩, olet_eq, Int.toNat_natCast, w64_succ (by omega)]
    obtain ⟨a, q, hq⟩ : ∃ a q, w.drop (k + i) = a :: q := by
      cases hd : w.drop (k + i) with
      | nil => rw [List.drop_eq_nil_iff] at hd; omega
      | cons a q => exact ⟨a, q, rfl⟩
    have hq1 : w.drop (k + (i + 1)) = q := by
      have : w.drop (k + (i + 1)) = (w.drop (k + i)).drop 1 := by rw [List.drop_drop]; rfl
      rw [this, hq]; rfl
    have hlen : (w.take k ++ List.replicate i 0).length = k + i := by simp; omega
    have z1 : zeroed w k i = (w.take k ++ List.replicate i 0) ++ a :: q := by rw [zeroed, hq, List.append_assoc]
    have z2 : zeroed w k (i + 1) = (w.take k ++ List.replicate i 0) ++ 0 :: q := by rw [zeroed, hq1, List.replicate_succ']; simp
    have e := ints_set (p := w.take k ++ List.replicate i 0) (q := q) (a := a) (b := 0)
    rw [hlen, ← z1, ← z2] at e
    rw [e, show ((ints (zeroed w k i)).1, (ints (zeroed w k (i + 1))).2) = ints (zeroed w k (i + 1)) from Prod.ext (by rw [ints_n, ints_n, zeroed_len (by omega), zeroed_len (by omega)]) rfl]
    have := spec_j3_ok w k h l g r (i + 1) (by omega) (by omega) h3
    rw [show i + (r + 1) = i + 1 + r by omega]
    exact this
theorem spec_l2alloc_ok (x : Int) (w : List Int) (h l n : Int) (g : List Access) (ho : hOk w h l n g) : spec_l2alloc x h l n (ints w) (accs g) =
    if fits x h l n then some (.tup [.d (.int .i64 n), .d (.bool true)], [bx h l (n + x), rI (zeroed w n.toNat x.toNat) false, rA g false]) else some (.tup [.d (.int .i64 0), .d (.bool false)], [bx h l n, rI w false, rA g false]) := by
  rw [spec_l2alloc_eq, oite_dec]
  by_cases h1 : x < 1
  · rw [if_pos h1, spec_l2alloc_j2_eq, oite_t, if_neg (by omega)]
  rw [if_neg h1, oite_dec]
  by_cases h2 : x > 64
  · rw [if_pos h2, spec_l2alloc_j2_eq, oite_t, if_neg (by omega)]
  rw [if_neg h2, w64_id (x := l + h) (by omega) (by omega), w64_id (x := l + h - n) (by omega) (by omega), spec_l2alloc_j2_eq, oite_dec]
  by_cases h3 : x > l + h - n
  · rw [if_pos h3, if_neg (by omega)]
  rw [if_neg h3, if_pos (by omega), spec_l2alloc_j1_eq]
  have := spec_j3_ok w n.toNat h l g x.toNat 0 (by omega) (by omega) (by omega)
  rw [show ((0 : Nat) : Int) = 0 from rfl, show ((0 + x.toNat : Nat) : Int) = x by omega, show ((n.toNat : Nat) : Int) = n by omega] at this
  rw [show zeroed w n.toNat 0 = w by simp [zeroed]] at this
  rw [this, show ((n.toNat + (0 + x.toNat) : Nat) : Int) = n + x by omega, Nat.zero_add]
theorem ocall_bx {R : Type} {v : Int} {h l n : Int} {k : List Int} {g : List Access} {f : Int → (Unit × (Int × (Int × (Int × (Unit × Unit))))) × (Sl × (Sl × Unit)) → Option R} : ocall (.m (.one (.int .i64))) [.box [.own 1, .int .i64, .int .i64, .int .i64, .own 2], .row 1 false false, .row 3 false false] (some (.d (.int .i64 v), [bx h l n, rI k false, rA g false])) f = f v (((), h, l, n, (), ()), ints k, accs g, ()) :=
  ocall_t (s := .m (.one (.int .i64))) rfl (LS.dec_enc (s := .int .i64) rfl v) rfl
theorem impl_alloc_ok (x : Int) (w : List Int) (h l n : Int) (g : List Access) (ho : hOk w h l n g) : impl_Heap_alloc x h l n (ints w) (accs g) =
    if fits x h l n then some (.tup [.d (.int .i64 n), .d (.bool true)], [bx h l (n + x), rI (zeroed w n.toNat x.toNat) false, rA g false]) else some (.tup [.d (.int .i64 0), .d (.bool false)], [bx h l n, rI w false, rA g false]) := by
  rw [impl_Heap_alloc_eq, within_ok, ocall_bool, oite_not, oite_dec]
  by_cases h1 : 1 ≤ x ∧ x ≤ 64
  rotate_left
  · rw [if_neg h1, impl_Heap_alloc_j2_eq, oite_t, if_neg (by omega)]
  rw [if_pos h1, impl_Heap_room_eq, ocall_bx, w64_id (x := l + h) (by omega) (by omega), w64_id (x := l + h - n) (by omega) (by omega), impl_Heap_alloc_j2_eq, oite_dec]
  by_cases h3 : x > l + h - n
  · rw [if_pos h3, if_neg (by omega)]
  rw [if_neg h3, if_pos (by omega), impl_Heap_alloc_j1_eq, w64_id (by simp only; omega) (by simp only; omega), oguard_dec ⟨by simp only; omega, by simp only; omega, by rw [ints_n]; simp only; omega⟩, olet_eq]
  simp only
  rw [show (n + x).toNat - n.toNat = x.toNat by omega, zeroed_es]
  rw [show (ints w).1 = (ints (zeroed w n.toNat x.toNat)).1 by rw [ints_n, ints_n, zeroed_len (by omega)]]
def logd (g : List Access) (a : Access) : List Access := (if g.length = 4000 then g.drop 1 else g) ++ [a]
theorem accs_es {l : List Access} : (accs l).2 = l.map fun a => vDs (LS.encs sh_Access a.ts) := rfl
theorem log_cut {g : List Access} {a l n : Int} : List.take (g.length - 1) (List.drop 1 (accs g).2) ++ (vDs (LS.encs sh_Access (a, l, n, ())) :: []) = (accs (g.drop 1 ++ [.mk a l n])).2 := by
  rw [List.take_of_length_le (by simp [accs_es])]
  simp only [accs_es, List.map_append, List.map_drop, List.map_cons, List.map_nil]
  rfl
theorem log_put {g : List Access} {a l n : Int} : (accs g).2 ++ (vDs (LS.encs sh_Access (a, l, n, ())) :: []) = (accs (g ++ [.mk a l n])).2 := by
  simp only [accs_es, List.map_append, List.map_cons, List.map_nil]
  rfl
theorem rA_eq {l : List Access} {n : Nat} {es : List (List D)} {al : Bool} (h1 : n = l.length) (h2 : es = (accs l).2) : Ent.row 3 n false al es = rA l al := by subst h1; subst h2; rfl
theorem l2log_ok (a h l n : Int) (w : List Int) (g : List Access) (hg : g.length ≤ 4000) : spec_l2log a h l n (ints w) (accs g) = some (.tup [], [bx h l n, rI w false, rA (logd g (.mk a l n)) true]) := by
  rw [spec_l2log_eq, oite_if, accs_n]
  by_cases h1 : g.length = 4000
  · rw [if_pos (by simp; omega), oguard_dec ⟨by omega, by omega⟩, spec_l2log_j1_eq, oguard_t (by simp; omega), olet_eq, log_cut, logd, if_pos h1]
    have e : g.length - 1 + 1 = (accs (g.drop 1 ++ [Access.mk a l n])).1 := by rw [accs_n]; simp
    rw [e]; try rfl
  · rw [if_neg (by simp; omega), spec_l2log_j1v1_eq, accs_n, oguard_dec (by omega), olet_eq, log_put, logd, if_neg h1]
    have e : g.length + 1 = (accs (g ++ [Access.mk a l n])).1 := by rw [accs_n]; simp
    rw [e]; try rfl
abbrev inP (p o l n : Int) : Prop := l ≤ p ∧ p < n ∧ 0 ≤ o ∧ o < n - p
theorem touch_ok (p o h l n : Int) (w : List Int) (g : List Access) (ho : hOk w h l n g) : impl_Heap_touch p o h l n (ints w) (accs g) =
    if inP p o l n then some (.d (.bool true), [bx h l n, rI w false, rA (logd g (.mk (p + o) l n)) true]) else some (.d (.bool false), [bx h l n, rI w false, rA g false]) := by
  rw [impl_Heap_touch_eq, impl_Heap_taken_eq, w64_id (x := n - 1) (by omega) (by omega), within_ok, ocall_bool, ocall_t (t := decide (l ≤ p ∧ p ≤ n - 1)) (u := (((), h, l, n, (), ()), ints w, accs g, ())) rfl rfl rfl, oite_not, oite_dec]
  by_cases h1 : l ≤ p ∧ p ≤ n - 1
  rotate_left
  · rw [if_neg h1, impl_Heap_touch_j2_eq, oite_t, if_neg (by omega)]
  rw [if_pos h1, oite_dec]
  by_cases h2 : o < 0
  · rw [if_pos h2, impl_Heap_touch_j2_eq, oite_t, if_neg (by omega)]
  rw [if_neg h2, impl_Heap_touch_j2_eq, oite_dec, w64_id (x := n - p) (by omega) (by omega)]
  by_cases h3 : o ≥ n - p
  · rw [if_pos h3, if_neg (by omega)]
  rw [if_neg h3, if_pos (by omega), impl_Heap_touch_j1_eq, oite_if, accs_n]
  by_cases h4 : g.length = 4000
  · rw [if_pos (by simp; omega), oguard_dec ⟨by omega, by omega⟩, impl_Heap_touch_j3_eq, oguard_t (by simp; omega), olet_eq, w64_id (by omega) (by omega), log_cut, logd, if_pos h4]
    have e : g.length - 1 + 1 = (accs (g.drop 1 ++ [Access.mk (p + o) l n])).1 := by rw [accs_n]; simp
    rw [e]; try rfl
  · rw [if_neg (by simp; omega), impl_Heap_touch_j3v1_eq, accs_n, oguard_dec (by omega), olet_eq, w64_id (by omega) (by omega), log_put, logd, if_neg h4]
    have e : g.length + 1 = (accs (g ++ [Access.mk (p + o) l n])).1 := by rw [accs_n]; simp
    rw [e]; try rfl
theorem l2in_ok (p o h l n : Int) (w : List Int) (g : List Access) (ho : hOk w h l n g) : spec_l2in p o h l n (ints w) (accs g) = some (.d (.bool (decide (inP p o l n))), [bx h l n, rI w false, rA g false]) := by
  rw [spec_l2in_eq, oite_dec]
  by_cases h1 : p ≥ l
  rotate_left
  · rw [if_neg h1]; exact res_bool (decide_eq_false (by omega)).symm
  rw [if_pos h1, oite_dec]
  by_cases h2 : p < n
  rotate_left
  · rw [if_neg h2]; exact res_bool (decide_eq_false (by omega)).symm
  rw [if_pos h2, oite_dec]
  by_cases h3 : o ≥ 0
  rotate_left
  · rw [if_neg h3]; exact res_bool (decide_eq_false (by omega)).symm
  rw [if_pos h3, w64_id (by omega) (by omega)]
  exact res_bool (decide_eq_decide.2 (by omega))
theorem word_at {w : List Int} {i : Int} (h0 : 0 ≤ i) (h1 : i < w.length) : ∃ v, List.take 1 (List.drop 0 (List.getD (ints w).2 i.toNat [])) = [D.int .i64 v] := by
  refine ⟨w[i.toNat]'(by omega), ?_⟩
  rw [ints_es, List.getD_eq_getElem?_getD, List.getElem?_map, List.getElem?_eq_getElem (by omega)]
  rfl
theorem put_word {w : List Int} {i v : Int} (h0 : 0 ≤ i) (h1 : i < w.length) : List.set (ints w).2 i.toNat (putD (List.getD (ints w).2 i.toNat []) 0 [D.int .i64 v]) = (ints (w.set i.toNat v)).2 := by
  have e : List.getD (ints w).2 i.toNat [] = [D.int .i64 (w[i.toNat]'(by omega))] := by
    rw [ints_es, List.getD_eq_getElem?_getD, List.getElem?_map, List.getElem?_eq_getElem (by omega)]; rfl
  rw [e, show ∀ b : Int, putD [D.int .i64 b] 0 [D.int .i64 v] = [D.int .i64 v] from fun _ => rfl, ints_es, ints_es, List.map_set]
end Go.Ev.Q
