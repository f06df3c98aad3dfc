/-
  The law FnPlaces.
-/
import Derived.Test.YtepljphcjpcpiaaPPlDraw
set_option linter.unusedVariables false
set_option linter.unusedSimpArgs false
namespace Go.Ev.Q
open Go Go.Ev

theorem specOk_ok (w : List Int) (h l n : Int) (g : List Access) : spec_HeapOk (hp w h l n g) = some (.d (.bool (decide (hOk w h l n g))), []) := by
  have no : ¬ hOk w h l n g → (some (V.d (.bool false), []) : Res) = some (.d (.bool (decide (hOk w h l n g))), []) := fun hn => res_bool (decide_eq_false hn).symm
  have E : spec_HeapOk (hp w h l n g) = oite (decide (h < 16)) (spec_HeapOk_j2 true (hp w h l n g)) (oite (decide (h > 4096)) (spec_HeapOk_j2 true (hp w h l n g)) (oite (!((w.length : Int) == w64 (2 * h))) (spec_HeapOk_j2 true (hp w h l n g)) (spec_HeapOk_j2 (decide ((g.length : Int) > 4000)) (hp w h l n g)))) := spec_HeapOk_eq _
  have E1 : spec_HeapOk_j1 (hp w h l n g) = oite (l == 0) (oite (decide (n ≥ l)) (some (.d (.bool (decide (n ≤ w64 (l + h)))), [])) (some (.d (.bool false), []))) (oite (l == h) (oite (decide (n ≥ l)) (some (.d (.bool (decide (n ≤ w64 (l + h)))), [])) (some (.d (.bool false), []))) (some (.d (.bool false), []))) := spec_HeapOk_j1_eq _
  rw [E, oite_dec]
  by_cases h1 : h < 16
  · rw [if_pos h1, spec_HeapOk_j2_eq, oite_t]; exact no (by omega)
  rw [if_neg h1, oite_dec]
  by_cases h2 : h > 4096
  · rw [if_pos h2, spec_HeapOk_j2_eq, oite_t]; exact no (by omega)
  rw [if_neg h2, w64_id (x := 2 * h) (by omega) (by omega), oite_not, oite_if]
  by_cases h3 : (w.length : Int) = 2 * h
  rotate_left
  · rw [if_neg (by simpa using h3), spec_HeapOk_j2_eq, oite_t]; exact no (by omega)
  rw [if_pos (by simpa using h3), spec_HeapOk_j2_eq, oite_dec]
  by_cases h4 : (g.length : Int) > 4000
  · rw [if_pos h4]; exact no (by omega)
  rw [if_neg h4, E1, oite_if]
  by_cases h5 : l = 0
  · rw [if_pos (by simpa using h5), oite_dec]
    by_cases h6 : n ≥ l
    · rw [if_pos h6, w64_id (by omega) (by omega)]
      exact res_bool (decide_eq_decide.2 (by omega))
    · rw [if_neg h6]; exact no (by omega)
  · rw [if_neg (by simpa using h5), oite_if]
    by_cases h7 : l = h
    · rw [if_pos (by simpa using h7), oite_dec]
      by_cases h6 : n ≥ l
      · rw [if_pos h6, w64_id (by omega) (by omega)]
        exact res_bool (decide_eq_decide.2 (by omega))
      · rw [if_neg h6]; exact no (by omega)
    · rw [if_neg (by simpa using h7)]; exact no (by omega)
theorem implOk2_ok (w : List Int) (h l n : Int) (g : List Access) : impl_HeapOk_v2 (hp w h l n g) = some (.d (.bool (decide (hOk w h l n g))), []) := by
  have no : ¬ hOk w h l n g → (some (V.d (.bool false), []) : Res) = some (.d (.bool (decide (hOk w h l n g))), []) := fun hn => res_bool (decide_eq_false hn).symm
  have E : impl_HeapOk_v2 (hp w h l n g) = ocall (.m (.one .bool)) [] (impl_within h 16 4096) fun (r0 : Bool) (_ : Unit) => oite r0 (oite ((w.length : Int) == w64 (2 * h)) (impl_HeapOk_v2_j1 (decide ((g.length : Int) ≤ 4000)) (hp w h l n g)) (impl_HeapOk_v2_j1 false (hp w h l n g))) (impl_HeapOk_v2_j1 false (hp w h l n g)) := impl_HeapOk_v2_eq _
  have E1 : ∀ x0, impl_HeapOk_v2_j1 x0 (hp w h l n g) = oite x0 (oite (l == 0) (ocall (.m (.one .bool)) [] (impl_within n l (w64 (l + h))) fun (r2 : Bool) (_ : Unit) => some (.d (.bool r2), [])) (oite (l == h) (ocall (.m (.one .bool)) [] (impl_within n l (w64 (l + h))) fun (r2 : Bool) (_ : Unit) => some (.d (.bool r2), [])) (some (.d (.bool false), [])))) (some (.d (.bool false), [])) := fun x0 => impl_HeapOk_v2_j1_eq x0 _
  rw [E, within_ok, ocall_bool, oite_dec]
  by_cases h1 : 16 ≤ h ∧ h ≤ 4096
  rotate_left
  · rw [if_neg h1, E1, oite_f]; exact no (by omega)
  rw [if_pos h1, w64_id (x := 2 * h) (by omega) (by omega), oite_if]
  by_cases h3 : (w.length : Int) = 2 * h
  rotate_left
  · rw [if_neg (by simpa using h3), E1, oite_f]; exact no (by omega)
  rw [if_pos (by simpa using h3), E1, oite_dec]
  by_cases h4 : (g.length : Int) ≤ 4000
  rotate_left
  · rw [if_neg h4]; exact no (by omega)
  rw [if_pos h4, oite_if]
  by_cases h5 : l = 0
  · rw [if_pos (by simpa using h5), within_ok, ocall_bool, w64_id (by omega) (by omega)]
    exact res_bool (decide_eq_decide.2 (by omega))
  · rw [if_neg (by simpa using h5), oite_if]
    by_cases h7 : l = h
    · rw [if_pos (by simpa using h7), within_ok, ocall_bool, w64_id (by omega) (by omega)]
      exact res_bool (decide_eq_decide.2 (by omega))
    · rw [if_neg (by simpa using h7)]; exact no (by omega)

theorem specRoom_ok (w : List Int) (h l n : Int) (g : List Access) (ho : hOk w h l n g) : spec_HeapRoom (hp w h l n g) = some (.d (.int .i64 (l + h - n)), []) := by
  rw [spec_HeapRoom_eq, specOk_ok, ocall_bool, oite_not, oite_dec, if_pos ho]
  rw [w64_id (x := l + h) (by omega) (by omega), w64_id (x := l + h - n) (by omega) (by omega)]
theorem implRoom_ok (w : List Int) (h l n : Int) (g : List Access) (ho : hOk w h l n g) (f : Int → Sl × Sl × Unit → Res) : ocall (.m (.one (.int .i64))) [.row 1 false false, .row 3 false false] (impl_HeapRoom h l n (ints w) (accs g)) f = f (l + h - n) (ints w, accs g, ()) := by
  rw [impl_HeapRoom_eq, impl_HeapOk_ok, ocall_t (t := decide (hOk w h l n g)) (u := (ints w, accs g, ())) rfl rfl rfl, oite_not, oite_dec, if_pos ho, impl_Heap_room_eq, ocall_bx, w64_id (x := l + h) (by omega) (by omega), w64_id (x := l + h - n) (by omega) (by omega)]
  exact ocall_t rfl (LS.dec_enc (s := .int .i64) rfl _) rfl

theorem cloneI2_ok (w : List Int) (hw : w.length ≤ 1048576) : slices_Clone_int_int (ints w) = some (.own 0, [rI w false]) := by
  rw [slices_Clone_int_int_eq]
  cases w with
  | nil => rw [oguard_dec (by decide)]; exact onil_same (n := 0)
  | cons a w =>
    rw [show (ints (a :: w)).1 = w.length + 1 from rfl, onil_pos (by omega), oguard_dec (by simp at hw; omega)]
    rfl
theorem cloneA2_ok (g : List Access) (hg : g.length ≤ 1048576) : slices_Clone_impl_Access_impl_Access (accs g) = some (.own 0, [rA g false]) := by
  rw [slices_Clone_impl_Access_impl_Access_eq]
  cases g with
  | nil => rw [oguard_dec (by decide)]; exact onil_same (n := 0)
  | cons a g =>
    rw [show (accs (a :: g)).1 = g.length + 1 from rfl, onil_pos (by omega), oguard_dec (by simp at hg; omega)]
    rfl
theorem clone2_ok (w : List Int) (h l n : Int) (g : List Access) (hw : w.length ≤ 1048576) (hg : g.length ≤ 1048576) : impl_cloneHeap (hp w h l n g) = some (.agg [.own 0, .d (.int .i64 h), .d (.int .i64 l), .d (.int .i64 n), .own 1], [rI w true, rA g true]) := by
  rw [impl_cloneHeap_eq]
  rw [cloneI2_ok w hw, ocall_t (t := ()) (u := (ints w, ())) rfl rfl rfl]
  rw [cloneA2_ok g hg, ocall_t (t := ()) (u := (accs g, ())) rfl rfl rfl]

abbrev aggA : MS := .agg [.own 0, .int .i64, .int .i64, .int .i64, .own 1]
theorem allocI_no (w : List Int) (h l n : Int) (g : List Access) (x : Int) (ho : ¬ hOk w h l n g) (f : _ → Sl × Sl × Unit → Res) : ocall (.tup [aggA, .one (.int .i64), .one .bool]) [.row 1 false true, .row 3 false true] (impl_Alloc (hp w h l n g) x) f = f (((), 0, 0, 0, (), ()), 0, false, ()) (ints [], accs [], ()) := by
  rw [impl_Alloc_eq, implOk2_ok, ocall_bool, oite_not, oite_dec, if_neg ho]
  exact ocall_t rfl rfl rfl
theorem allocI_ok (w : List Int) (h l n : Int) (g : List Access) (x : Int) (ho : hOk w h l n g) (f : _ → Sl × Sl × Unit → Res) : ocall (.tup [aggA, .one (.int .i64), .one .bool]) [.row 1 false true, .row 3 false true] (impl_Alloc (hp w h l n g) x) f =
    if fits x h l n then f (((), h, l, n + x, (), ()), n, true, ()) (ints (zeroed w n.toNat x.toNat), accs g, ()) else f (((), h, l, n, (), ()), 0, false, ()) (ints w, accs g, ()) := by
  rw [impl_Alloc_eq, implOk2_ok, ocall_bool, oite_not, oite_dec, if_pos ho, clone2_ok w h l n g (by omega) (by omega),
    ocall_t (t := ((), h, l, n, (), ())) (u := (ints w, accs g, ())) rfl rfl rfl, impl_alloc_ok x w h l n g ho]
  by_cases hf : fits x h l n
  · rw [if_pos hf, if_pos hf, ocall_t (t := (n, true, ())) (u := (((), h, l, n + x, (), ()), ints (zeroed w n.toNat x.toNat), accs g, ())) rfl rfl rfl]
    exact ocall_t rfl rfl rfl
  · rw [if_neg hf, if_neg hf, ocall_t (t := (0, false, ())) (u := (((), h, l, n, (), ()), ints w, accs g, ())) rfl rfl rfl]
    exact ocall_t rfl rfl rfl

abbrev aggT : MS := .agg [.own 2, .int .i64, .int .i64, .int .i64, .own 3]
abbrev rows4 : List ES := [.row 1 false false, .row 3 false false, .row 1 false true, .row 3 false true]
theorem storeI_ok (w : List Int) (h l n : Int) (g : List Access) (p o v : Int) (ho : hOk w h l n g) (hi : inP p o l n) (f : _ → Sl × Sl × Sl × Sl × Unit → Res) :
    ocall (.tup [aggT, .one .bool]) rows4 (impl_Store h l n p o v (ints w) (accs g)) f = f (((), h, l, n, (), ()), true, ()) (ints w, accs g, ints (w.set (p + o).toNat v), accs (logd g (.mk (p + o) l n)), ()) := by
  have hn : (ints w).1 = (ints (w.set (p + o).toNat v)).1 := by rw [ints_n, ints_n, List.length_set]
  have e : impl_Heap_store p o v h l n (ints w) (accs g) = some (.d (.bool true), [bx h l n, rI (w.set (p + o).toNat v) false, rA (logd g (.mk (p + o) l n)) true]) := by
    rw [impl_Heap_store_eq, touch_ok p o h l n w g ho, if_pos hi, ocall_t (t := true) (u := (((), h, l, n, (), ()), ints w, accs (logd g (.mk (p + o) l n)), ())) rfl rfl rfl, oite_not, oite_t, w64_id (x := p + o) (by omega) (by omega), oguard_dec ⟨by omega, by simp only [ints_n]; omega⟩, olet_eq]
    simp only
    rw [put_word (by omega) (by omega), hn]
  rw [impl_Store_eq, impl_HeapOk_ok, ocall_t (t := decide (hOk w h l n g)) (u := (ints w, accs g, ())) rfl rfl rfl, oite_not, oite_dec, if_pos ho, cloneHeap_ok w h l n g (by omega) (by omega),
    ocall_t (t := ((), h, l, n, (), ())) (u := (ints w, accs g, ints w, accs g, ())) rfl rfl rfl, e,
    ocall_t (t := true) (u := (((), h, l, n, (), ()), ints (w.set (p + o).toNat v), accs (logd g (.mk (p + o) l n)), ())) rfl rfl rfl]
  exact ocall_t rfl rfl rfl
theorem word_get {w : List Int} {i v : Int} (hv : w[i.toNat]? = some v) : List.take 1 (List.drop 0 (List.getD (ints w).2 i.toNat [])) = [D.int .i64 v] := by
  rw [ints_es, List.getD_eq_getElem?_getD, List.getElem?_map, hv]
  rfl
theorem loadI_ok (w : List Int) (h l n : Int) (g : List Access) (p o v : Int) (ho : hOk w h l n g) (hi : inP p o l n) (hv : w[(p + o).toNat]? = some v) : ∃ g', ∀ f : _ → Sl × Sl × Sl × Sl × Unit → Res,
    ocall (.tup [aggT, .one (.int .i64), .one .bool]) rows4 (impl_Load h l n p o (ints w) (accs g)) f = f (((), h, l, n, (), ()), v, true, ()) (ints w, accs g, ints w, accs g', ()) := by
  refine ⟨logd g (.mk (p + o) l n), fun f => ?_⟩
  have e : impl_Heap_load p o h l n (ints w) (accs g) = some (.tup [.d (.int .i64 v), .d (.bool true)], [bx h l n, rI w false, rA (logd g (.mk (p + o) l n)) true]) := by
    rw [impl_Heap_load_eq, touch_ok p o h l n w g ho, if_pos hi, ocall_t (t := true) (u := (((), h, l, n, (), ()), ints w, accs (logd g (.mk (p + o) l n)), ())) rfl rfl rfl, oite_not, oite_t, w64_id (x := p + o) (by omega) (by omega), oguard_dec ⟨by omega, by simp only [ints_n]; omega⟩]
    simp only
    rw [word_get hv, cell1]
  rw [impl_Load_eq, impl_HeapOk_ok, ocall_t (t := decide (hOk w h l n g)) (u := (ints w, accs g, ())) rfl rfl rfl, oite_not, oite_dec, if_pos ho, cloneHeap_ok w h l n g (by omega) (by omega),
    ocall_t (t := ((), h, l, n, (), ())) (u := (ints w, accs g, ints w, accs g, ())) rfl rfl rfl, e,
    ocall_t (t := (v, true, ())) (u := (((), h, l, n, (), ()), ints w, accs (logd g (.mk (p + o) l n)), ())) rfl rfl rfl]
  exact ocall_t rfl rfl rfl

theorem at_ok (b : List Int) (hb : lenOk b) (hw : ∀ x ∈ b, (Lit.int .u8 x).wf = true) (i : Int) (hi : 0 ≤ i) : ∃ r, laws_at (bytes b) i = some (.d (.int .i64 r), []) ∧ 0 ≤ r ∧ r ≤ 255 := by
  have E : laws_at (bytes b) i = oite ((b.length : Int) == 0) (some (.d (.int .i64 0), [])) (oguard (decide ((b.length : Int) ≠ 0)) (oat [.int .u8] (sl (sh := [.int .u8]) (fun n => (n, ())) b).1 (sl (sh := [.int .u8]) (fun n => (n, ())) b).2 (Int.tmod i b.length) fun (t0 : Int × Unit) => some (.d (.int .i64 (w64 t0.1)), []))) := laws_at_eq _ _
  rw [E, oite_if]
  by_cases h0 : b.length = 0
  · rw [if_pos (by rw [beq_iff_eq]; omega)]
    exact ⟨0, rfl, by omega, by omega⟩
  · rw [if_neg (by rw [beq_iff_eq]; omega), oguard_dec (by omega)]
    have h1 : 0 ≤ Int.tmod i (b.length : Int) := Int.tmod_nonneg _ hi
    have h2 : Int.tmod i (b.length : Int) < b.length := Int.tmod_lt_of_pos _ (by omega)
    have ha : b[(Int.tmod i (b.length : Int)).toNat]? = some (b[(Int.tmod i (b.length : Int)).toNat]'(by omega)) := by simp
    have hx := hw _ (List.getElem_mem (l := b) (n := (Int.tmod i (b.length : Int)).toNat) (by omega))
    simp only [Lit.wf, IntKind.min, IntKind.max, IntKind.signed, IntKind.bits] at hx
    simp at hx
    rw [oat_sl rfl h1 ha]
    refine ⟨_, rfl, ?_, ?_⟩
    · rw [w64_id (by simp only; omega) (by simp only; omega)]; simp only; omega
    · rw [w64_id (by simp only; omega) (by simp only; omega)]; simp only; omega

theorem zeroed_mid {w : List Int} {k m i : Nat} (hk : k + m ≤ w.length) (h1 : k ≤ i) (h2 : i < k + m) : (zeroed w k m)[i]? = some 0 := by
  unfold zeroed
  have hl : (w.take k).length = k := by simp; omega
  rw [List.getElem?_append_right (by rw [hl]; exact h1), hl, List.getElem?_append_left (by simp; omega), List.getElem?_replicate, if_pos (by omega)]
theorem zeroed_low {w : List Int} {k m i : Nat} (hk : k + m ≤ w.length) (h1 : i < k) : (zeroed w k m)[i]? = w[i]? := by
  unfold zeroed
  rw [List.getElem?_append_left (by simp; omega), List.getElem?_take, if_pos h1]

theorem j6_ok (w y : List Int) (h l n n' : Int) (g g' : List Access) (hwl : w.length = y.length) (hl0 : 0 ≤ l) (hn : n ≤ w.length) (hlen : w.length ≤ 8192) (hsame : ∀ i : Nat, (i : Int) < n → y[i]? = w[i]?) : ∀ (r : Nat) (x : Int), x + r = n → l ≤ x →
    laws_FnPlaces_j6 x (hp w h l n g) h l n' (ints y) (accs g') = some (.d (.bool true), []) := by
  have E : ∀ x, laws_FnPlaces_j6 x (hp w h l n g) h l n' (ints y) (accs g') = oite (decide (x < n)) (oguard (decide (0 ≤ x ∧ x < (y.length : Int))) (ocells [.int .i64] (List.take 1 (List.drop 0 (List.getD (ints y).2 (Int.toNat x) []))) fun (t26 : Int × Unit) => oat [.int .i64] (sl (sh := [.int .i64]) (fun n => (n, ())) w).1 (sl (sh := [.int .i64]) (fun n => (n, ())) w).2 x fun (t27 : Int × Unit) => oite (!(t26.1 == t27.1)) (some (.d (.bool false), [])) (laws_FnPlaces_j6 (w64 (x + 1)) (hp w h l n g) h l n' (ints y) (accs g')))) (some (.d (.bool true), [])) := fun x => laws_FnPlaces_j6_eq ..
  intro r
  induction r with
  | zero =>
    intro x hx _
    rw [E, oite_dec, if_neg (by omega)]
  | succ r ih =>
    intro x hx hlx
    rw [E, oite_dec, if_pos (by omega), oguard_dec ⟨by omega, by omega⟩]
    have ha : w[x.toNat]? = some (w[x.toNat]'(by omega)) := by simp
    have hb : y[x.toNat]? = some (w[x.toNat]'(by omega)) := by rw [hsame _ (by omega)]; exact ha
    rw [word_get hb, cell1, oat_sl rfl (by omega) ha]
    simp only [beq_self_eq_true, oite_not, oite_t]
    rw [w64_id (by omega) (by omega)]
    exact ih (x + 1) (by omega) (by omega)

theorem places_true (b : List Int) (hb : lenOk b) (hw : ∀ x ∈ b, (Lit.int .u8 x).wf = true) : laws_FnPlaces (bytes b) = some (.d (.bool true), []) := by
  obtain ⟨w, h, l, n, g, x, e0, hwl, hgl⟩ := DrawAlloc_ok b hb
  rw [laws_FnPlaces_eq, e0, ocall_t (t := (hp w h l n g, x, ())) (u := ()) rfl rfl rfl]
  obtain ⟨r, e1, r0, r1⟩ := at_ok b hb hw 1 (by omega)
  rw [e1, ocall_int]
  simp only [oguard_true]
  have q1 : 0 ≤ Int.tmod r 9 := Int.tmod_nonneg _ r0
  have q2 : Int.tmod r 9 < 9 := Int.tmod_lt_of_pos _ (by omega)
  rw [w64_id (x := 1 + Int.tmod r 9) (by omega) (by omega)]
  generalize hN : 1 + Int.tmod r 9 = N
  have hN1 : 1 ≤ N := by omega
  have hN2 : N ≤ 9 := by omega
  by_cases ho : hOk w h l n g
  rotate_left
  · refine (allocI_no w h l n g N ho _).trans ?_
    rw [specOk_ok, ocall_bool, oite_not, oite_dec, if_neg ho]
    simp only [oite_not, oite_f]
    rfl
  refine (allocI_ok w h l n g N ho _).trans ?_
  by_cases hf : fits N h l n
  rotate_left
  · rw [if_neg hf, specOk_ok, ocall_bool, oite_not, oite_dec, if_pos ho, specRoom_ok w h l n g ho, ocall_int]
    simp only
    rw [show (decide (N ≤ l + h - n)) = false from decide_eq_false (by omega)]
    simp only [beq_self_eq_true, oite_not, oite_t, oite_f]
    refine (implRoom_ok w h l n g ho _).trans ?_
    simp only [osame_t]
    rw [ocall_int]
    exact res_bool (by simp)
  rw [if_pos hf, specOk_ok, ocall_bool, oite_not, oite_dec, if_pos ho, specRoom_ok w h l n g ho, ocall_int]
  simp only
  rw [show (decide (N ≤ l + h - n)) = true from decide_eq_true (by omega)]
  have hzl : (zeroed w n.toNat N.toNat).length = w.length := zeroed_len (by omega)
  have ho2 : hOk (zeroed w n.toNat N.toNat) h l (n + N) g := ⟨by omega, by omega, by omega, by omega, by omega, by omega, by omega⟩
  simp only [beq_self_eq_true, oite_not, oite_t, oite_f]
  refine (implRoom_ok _ h l (n + N) g ho2 _).trans ?_
  try simp only [osame_t]
  rw [ocall_int]
  try simp only
  rw [w64_id (x := l + h - n - N) (by omega) (by omega), oite_if, if_pos (by simp; omega), impl_HeapOk_ok, ocall_t (t := decide (hOk (zeroed w n.toNat N.toNat) h l (n + N) g)) (u := (ints (zeroed w n.toNat N.toNat), accs g, ())) rfl rfl rfl]
  simp only [osame_t]
  rw [show (decide (hOk (zeroed w n.toNat N.toNat) h l (n + N) g)) = true from decide_eq_true ho2, laws_FnPlaces_j2_eq]
  simp only [Bool.not_true, oite_f]
  rw [laws_FnPlaces_j1_eq]
  obtain ⟨s, e2, s0, s1⟩ := at_ok b hb hw 2 (by omega)
  rw [e2, ocall_int, oguard_dec (by omega)]
  have p1 : 0 ≤ Int.tmod s N := Int.tmod_nonneg _ s0
  have p2 : Int.tmod s N < N := Int.tmod_lt_of_pos _ (by omega)
  generalize Int.tmod s N = off at p1 p2
  refine (storeI_ok _ h l (n + N) g n off 77 ho2 ⟨by omega, by omega, by omega, by omega⟩ _).trans ?_
  simp only [oite_not, oite_t]
  generalize hy : (zeroed w n.toNat N.toNat).set (n + off).toNat 77 = y
  generalize hg' : logd g (.mk (n + off) l (n + N)) = g'
  have hyl : y.length = w.length := by rw [← hy, List.length_set, hzl]
  have hgl' : g'.length ≤ 4000 := by rw [← hg']; exact logd_len2 (by omega)
  have ho3 : hOk y h l (n + N) g' := ⟨by omega, by omega, by omega, by omega, by omega, by omega, by omega⟩
  have hmid : ∀ i : Int, 0 ≤ i → i < N → y[(n + i).toNat]? = some (if i = off then 77 else 0) := by
    intro i h1 h2
    rw [← hy, List.getElem?_set]
    by_cases e : i = off
    · subst e
      rw [if_pos rfl, if_pos rfl, if_pos (by omega)]
    · rw [if_neg (by omega), if_neg e]
      exact zeroed_mid (by omega) (by omega) (by omega)
  have hlow : ∀ i : Nat, (i : Int) < n → y[i]? = w[i]? := by
    intro i h1
    rw [← hy, List.getElem?_set, if_neg (by omega)]
    exact zeroed_low (by omega) (by omega)
  have hend : laws_FnPlaces_j6 l (hp w h l n g) h l (n + N) (ints y) (accs g') = some (.d (.bool true), []) :=
    j6_ok w y h l n (n + N) g g' hyl.symm (by omega) (by omega) (by omega) hlow (n - l).toNat l (by omega) (by omega)
  have key : ∀ (k : Nat) (i : Int), i + k = N → 0 ≤ i → laws_FnPlaces_j3 i off n N h l (n + N) (hp w h l n g) (ints y) (accs g') = some (.d (.bool true), []) := by
    intro k
    induction k with
    | zero =>
      intro i hi _
      rw [laws_FnPlaces_j3_eq, oite_dec, if_neg (by omega)]
      exact hend
    | succ k ih =>
      intro i hi h0
      rw [laws_FnPlaces_j3_eq, oite_dec, if_pos (by omega)]
      obtain ⟨g2, hld⟩ := loadI_ok y h l (n + N) g' n i _ ho3 ⟨by omega, by omega, by omega, by omega⟩ (hmid i h0 (by omega))
      refine (hld _).trans ?_
      simp only
      have step : ∀ v : Int, laws_FnPlaces_j4 off n N i v v true h l (n + N) (hp w h l n g) (ints y) (accs g') = some (.d (.bool true), []) := by
        intro v
        rw [laws_FnPlaces_j4_eq]
        simp only [Bool.not_true, oite_f, beq_self_eq_true]
        rw [laws_FnPlaces_j5_eq, oite_f, w64_id (by omega) (by omega)]
        exact ih (i + 1) (by omega) (by omega)
      rw [oite_if]
      by_cases e : i = off
      · rw [if_pos (by simpa using e), if_pos e, e]
        have := step 77
        rw [e] at this
        exact this
      · rw [if_neg (by simpa using e), if_neg e]
        exact step 0
  exact key N.toNat 0 (by omega) (by omega)
end Go.Ev.Q
