/-
  The drawn heap of FnPlaces.
-/
import Derived.Test.YtepljphcjpcpiaaPDraw
set_option linter.unusedVariables false
set_option linter.unusedSimpArgs false
namespace Go.Ev.Q
open Go Go.Ev

theorem logd_len2 {g : List Access} {a : Access} (h : g.length ≤ 4000) : (logd g a).length ≤ 4000 := by
  unfold logd; split <;> simp <;> omega
abbrev bxT : ES := .box [.own 1, .int .i64, .int .i64, .int .i64, .own 2]
theorem l2store_ok (p o v h l n : Int) (w : List Int) (g : List Access) (ho : hOk w h l n g) : ∃ (ok : Bool) (w' : List Int) (g' : List Access), w'.length = w.length ∧ g'.length ≤ 4000 ∧
    ∀ f : _ → _ → Res, ocall (.m (.one .bool)) [bxT, .row 1 false false, .row 3 false true] (spec_l2store p o v h l n (ints w) (accs g)) f = f ok (((), h, l, n, (), ()), ints w', accs g', ()) := by
  by_cases hp : inP p o l n
  · have hn : (ints w).1 = (ints (w.set (p + o).toNat v)).1 := by rw [ints_n, ints_n, List.length_set]
    refine ⟨true, w.set (p + o).toNat v, logd g (.mk (p + o) l n), by rw [List.length_set], logd_len2 (by omega), fun f => ?_⟩
    rw [spec_l2store_eq, l2in_ok p o h l n w g ho, ocall_t (t := decide (inP p o l n)) (u := (((), h, l, n, (), ()), ints w, accs g, ())) rfl rfl rfl, oite_not, oite_dec, if_pos hp, w64_id (x := p + o) (by omega) (by omega),
      l2log_ok (p + o) h l n w g (by omega), ocall_t (t := ()) (u := (((), h, l, n, (), ()), ints w, accs (logd g (.mk (p + o) l n)), ())) rfl rfl rfl, oguard_dec ⟨by omega, by simp only [ints_n]; omega⟩, olet_eq]
    simp only
    rw [put_word (by omega) (by omega), hn]
    exact ocall_t rfl rfl rfl
  · refine ⟨false, w, g, rfl, by omega, fun f => ?_⟩
    rw [spec_l2store_eq, l2in_ok p o h l n w g ho, ocall_t (t := decide (inP p o l n)) (u := (((), h, l, n, (), ()), ints w, accs g, ())) rfl rfl rfl, oite_not, oite_dec, if_neg hp]
    exact ocall_t rfl rfl rfl

abbrev hp (w : List Int) (h l n : Int) (g : List Access) : T_Heap := (ints w, h, l, n, accs g, ())
/-- A drawn heap. -/
def Drawn (b : List Int) (x : Res) : Prop := ∃ w h l n g i k, x = some (.agg (LS.encs sh_Heap (hp w h l n g)), curB b i k) ∧ w.length ≤ 8192 ∧ g.length ≤ 4001 ∧ 0 ≤ i

theorem accs_rep (n : Nat) : (n, List.replicate n (vDs (LS.encs sh_Access ((0 : Int), (0 : Int), (0 : Int), ())))) = accs (List.replicate n (.mk 0 0 0)) := by
  refine Prod.ext ?_ ?_
  · rw [accs_n, List.length_replicate]
  · rw [accs_es, List.map_replicate]; rfl
theorem j2_ok (b : List Int) (i k : Int) (hi : 0 ≤ i) (hb : lenOk b) (y1 y2 y3 : Int) (z1 z2 : Sl) (w : List Int) (h l n : Int) (g : List Access) (hw : 1 ≤ w.length) (hw2 : w.length ≤ 8192) (hg : g.length ≤ 4000) :
    Drawn b (spec_l2heap_j2 (cur b i k) y1 y2 y3 h l n z1 z2 (ints w) (accs g)) := by
  obtain ⟨r, i1, k1, e1, q1⟩ := l1Once_ok 12 b i k hi hb (by omega)
  rw [spec_l2heap_j2_eq, e1]
  have plain : ∀ (i k : Int), 0 ≤ i → ∀ (h l n : Int) (w : List Int) (g : List Access), w.length ≤ 8192 → g.length ≤ 4001 → Drawn b (spec_l2heap_j3 (cur b i k) y1 y2 y3 h l n z1 z2 (ints w) (accs g)) :=
    fun i k hi h l n w g hw hg => ⟨w, h, l, n, g, i, k, spec_l2heap_j3_eq .., hw, hg, hi⟩
  rw [oite_if]
  by_cases c : r = true
  rotate_left
  · rw [if_neg c]; exact plain _ _ q1 _ _ _ _ _ hw2 (by omega)
  rw [if_pos c]
  obtain ⟨r, i2, k2, e2, _, _, _, q2⟩ := l1Below_ok 7 b i1 k1 q1 hb (by omega)
  simp only
  rw [e2, ocall_cur, oite_if]
  simp only
  by_cases c : (r == 0) = true
  · rw [if_pos c]
    obtain ⟨r, i3, k3, e3, _, q3⟩ := l1PickInt_ok [15, 4097, -1, w64 (h + 1)] b i2 k2 q2 hb (by simp) (by simp)
    have e3 : spec_l1PickInt (4, [[D.int .i64 15], [D.int .i64 4097], [D.int .i64 (-1)], [D.int .i64 (w64 (h + 1))]]) (cur b i2 k2) = _ := e3
    rw [e3, ocall_cur]; exact plain _ _ q3 _ _ _ _ _ hw2 (by omega)
  rw [if_neg c, oite_if]
  by_cases c : (r == 1) = true
  · rw [if_pos c]
    obtain ⟨r, i3, k3, e3, _, q3⟩ := l1PickInt_ok [1, -1, w64 (2 * h)] b i2 k2 q2 hb (by simp) (by simp)
    have e3 : spec_l1PickInt (3, [[D.int .i64 1], [D.int .i64 (-1)], [D.int .i64 (w64 (2 * h))]]) (cur b i2 k2) = _ := e3
    rw [e3, ocall_cur]; exact plain _ _ q3 _ _ _ _ _ hw2 (by omega)
  rw [if_neg c, oite_if]
  by_cases c : (r == 2) = true
  · rw [if_pos c]
    obtain ⟨r, i3, k3, e3, _, q3⟩ := l1PickInt_ok [-1, w64 (w64 (2 * h) + 1), w64 (h + 1)] b i2 k2 q2 hb (by simp) (by simp)
    have e3 : spec_l1PickInt (3, [[D.int .i64 (-1)], [D.int .i64 (w64 (w64 (2 * h) + 1))], [D.int .i64 (w64 (h + 1))]]) (cur b i2 k2) = _ := e3
    rw [e3, ocall_cur]; exact plain _ _ q3 _ _ _ _ _ hw2 (by omega)
  rw [if_neg c, oite_if]
  by_cases c : (r == 3) = true
  · rw [if_pos c, ints_n, w64_id (by omega) (by omega), oguard_dec ⟨by omega, by omega⟩]
    refine ⟨w.take (w.length - 1), h, l, n, g, i2, k2, ?_, by simp; omega, by omega, q2⟩
    rw [spec_l2heap_j3v1_eq]
    have : ((Int.toNat ((w.length : Int) - 1), List.take (Int.toNat ((w.length : Int) - 1)) (List.drop 0 (ints w).2)) : Sl) = ints (w.take (w.length - 1)) := by
      refine Prod.ext ?_ ?_
      · rw [ints_n]; simp
      · simp [ints_es, List.map_take]
    rw [this]
  rw [if_neg c, oite_if]
  by_cases c : (r == 4) = true
  · rw [if_pos c]
    simp only [oguard_true, olet_eq]
    refine ⟨w, h, l, n, List.replicate 4001 (.mk 0 0 0), i2, k2, ?_, hw2, by rw [List.length_replicate]; omega, q2⟩
    rw [accs_rep, spec_l2heap_j3v2_eq]
  rw [if_neg c, oite_if]
  by_cases c : (r == 5) = true
  · rw [if_pos c]
    simp only [oguard_true, olet_eq]
    refine ⟨w, h, l, n, List.replicate 4000 (.mk 0 0 0), i2, k2, ?_, hw2, by rw [List.length_replicate]; omega, q2⟩
    rw [accs_rep, spec_l2heap_j3v2_eq]
  rw [if_neg c]
  exact ⟨[], h, l, n, g, i2, k2, by rw [spec_l2heap_j3v3_eq]; rfl, by simp, by omega, q2⟩

theorem l1signed_ok (b : List Int) (i h : Int) (hi : 0 ≤ i) (hb : lenOk b) : ∃ r i' h', spec_l1signed (cur b i h) = some (.d (.int .i64 r), curB b i' h') ∧ 0 ≤ i' := by
  obtain ⟨r, i1, h1, e1, _, _, _, q1⟩ := l1Below_ok 4 b i h hi hb (by omega)
  rw [spec_l1signed_eq, e1, ocall_cur, oite_if]
  by_cases c1 : (r == 0) = true
  · rw [if_pos c1]
    obtain ⟨r, i2, h2, e2, _, _, _, q2⟩ := l1Below_ok 9 b i1 h1 q1 hb (by omega)
    rw [e2, ocall_cur]; exact ⟨_, _, _, rfl, q2⟩
  rw [if_neg c1, oite_if]
  by_cases c2 : (r == 1) = true
  · rw [if_pos c2]
    have hp : ∀ l : List Int, 0 < l.length → l.length < 4294967296 → ∃ r i' h', (ocall (.m (.one (.int .i64))) [(.box sh_l1Cur)] (spec_l1PickInt (ints l) (cur b i1 h1)) fun (r4 : Int) (m5 : (T_l1Cur × Unit)) => (some ((.d (.int .i64 r4)), [(.box (LS.encs sh_l1Cur m5.1))]) : Res)) = some (.d (.int .i64 r), curB b i' h') ∧ 0 ≤ i' := fun l h1' h2' => by
      obtain ⟨r, i2, h2, e2, _, q2⟩ := l1PickInt_ok l b i1 h1 q1 hb h1' h2'
      rw [e2, ocall_cur]; exact ⟨_, _, _, rfl, q2⟩
    exact hp [1073741823, 1073741824, -1073741824, -1073741825, -9223372036854775808, 9223372036854775807, 4611686018427387904, -4611686018427387904, 4611686018427387903, -4611686018427387905] (by decide) (by decide)
  rw [if_neg c2, oite_if]
  by_cases c3 : (r == 2) = true
  · rw [if_pos c3]
    obtain ⟨r, i2, h2, e2, q2⟩ := l1num_ok b i1 h1 q1 hb
    rw [e2, ocall_cur]; exact ⟨_, _, _, rfl, q2⟩
  rw [if_neg c3]
  obtain ⟨r, i2, h2, e2, _, _, _, q2⟩ := l1Below_ok 1073741824 b i1 h1 q1 hb (by omega)
  rw [e2, ocall_cur]; exact ⟨_, _, _, rfl, q2⟩

theorem j1_ok (b : List Int) (hb : lenOk b) (y1 y2 y3 : Int) (z1 z2 : Sl) (top : Nat) (ht : top < 100) (h : Int) : ∀ (r x : Nat) (i k : Int) (w : List Int) (n : Int) (g : List Access), x + r = top → 0 ≤ i → hOk w h 0 n g →
    Drawn b (spec_l2heap_j1 (x : Int) (top : Int) (cur b i k) h 0 n y1 y2 y3 (ints w) (accs g) z1 z2)
  | 0, x, i, k, w, n, g, hx, hi, ho => by
    rw [spec_l2heap_j1_eq, oite_dec, if_neg (by omega)]
    obtain ⟨r, i1, k1, e1, q1⟩ := l1Once_ok 4 b i k hi hb (by omega)
    rw [e1, oite_if]
    simp only
    by_cases c : r = true
    · rw [if_pos c]
      obtain ⟨r, i2, k2, e2, _, _, _, q2⟩ := l1Below_ok (w64 (h + 1)) b i1 k1 q1 hb (by rw [w64_id (by omega) (by omega)]; omega)
      rw [e2, ocall_cur, osame_t]
      exact j2_ok b _ _ q2 hb _ _ _ _ _ w _ _ _ g (by omega) (by omega) (by omega)
    · rw [if_neg c]
      exact j2_ok b _ _ q1 hb _ _ _ _ _ w _ _ _ g (by omega) (by omega) (by omega)
  | r + 1, x, i, k, w, n, g, hx, hi, ho => by
    rw [spec_l2heap_j1_eq, oite_dec, if_pos (by omega)]
    obtain ⟨s, i1, k1, e1, s0, s1, _, q1⟩ := l1Below_ok 5 b i k hi hb (by omega)
    have s1 := s1 (by omega)
    rw [e1, ocall_cur]
    simp only
    rw [spec_l2alloc_ok _ w h 0 n g ho]
    by_cases hf : fits (w64 (1 + s)) h 0 n
    · rw [if_pos hf]
      rw [w64_id (by omega) (by omega)] at hf ⊢
      rw [ocall_t (t := (n, true, ())) (u := (((), h, 0, n + (1 + s), (), ()), ints (zeroed w n.toNat (1 + s).toNat), accs g, ())) rfl rfl rfl, oite_t]
      obtain ⟨s2, i2, k2, e2, _, _, _, q2⟩ := l1Below_ok 3 b i1 k1 q1 hb (by omega)
      rw [e2, ocall_cur]
      obtain ⟨s3, i3, k3, e3, q3⟩ := l1signed_ok b i2 k2 q2 hb
      simp only
      rw [e3, ocall_cur]
      have hz : (zeroed w n.toNat (1 + s).toNat).length = w.length := zeroed_len (by omega)
      obtain ⟨ok, w', g', h1, h2, h3⟩ := l2store_ok n s2 s3 h 0 (n + (1 + s)) (zeroed w n.toNat (1 + s).toNat) g ⟨by omega, by omega, by omega, by omega, by omega, by omega, by omega⟩
      simp only
      rw [h3, w64_succ (by omega)]
      simp only
      exact j1_ok b hb y1 y2 y3 z1 z2 top ht h r (x + 1) i3 k3 w' _ g' (by omega) q3 ⟨by omega, by omega, by omega, by omega, by omega, by omega, by omega⟩
    · rw [if_neg hf, ocall_t (t := (0, false, ())) (u := (((), h, 0, n, (), ()), ints w, accs g, ())) rfl rfl rfl, oite_f, w64_succ (by omega)]
      exact j1_ok b hb y1 y2 y3 z1 z2 top ht h r (x + 1) i1 k1 w n g (by omega) q1 ho

theorem l2heap_ok (b : List Int) (i k : Int) (hi : 0 ≤ i) (hb : lenOk b) : Drawn b (spec_l2heap (cur b i k)) := by
  obtain ⟨r, i1, k1, e1, r0, r1, _, q1⟩ := l1Below_ok 20 b i k hi hb (by omega)
  have r1 := r1 (by omega)
  rw [spec_l2heap_eq, e1, ocall_cur]
  simp only
  rw [w64_id (x := 16 + r) (by omega) (by omega), spec_HeapNew_eq, oite_dec, if_neg (by omega), spec_HeapNew_j2_eq, oite_dec, if_neg (by omega), spec_HeapNew_j1_eq, w64_id (x := 2 * (16 + r)) (by omega) (by omega), oguard_dec ⟨by omega, rfl, by omega⟩, olet_eq]
  have ew : (Int.toNat (2 * (16 + r)), List.replicate (Int.toNat (2 * (16 + r))) ([D.int .i64 0])) = ints (List.replicate (Int.toNat (2 * (16 + r))) 0) := by
    refine Prod.ext ?_ ?_
    · rw [ints_n, List.length_replicate]
    · rw [ints_es, List.map_replicate]
  rw [ocall_t (t := (((), 16 + r, 0, 0, (), ()), true, ())) (u := (ints (List.replicate (Int.toNat (2 * (16 + r))) 0), accs [], ())) rfl rfl (by rw [← ew]; rfl)]
  obtain ⟨s, i2, k2, e2, s0, s1, _, q2⟩ := l1Below_ok 6 b i1 k1 q1 hb (by omega)
  have s1 := s1 (by omega)
  simp only
  rw [e2, ocall_cur]
  obtain ⟨m, rfl⟩ : ∃ m : Nat, s = m := ⟨s.toNat, by omega⟩
  exact j1_ok b hb 0 0 0 (0, []) (0, []) m (by omega) (16 + r) m 0 i2 k2 _ 0 [] (by omega) q2 ⟨by omega, by omega, by simp; omega, by simp, by omega, by omega, by omega⟩

theorem DrawAlloc_ok (b : List Int) (hb : lenOk b) : ∃ w h l n g x, spec_DrawAlloc (bytes b) = some (.tup [.agg (LS.encs sh_Heap (hp w h l n g)), .d (.int .i64 x)], []) ∧ w.length ≤ 8192 ∧ g.length ≤ 4001 := by
  obtain ⟨k, e0⟩ := l1New_ok b hb
  rw [spec_DrawAlloc_eq, e0, ocall_t (t := ()) (u := (cur b 0 k, ())) rfl rfl rfl]
  obtain ⟨w, h, l', n, g, i1, k1, e1, hw, hg, q1⟩ := l2heap_ok b 0 k (by omega) hb
  simp only
  rw [e1, ocall_t (t := hp w h l' n g) (u := (cur b i1 k1, ())) rfl rfl rfl]
  have hpk : ∀ l : List Int, 0 < l.length → l.length < 4294967296 → ∀ X : List V, ∃ x, (ocall (.m (.one (.int .i64))) [(.box sh_l1Cur)] (spec_l1PickInt (ints l) (cur b i1 k1)) fun (r4 : Int) (m5 : (T_l1Cur × Unit)) => osame (α := List V) X X ((some (.tup [.agg (LS.encs sh_Heap (hp w h l' n g)), .d (.int .i64 r4)], []) : Res))) = some (.tup [.agg (LS.encs sh_Heap (hp w h l' n g)), .d (.int .i64 x)], []) := fun l h1 h2 X => by
    obtain ⟨x, i2, k2, e2, _, _⟩ := l1PickInt_ok l b i1 k1 q1 hb h1 h2
    exact ⟨x, by rw [e2, ocall_cur, osame_t]⟩
  obtain ⟨x, hx⟩ := hpk [0, 1, 2, 3, 64, 65, w64 (w64 (l' + h) - n), w64 (w64 (w64 (l' + h) - n) + 1), -1, 4611686018427387904] (by simp) (by simp) _
  exact ⟨w, h, l', n, g, x, hx, hw, hg⟩
end Go.Ev.Q
