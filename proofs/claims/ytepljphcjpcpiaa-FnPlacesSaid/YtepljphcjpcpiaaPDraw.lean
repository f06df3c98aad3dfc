/-
  Draws come to an end, whatever the code is.
-/
import Derived.Test.YtepljphcjpcpiaaPPl
set_option linter.unusedVariables false
set_option linter.unusedSimpArgs false
namespace Go.Ev.Q
open Go Go.Ev

abbrev cur (b : List Int) (i h : Int) : T_l1Cur := (bytes b, i, h, ())
abbrev curB (b : List Int) (i h : Int) : Mem := [.box (LS.encs sh_l1Cur (cur b i h))]
theorem ocall_cur {R : Type} {v : Int} {b : List Int} {i h : Int} {f : Int → T_l1Cur × Unit → Option R} : ocall (.m (.one (.int .i64))) [.box sh_l1Cur] (some (.d (.int .i64 v), curB b i h)) f = f v (cur b i h, ()) := ocall_int_box rfl

theorem and255 (X : BitVec 64) : 0 ≤ ((BitVec.toNat (X &&& BitVec.ofInt 64 255) : Nat) : Int) ∧ ((BitVec.toNat (X &&& BitVec.ofInt 64 255) : Nat) : Int) ≤ 255 := by
  have h : BitVec.toNat (X &&& BitVec.ofInt 64 255) ≤ 255 := by
    rw [BitVec.toNat_and]
    exact Nat.and_le_right
  omega
theorem wand255 (X : BitVec 64) : 0 ≤ w64 ((BitVec.toNat (X &&& BitVec.ofInt 64 255) : Nat) : Int) ∧ w64 ((BitVec.toNat (X &&& BitVec.ofInt 64 255) : Nat) : Int) ≤ 255 := by
  have := and255 X
  rw [w64_id (by omega) (by omega)]
  exact this
theorem l1Byte_ok (b : List Int) (i h : Int) (hi : 0 ≤ i) (hb : lenOk b) : ∃ r i' h', spec_l1Byte (cur b i h) = some (.d (.int .i64 r), curB b i' h') ∧ 0 ≤ r ∧ r ≤ 255 ∧ 0 ≤ i' := by
  rw [spec_l1Byte_eq]
  simp only [oguard_true]
  rw [oite_dec]
  by_cases h1 : i < b.length
  · rw [if_pos (by simpa [bytes_n] using h1)]
    have ha : b[i.toNat]? = some (b[i.toNat]'(by omega)) := by simp
    rw [show bytes b = sl (sh := [.int .u8]) (fun n => (n, ())) b from rfl, oat_sl rfl hi ha]
    unfold lenOk at hb
    exact ⟨_, _, _, rfl, (wand255 _).1, (wand255 _).2, by rw [w64_id (by omega) (by omega)]; omega⟩
  · rw [if_neg (by simpa [bytes_n] using h1)]
    exact ⟨_, _, _, rfl, (wand255 _).1, (wand255 _).2, hi⟩
theorem l1Below_ok (n : Int) (b : List Int) (i h : Int) (hi : 0 ≤ i) (hb : lenOk b) (hn : n ≤ 4294967296) : ∃ r i' h', spec_l1Below n (cur b i h) = some (.d (.int .i64 r), curB b i' h') ∧ 0 ≤ r ∧ (0 < n → r < n) ∧ (n ≤ 0 → r = 0) ∧ 0 ≤ i' := by
  rw [spec_l1Below_eq, oite_dec]
  by_cases h1 : n ≤ 0
  · rw [if_pos h1]
    exact ⟨0, i, h, rfl, by omega, by omega, fun _ => rfl, hi⟩
  rw [if_neg h1, oite_dec]
  by_cases h2 : n ≤ 256
  · rw [if_pos h2]
    obtain ⟨r, i', h', e, r0, r1, i0⟩ := l1Byte_ok b i h hi hb
    rw [e, ocall_cur, oguard_dec (by omega)]
    refine ⟨_, i', h', rfl, ?_, fun _ => ?_, by omega, i0⟩
    · exact Int.tmod_nonneg _ r0
    · exact Int.tmod_lt_of_pos _ (by omega)
  · rw [if_neg h2]
    obtain ⟨r, i1, h3, e1, r0, r1, q1⟩ := l1Byte_ok b i h hi hb
    obtain ⟨s, i2, h4, e2, s0, s1, q2⟩ := l1Byte_ok b i1 h3 q1 hb
    obtain ⟨t, i3, h5, e3, t0, t1, q3⟩ := l1Byte_ok b i2 h4 q2 hb
    obtain ⟨u, i4, h6, e4, u0, u1, q4⟩ := l1Byte_ok b i3 h5 q3 hb
    rw [e1, ocall_cur]; simp only
    rw [e2, ocall_cur]; simp only
    rw [e3, ocall_cur]; simp only
    rw [e4, ocall_cur]; simp only
    rw [w64_id (x := r * 16777216) (by omega) (by omega), w64_id (x := s * 65536) (by omega) (by omega), w64_id (x := t * 256) (by omega) (by omega),
      w64_id (x := r * 16777216 + s * 65536) (by omega) (by omega), w64_id (x := r * 16777216 + s * 65536 + t * 256) (by omega) (by omega), w64_id (x := r * 16777216 + s * 65536 + t * 256 + u) (by omega) (by omega), oguard_dec (by omega)]
    refine ⟨_, i4, h6, rfl, ?_, fun _ => ?_, by omega, q4⟩
    · exact Int.tmod_nonneg _ (by omega)
    · exact Int.tmod_lt_of_pos _ (by omega)
theorem l1Once_ok (n : Int) (b : List Int) (i h : Int) (hi : 0 ≤ i) (hb : lenOk b) (hn : n ≤ 4294967296) : ∃ (r : Bool) (i' h' : Int), (∀ f : Bool → T_l1Cur × Unit → Res, ocall (.m (.one .bool)) [.box sh_l1Cur] (spec_l1Once n (cur b i h)) f = f r (cur b i' h', ())) ∧ 0 ≤ i' := by
  obtain ⟨r, i', h', e, _, _, _, i0⟩ := l1Below_ok n b i h hi hb hn
  refine ⟨r == 0, i', h', fun f => ?_, i0⟩
  rw [spec_l1Once_eq, e, ocall_cur]
  exact ocall_bool_box (l := sh_l1Cur) rfl (t := cur b i' h')
theorem l1PickInt_ok (l : List Int) (b : List Int) (i h : Int) (hi : 0 ≤ i) (hb : lenOk b) (hl : 0 < l.length) (hl2 : l.length < 4294967296) : ∃ r i' h', spec_l1PickInt (ints l) (cur b i h) = some (.d (.int .i64 r), curB b i' h') ∧ r ∈ l ∧ 0 ≤ i' := by
  obtain ⟨r, i', h', e, r0, r1, _, i0⟩ := l1Below_ok (l.length : Int) b i h hi hb (by omega)
  have hr := r1 (by omega)
  rw [spec_l1PickInt_eq, ints_n, e, ocall_cur]
  have ha : l[r.toNat]? = some (l[r.toNat]'(by omega)) := by simp
  rw [show ints l = sl (sh := [.int .i64]) (fun n => (n, ())) l from rfl]
  rw [← sl_n (sh := [.int .i64]) (g := fun n => (n, ())) (l := l), oat_sl rfl r0 ha]
  exact ⟨_, i', h', rfl, List.getElem_mem _, i0⟩
theorem l1num_ok (b : List Int) (i h : Int) (hi : 0 ≤ i) (hb : lenOk b) : ∃ r i' h', spec_l1num (cur b i h) = some (.d (.int .i64 r), curB b i' h') ∧ 0 ≤ i' := by
  obtain ⟨r, i1, h1, e1, _, _, _, q1⟩ := l1Below_ok 5 b i h hi hb (by omega)
  rw [spec_l1num_eq, e1, ocall_cur, oite_if]
  by_cases c1 : (r == 0) = true
  · rw [if_pos c1]
    obtain ⟨r, i2, h2, e2, _, _, _, q2⟩ := l1Below_ok 4 b i1 h1 q1 hb (by omega)
    rw [e2, ocall_cur]; exact ⟨_, _, _, rfl, q2⟩
  rw [if_neg c1, oite_if]
  by_cases c2 : (r == 1) = true
  · rw [if_pos c2]
    obtain ⟨r, i2, h2, e2, _, q2⟩ := l1PickInt_ok [126, 127, 128, 129, 16383, 16384, 2097151, 2097152, 2147483646, 2147483647] b i1 h1 q1 hb (by decide) (by decide)
    have e2 : spec_l1PickInt (10, [[D.int .i64 126], [D.int .i64 127], [D.int .i64 128], [D.int .i64 129], [D.int .i64 16383], [D.int .i64 16384], [D.int .i64 2097151], [D.int .i64 2097152], [D.int .i64 2147483646], [D.int .i64 2147483647]]) (cur b i1 h1) = _ := e2
    rw [e2, ocall_cur]; exact ⟨_, _, _, rfl, q2⟩
  rw [if_neg c2, oite_if]
  by_cases c3 : (r == 2) = true
  · rw [if_pos c3]
    obtain ⟨r, i2, h2, e2, _, _, _, q2⟩ := l1Below_ok 40000 b i1 h1 q1 hb (by omega)
    rw [e2, ocall_cur]; exact ⟨_, _, _, rfl, q2⟩
  rw [if_neg c3, oite_if]
  by_cases c4 : (r == 3) = true
  · rw [if_pos c4]
    obtain ⟨r, i2, h2, e2, _, q2⟩ := l1PickInt_ok [-1, -2, 2147483648, 4611686018427387904, -9223372036854775808, 9223372036854775807] b i1 h1 q1 hb (by decide) (by decide)
    have e2 : spec_l1PickInt (6, [[D.int .i64 (-1)], [D.int .i64 (-2)], [D.int .i64 2147483648], [D.int .i64 4611686018427387904], [D.int .i64 (-9223372036854775808)], [D.int .i64 9223372036854775807]]) (cur b i1 h1) = _ := e2
    rw [e2, ocall_cur]; exact ⟨_, _, _, rfl, q2⟩
  rw [if_neg c4]
  obtain ⟨r, i2, h2, e2, _, _, _, q2⟩ := l1Below_ok 2147483647 b i1 h1 q1 hb (by omega)
  rw [e2, ocall_cur]; exact ⟨_, _, _, rfl, q2⟩
theorem l1New_j1_ok (b : List Int) (hb : lenOk b) : ∀ (n i : Nat) (x : Int), i + n = 4000 → i ≤ b.length → ∃ h, spec_l1New_j1 (i : Int) (bytes b) x = some (.ptr 0 0, curB b 0 h)
  | 0, i, x, hi, hl => by
    rw [spec_l1New_j1_eq, oite_dec, show (decide ((i : Int) < 4000)) = false from decide_eq_false (by omega)]
    have e : spec_l1New_j3 (bytes b) i x false = some (.ptr 0 0, curB b 0 x) := by rw [spec_l1New_j3_eq, oite_f]
    split <;> exact ⟨x, e⟩
  | n + 1, i, x, hi, hl => by
    rw [spec_l1New_j1_eq, oite_dec]
    by_cases h1 : i < b.length
    · rw [if_pos (by rw [bytes_n]; omega), show (decide ((i : Int) < 4000)) = true from decide_eq_true (by omega), spec_l1New_j3_eq, oite_t, spec_l1New_j2_eq]
      have ha : b[(i : Int).toNat]? = some (b[i]) := by simp [h1]
      rw [show bytes b = sl (sh := [.int .u8]) (fun n => (n, ())) b from rfl, oat_sl rfl (by omega) ha]
      unfold lenOk at hb
      rw [w64_succ (by omega)]
      exact l1New_j1_ok b hb n (i + 1) _ (by omega) (by omega)
    · rw [if_neg (by rw [bytes_n]; omega), spec_l1New_j3_eq, oite_f]
      exact ⟨_, rfl⟩
theorem l1New_ok (b : List Int) (hb : lenOk b) : ∃ h, spec_l1New (bytes b) = some (.ptr 0 0, curB b 0 h) := by
  rw [spec_l1New_eq]
  exact l1New_j1_ok b hb 4000 0 _ (by omega) (by omega)
end Go.Ev.Q
