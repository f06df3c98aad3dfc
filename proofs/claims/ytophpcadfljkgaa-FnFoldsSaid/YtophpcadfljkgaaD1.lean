/- What is drawn: bytes, numbers, lists of bytes; each drawing comes to an end, within its bounds. -/
import Derived.Test.YtophpcadfljkgaaB
import Derived.Test.YtophpcadfljkgaaM1
import Derived.Test.YtophpcadfljkgaaPAx0
import Derived.Test.YtophpcadfljkgaaPAx8
import Derived.Test.YtophpcadfljkgaaPAx9
import Derived.Test.YtophpcadfljkgaaPAx10
import Derived.Test.YtophpcadfljkgaaPAx11
import Derived.Test.YtophpcadfljkgaaPAx12
import Derived.Test.YtophpcadfljkgaaPAx13
import Derived.Test.YtophpcadfljkgaaPAx14
import Derived.Test.YtophpcadfljkgaaPAx22
namespace Go.Proofs.Ytophpcadfljkgaa.E
open Go Go.RowKit Go.Proofs.Ytophpcadfljkgaa.PA Go.Proofs.Ytophpcadfljkgaa.M Go.Proofs.YtophpcadfljkgaaW.PrintWords Go.Proofs.YtophpcadfljkgaaW.PrintLast Go.Proofs.YtophpcadfljkgaaW.PrintMore

def St (l : List Int) (i : Int) : Prop := 0 ≤ i ∧ i ≤ (l.length : Int) ∧ l.length ≤ 140737488351232

theorem l1New_l {l : List Int} (d : Nat) : ∀ (i : Nat) (h : Int), d + i = 4000 → ∃ h', Ev (fun k => spec_l1New.l0 k l h (i : Int)) (l, 0, h') := by
  induction d with
  | zero =>
    intro i h hi
    refine ⟨h, Ev.at1 fun k => ?_⟩
    rw [spec_l1New.l0]
    by_cases c : (i : Int) < (l.length : Int)
    · rw [if_pos c, if_neg (by omega)]
    · rw [if_neg c]
  | succ d ih =>
    intro i h hi
    by_cases c : (i : Int) < (l.length : Int)
    · have hw : wrap64 ((i : Int) + 1) = ((i + 1 : Nat) : Int) := by rw [w64 (by omega) (by omega)]; omega
      obtain ⟨h', e⟩ := ih (i + 1) _ (by omega)
      refine ⟨h', Ev.step (fun k => ?_) e⟩
      rw [spec_l1New.l0, if_pos c, if_pos (by omega), if_pos (by omega), hw]
    · refine ⟨h, Ev.at1 fun k => ?_⟩
      rw [spec_l1New.l0, if_neg c]

theorem l1New {l : List Int} (hl : l.length ≤ 140737488351232) : ∃ h, Ev (fun k => spec_l1New.f k l) (l, 0, h) ∧ St l 0 := by
  obtain ⟨h', e⟩ := l1New_l 4000 0 (wrap64 (29393 + (l.length : Int))) (by omega)
  exact ⟨h', e, by unfold St; omega⟩

theorem l1Byte {l : List Int} {i : Int} (h : Int) (hs : St l i) : ∃ x i' h', spec_l1Byte.f l i h = some (x, i', h') ∧ 0 ≤ x ∧ x < 256 ∧ St l i' := by
  unfold St at hs ⊢
  unfold spec_l1Byte.f
  by_cases c : i < (l.length : Int)
  · rw [if_pos c, if_pos hs.1, w64 (n := i + 1) (by omega) (by omega), and255]
    exact ⟨_, _, _, rfl, by omega, by omega, by omega⟩
  · rw [if_neg c, and255]
    exact ⟨_, _, _, rfl, by omega, by omega, hs⟩

theorem l1Below {l : List Int} {i : Int} (h : Int) (hs : St l i) (n : Int) : ∃ x i' h', spec_l1Below.f l i h n = some (x, i', h') ∧ 0 ≤ x ∧ (0 < n → x < n) ∧ St l i' := by
  unfold spec_l1Below.f
  by_cases c : n ≤ 0
  · rw [if_pos c]
    exact ⟨_, _, _, rfl, by omega, fun h => by omega, hs⟩
  · rw [if_neg c]
    obtain ⟨x1, i1, h1, e1, a1, b1, s1⟩ := l1Byte h hs
    by_cases c2 : n ≤ 256
    · rw [if_pos c2, e1, Option.bind_some, if_neg (by omega)]
      have hm : Int.tmod x1 n = x1 % n := Int.tmod_eq_emod_of_nonneg a1
      simp only [hm]
      exact ⟨_, _, _, rfl, Int.emod_nonneg _ (by omega), fun _ => Int.emod_lt_of_pos _ (by omega), s1⟩
    · rw [if_neg c2, e1, Option.bind_some]
      simp only
      obtain ⟨x2, i2, h2, e2, a2, b2, s2⟩ := l1Byte h1 s1
      rw [e2, Option.bind_some]
      simp only
      obtain ⟨x3, i3, h3, e3, a3, b3, s3⟩ := l1Byte h2 s2
      rw [e3, Option.bind_some]
      simp only
      obtain ⟨x4, i4, h4, e4, a4, b4, s4⟩ := l1Byte h3 s3
      rw [e4, Option.bind_some]
      simp only
      have hv : 0 ≤ wrap64 (wrap64 (wrap64 (wrap64 (x1 * 16777216) + wrap64 (x2 * 65536)) + wrap64 (x3 * 256)) + x4) := by unfold wrap64; omega
      rw [if_neg (by omega), Int.tmod_eq_emod_of_nonneg hv]
      exact ⟨_, _, _, rfl, Int.emod_nonneg _ (by omega), fun _ => Int.emod_lt_of_pos _ (by omega), s4⟩

theorem l1Once {l : List Int} {i : Int} (h : Int) (hs : St l i) (n : Int) : ∃ b i' h', spec_l1Once.f l i h n = some (b, i', h') ∧ St l i' := by
  obtain ⟨x, i', h', e, _, _, s⟩ := l1Below h hs n
  unfold spec_l1Once.f
  rw [e, Option.bind_some]
  exact ⟨_, _, _, rfl, s⟩

theorem l1PickInt {l : List Int} {i : Int} (h : Int) (hs : St l i) {m : List Int} (hm : 0 < m.length) : ∃ x i' h', spec_l1PickInt.f l i h m = some (x, i', h') ∧ x ∈ m ∧ St l i' := by
  obtain ⟨x, i', h', e, a, b, s⟩ := l1Below h hs (m.length : Int)
  have hx := b (by omega)
  unfold spec_l1PickInt.f
  rw [e, Option.bind_some]
  simp only
  rw [if_pos a, if_pos hx]
  exact ⟨_, _, _, rfl, rd_mem a hx, s⟩

def I64 (x : Int) : Prop := -9223372036854775808 ≤ x ∧ x ≤ 9223372036854775807

theorem l1num {l : List Int} {i : Int} (h : Int) (hs : St l i) : ∃ x i' h', spec_l1num.f l i h = some (x, i', h') ∧ I64 x ∧ St l i' := by
  unfold spec_l1num.f
  obtain ⟨x, i', h', e, a, b, s⟩ := l1Below h hs 5
  rw [e, Option.bind_some]
  simp only
  split
  · obtain ⟨x, i', h', e, a, b, s⟩ := l1Below h' s 4
    rw [e, Option.bind_some]
    exact ⟨_, _, _, rfl, by have := b (by omega); unfold I64; omega, s⟩
  · split
    · obtain ⟨x, i', h', e, a, s⟩ := l1PickInt h' s (m := [126, 127, 128, 129, 16383, 16384, 2097151, 2097152, 2147483646, 2147483647]) (by simp)
      rw [e, Option.bind_some]
      refine ⟨_, _, _, rfl, ?_, s⟩
      simp only [List.mem_cons, List.not_mem_nil, or_false] at a
      unfold I64
      omega
    · split
      · obtain ⟨x, i', h', e, a, b, s⟩ := l1Below h' s 40000
        rw [e, Option.bind_some]
        exact ⟨_, _, _, rfl, by have := b (by omega); unfold I64; omega, s⟩
      · split
        · obtain ⟨x, i', h', e, a, s⟩ := l1PickInt h' s (m := [-1, -2, 2147483648, 4611686018427387904, -9223372036854775808, 9223372036854775807]) (by simp)
          rw [e, Option.bind_some]
          refine ⟨_, _, _, rfl, ?_, s⟩
          simp only [List.mem_cons, List.not_mem_nil, or_false] at a
          unfold I64
          omega
        · obtain ⟨x, i', h', e, a, b, s⟩ := l1Below h' s 2147483647
          rw [e, Option.bind_some]
          exact ⟨_, _, _, rfl, by have := b (by omega); unfold I64; omega, s⟩

theorem l1signed {l : List Int} {i : Int} (h : Int) (hs : St l i) : ∃ x i' h', spec_l1signed.f l i h = some (x, i', h') ∧ I64 x ∧ St l i' := by
  unfold spec_l1signed.f
  obtain ⟨x, i', h', e, a, b, s⟩ := l1Below h hs 4
  rw [e, Option.bind_some]
  simp only
  split
  · obtain ⟨x, i', h', e, a, b, s⟩ := l1Below h' s 9
    rw [e, Option.bind_some]
    exact ⟨_, _, _, rfl, w64_le _, s⟩
  · split
    · obtain ⟨x, i', h', e, a, s⟩ := l1PickInt h' s (m := [1073741823, 1073741824, -1073741824, -1073741825, -9223372036854775808, 9223372036854775807, 4611686018427387904, -4611686018427387904, 4611686018427387903, -4611686018427387905]) (by simp)
      rw [e, Option.bind_some]
      refine ⟨_, _, _, rfl, ?_, s⟩
      simp only [List.mem_cons, List.not_mem_nil, or_false] at a
      unfold I64
      omega
    · split
      · obtain ⟨x, i', h', e, a, s⟩ := l1num h' s
        rw [e, Option.bind_some]
        exact ⟨_, _, _, rfl, a, s⟩
      · obtain ⟨x, i', h', e, a, b, s⟩ := l1Below h' s 1073741824
        rw [e, Option.bind_some]
        exact ⟨_, _, _, rfl, w64_le _, s⟩

theorem shl_i64 (x y : Int) : I64 (shl .i64 x y) := by
  unfold shl I64
  rw [IntKind.wrap_i64]
  omega

theorem DrawWrap {l : List Int} (hl : l.length ≤ 140737488351232) : ∃ x, Ev (fun k => spec_DrawWrap.f k l) x ∧ I64 x := by
  obtain ⟨h, ⟨K, e⟩, s⟩ := l1New hl
  dsimp only at e
  obtain ⟨b, i1, h1, e1, s1⟩ := l1Once h s 3
  obtain ⟨x, i2, h2, e2, a2, s2⟩ := l1signed h1 s1
  obtain ⟨y, i3, h3, e3, a3, b3, s3⟩ := l1Below h2 s2 64
  cases b with
  | true =>
    refine ⟨shl .i64 x y, ⟨K, fun k hk => ?_⟩, shl_i64 x y⟩
    show spec_DrawWrap.f k l = _
    rw [spec_DrawWrap.f, e k hk, Option.bind_some]
    simp only [e1, Option.bind_some, if_true, e2, e3]
    rw [if_pos a3]
  | false =>
    refine ⟨x, ⟨K, fun k hk => ?_⟩, a2⟩
    show spec_DrawWrap.f k l = _
    rw [spec_DrawWrap.f, e k hk, Option.bind_some]
    simp only [e1, Option.bind_some, Bool.false_eq_true, if_false, e2]

theorem DrawFold {l : List Int} (hl : l.length ≤ 140737488351232) : ∃ x, Ev (fun k => spec_DrawFold.f k l) x ∧ I64 x := by
  obtain ⟨h, ⟨K, e⟩, s⟩ := l1New hl
  dsimp only at e
  obtain ⟨x, i2, h2, e2, a2, s2⟩ := l1signed h s
  refine ⟨x, ⟨K, fun k hk => ?_⟩, a2⟩
  show spec_DrawFold.f k l = _
  rw [spec_DrawFold.f, e k hk, Option.bind_some]
  simp only [Option.bind_some, e2]

theorem DrawUnfold {l : List Int} (hl : l.length ≤ 140737488351232) : ∃ x, Ev (fun k => spec_DrawUnfold.f k l) x ∧ I64 x := by
  obtain ⟨h, ⟨K, e⟩, s⟩ := l1New hl
  dsimp only at e
  obtain ⟨x, i2, h2, e2, a2, s2⟩ := l1num h s
  refine ⟨x, ⟨K, fun k hk => ?_⟩, a2⟩
  show spec_DrawUnfold.f k l = _
  rw [spec_DrawUnfold.f, e k hk, Option.bind_some]
  simp only [Option.bind_some, e2]

end Go.Proofs.Ytophpcadfljkgaa.E
