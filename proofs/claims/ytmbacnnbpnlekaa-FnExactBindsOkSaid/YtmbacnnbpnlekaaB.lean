/- Plain facts on Go's words: bounds of numbers, masks, lists. -/
import Derived.Laws.BitsLemmas
import Derived.RowKit
import Derived.Test.YtmbacnnbpnlekaaWMore
namespace Go.Proofs.Ytmbacnnbpnlekaa.M
open Go Go.RowKit Go.Proofs.YtmbacnnbpnlekaaW.PrintWords Go.Proofs.YtmbacnnbpnlekaaW.PrintMore

theorem wf_u8 {x : Int} (h : (Lit.int .u8 x).wf = true) : 0 ≤ x ∧ x < 256 := by
  simp only [Lit.wf, IntKind.min, IntKind.max, IntKind.signed, IntKind.bits, Bool.and_eq_true] at h
  simp at h
  omega
theorem wf_i64 {x : Int} (h : (Lit.int .i64 x).wf = true) : -9223372036854775808 ≤ x ∧ x ≤ 9223372036854775807 := by
  simp only [Lit.wf, IntKind.min, IntKind.max, IntKind.signed, IntKind.bits, Bool.and_eq_true] at h
  simp at h
  omega
theorem w64 {n : Int} (h0 : -9223372036854775808 ≤ n) (h1 : n ≤ 9223372036854775807) : wrap64 n = n := by
  unfold wrap64
  omega
theorem w64_le (n : Int) : -9223372036854775808 ≤ wrap64 n ∧ wrap64 n ≤ 9223372036854775807 := by
  unfold wrap64
  omega
theorem and_mask (x : Int) (i : Nat) (hi : i ≤ 62) : Go.bits .and .i64 x (2 ^ i - 1) = x % 2 ^ i := by
  have hpos : 0 < 2 ^ i := Nat.two_pow_pos i
  have hle : 2 ^ i ≤ 2 ^ 62 := Nat.pow_le_pow_right (by decide) hi
  have hc : ((2 : Int) ^ i - 1) = ((2 ^ i - 1 : Nat) : Int) := by
    rw [Int.natCast_sub hpos]; simp
  have hm : (2 ^ i - 1) % 2 ^ 64 = 2 ^ i - 1 := Nat.mod_eq_of_lt (by omega)
  rw [hc]
  have hb : Go.bits .and .i64 x ((2 ^ i - 1 : Nat) : Int) = IntKind.i64.wrap (((BitVec.ofInt 64 x &&& BitVec.ofInt 64 ((2 ^ i - 1 : Nat) : Int)).toNat : Nat) : Int) := rfl
  rw [hb, BitVec.ofInt_natCast, BitVec.toNat_and, BitVec.toNat_ofNat, BitVec.toNat_ofInt, hm, Nat.and_two_pow_sub_one_eq_mod]
  have e : (((x % ((2 ^ 64 : Nat) : Int)).toNat % 2 ^ i : Nat) : Int) = x % 2 ^ i := by
    rw [Int.natCast_emod, Int.toNat_of_nonneg (Int.emod_nonneg _ (by decide))]
    have : ((2 ^ i : Nat) : Int) = (2 : Int) ^ i := by simp
    rw [this]
    apply Int.emod_emod_of_dvd
    refine ⟨2 ^ (64 - i), ?_⟩
    rw [← Int.pow_add, Nat.add_sub_cancel' (by omega)]
    rfl
  rw [e, IntKind.wrap_i64]
  have h0 : 0 ≤ x % 2 ^ i := Int.emod_nonneg _ (by have : (0 : Int) < 2 ^ i := Int.pow_pos (by decide); omega)
  have h1 : x % 2 ^ i < 2 ^ i := Int.emod_lt_of_pos _ (Int.pow_pos (by decide))
  have h2 : (2 : Int) ^ i ≤ 2 ^ 62 := by exact_mod_cast hle
  omega
theorem and127 (x : Int) : Go.bits .and .i64 x 127 = x % 128 := and_mask x 7 (by decide)
theorem and255 (x : Int) : Go.bits .and .i64 x 255 = x % 256 := and_mask x 8 (by decide)
theorem or128 {x : Int} (h0 : 0 ≤ x) (h1 : x < 128) : Go.bits .or .u8 x 128 = 128 + x := by
  have e : ∀ y : Fin 128, Go.bits .or .u8 (y.val : Int) 128 = 128 + (y.val : Int) := by decide +kernel
  have := e ⟨x.toNat, by omega⟩
  simp only [Int.toNat_of_nonneg h0] at this
  exact this

theorem rd_lt {l : List Int} {i : Int} (h0 : 0 ≤ i) (h1 : i < (l.length : Int)) : ∃ h : i.toNat < l.length, rd l i = l[i.toNat]'h :=
  ⟨by omega, by unfold rd; rw [List.getD_eq_getElem?_getD, List.getElem?_eq_getElem (by omega)]; rfl⟩
theorem rd_mem {l : List Int} {i : Int} (h0 : 0 ≤ i) (h1 : i < (l.length : Int)) : rd l i ∈ l := by
  obtain ⟨h, e⟩ := rd_lt h0 h1
  rw [e]
  exact List.getElem_mem h
theorem drop_rd {l : List Int} {i : Int} (h0 : 0 ≤ i) (h1 : i < (l.length : Int)) : l.drop i.toNat = rd l i :: l.drop (i + 1).toNat := by
  obtain ⟨h, e⟩ := rd_lt h0 h1
  rw [e, List.drop_eq_getElem_cons h]
  congr 2
  omega

theorem p128 {i : Nat} (h : i ≤ 4) : (128 : Int) ^ i ≤ 128 ^ 4 := by exact_mod_cast Nat.pow_le_pow_right (by decide : 0 < 128) h

theorem Ev.to {α : Type} {g f : Nat → Option α} {r : α} (k : Ev f r) (h : ∀ k, g k = f k) : Ev g r := Ev.congr h k
theorem Ev.val {α : Type} {g : Nat → Option α} {r r' : α} (k : Ev g r) (h : r = r') : Ev g r' := h ▸ k
theorem Ev.const {α : Type} {g : Nat → Option α} {r : α} (h : ∀ k, g k = some r) : Ev g r := ⟨0, fun k _ => h k⟩

theorem Ev.use {α : Type} {g : Nat → Option α} {r : α} (h : Ev g r) : ∃ K, ∀ k, K ≤ k → ∀ {β : Type} (f : α → Option β), (g k).bind f = f r := by
  obtain ⟨K, h⟩ := h
  exact ⟨K, fun k hk β f => by rw [h k hk, Option.bind_some]⟩
theorem Ev.step2 {α : Type} {g f : Nat → Option α} {r : α} (h : ∀ k, g (k + 1 + 1) = f k) (k : Ev f r) : Ev g r := Ev.step (fun _ => rfl) (Ev.step h k)
theorem Ev.at1 {α : Type} {g : Nat → Option α} {r : α} (h : ∀ k, g (k + 1) = some r) : Ev g r := Ev.step (f := fun _ => some r) h (Ev.now r)
theorem Ev.at2 {α : Type} {g : Nat → Option α} {r : α} (h : ∀ k, g (k + 1 + 1) = some r) : Ev g r := Ev.step2 (f := fun _ => some r) h (Ev.now r)

end Go.Proofs.Ytmbacnnbpnlekaa.M
