import Derived.Laws.BitsLemmas
import Derived.RowKit
import Derived.Test.YtmbacnnbpnlekaaWMore
import Derived.Test.YtmbacnnbpnlekaaPAx0
import Derived.Test.YtmbacnnbpnlekaaPAx1
import Derived.Test.YtmbacnnbpnlekaaPAx2
import Derived.Test.YtmbacnnbpnlekaaPAx8
import Derived.Test.YtmbacnnbpnlekaaPAx9
import Derived.Test.YtmbacnnbpnlekaaPAx11
import Derived.Test.YtmbacnnbpnlekaaPAx22
import Derived.Test.YtmbacnnbpnlekaaPAx23
import Derived.Test.YtmbacnnbpnlekaaPAx26
import Derived.Test.YtmbacnnbpnlekaaPAx27
import Derived.Test.YtmbacnnbpnlekaaPAx28
import Derived.Test.YtmbacnnbpnlekaaPAx29
import Derived.Test.YtmbacnnbpnlekaaPAx30
import Derived.Test.YtmbacnnbpnlekaaPAx31
import Derived.Test.YtmbacnnbpnlekaaPAx32
import Derived.Test.YtmbacnnbpnlekaaPAx33
import Derived.Test.YtmbacnnbpnlekaaPAx34
import Derived.Test.YtmbacnnbpnlekaaPAx35
import Derived.Test.YtmbacnnbpnlekaaPAx36
import Derived.Test.YtmbacnnbpnlekaaPAx37
import Derived.Test.YtmbacnnbpnlekaaPAx38
import Derived.Test.YtmbacnnbpnlekaaPAx39
import Derived.Test.YtmbacnnbpnlekaaPAx40
import Derived.Test.YtmbacnnbpnlekaaPAx41
import Derived.Test.YtmbacnnbpnlekaaPAx42
import Derived.Test.YtmbacnnbpnlekaaPAx43
import Derived.Test.YtmbacnnbpnlekaaPAx44
import Derived.Test.YtmbacnnbpnlekaaPAx45
import Derived.Test.YtmbacnnbpnlekaaPAx46
import Derived.Test.YtmbacnnbpnlekaaPAx47
import Derived.Test.YtmbacnnbpnlekaaPASFnExactWorldOk
/- Plain facts on Go's words: bounds of numbers,masks,lists. -/
namespace Go.Proofs.Ytmbacnnbpnlekaa.M
open Go Go.RowKit Go.Proofs.YtmbacnnbpnlekaaW.PrintWords Go.Proofs.YtmbacnnbpnlekaaW.PrintMore

theorem wf_u8 {x : Int} (h : (Lit.int .u8 x).wf = true) : 0 ≤ x ∧ x < 256 := by
  simp only [Lit.wf,IntKind.min,IntKind.max,IntKind.signed,IntKind.bits,Bool.and_eq_true] at h
  simp at h
  omega
theorem wf_i64 {x : Int} (h : (Lit.int .i64 x).wf = true) : -9223372036854775808 ≤ x ∧ x ≤ 9223372036854775807 := by
  simp only [Lit.wf,IntKind.min,IntKind.max,IntKind.signed,IntKind.bits,Bool.and_eq_true] at h
  simp at h
  omega
theorem w64 {n : Int} (h0 : -9223372036854775808 ≤ n) (h1 : n ≤ 9223372036854775807) : wrap64 n = n := by
  unfold wrap64
  omega
theorem w64_le (n : Int) : -9223372036854775808 ≤ wrap64 n ∧ wrap64 n ≤ 9223372036854775807 := by
  unfold wrap64
  omega
theorem and_mask (x : Int) (i : Nat) (hi : i ≤ 62) : Go.bits .and .i64 x (2 ^ i - 1) = x % 2 ^ i := by
  have hpos : 0 < 2 ^ i := Nat.two_pow_pos i
  have hle : 2 ^ i ≤ 2 ^ 62 := Nat.pow_le_pow_right (by decide) hi
  have hc : ((2 : Int) ^ i - 1) = ((2 ^ i - 1 : Nat) : Int) := by
    rw [Int.natCast_sub hpos]; simp
  have hm : (2 ^ i - 1) % 2 ^ 64 = 2 ^ i - 1 := Nat.mod_eq_of_lt (by omega)
  rw [hc]
  have hb : Go.bits .and .i64 x ((2 ^ i - 1 : Nat) : Int) = IntKind.i64.wrap (((BitVec.ofInt 64 x &&& BitVec.ofInt 64 ((2 ^ i - 1 : Nat) : Int)).toNat : Nat) : Int) := rfl
  rw [hb,BitVec.ofInt_natCast,BitVec.toNat_and,BitVec.toNat_ofNat,BitVec.toNat_ofInt,hm,Nat.and_two_pow_sub_one_eq_mod]
  have e : (((x % ((2 ^ 64 : Nat) : Int)).toNat % 2 ^ i : Nat) : Int) = x % 2 ^ i := by
    rw [Int.natCast_emod,Int.toNat_of_nonneg (Int.emod_nonneg _ (by decide))]
    have : ((2 ^ i : Nat) : Int) = (2 : Int) ^ i := by simp
    rw [this]
    apply Int.emod_emod_of_dvd
    refine ⟨2 ^ (64 - i),?_⟩
    rw [← Int.pow_add,Nat.add_sub_cancel' (by omega)]
    rfl
  rw [e,IntKind.wrap_i64]
  have h0 : 0 ≤ x % 2 ^ i := Int.emod_nonneg _ (by have : (0 : Int) < 2 ^ i := Int.pow_pos (by decide); omega)
  have h1 : x % 2 ^ i < 2 ^ i := Int.emod_lt_of_pos _ (Int.pow_pos (by decide))
  have h2 : (2 : Int) ^ i ≤ 2 ^ 62 := by exact_mod_cast hle
  omega
theorem and127 (x : Int) : Go.bits .and .i64 x 127 = x % 128 := and_mask x 7 (by decide)
theorem and255 (x : Int) : Go.bits .and .i64 x 255 = x % 256 := and_mask x 8 (by decide)
theorem or128 {x : Int} (h0 : 0 ≤ x) (h1 : x < 128) : Go.bits .or .u8 x 128 = 128 + x := by
  have e : ∀ y : Fin 128,Go.bits .or .u8 (y.val : Int) 128 = 128 + (y.val : Int) := by decide +kernel
  have := e ⟨x.toNat,by omega⟩
  simp only [Int.toNat_of_nonneg h0] at this
  exact this

theorem rd_lt {l : List Int} {i : Int} (h0 : 0 ≤ i) (h1 : i < (l.length : Int)) : ∃ h : i.toNat < l.length,rd l i = l[i.toNat]'h :=
  ⟨by omega,by unfold rd; rw [List.getD_eq_getElem?_getD,List.getElem?_eq_getElem (by omega)]; rfl⟩
theorem rd_mem {l : List Int} {i : Int} (h0 : 0 ≤ i) (h1 : i < (l.length : Int)) : rd l i ∈ l := by
  obtain ⟨h,e⟩ := rd_lt h0 h1
  rw [e]
  exact List.getElem_mem h
theorem drop_rd {l : List Int} {i : Int} (h0 : 0 ≤ i) (h1 : i < (l.length : Int)) : l.drop i.toNat = rd l i :: l.drop (i + 1).toNat := by
  obtain ⟨h,e⟩ := rd_lt h0 h1
  rw [e,List.drop_eq_getElem_cons h]
  congr 2
  omega

theorem p128 {i : Nat} (h : i ≤ 4) : (128 : Int) ^ i ≤ 128 ^ 4 := by exact_mod_cast Nat.pow_le_pow_right (by decide : 0 < 128) h

theorem Ev.to {α : Type} {g f : Nat → Option α} {r : α} (k : Ev f r) (h : ∀ k,g k = f k) : Ev g r := Ev.congr h k
theorem Ev.val {α : Type} {g : Nat → Option α} {r r' : α} (k : Ev g r) (h : r = r') : Ev g r' := h ▸ k
theorem Ev.const {α : Type} {g : Nat → Option α} {r : α} (h : ∀ k,g k = some r) : Ev g r := ⟨0,fun k _ => h k⟩

theorem Ev.use {α : Type} {g : Nat → Option α} {r : α} (h : Ev g r) : ∃ K,∀ k,K ≤ k → ∀ {β : Type} (f : α → Option β),(g k).bind f = f r := by
  obtain ⟨K,h⟩ := h
  exact ⟨K,fun k hk β f => by rw [h k hk,Option.bind_some]⟩
theorem Ev.step2 {α : Type} {g f : Nat → Option α} {r : α} (h : ∀ k,g (k + 1 + 1) = f k) (k : Ev f r) : Ev g r := Ev.step (fun _ => rfl) (Ev.step h k)
theorem Ev.at1 {α : Type} {g : Nat → Option α} {r : α} (h : ∀ k,g (k + 1) = some r) : Ev g r := Ev.step (f := fun _ => some r) h (Ev.now r)
theorem Ev.at2 {α : Type} {g : Nat → Option α} {r : α} (h : ∀ k,g (k + 1 + 1) = some r) : Ev g r := Ev.step2 (f := fun _ => some r) h (Ev.now r)

end Go.Proofs.Ytmbacnnbpnlekaa.M

/- What within,Fold,Unfold and Wrap come to. -/
namespace Go.Proofs.Ytmbacnnbpnlekaa.E
open Go Go.RowKit Go.Proofs.Ytmbacnnbpnlekaa.PA Go.Proofs.Ytmbacnnbpnlekaa.M Go.Proofs.YtmbacnnbpnlekaaW.PrintWords Go.Proofs.YtmbacnnbpnlekaaW.PrintLast Go.Proofs.YtmbacnnbpnlekaaW.PrintMore

theorem within (a b c : Int) : impl_within.f a b c = some (decide (b ≤ a ∧ a ≤ c)) := by
  unfold impl_within.f
  by_cases h : a ≥ b
  · rw [if_pos h]
    have : b ≤ a := h
    simp [this]
  · rw [if_neg h]
    have : ¬ b ≤ a := h
    simp [this]
theorem within_in {a b c : Int} (h0 : b ≤ a) (h1 : a ≤ c) : impl_within.f a b c = some true := by rw [within,decide_eq_true ⟨h0,h1⟩]
theorem within_out {a b c : Int} (h : ¬ (b ≤ a ∧ a ≤ c)) : impl_within.f a b c = some false := by rw [within,decide_eq_false h]

end Go.Proofs.Ytmbacnnbpnlekaa.E

/- What the laws' helpers on bytes and on lists of numbers come to. -/
namespace Go.Proofs.Ytmbacnnbpnlekaa.E
open Go Go.RowKit Go.Proofs.Ytmbacnnbpnlekaa.PA Go.Proofs.Ytmbacnnbpnlekaa.M Go.Proofs.YtmbacnnbpnlekaaW.PrintWords Go.Proofs.YtmbacnnbpnlekaaW.PrintLast Go.Proofs.YtmbacnnbpnlekaaW.PrintMore

theorem wl {α : Type} (p : List α) (a : α) (h : p.length ≤ 281474976710656) : wrap64 ((p.length : Int) + 1) = ((p ++ [a]).length : Int) := by rw [w64 (by omega) (by omega)]; simp
theorem appl {α : Type} (p t : List α) (a : α) : p ++ a :: t = p ++ [a] ++ t := by simp
theorem rdI (p t : List Int) (a : Int) : rd (p ++ a :: t) (p.length : Int) = a := by simp [rd]
theorem toByteS_l {l : List Int} (hl : l.length ≤ 281474976710656) (d : Nat) : ∀ (i : Nat) (x : List Int),i + d = l.length → x.length = l.length → x.take i = l.take i → Ev (fun k => laws_toByteS.l0 k l x (i : Int)) l := by
  induction d with
  | zero =>
    intro i x hi hx ht
    refine Ev.at1 fun k => ?_
    rw [laws_toByteS.l0,if_neg (by omega)]
    have h1 : x.take i = x := by rw [List.take_of_length_le (by omega)]
    have h2 : l.take i = l := by rw [List.take_of_length_le (by omega)]
    rw [← h1,ht,h2]
  | succ d ih =>
    intro i x hi hx ht
    have hw : wrap64 ((i : Int) + 1) = ((i + 1 : Nat) : Int) := by rw [w64 (by omega) (by omega)]; omega
    refine Ev.step (fun k => ?_) ((ih (i + 1) (x.set i (rd l i)) (by omega) (by simpa using hx) ?_))
    · rw [laws_toByteS.l0,if_pos (by omega),if_pos (by omega),if_pos (by omega),hw,Int.toNat_natCast]
    · have hlt : i < l.length := by omega
      rw [List.take_add_one,List.take_add_one,List.take_set_of_le (by omega),ht]
      congr 1
      rw [List.getElem?_set_self (by omega),List.getElem?_eq_getElem hlt]
      obtain ⟨h,e⟩ := rd_lt (l := l) (i := (i : Int)) (by omega) (by omega)
      rw [e]
      rfl

theorem toByteS {l : List Int} (hl : l.length ≤ 281474976710656) : Ev (fun k => laws_toByteS.f k l) l := by
  refine Ev.congr (fun k => ?_) (toByteS_l hl l.length 0 (List.replicate l.length 0) (by omega) (by simp) (by simp))
  rw [laws_toByteS.f,if_pos (by omega),if_pos (by rw [Int.toNat_natCast]; exact hl),Int.toNat_natCast]
  rfl

theorem eqByteS_l {a b : List Int} (hl : a.length = b.length) (hb : a.length ≤ 281474976710656) (d : Nat) : ∀ (i : Nat),i + d = a.length → Ev (fun k => laws_eqByteS.l0 k a b (i : Int)) (decide (a.drop i = b.drop i)) := by
  induction d with
  | zero =>
    intro i hi
    refine Ev.at1 fun k => ?_
    rw [laws_eqByteS.l0,if_neg (by omega),List.drop_of_length_le (by omega),List.drop_of_length_le (by omega)]
    simp
  | succ d ih =>
    intro i hi
    have hw : wrap64 ((i : Int) + 1) = ((i + 1 : Nat) : Int) := by rw [w64 (by omega) (by omega)]; omega
    have ha := drop_rd (l := a) (i := (i : Int)) (by omega) (by omega)
    have hb := drop_rd (l := b) (i := (i : Int)) (by omega) (by omega)
    have e1 : ((i : Int) + 1).toNat = i + 1 := by omega
    rw [Int.toNat_natCast,e1] at ha hb
    rw [ha,hb]
    by_cases h : rd a i = rd b i
    · refine Ev.val (Ev.step (fun k => ?_) (ih (i + 1) (by omega))) ?_
      · rw [laws_eqByteS.l0,if_pos (by omega),if_pos (by omega),if_pos (by omega),if_pos h,hw]
      · simp [h]
    · refine Ev.at1 fun k => ?_
      rw [laws_eqByteS.l0,if_pos (by omega),if_pos (by omega),if_pos (by omega),if_neg h]
      simp [h]

theorem eqByteS {a b : List Int} (hb : a.length ≤ 281474976710656) : Ev (fun k => laws_eqByteS.f k a b) (decide (a = b)) := by
  by_cases hl : a.length = b.length
  · refine Ev.congr (fun k => ?_) (eqByteS_l hl hb a.length 0 (by omega))
    rw [laws_eqByteS.f,if_pos (by omega)]
    rfl
  · refine Ev.const fun k => ?_
    rw [laws_eqByteS.f,if_neg (by omega)]
    have : a ≠ b := fun e => hl (by rw [e])
    simp [this]

theorem toIntS_l (l : List Int) : ∀ (p : List Int),p.length + l.length ≤ 281474976710656 → Ev (fun k => laws_toIntS.l0 k (p ++ l) (p ++ List.replicate l.length 0) (p.length : Int)) (p ++ l) := by
  induction l with
  | nil =>
    intro p _
    refine Ev.at1 fun k => ?_
    rw [laws_toIntS.l0,if_neg (by simp)]
    simp
  | cons a t ih =>
    intro p hp
    rw [List.length_cons] at hp
    have := ih (p ++ [a]) (by simp; omega)
    refine Ev.val (Ev.step (fun k => ?_) this) (by simp)
    rw [laws_toIntS.l0,if_pos (by simp; omega),if_pos (by omega),if_pos (by simp; omega),rdI,wl p a (by omega),Int.toNat_natCast,← appl]
    congr 1
    simp [List.replicate_succ]
theorem toIntS {l : List Int} (hl : l.length ≤ 35184372088832) : Ev (fun k => laws_toIntS.f k l) l := by
  refine Ev.congr (fun k => ?_) (by simpa using toIntS_l l [] (by simp; omega))
  rw [laws_toIntS.f,if_pos (by omega),if_pos (by rw [Int.toNat_natCast]; exact hl),Int.toNat_natCast]

theorem eqIntS_l (l : List Int) : ∀ (p : List Int),p.length + l.length ≤ 281474976710656 → Ev (fun k => laws_eqIntS.l0 k (p ++ l) (p ++ l) (p.length : Int)) true := by
  induction l with
  | nil =>
    intro p _
    refine Ev.at1 fun k => ?_
    rw [laws_eqIntS.l0,if_neg (by simp)]
  | cons a t ih =>
    intro p hp
    rw [List.length_cons] at hp
    have := ih (p ++ [a]) (by simp; omega)
    refine Ev.step (fun k => ?_) this
    rw [laws_eqIntS.l0,if_pos (by simp; omega),if_pos (by omega),if_pos (by simp; omega),if_pos rfl,wl p a (by omega),appl p t a]
theorem eqIntS {l : List Int} (hl : l.length ≤ 281474976710656) : Ev (fun k => laws_eqIntS.f k l l) true := by
  refine Ev.congr (fun k => ?_) (by simpa using eqIntS_l l [] (by simpa using hl))
  rw [laws_eqIntS.f,if_pos rfl]

end Go.Proofs.Ytmbacnnbpnlekaa.E

/- What WorldOk comes to,in the program and in the reference; what the laws on a world begin with. -/
namespace Go.Proofs.Ytmbacnnbpnlekaa.E
open Go Go.RowKit Go.Proofs.Ytmbacnnbpnlekaa.PA Go.Proofs.Ytmbacnnbpnlekaa.M Go.Proofs.YtmbacnnbpnlekaaW.PrintWords Go.Proofs.YtmbacnnbpnlekaaW.PrintLast Go.Proofs.YtmbacnnbpnlekaaW.PrintMore

abbrev EL := S165
abbrev EI := S107
abbrev VL := S162
abbrev VI := S166
def entI (e : EL) : EI := ⟨e.f0,e.f1⟩
def evI (e : VL) : VI := ⟨e.f0,e.f1,e.f2,e.f3,e.f4⟩

theorem rdEL (p t : List EL) (a : EL) : rd_T165 (p ++ a :: t) (p.length : Int) = a := by simp [rd_T165]
theorem rdEI (p t : List EI) (a : EI) : rd_T107 (p ++ a :: t) (p.length : Int) = a := by simp [rd_T107]
theorem rdVL (p t : List VL) (a : VL) : rd_T162 (p ++ a :: t) (p.length : Int) = a := by simp [rd_T162]
theorem rdVI (p t : List VI) (a : VI) : rd_T166 (p ++ a :: t) (p.length : Int) = a := by simp [rd_T166]
theorem rdEI1 (p t : List EI) (b a : EI) : rd_T107 (p ++ b :: a :: t) ((p.length : Int) + 1) = a := by
  have := rdEI (p ++ [b]) t a
  simpa using this

def numW (n : Int) : Bool := decide (0 ≤ n ∧ n ≤ 2147483647)
theorem WorldOk_1 (n : Int) : impl_WorldOk_1.f n = some (!numW n) := by rw [impl_WorldOk_1.f,within]; rfl

theorem index_draws (l : List Int) : ∀ (p : List Int),p.length + l.length ≤ 281474976710656 → ∃ r,Ev (fun k => slices_IndexFunc_impl_WorldOk_1.l0 k (p ++ l) ((p ++ l).length : Int) (p.length : Int)) r ∧ decide (r ≥ 0) = !l.all numW := by
  induction l with
  | nil =>
    intro p _
    refine ⟨-1,Ev.at1 fun k => ?_,rfl⟩
    rw [slices_IndexFunc_impl_WorldOk_1.l0,if_neg (by simp)]
  | cons a t ih =>
    intro p hp
    rw [List.length_cons] at hp
    by_cases h : numW a = true
    · obtain ⟨r,e,hr⟩ := ih (p ++ [a]) (by simp; omega)
      refine ⟨r,Ev.step (fun k => ?_) e,by rw [hr,List.all_cons,h,Bool.true_and]⟩
      rw [slices_IndexFunc_impl_WorldOk_1.l0,if_pos (by simp; omega),if_pos (by omega),if_pos (by simp; omega),rdI,WorldOk_1,Option.bind_some,h,if_neg (by decide),wl p a (by omega),appl p t a]
    · have h' : numW a = false := by simpa using h
      refine ⟨p.length,Ev.at1 fun k => ?_,by rw [List.all_cons,h',decide_eq_true (by omega)]; rfl⟩
      rw [slices_IndexFunc_impl_WorldOk_1.l0,if_pos (by simp; omega),if_pos (by omega),if_pos (by simp; omega),rdI,WorldOk_1,Option.bind_some,h',if_pos (by decide)]

theorem contains_draws {l : List Int} (hl : l.length ≤ 281474976710656) : Ev (fun k => slices_ContainsFunc_impl_WorldOk_1.f k l) (!l.all numW) := by
  obtain ⟨r,e,hr⟩ := index_draws l [] (by simpa using hl)
  have e2 : Ev (fun k => slices_IndexFunc_impl_WorldOk_1.f k l) r := e
  rw [← hr]
  exact Ev.congr (fun k => by rw [slices_ContainsFunc_impl_WorldOk_1.f]) (Ev.bind e2 (Ev.now _))

def wrI (n : Int) : Int := wrap64 (n * 2) / 2
def wrB (n : Int) : Bool := decide (wrI n = n)
theorem wrapped (n : Int) : impl_wrapped.f n = some (wrB n) := by
  rw [impl_wrapped.f,impl_Wrap.f,Option.bind_some]; rfl

def sortB : EI → List EI → Bool
  | _,[] => true
  | b,e :: t => (wrB e.f0 && (wrB e.f1 && decide (b.f0 < e.f0))) && sortB e t
def storeB : List EI → Bool
  | [] => true
  | e :: t => (wrB e.f0 && wrB e.f1) && sortB e t

section
variable (a : Int) (ds : List Int) (hds : ds.length ≤ 281474976710656) (ev : List VI)
include hds

theorem impl_store_l (l : List EI) : ∀ (p : List EI) (b : EI),p.length + l.length ≤ 281474976710000 → Ev (fun k => impl_WorldOk.l0 k (p ++ b :: l) ((p ++ b :: l).length : Int) ((p.length : Int) + 1) a ds (p ++ b :: l) ev) (sortB b l && ds.all numW) := by
  induction l with
  | nil =>
    intro p b _
    refine Ev.step (fun k => by rw [impl_WorldOk.l0,if_neg (by simp)]) (Ev.bind (contains_draws hds) (Ev.const fun k => ?_))
    rw [Bool.not_not]; rfl
  | cons e t ih =>
    intro p b hp
    rw [List.length_cons] at hp
    have hlen : ((p ++ b :: e :: t).length : Int) = p.length + t.length + 2 := by simp; omega
    have hw : wrap64 ((p.length : Int) + 1 - 1) = p.length := by rw [w64 (by omega) (by omega)]; omega
    have hw2 : wrap64 ((p.length : Int) + 1 + 1) = ((p ++ [b]).length : Int) + 1 := by rw [w64 (by omega) (by omega)]; simp
    have := ih (p ++ [b]) e (by simp; omega)
    rw [← appl] at this
    by_cases h0 : wrB e.f0 = true
    · by_cases h1 : wrB e.f1 = true
      · by_cases h2 : b.f0 < e.f0
        · refine Ev.val (Ev.step (fun k => ?_) this) ?_
          · rw [impl_WorldOk.l0,if_pos (by omega),if_pos (by omega),if_pos (by omega),rdEI1,wrapped,Option.bind_some,if_pos h0,wrapped,Option.bind_some,if_pos h1,if_pos (by omega),hw,if_pos (by omega),if_pos (by omega),rdEI,if_neg (by omega),hw2]
          · simp [sortB,h0,h1,h2]
        · refine Ev.at1 fun k => ?_
          rw [impl_WorldOk.l0,if_pos (by omega),if_pos (by omega),if_pos (by omega),rdEI1,wrapped,Option.bind_some,if_pos h0,wrapped,Option.bind_some,if_pos h1,if_pos (by omega),hw,if_pos (by omega),if_pos (by omega),rdEI,if_pos (by omega)]
          simp [sortB,h2]
      · refine Ev.at1 fun k => ?_
        rw [impl_WorldOk.l0,if_pos (by omega),if_pos (by omega),if_pos (by omega),rdEI1,wrapped,Option.bind_some,if_pos h0,wrapped,Option.bind_some,if_neg h1]
        simp [sortB,h1]
    · refine Ev.at1 fun k => ?_
      rw [impl_WorldOk.l0,if_pos (by omega),if_pos (by omega),if_pos (by omega),rdEI1,wrapped,Option.bind_some,if_neg h0]
      simp [sortB,h0]

theorem impl_store (l : List EI) (hl : l.length ≤ 281474976710000) : Ev (fun k => impl_WorldOk.l0 k l (l.length : Int) 0 a ds l ev) (storeB l && ds.all numW) := by
  cases l with
  | nil =>
    refine Ev.step (fun k => by rw [impl_WorldOk.l0,if_neg (by simp)]) (Ev.bind (contains_draws hds) (Ev.const fun k => ?_))
    rw [Bool.not_not]; rfl
  | cons e t =>
    rw [List.length_cons] at hl
    have hlen : ((e :: t).length : Int) = t.length + 1 := by simp
    have h := impl_store_l a ds hds ev t [] e (by simp; omega)
    have hr : rd_T107 (e :: t) 0 = e := rfl
    have h01 : wrap64 (0 + 1) = (([] : List EI).length : Int) + 1 := by rw [w64 (by omega) (by omega)]; rfl
    by_cases h0 : wrB e.f0 = true
    · by_cases h1 : wrB e.f1 = true
      · refine Ev.val (Ev.step (fun k => ?_) h) ?_
        · rw [impl_WorldOk.l0,if_pos (by omega),if_pos (by omega),if_pos (by omega),hr,wrapped,Option.bind_some,if_pos h0,wrapped,Option.bind_some,if_pos h1,if_neg (by omega),h01]
          rfl
        · simp [storeB,h0,h1]
      · refine Ev.at1 fun k => ?_
        rw [impl_WorldOk.l0,if_pos (by omega),if_pos (by omega),if_pos (by omega),hr,wrapped,Option.bind_some,if_pos h0,wrapped,Option.bind_some,if_neg h1]
        simp [storeB,h1]
    · refine Ev.at1 fun k => ?_
      rw [impl_WorldOk.l0,if_pos (by omega),if_pos (by omega),if_pos (by omega),hr,wrapped,Option.bind_some,if_neg h0]
      simp [storeB,h0]

omit hds in
theorem spec_store_l (l : List EI) : ∀ (p : List EI) (b : EI),p.length + l.length ≤ 281474976710000 → Ev (fun k => spec_WorldOk.l1 k ((p.length : Int) + 1) a ds (p ++ b :: l) ev) (sortB b l) := by
  induction l with
  | nil =>
    intro p b _
    refine Ev.at1 fun k => ?_
    rw [spec_WorldOk.l1,if_neg (by simp)]; rfl
  | cons e t ih =>
    intro p b hp
    rw [List.length_cons] at hp
    have hlen : ((p ++ b :: e :: t).length : Int) = p.length + t.length + 2 := by simp; omega
    have hw : wrap64 ((p.length : Int) + 1 - 1) = p.length := by rw [w64 (by omega) (by omega)]; omega
    have hw2 : wrap64 ((p.length : Int) + 1 + 1) = ((p ++ [b]).length : Int) + 1 := by rw [w64 (by omega) (by omega)]; simp
    have := ih (p ++ [b]) e (by simp; omega)
    rw [← appl] at this
    have hj : ∀ k,spec_WorldOk.j3 (k + 1) ((p.length : Int) + 1) true a ds (p ++ b :: e :: t) ev = some false := fun k => by rw [spec_WorldOk.j3,if_pos rfl]
    have hb : ∀ n : Int,(n = wrap64 (n * 2) / 2) ↔ wrB n = true := fun n => by unfold wrB wrI; rw [decide_eq_true_eq]; exact eq_comm
    by_cases h0 : wrB e.f0 = true
    · by_cases h1 : wrB e.f1 = true
      · by_cases h2 : b.f0 < e.f0
        · refine Ev.val (Ev.step2 (fun k => ?_) this) ?_
          · rw [spec_WorldOk.l1,if_pos (by omega),if_pos (by omega),rdEI1,spec_Wrap.f,Option.bind_some,if_pos ((hb _).mpr h0),spec_Wrap.f,Option.bind_some,if_pos ((hb _).mpr h1),if_pos (by omega),hw,if_pos (by omega),if_pos (by omega),rdEI,decide_eq_false (by omega),spec_WorldOk.j3,if_neg (by decide),hw2]
          · simp [sortB,h0,h1,h2]
        · refine Ev.at2 fun k => ?_
          rw [spec_WorldOk.l1,if_pos (by omega),if_pos (by omega),rdEI1,spec_Wrap.f,Option.bind_some,if_pos ((hb _).mpr h0),spec_Wrap.f,Option.bind_some,if_pos ((hb _).mpr h1),if_pos (by omega),hw,if_pos (by omega),if_pos (by omega),rdEI,decide_eq_true (by omega),hj]
          simp [sortB,h2]
      · refine Ev.at2 fun k => ?_
        rw [spec_WorldOk.l1,if_pos (by omega),if_pos (by omega),rdEI1,spec_Wrap.f,Option.bind_some,if_pos ((hb _).mpr h0),spec_Wrap.f,Option.bind_some,if_neg (fun z => h1 ((hb _).mp z)),hj]
        simp [sortB,h1]
    · refine Ev.at2 fun k => ?_
      rw [spec_WorldOk.l1,if_pos (by omega),if_pos (by omega),rdEI1,spec_Wrap.f,Option.bind_some,if_neg (fun z => h0 ((hb _).mp z)),hj]
      simp [sortB,h0]

omit hds in
theorem spec_store (l : List EI) (hl : l.length ≤ 281474976710000) : Ev (fun k => spec_WorldOk.l1 k 0 a ds l ev) (storeB l) := by
  cases l with
  | nil => exact Ev.at1 fun k => by rw [spec_WorldOk.l1,if_neg (by simp)]; rfl
  | cons e t =>
    rw [List.length_cons] at hl
    have hlen : ((e :: t).length : Int) = t.length + 1 := by simp
    have h := spec_store_l a ds ev t [] e (by simp; omega)
    have hr : rd_T107 (e :: t) 0 = e := rfl
    have h01 : wrap64 (0 + 1) = (([] : List EI).length : Int) + 1 := by rw [w64 (by omega) (by omega)]; rfl
    have hj : ∀ k,spec_WorldOk.j3 (k + 1) 0 true a ds (e :: t) ev = some false := fun k => by rw [spec_WorldOk.j3,if_pos rfl]
    have hb : ∀ n : Int,(n = wrap64 (n * 2) / 2) ↔ wrB n = true := fun n => by unfold wrB wrI; rw [decide_eq_true_eq]; exact eq_comm
    by_cases h0 : wrB e.f0 = true
    · by_cases h1 : wrB e.f1 = true
      · refine Ev.val (Ev.step2 (fun k => ?_) h) ?_
        · rw [spec_WorldOk.l1,if_pos (by omega),if_pos (by omega),hr,spec_Wrap.f,Option.bind_some,if_pos ((hb _).mpr h0),spec_Wrap.f,Option.bind_some,if_pos ((hb _).mpr h1),if_neg (by omega),spec_WorldOk.j3,if_neg (by decide),h01]
          rfl
        · simp [storeB,h0,h1]
      · refine Ev.at2 fun k => ?_
        rw [spec_WorldOk.l1,if_pos (by omega),if_pos (by omega),hr,spec_Wrap.f,Option.bind_some,if_pos ((hb _).mpr h0),spec_Wrap.f,Option.bind_some,if_neg (fun z => h1 ((hb _).mp z)),hj]
        simp [storeB,h1]
    · refine Ev.at2 fun k => ?_
      rw [spec_WorldOk.l1,if_pos (by omega),if_pos (by omega),hr,spec_Wrap.f,Option.bind_some,if_neg (fun z => h0 ((hb _).mp z)),hj]
      simp [storeB,h0]
end

theorem spec_draws_l (a : Int) (st : List EI) (hst : st.length ≤ 281474976710000) (ev : List VI) (l : List Int) : ∀ (p : List Int),p.length + l.length ≤ 281474976710656 → Ev (fun k => spec_WorldOk.l0 k (p.length : Int) a (p ++ l) st ev) (l.all numW && storeB st) := by
  induction l with
  | nil =>
    intro p hp
    refine Ev.val (Ev.step (fun k => by rw [spec_WorldOk.l0,if_neg (by simp)]) (spec_store a (p ++ []) ev st hst)) ?_
    simp
  | cons c t ih =>
    intro p hp
    rw [List.length_cons] at hp
    rw [List.all_cons]
    by_cases h : numW c = true
    · have h2 := of_decide_eq_true h
      rw [h,Bool.true_and]
      refine Ev.step (fun k => ?_) (ih (p ++ [c]) (by simp; omega))
      rw [spec_WorldOk.l0,if_pos (by simp; omega),if_pos (by omega),rdI,if_neg (by omega),if_neg (by omega),wl p c (by omega),appl p t c]
    · have h' : numW c = false := by simpa using h
      have h2 := of_decide_eq_false h'
      rw [h',Bool.false_and,Bool.false_and]
      refine Ev.at1 fun k => ?_
      rw [spec_WorldOk.l0,if_pos (by simp; omega),if_pos (by omega),rdI]
      by_cases c1 : c < 0
      · rw [if_pos c1]
      rw [if_neg c1,if_pos (by omega)]

def worldB (a : Int) (ds : List Int) (st : List EI) (ev : List VI) : Bool := decide (0 ≤ a ∧ a ≤ 2147483647 ∧ ds.length ≤ 200 ∧ st.length ≤ 20 ∧ ev.length ≤ 20000) && (storeB st && ds.all numW)

theorem impl_WorldOk (a : Int) (ds : List Int) (st : List EI) (ev : List VI) (h1 : ds.length ≤ 281474976710656) (h2 : st.length ≤ 281474976710000) : Ev (fun k => impl_WorldOk.f k a ds st ev) (worldB a ds st ev) := by
  have hj : ∀ x : Bool,Ev (fun k => impl_WorldOk.j0 k x a ds st ev) (!x && (storeB st && ds.all numW)) := by
    intro x
    cases x with
    | true => exact Ev.at1 fun k => by rw [impl_WorldOk.j0,if_pos rfl]; rfl
    | false => exact Ev.step (fun k => by rw [impl_WorldOk.j0,if_neg (by decide)]) (impl_store a ds h1 ev st h2)
  unfold worldB
  by_cases c : 0 ≤ a ∧ a ≤ 2147483647
  · by_cases c1 : (ds.length : Int) > 200
    · exact Ev.val (Ev.congr (fun k => by rw [impl_WorldOk.f,within_in c.1 c.2,Option.bind_some,if_pos rfl,if_pos c1]) (hj true)) (by rw [decide_eq_false (by omega)]; rfl)
    by_cases c2 : (st.length : Int) > 20
    · exact Ev.val (Ev.congr (fun k => by rw [impl_WorldOk.f,within_in c.1 c.2,Option.bind_some,if_pos rfl,if_neg c1,if_pos c2]) (hj true)) (by rw [decide_eq_false (by omega)]; rfl)
    refine Ev.val (Ev.congr (fun k => by rw [impl_WorldOk.f,within_in c.1 c.2,Option.bind_some,if_pos rfl,if_neg c1,if_neg c2]) (hj _)) ?_
    by_cases c3 : (ev.length : Int) > 20000
    · rw [decide_eq_true c3,decide_eq_false (by omega)]; rfl
    · rw [decide_eq_false c3,decide_eq_true (by omega)]; rfl
  · exact Ev.val (Ev.congr (fun k => by rw [impl_WorldOk.f,within_out c,Option.bind_some,if_neg (by decide)]) (hj true)) (by rw [decide_eq_false (by omega)]; rfl)

theorem spec_WorldOk (a : Int) (ds : List Int) (st : List EI) (ev : List VI) (h1 : ds.length ≤ 281474976710656) (h2 : st.length ≤ 281474976710000) : Ev (fun k => spec_WorldOk.f k a ds st ev) (worldB a ds st ev) := by
  have hj : ∀ x : Bool,Ev (fun k => spec_WorldOk.j0 k x a ds st ev) (!x && (storeB st && ds.all numW)) := by
    intro x
    cases x with
    | true => exact Ev.at1 fun k => by rw [spec_WorldOk.j0,if_pos rfl]; rfl
    | false => exact Ev.val (Ev.step (fun k => by rw [spec_WorldOk.j0,if_neg (by decide)]; rfl) (spec_draws_l a st h2 ev ds [] (by simpa using h1))) (by rw [Bool.not_false,Bool.true_and,Bool.and_comm])
  unfold worldB
  by_cases c : a < 0
  · exact Ev.val (Ev.congr (fun k => by rw [spec_WorldOk.f,if_pos c]) (hj true)) (by rw [decide_eq_false (by omega)]; rfl)
  by_cases c0 : a > 2147483647
  · exact Ev.val (Ev.congr (fun k => by rw [spec_WorldOk.f,if_neg c,if_pos c0]) (hj true)) (by rw [decide_eq_false (by omega)]; rfl)
  by_cases c1 : (ds.length : Int) > 200
  · exact Ev.val (Ev.congr (fun k => by rw [spec_WorldOk.f,if_neg c,if_neg c0,if_pos c1]) (hj true)) (by rw [decide_eq_false (by omega)]; rfl)
  by_cases c2 : (st.length : Int) > 20
  · exact Ev.val (Ev.congr (fun k => by rw [spec_WorldOk.f,if_neg c,if_neg c0,if_neg c1,if_pos c2]) (hj true)) (by rw [decide_eq_false (by omega)]; rfl)
  refine Ev.val (Ev.congr (fun k => by rw [spec_WorldOk.f,if_neg c,if_neg c0,if_neg c1,if_neg c2]) (hj _)) ?_
  by_cases c3 : (ev.length : Int) > 20000
  · rw [decide_eq_true c3,decide_eq_false (by omega)]; rfl
  · rw [decide_eq_false c3,decide_eq_true (by omega)]; rfl

theorem toEntryS_l (l : List EL) : ∀ (p : List EL) (q : List EI),p.length = q.length → p.length + l.length ≤ 281474976710656 →
    Ev (fun k => laws_toEntryS.l0 k (p ++ l) (q ++ List.replicate l.length z107) (p.length : Int)) (q ++ l.map entI) := by
  induction l with
  | nil =>
    intro p q _ _
    refine Ev.at1 fun k => ?_
    rw [laws_toEntryS.l0,if_neg (by simp)]
    simp
  | cons a t ih =>
    intro p q hpq hp
    rw [List.length_cons] at hp
    have := ih (p ++ [a]) (q ++ [entI a]) (by simp [hpq]) (by simp; omega)
    refine Ev.val (Ev.step (fun k => ?_) this) (by simp)
    rw [laws_toEntryS.l0,if_pos (by simp; omega),if_pos (by omega),rdEL,laws_toEntry.f,Option.bind_some,if_pos (by simp; omega),wl p a (by omega),Int.toNat_natCast,appl p t a,hpq]
    congr 1
    simp [List.replicate_succ,entI]
theorem toEntryS {l : List EL} (hl : l.length ≤ 1048576) : Ev (fun k => laws_toEntryS.f k l) (l.map entI) := by
  refine Ev.congr (fun k => ?_) (by simpa using toEntryS_l l [] [] rfl (by simp; omega))
  rw [laws_toEntryS.f,if_pos (by omega),if_pos (by rw [Int.toNat_natCast]; omega),Int.toNat_natCast]

theorem eqEntryS_l (l : List EI) : ∀ (p : List EI),p.length + l.length ≤ 281474976710656 → Ev (fun k => laws_eqEntryS.l0 k (p ++ l) (p ++ l) (p.length : Int)) true := by
  induction l with
  | nil =>
    intro p _
    refine Ev.at1 fun k => ?_
    rw [laws_eqEntryS.l0,if_neg (by simp)]
  | cons a t ih =>
    intro p hp
    rw [List.length_cons] at hp
    have := ih (p ++ [a]) (by simp; omega)
    refine Ev.step (fun k => ?_) this
    rw [laws_eqEntryS.l0,if_pos (by simp; omega),if_pos (by omega),if_pos (by simp; omega),laws_eqEntry.f,if_pos rfl,if_pos rfl,Option.bind_some,if_pos rfl,wl p a (by omega),appl p t a]
theorem eqEntryS {l : List EI} (hl : l.length ≤ 281474976710656) : Ev (fun k => laws_eqEntryS.f k l l) true := by
  refine Ev.congr (fun k => ?_) (by simpa using eqEntryS_l l [] (by simpa using hl))
  rw [laws_eqEntryS.f,if_pos rfl]

theorem toEventS_l (l : List VL) (hb : ∀ e ∈ l,e.f3.length ≤ 1048576) : ∀ (p : List VL) (q : List VI),p.length = q.length → p.length + l.length ≤ 281474976710656 →
    Ev (fun k => laws_toEventS.l0 k (p ++ l) (q ++ List.replicate l.length z166) (p.length : Int)) (q ++ l.map evI) := by
  induction l with
  | nil =>
    intro p q _ _
    refine Ev.at1 fun k => ?_
    rw [laws_toEventS.l0,if_neg (by simp)]
    simp
  | cons a t ih =>
    intro p q hpq hp
    rw [List.length_cons] at hp
    have := ih (fun e he => hb e (List.mem_cons_of_mem _ he)) (p ++ [a]) (q ++ [evI a]) (by simp [hpq]) (by simp; omega)
    have h3 := hb a (List.mem_cons_self ..)
    have e1 : Ev (fun k => laws_toEvent.f k a.f0 a.f1 a.f2 a.f3 a.f4) (a.f0,a.f1,a.f2,a.f3,a.f4) := Ev.congr (fun k => by rw [laws_toEvent.f]) (Ev.bind (toByteS (l := a.f3) (by omega)) (Ev.now _))
    refine Ev.val (Ev.step (fun k => by rw [laws_toEventS.l0,if_pos (by simp; omega),if_pos (by omega),rdVL]) (Ev.bind e1 (Ev.congr (fun k => ?_) this))) (by simp)
    rw [if_pos (by simp; omega),wl p a (by omega),Int.toNat_natCast,appl p t a,hpq]
    congr 1
    simp [List.replicate_succ,evI]
theorem toEventS {l : List VL} (hl : l.length ≤ 1048576) (hb : ∀ e ∈ l,e.f3.length ≤ 1048576) : Ev (fun k => laws_toEventS.f k l) (l.map evI) := by
  refine Ev.congr (fun k => ?_) (by simpa using toEventS_l l hb [] [] rfl (by simp; omega))
  rw [laws_toEventS.f,if_pos (by omega),if_pos (by rw [Int.toNat_natCast]; omega),Int.toNat_natCast]

theorem eqEventS_l (l : List VI) (hb : ∀ e ∈ l,e.f3.length ≤ 1048576) : ∀ (p : List VI),p.length + l.length ≤ 281474976710656 → Ev (fun k => laws_eqEventS.l0 k (p ++ l) (p ++ l) (p.length : Int)) true := by
  induction l with
  | nil =>
    intro p _
    refine Ev.at1 fun k => ?_
    rw [laws_eqEventS.l0,if_neg (by simp)]
  | cons a t ih =>
    intro p hp
    rw [List.length_cons] at hp
    have := ih (fun e he => hb e (List.mem_cons_of_mem _ he)) (p ++ [a]) (by simp; omega)
    have h3 := hb a (List.mem_cons_self ..)
    have e1 : Ev (fun k => laws_eqEvent.f k a.f0 a.f1 a.f2 a.f3 a.f4 a.f0 a.f1 a.f2 a.f3 a.f4) true := by
      refine Ev.congr (fun k => by rw [laws_eqEvent.f,if_pos rfl,if_pos rfl,if_pos rfl]) (Ev.bind (eqByteS (a := a.f3) (b := a.f3) (by omega)) (Ev.const fun k => ?_))
      rw [decide_eq_true rfl,if_pos rfl,if_pos rfl]
    refine Ev.step (fun k => by rw [laws_eqEventS.l0,if_pos (by simp; omega),if_pos (by omega),if_pos (by simp; omega),rdVI]) (Ev.bind e1 (Ev.congr (fun k => ?_) this))
    rw [if_pos rfl,wl p a (by omega),appl p t a]
theorem eqEventS {l : List VI} (hl : l.length ≤ 281474976710656) (hb : ∀ e ∈ l,e.f3.length ≤ 1048576) : Ev (fun k => laws_eqEventS.f k l l) true := by
  refine Ev.congr (fun k => ?_) (by simpa using eqEventS_l l hb [] (by simpa using hl))
  rw [laws_eqEventS.f,if_pos rfl]

theorem szEvent_l (l : List VL) (hb : ∀ e ∈ l,e.f3.length ≤ 9223372036854775807) : ∀ (p : List VL) (a : Int),0 ≤ a → a ≤ 1048576 → p.length + l.length ≤ 281474976710656 →
    ∃ r,Ev (fun k => laws_szEventS.l0 k (p ++ l) a (p.length : Int)) r ∧ (r < 0 ∨ (0 ≤ r ∧ ∀ e ∈ l,e.f3.length ≤ 1048576)) := by
  induction l with
  | nil =>
    intro p a h0 _ _
    refine ⟨a,Ev.at1 fun k => ?_,.inr ⟨h0,fun e he => by cases he⟩⟩
    rw [laws_szEventS.l0,if_neg (by simp)]
  | cons e t ih =>
    intro p a h0 h1 hp
    rw [List.length_cons] at hp
    have h3 := hb e (List.mem_cons_self ..)
    have hw : wrap64 (a - (e.f3.length : Int)) = a - (e.f3.length : Int) := w64 (by omega) (by omega)
    by_cases c : (e.f3.length : Int) ≤ a
    · obtain ⟨r,e1,hr⟩ := ih (fun e he => hb e (List.mem_cons_of_mem _ he)) (p ++ [e]) (a - e.f3.length) (by omega) (by omega) (by simp; omega)
      refine ⟨r,Ev.step (fun k => ?_) e1,?_⟩
      · rw [laws_szEventS.l0,if_pos (by simp; omega),if_pos (by omega),rdVL,laws_szEvent.f,laws_szByteS.f,hw,if_neg (by omega),Option.bind_some,if_neg (by omega),Option.bind_some,if_neg (by omega),wl p e (by omega),appl p t e]
      · rcases hr with hr | ⟨hr,hq⟩
        · exact .inl hr
        · refine .inr ⟨hr,fun z hz => ?_⟩
          rcases List.mem_cons.mp hz with rfl | hz
          · omega
          · exact hq z hz
    · refine ⟨-1,Ev.at1 fun k => ?_,.inl (by decide)⟩
      rw [laws_szEventS.l0,if_pos (by simp; omega),if_pos (by omega),rdVL,laws_szEvent.f,laws_szByteS.f,hw,if_pos (by omega),Option.bind_some,if_pos (by decide),Option.bind_some,if_pos (by decide)]

theorem szWorld (a : Int) (ds : List Int) (st : List EL) (ev : List VL) (h1 : ds.length ≤ 9223372036854775807) (h2 : st.length ≤ 9223372036854775807) (h3 : ev.length ≤ 9223372036854775807) (h4 : ∀ e ∈ ev,e.f3.length ≤ 9223372036854775807) :
    ∃ r,Ev (fun k => laws_szWorld.f k a ds st ev 1048576) r ∧ (r < 0 ∨ (¬ r < 0 ∧ ds.length ≤ 1048576 ∧ st.length ≤ 1048576 ∧ ev.length ≤ 1048576 ∧ ∀ e ∈ ev,e.f3.length ≤ 1048576)) := by
  have w1 : wrap64 (1048576 - (ds.length : Int)) = 1048576 - (ds.length : Int) := w64 (by omega) (by omega)
  by_cases c1 : 1048576 - (ds.length : Int) < 0
  · exact ⟨-1,Ev.const fun k => by rw [laws_szWorld.f,laws_szIntS.f,w1,if_pos c1,Option.bind_some,if_pos (by decide)],.inl (by decide)⟩
  have w2 : wrap64 (1048576 - (ds.length : Int) - (st.length : Int)) = 1048576 - (ds.length : Int) - (st.length : Int) := w64 (by omega) (by omega)
  by_cases c2 : 1048576 - (ds.length : Int) - (st.length : Int) < 0
  · exact ⟨-1,Ev.const fun k => by rw [laws_szWorld.f,laws_szIntS.f,w1,if_neg c1,Option.bind_some,if_neg c1,laws_szEntryS.f,w2,if_pos c2,Option.bind_some,if_pos (by decide)],.inl (by decide)⟩
  have w3 : wrap64 (1048576 - (ds.length : Int) - (st.length : Int) - (ev.length : Int)) = 1048576 - (ds.length : Int) - (st.length : Int) - (ev.length : Int) := w64 (by omega) (by omega)
  by_cases c3 : 1048576 - (ds.length : Int) - (st.length : Int) - (ev.length : Int) < 0
  · exact ⟨-1,Ev.const fun k => by rw [laws_szWorld.f,laws_szIntS.f,w1,if_neg c1,Option.bind_some,if_neg c1,laws_szEntryS.f,w2,if_neg c2,Option.bind_some,if_neg c2,laws_szEventS.f,w3,if_pos c3,Option.bind_some,if_pos (by decide)],.inl (by decide)⟩
  obtain ⟨r,e,hr⟩ := szEvent_l ev h4 [] _ (Int.not_lt.mp c3) (by omega) (by simp; omega)
  have e1 : Ev (fun k => laws_szEventS.f k ev (1048576 - (ds.length : Int) - (st.length : Int))) r := Ev.congr (fun k => by rw [laws_szEventS.f,w3,if_neg c3]; rfl) e
  by_cases c4 : r < 0
  · refine ⟨-1,Ev.congr (fun k => by rw [laws_szWorld.f,laws_szIntS.f,w1,if_neg c1,Option.bind_some,if_neg c1,laws_szEntryS.f,w2,if_neg c2,Option.bind_some,if_neg c2]) (Ev.bind e1 (Ev.const fun k => by rw [if_pos c4])),.inl (by decide)⟩
  · refine ⟨r,Ev.congr (fun k => by rw [laws_szWorld.f,laws_szIntS.f,w1,if_neg c1,Option.bind_some,if_neg c1,laws_szEntryS.f,w2,if_neg c2,Option.bind_some,if_neg c2]) (Ev.bind e1 (Ev.const fun k => by rw [if_neg c4])),.inr ⟨c4,by omega,by omega,by omega,?_⟩⟩
    rcases hr with hr | ⟨_,hr⟩
    · omega
    · exact hr

theorem toWorld (a : Int) (ds : List Int) (st : List EL) (ev : List VL) (h1 : ds.length ≤ 1048576) (h2 : st.length ≤ 1048576) (h3 : ev.length ≤ 1048576) (h4 : ∀ e ∈ ev,e.f3.length ≤ 1048576) : Ev (fun k => laws_toWorld.f k a ds st ev) (a,ds,st.map entI,ev.map evI) :=
  by
    refine Ev.congr (fun k => by rw [laws_toWorld.f]) (Ev.bind (toIntS (l := ds) (by omega)) ?_)
    refine Ev.bind (toEntryS h2) ?_
    exact Ev.bind (f := fun _ t => some (a,ds,st.map entI,t)) (toEventS h3 h4) (Ev.now _)
theorem eqWorld (a : Int) (ds : List Int) (st : List EI) (ev : List VI) (h1 : ds.length ≤ 1048576) (h2 : st.length ≤ 1048576) (h3 : ev.length ≤ 1048576) (h4 : ∀ e ∈ ev,e.f3.length ≤ 1048576) : Ev (fun k => laws_eqWorld.f k a ds st ev a ds st ev) true := by
  refine Ev.congr (fun k => by rw [laws_eqWorld.f,if_pos rfl]) (Ev.bind (eqIntS (l := ds) (by omega)) ?_)
  refine Ev.congr (fun k => by rw [if_pos rfl]) (Ev.bind (eqEntryS (l := st) (by omega)) ?_)
  exact Ev.congr (fun k => by rw [if_pos rfl]) (Ev.bind (eqEventS (l := ev) (by omega) h4) (Ev.const fun k => by rw [if_pos rfl]))

end Go.Proofs.Ytmbacnnbpnlekaa.E

/- The program's WorldOk returns what the reference's WorldOk returns,at every world,and leaves its argument. No condition. -/
namespace Go.Proofs.Ytmbacnnbpnlekaa.Pure
open Go Go.RowKit Go.Proofs.Ytmbacnnbpnlekaa.PA Go.Proofs.Ytmbacnnbpnlekaa.M Go.Proofs.Ytmbacnnbpnlekaa.E Go.Proofs.YtmbacnnbpnlekaaW.PrintWords Go.Proofs.YtmbacnnbpnlekaaW.PrintLast

theorem FnExactWorldOk : laws_FnExactWorldOk.Pure := by
  intro x hx
  obtain ⟨_,⟨g1,_⟩,⟨g2,_⟩,g3,g4⟩ := hx
  have g4 : ∀ e ∈ x.f3,e.f3.length ≤ 9223372036854775807 := fun e he => by
    obtain ⟨_,_,_,⟨h,_⟩,_⟩ := g4 e he
    simpa only [maxLen] using h
  simp only [maxLen] at g1 g2 g3
  obtain ⟨r,e0,hr⟩ := szWorld x.f0 x.f1 x.f2 x.f3 g1 g2 g3 g4
  obtain ⟨K0,h0⟩ := Ev.use e0
  rcases hr with hr | ⟨hr,d1,d2,d3,d4⟩
  · refine ⟨K0,?_⟩
    rw [laws_FnExactWorldOk.f]
    simp (disch := omega) only [↓h0]
    rw [if_pos hr]
  · have d4' : ∀ e ∈ x.f3.map evI,e.f3.length ≤ 1048576 := fun e he => by
      obtain ⟨z,hz,rfl⟩ := List.mem_map.mp he
      exact d4 z hz
    obtain ⟨K1,h1⟩ := Ev.use (toWorld x.f0 x.f1 x.f2 x.f3 d1 d2 d3 d4)
    obtain ⟨K2,h2⟩ := Ev.use (spec_WorldOk x.f0 x.f1 (x.f2.map entI) (x.f3.map evI) (by omega) (by simp; omega))
    obtain ⟨K3,h3⟩ := Ev.use (impl_WorldOk x.f0 x.f1 (x.f2.map entI) (x.f3.map evI) (by omega) (by simp; omega))
    obtain ⟨K4,h4⟩ := Ev.use (eqWorld x.f0 x.f1 (x.f2.map entI) (x.f3.map evI) d1 (by simp; omega) (by simp; omega) d4')
    refine ⟨K0 + K1 + K2 + K3 + K4,?_⟩
    rw [laws_FnExactWorldOk.f]
    simp (disch := omega) only [↓h0,↓h1,↓h2,↓h3,↓h4,hr,bne_self_eq_false,Bool.false_eq_true,↓reduceIte]

end Go.Proofs.Ytmbacnnbpnlekaa.Pure

