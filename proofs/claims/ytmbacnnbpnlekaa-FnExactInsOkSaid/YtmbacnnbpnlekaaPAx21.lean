-- Printed by a program of this session (wrap.py) out of the translation. Lean checks it.
import Derived.Test.YtmbacnnbpnlekaaPAx0
import Derived.Test.YtmbacnnbpnlekaaPAx11
import Derived.Test.YtmbacnnbpnlekaaPAx12
import Derived.Test.YtmbacnnbpnlekaaPAx13
import Derived.Test.YtmbacnnbpnlekaaPAx17
import Derived.Test.YtmbacnnbpnlekaaPAx20
namespace Go.Proofs.Ytmbacnnbpnlekaa.PA
open Go.RowKit Go.Proofs.YtmbacnnbpnlekaaW.PrintWords Go.Proofs.YtmbacnnbpnlekaaW.PrintLast Go.Proofs.YtmbacnnbpnlekaaW.PrintMore
attribute [local go_sem] max2_int min2_int max_two min_two max_three min_three max_four min_four   -- for this text's walks alone
set_option linter.unusedVariables false
set_option linter.unusedSimpArgs false

/-! ### impl_InsOk: function 14 -/
mutual
def impl_InsOk.j0 : Nat → Bool → Int → Int → Int → List Int → List Int → Bool → Bool → Bool → Bool → Option (Bool)
  | 0, _, _, _, _, _, _, _, _, _, _ => none
  | k + 1, x11, x144000, x144001, x144002, x144003, x144004, x150000, x150001, x150002, x150003 => if x11 = true then (impl_InsOk.j1 k x11 x144000 x144001 x144002 x144003 x144004 x150000 x150001 x150002 x150003) else (if x144000 = 1 then ((impl_within.f x144002 0 2147483647).bind fun t151 => (impl_InsOk.j1 k (!t151) x144000 x144001 x144002 x144003 x144004 x150000 x150001 x150002 x150003)) else ((impl_within.f x144001 0 2147483647).bind fun t152 => (if t152 = true then ((impl_within.f x144002 0 2147483647).bind fun t153 => (impl_InsOk.j1 k (!t153) x144000 x144001 x144002 x144003 x144004 x150000 x150001 x150002 x150003)) else (impl_InsOk.j1 k (!t152) x144000 x144001 x144002 x144003 x144004 x150000 x150001 x150002 x150003))))
def impl_InsOk.j1 : Nat → Bool → Int → Int → Int → List Int → List Int → Bool → Bool → Bool → Bool → Option (Bool)
  | 0, _, _, _, _, _, _, _, _, _, _ => none
  | k + 1, x11, x144000, x144001, x144002, x144003, x144004, x150000, x150001, x150002, x150003 => if x11 = true then (some false) else (if x150000 = true then (impl_InsOk.j2 k false x144000 x144001 x144002 x144003 x144004 x150000 x150001 x150002 x150003) else (impl_InsOk.j2 k (x144001 != 0) x144000 x144001 x144002 x144003 x144004 x150000 x150001 x150002 x150003))
def impl_InsOk.j2 : Nat → Bool → Int → Int → Int → List Int → List Int → Bool → Bool → Bool → Bool → Option (Bool)
  | 0, _, _, _, _, _, _, _, _, _, _ => none
  | k + 1, x34, x144000, x144001, x144002, x144003, x144004, x150000, x150001, x150002, x150003 => if x34 = true then (impl_InsOk.j4 k x34 x144000 x144001 x144002 x144003 x144004 x150000 x150001 x150002 x150003) else (if x150001 = true then (impl_InsOk.j3 k false x144000 x144001 x144002 x144003 x144004 x150000 x150001 x150002 x150003) else (impl_InsOk.j3 k (x144002 != 0) x144000 x144001 x144002 x144003 x144004 x150000 x150001 x150002 x150003))
def impl_InsOk.j4 : Nat → Bool → Int → Int → Int → List Int → List Int → Bool → Bool → Bool → Bool → Option (Bool)
  | 0, _, _, _, _, _, _, _, _, _, _ => none
  | k + 1, x34, x144000, x144001, x144002, x144003, x144004, x150000, x150001, x150002, x150003 => if x34 = true then (some false) else (if x150002 = true then ((impl_within.f (x144004.length : Int) 1 5).bind fun t154 => (impl_InsOk.j5 k (!t154) x144000 x144001 x144002 x144003 x144004 x150000 x150001 x150002 x150003)) else (impl_InsOk.j5 k false x144000 x144001 x144002 x144003 x144004 x150000 x150001 x150002 x150003))
def impl_InsOk.j5 : Nat → Bool → Int → Int → Int → List Int → List Int → Bool → Bool → Bool → Bool → Option (Bool)
  | 0, _, _, _, _, _, _, _, _, _, _ => none
  | k + 1, x69, x144000, x144001, x144002, x144003, x144004, x150000, x150001, x150002, x150003 => if x69 = true then (some false) else (if x150003 = true then ((impl_litOk.f k x144003).bind fun t155 => (if t155 = true then ((slices_ContainsFunc_impl_InsOk_1.f k x144004).bind fun t156 => (some (!t156))) else (some false))) else ((slices_ContainsFunc_impl_InsOk_1.f k x144004).bind fun t157 => (some (!t157))))
def impl_InsOk.j3 : Nat → Bool → Int → Int → Int → List Int → List Int → Bool → Bool → Bool → Bool → Option (Bool)
  | 0, _, _, _, _, _, _, _, _, _, _ => none
  | k + 1, x34, x144000, x144001, x144002, x144003, x144004, x150000, x150001, x150002, x150003 => if x34 = true then (impl_InsOk.j4 k x34 x144000 x144001 x144002 x144003 x144004 x150000 x150001 x150002 x150003) else (if x150002 = true then (if x150003 = true then (impl_InsOk.j4 k false x144000 x144001 x144002 x144003 x144004 x150000 x150001 x150002 x150003) else (impl_InsOk.j4 k (decide ((x144003.length : Int) > 0)) x144000 x144001 x144002 x144003 x144004 x150000 x150001 x150002 x150003)) else (if (x144004.length : Int) > 0 then (impl_InsOk.j4 k (decide ((x144004.length : Int) > 0)) x144000 x144001 x144002 x144003 x144004 x150000 x150001 x150002 x150003) else (if x150003 = true then (impl_InsOk.j4 k false x144000 x144001 x144002 x144003 x144004 x150000 x150001 x150002 x150003) else (impl_InsOk.j4 k (decide ((x144003.length : Int) > 0)) x144000 x144001 x144002 x144003 x144004 x150000 x150001 x150002 x150003))))
end
def impl_InsOk.f (k : Nat) (a0_0 : Int) (a0_1 : Int) (a0_2 : Int) (l0_3 : List Int) (l0_4 : List Int) : Option (Bool) := (impl_within.f a0_0 0 31).bind fun t144 => (if t144 = true then ((impl_partsOfIns.f k a0_0).bind fun bt145 => (if a0_0 = 1 then ((impl_wholeOk.f a0_1).bind fun t150 => (impl_InsOk.j0 k (!t150) a0_0 a0_1 a0_2 l0_3 l0_4 bt145.1 bt145.2.1 bt145.2.2.1 bt145.2.2.2)) else (impl_InsOk.j0 k false a0_0 a0_1 a0_2 l0_3 l0_4 bt145.1 bt145.2.1 bt145.2.2.1 bt145.2.2.2))) else (some false))
theorem impl_InsOk.mono_l : ∀ k, (∀ y0 y1 y2 y3 y4 y5 y6 y7 y8 y9, LeO (impl_InsOk.j0 k y0 y1 y2 y3 y4 y5 y6 y7 y8 y9) (impl_InsOk.j0 (k + 1) y0 y1 y2 y3 y4 y5 y6 y7 y8 y9)) ∧ (∀ y0 y1 y2 y3 y4 y5 y6 y7 y8 y9, LeO (impl_InsOk.j1 k y0 y1 y2 y3 y4 y5 y6 y7 y8 y9) (impl_InsOk.j1 (k + 1) y0 y1 y2 y3 y4 y5 y6 y7 y8 y9)) ∧ (∀ y0 y1 y2 y3 y4 y5 y6 y7 y8 y9, LeO (impl_InsOk.j2 k y0 y1 y2 y3 y4 y5 y6 y7 y8 y9) (impl_InsOk.j2 (k + 1) y0 y1 y2 y3 y4 y5 y6 y7 y8 y9)) ∧ (∀ y0 y1 y2 y3 y4 y5 y6 y7 y8 y9, LeO (impl_InsOk.j4 k y0 y1 y2 y3 y4 y5 y6 y7 y8 y9) (impl_InsOk.j4 (k + 1) y0 y1 y2 y3 y4 y5 y6 y7 y8 y9)) ∧ (∀ y0 y1 y2 y3 y4 y5 y6 y7 y8 y9, LeO (impl_InsOk.j5 k y0 y1 y2 y3 y4 y5 y6 y7 y8 y9) (impl_InsOk.j5 (k + 1) y0 y1 y2 y3 y4 y5 y6 y7 y8 y9)) ∧ (∀ y0 y1 y2 y3 y4 y5 y6 y7 y8 y9, LeO (impl_InsOk.j3 k y0 y1 y2 y3 y4 y5 y6 y7 y8 y9) (impl_InsOk.j3 (k + 1) y0 y1 y2 y3 y4 y5 y6 y7 y8 y9))
  | 0 => ⟨fun _ _ _ _ _ _ _ _ _ _ r h => by simp [impl_InsOk.j0] at h, fun _ _ _ _ _ _ _ _ _ _ r h => by simp [impl_InsOk.j1] at h, fun _ _ _ _ _ _ _ _ _ _ r h => by simp [impl_InsOk.j2] at h, fun _ _ _ _ _ _ _ _ _ _ r h => by simp [impl_InsOk.j4] at h, fun _ _ _ _ _ _ _ _ _ _ r h => by simp [impl_InsOk.j5] at h, fun _ _ _ _ _ _ _ _ _ _ r h => by simp [impl_InsOk.j3] at h⟩
  | k + 1 => by
    obtain ⟨ih0, ih1, ih2, ih3, ih4, ih5⟩ := impl_InsOk.mono_l k
    refine ⟨?_, ?_, ?_, ?_, ?_, ?_⟩
    · intro y0 y1 y2 y3 y4 y5 y6 y7 y8 y9
      unfold impl_InsOk.j0
      repeat' first
      | (with_reducible exact ih0 _ _ _ _ _ _ _ _ _ _)
      | (with_reducible exact ih1 _ _ _ _ _ _ _ _ _ _)
      | (with_reducible exact ih2 _ _ _ _ _ _ _ _ _ _)
      | (with_reducible exact ih3 _ _ _ _ _ _ _ _ _ _)
      | (with_reducible exact ih4 _ _ _ _ _ _ _ _ _ _)
      | (with_reducible exact ih5 _ _ _ _ _ _ _ _ _ _)
      | (with_reducible exact impl_litOk.mono _ _)
      | (with_reducible exact impl_partsOfIns.mono _ _)
      | (with_reducible exact slices_ContainsFunc_impl_InsOk_1.mono _ _)
      | (with_reducible exact LeO.refl _)
      | (with_reducible exact LeO.none _)
      | (with_reducible refine LeO.ite ?_ ?_)
      | (with_reducible refine LeO.bind ?_ (fun _ => ?_))
      | exact ih0 _ _ _ _ _ _ _ _ _ _
      | exact ih1 _ _ _ _ _ _ _ _ _ _
      | exact ih2 _ _ _ _ _ _ _ _ _ _
      | exact ih3 _ _ _ _ _ _ _ _ _ _
      | exact ih4 _ _ _ _ _ _ _ _ _ _
      | exact ih5 _ _ _ _ _ _ _ _ _ _
      | exact impl_litOk.mono _ _
      | exact impl_partsOfIns.mono _ _
      | exact slices_ContainsFunc_impl_InsOk_1.mono _ _
      | exact LeO.none _
      | refine LeO.ite ?_ ?_
      | refine LeO.bind ?_ (fun _ => ?_)
    · intro y0 y1 y2 y3 y4 y5 y6 y7 y8 y9
      unfold impl_InsOk.j1
      repeat' first
      | (with_reducible exact ih0 _ _ _ _ _ _ _ _ _ _)
      | (with_reducible exact ih1 _ _ _ _ _ _ _ _ _ _)
      | (with_reducible exact ih2 _ _ _ _ _ _ _ _ _ _)
      | (with_reducible exact ih3 _ _ _ _ _ _ _ _ _ _)
      | (with_reducible exact ih4 _ _ _ _ _ _ _ _ _ _)
      | (with_reducible exact ih5 _ _ _ _ _ _ _ _ _ _)
      | (with_reducible exact impl_litOk.mono _ _)
      | (with_reducible exact impl_partsOfIns.mono _ _)
      | (with_reducible exact slices_ContainsFunc_impl_InsOk_1.mono _ _)
      | (with_reducible exact LeO.refl _)
      | (with_reducible exact LeO.none _)
      | (with_reducible refine LeO.ite ?_ ?_)
      | (with_reducible refine LeO.bind ?_ (fun _ => ?_))
      | exact ih0 _ _ _ _ _ _ _ _ _ _
      | exact ih1 _ _ _ _ _ _ _ _ _ _
      | exact ih2 _ _ _ _ _ _ _ _ _ _
      | exact ih3 _ _ _ _ _ _ _ _ _ _
      | exact ih4 _ _ _ _ _ _ _ _ _ _
      | exact ih5 _ _ _ _ _ _ _ _ _ _
      | exact impl_litOk.mono _ _
      | exact impl_partsOfIns.mono _ _
      | exact slices_ContainsFunc_impl_InsOk_1.mono _ _
      | exact LeO.none _
      | refine LeO.ite ?_ ?_
      | refine LeO.bind ?_ (fun _ => ?_)
    · intro y0 y1 y2 y3 y4 y5 y6 y7 y8 y9
      unfold impl_InsOk.j2
      repeat' first
      | (with_reducible exact ih0 _ _ _ _ _ _ _ _ _ _)
      | (with_reducible exact ih1 _ _ _ _ _ _ _ _ _ _)
      | (with_reducible exact ih2 _ _ _ _ _ _ _ _ _ _)
      | (with_reducible exact ih3 _ _ _ _ _ _ _ _ _ _)
      | (with_reducible exact ih4 _ _ _ _ _ _ _ _ _ _)
      | (with_reducible exact ih5 _ _ _ _ _ _ _ _ _ _)
      | (with_reducible exact impl_litOk.mono _ _)
      | (with_reducible exact impl_partsOfIns.mono _ _)
      | (with_reducible exact slices_ContainsFunc_impl_InsOk_1.mono _ _)
      | (with_reducible exact LeO.refl _)
      | (with_reducible exact LeO.none _)
      | (with_reducible refine LeO.ite ?_ ?_)
      | (with_reducible refine LeO.bind ?_ (fun _ => ?_))
      | exact ih0 _ _ _ _ _ _ _ _ _ _
      | exact ih1 _ _ _ _ _ _ _ _ _ _
      | exact ih2 _ _ _ _ _ _ _ _ _ _
      | exact ih3 _ _ _ _ _ _ _ _ _ _
      | exact ih4 _ _ _ _ _ _ _ _ _ _
      | exact ih5 _ _ _ _ _ _ _ _ _ _
      | exact impl_litOk.mono _ _
      | exact impl_partsOfIns.mono _ _
      | exact slices_ContainsFunc_impl_InsOk_1.mono _ _
      | exact LeO.none _
      | refine LeO.ite ?_ ?_
      | refine LeO.bind ?_ (fun _ => ?_)
    · intro y0 y1 y2 y3 y4 y5 y6 y7 y8 y9
      unfold impl_InsOk.j4
      repeat' first
      | (with_reducible exact ih0 _ _ _ _ _ _ _ _ _ _)
      | (with_reducible exact ih1 _ _ _ _ _ _ _ _ _ _)
      | (with_reducible exact ih2 _ _ _ _ _ _ _ _ _ _)
      | (with_reducible exact ih3 _ _ _ _ _ _ _ _ _ _)
      | (with_reducible exact ih4 _ _ _ _ _ _ _ _ _ _)
      | (with_reducible exact ih5 _ _ _ _ _ _ _ _ _ _)
      | (with_reducible exact impl_litOk.mono _ _)
      | (with_reducible exact impl_partsOfIns.mono _ _)
      | (with_reducible exact slices_ContainsFunc_impl_InsOk_1.mono _ _)
      | (with_reducible exact LeO.refl _)
      | (with_reducible exact LeO.none _)
      | (with_reducible refine LeO.ite ?_ ?_)
      | (with_reducible refine LeO.bind ?_ (fun _ => ?_))
      | exact ih0 _ _ _ _ _ _ _ _ _ _
      | exact ih1 _ _ _ _ _ _ _ _ _ _
      | exact ih2 _ _ _ _ _ _ _ _ _ _
      | exact ih3 _ _ _ _ _ _ _ _ _ _
      | exact ih4 _ _ _ _ _ _ _ _ _ _
      | exact ih5 _ _ _ _ _ _ _ _ _ _
      | exact impl_litOk.mono _ _
      | exact impl_partsOfIns.mono _ _
      | exact slices_ContainsFunc_impl_InsOk_1.mono _ _
      | exact LeO.none _
      | refine LeO.ite ?_ ?_
      | refine LeO.bind ?_ (fun _ => ?_)
    · intro y0 y1 y2 y3 y4 y5 y6 y7 y8 y9
      unfold impl_InsOk.j5
      repeat' first
      | (with_reducible exact ih0 _ _ _ _ _ _ _ _ _ _)
      | (with_reducible exact ih1 _ _ _ _ _ _ _ _ _ _)
      | (with_reducible exact ih2 _ _ _ _ _ _ _ _ _ _)
      | (with_reducible exact ih3 _ _ _ _ _ _ _ _ _ _)
      | (with_reducible exact ih4 _ _ _ _ _ _ _ _ _ _)
      | (with_reducible exact ih5 _ _ _ _ _ _ _ _ _ _)
      | (with_reducible exact impl_litOk.mono _ _)
      | (with_reducible exact impl_partsOfIns.mono _ _)
      | (with_reducible exact slices_ContainsFunc_impl_InsOk_1.mono _ _)
      | (with_reducible exact LeO.refl _)
      | (with_reducible exact LeO.none _)
      | (with_reducible refine LeO.ite ?_ ?_)
      | (with_reducible refine LeO.bind ?_ (fun _ => ?_))
      | exact ih0 _ _ _ _ _ _ _ _ _ _
      | exact ih1 _ _ _ _ _ _ _ _ _ _
      | exact ih2 _ _ _ _ _ _ _ _ _ _
      | exact ih3 _ _ _ _ _ _ _ _ _ _
      | exact ih4 _ _ _ _ _ _ _ _ _ _
      | exact ih5 _ _ _ _ _ _ _ _ _ _
      | exact impl_litOk.mono _ _
      | exact impl_partsOfIns.mono _ _
      | exact slices_ContainsFunc_impl_InsOk_1.mono _ _
      | exact LeO.none _
      | refine LeO.ite ?_ ?_
      | refine LeO.bind ?_ (fun _ => ?_)
    · intro y0 y1 y2 y3 y4 y5 y6 y7 y8 y9
      unfold impl_InsOk.j3
      repeat' first
      | (with_reducible exact ih0 _ _ _ _ _ _ _ _ _ _)
      | (with_reducible exact ih1 _ _ _ _ _ _ _ _ _ _)
      | (with_reducible exact ih2 _ _ _ _ _ _ _ _ _ _)
      | (with_reducible exact ih3 _ _ _ _ _ _ _ _ _ _)
      | (with_reducible exact ih4 _ _ _ _ _ _ _ _ _ _)
      | (with_reducible exact ih5 _ _ _ _ _ _ _ _ _ _)
      | (with_reducible exact impl_litOk.mono _ _)
      | (with_reducible exact impl_partsOfIns.mono _ _)
      | (with_reducible exact slices_ContainsFunc_impl_InsOk_1.mono _ _)
      | (with_reducible exact LeO.refl _)
      | (with_reducible exact LeO.none _)
      | (with_reducible refine LeO.ite ?_ ?_)
      | (with_reducible refine LeO.bind ?_ (fun _ => ?_))
      | exact ih0 _ _ _ _ _ _ _ _ _ _
      | exact ih1 _ _ _ _ _ _ _ _ _ _
      | exact ih2 _ _ _ _ _ _ _ _ _ _
      | exact ih3 _ _ _ _ _ _ _ _ _ _
      | exact ih4 _ _ _ _ _ _ _ _ _ _
      | exact ih5 _ _ _ _ _ _ _ _ _ _
      | exact impl_litOk.mono _ _
      | exact impl_partsOfIns.mono _ _
      | exact slices_ContainsFunc_impl_InsOk_1.mono _ _
      | exact LeO.none _
      | refine LeO.ite ?_ ?_
      | refine LeO.bind ?_ (fun _ => ?_)
theorem impl_InsOk.mono : ∀ a0 a1 a2 a3 a4 k, LeO (impl_InsOk.f k a0 a1 a2 a3 a4) (impl_InsOk.f (k + 1) a0 a1 a2 a3 a4) := by
  intro a0 a1 a2 a3 a4 k
  obtain ⟨ih0, ih1, ih2, ih3, ih4, ih5⟩ := impl_InsOk.mono_l k
  unfold impl_InsOk.f
  repeat' first
      | (with_reducible exact ih0 _ _ _ _ _ _ _ _ _ _)
      | (with_reducible exact ih1 _ _ _ _ _ _ _ _ _ _)
      | (with_reducible exact ih2 _ _ _ _ _ _ _ _ _ _)
      | (with_reducible exact ih3 _ _ _ _ _ _ _ _ _ _)
      | (with_reducible exact ih4 _ _ _ _ _ _ _ _ _ _)
      | (with_reducible exact ih5 _ _ _ _ _ _ _ _ _ _)
      | (with_reducible exact impl_litOk.mono _ _)
      | (with_reducible exact impl_partsOfIns.mono _ _)
      | (with_reducible exact slices_ContainsFunc_impl_InsOk_1.mono _ _)
      | (with_reducible exact LeO.refl _)
      | (with_reducible exact LeO.none _)
      | (with_reducible refine LeO.ite ?_ ?_)
      | (with_reducible refine LeO.bind ?_ (fun _ => ?_))
      | exact ih0 _ _ _ _ _ _ _ _ _ _
      | exact ih1 _ _ _ _ _ _ _ _ _ _
      | exact ih2 _ _ _ _ _ _ _ _ _ _
      | exact ih3 _ _ _ _ _ _ _ _ _ _
      | exact ih4 _ _ _ _ _ _ _ _ _ _
      | exact ih5 _ _ _ _ _ _ _ _ _ _
      | exact impl_litOk.mono _ _
      | exact impl_partsOfIns.mono _ _
      | exact slices_ContainsFunc_impl_InsOk_1.mono _ _
      | exact LeO.none _
      | refine LeO.ite ?_ ?_
      | refine LeO.bind ?_ (fun _ => ?_)
set_option maxHeartbeats 8000000 in
set_option maxRecDepth 100000 in
theorem impl_InsOk.calls (k : Nat) (a0_0 : Int) (a0_1 : Int) (a0_2 : Int) (A0_3 : Option Addr) (c0_3 : Nat) (l0_3 : List Int) (A0_4 : Option Addr) (c0_4 : Nat) (l0_4 : List Int) (r : Bool) (w : World) (hr0_3 : Kd.C (Kd.int .u8) w A0_3 l0_3.length l0_3) (hc0_3 : l0_3.length ≤ c0_3) (hr0_4 : Kd.C (Kd.int .i64) w A0_4 l0_4.length l0_4) (hc0_4 : l0_4.length ≤ c0_4) (h : impl_InsOk.f k a0_0 a0_1 a0_2 l0_3 l0_4 = some r) :
    Calls Try.prog 14 #[.agg #[.int .i64 a0_0, .int .i64 a0_1, .int .i64 a0_2, .slice A0_3 l0_3.length c0_3, .slice A0_4 l0_4.length c0_4]] w fun e w' => e = .returned (.bool r) ∧ Below w.heap.size w w' := by
  have hu28 := Try.underlying28
  have hu99 := Try.underlying99
  have HR0_3 := Aside0.mk hr0_3
  have HC0_3 := Aside0.mk hc0_3
  clear hr0_3 hc0_3
  have HR0_4 := Aside0.mk hr0_4
  have HC0_4 := Aside0.mk hc0_4
  clear hr0_4 hc0_4
  have HB := Aside0.mk (Below.refl w.heap.size w)
  have H : ((impl_within.f a0_0 0 31).bind fun t144 => (if t144 = true then ((impl_partsOfIns.f k a0_0).bind fun bt145 => (if a0_0 = 1 then ((impl_wholeOk.f a0_1).bind fun t150 => (impl_InsOk.j0 k (!t150) a0_0 a0_1 a0_2 l0_3 l0_4 bt145.1 bt145.2.1 bt145.2.2.1 bt145.2.2.2)) else (impl_InsOk.j0 k false a0_0 a0_1 a0_2 l0_3 l0_4 bt145.1 bt145.2.1 bt145.2.2.1 bt145.2.2.2))) else (some false))) = some r := h
  clear h
  replace H := Option.bind_eq_some_iff.mp H
  obtain ⟨t144, A20, H⟩ := H
  replace H : (if t144 = true then ((impl_partsOfIns.f k a0_0).bind fun bt145 => (if a0_0 = 1 then ((impl_wholeOk.f a0_1).bind fun t150 => (impl_InsOk.j0 k (!t150) a0_0 a0_1 a0_2 l0_3 l0_4 bt145.1 bt145.2.1 bt145.2.2.1 bt145.2.2.2)) else (impl_InsOk.j0 k false a0_0 a0_1 a0_2 l0_3 l0_4 bt145.1 bt145.2.1 bt145.2.2.1 bt145.2.2.2))) else (some false)) = some r := H
  have A2 := Aside0.mk A20
  clear A20
  by_cases c3 : t144 = true
  · subst c3
    have H1 : ((impl_partsOfIns.f k a0_0).bind fun bt145 => (if a0_0 = 1 then ((impl_wholeOk.f a0_1).bind fun t150 => (impl_InsOk.j0 k (!t150) a0_0 a0_1 a0_2 l0_3 l0_4 bt145.1 bt145.2.1 bt145.2.2.1 bt145.2.2.2)) else (impl_InsOk.j0 k false a0_0 a0_1 a0_2 l0_3 l0_4 bt145.1 bt145.2.1 bt145.2.2.1 bt145.2.2.2))) = some r := by rw [if_pos rfl] at H; exact H
    clear H
    have H := H1
    clear H1
    replace H := Option.bind_eq_some_iff.mp H
    obtain ⟨⟨t145, t146, t147, t148⟩, A40, H⟩ := H
    replace H : (if a0_0 = 1 then ((impl_wholeOk.f a0_1).bind fun t150 => (impl_InsOk.j0 k (!t150) a0_0 a0_1 a0_2 l0_3 l0_4 t145 t146 t147 t148)) else (impl_InsOk.j0 k false a0_0 a0_1 a0_2 l0_3 l0_4 t145 t146 t147 t148)) = some r := H
    have A4 := Aside0.mk A40
    clear A40
    have HC5 := Aside0.mk H
    clear H
    go_enter Try.func14, Try.ntmps14
    go_upto_region 4 with (first | ((with_reducible refine gate_dst (N := 1) rfl ?_); (try (refine gate_guard (by rfl) ?_; dsimp only)); refine box_event ?hg (N := 1) ?hd (cs := #[.int .i64 a0_0, .int .i64 a0_1, .int .i64 a0_2, .slice A0_3 l0_3.length c0_3, .slice A0_4 l0_4.length c0_4]) (t := 28) ?hr ?_; (case hd => rfl); (case hg => rfl); (case hr => first | (go_simp; done) | (go_simp; rfl)); intro gb143 hg w6 hbox hb; have n0_ := Aside0.mk (below_step (by repeat (first | (with_reducible first | exact HB.out | apply below_alloc | apply pw_below_drewN | apply below_drew1) | exact HB.out)) hb); have n1_ := Aside0.mk (hbox); have n2_ := Aside0.mk ((by rw [hg]; exact (below_size (by repeat (first | (with_reducible first | exact HB.out | apply below_alloc | apply pw_below_drewN | apply below_drew1) | exact HB.out))) : w.heap.size ≤ gb143)); have n3_ := Aside0.mk ((by rw [hg]; exact (below_size (by repeat (first | (with_reducible first | exact HB.out | apply below_alloc | apply pw_below_drewN | apply below_drew1) | exact HB.out))) : w.heap.size ≤ gb143)); clear HB; have HB := n0_; have BK143 := n1_; have GW143 := n2_; have GE143 := n3_; clear n0_ n1_ n2_ n3_; clear hb hbox hg; have hcz7_0 : w6.cell? ⟨gb143, 0, none⟩ = some (.int .i64 a0_0) := (blk_cell BK143.out 0).trans rfl; have hcz7_1 : w6.cell? ⟨gb143, 1, none⟩ = some (.int .i64 a0_1) := (blk_cell BK143.out 1).trans rfl; have hcz7_2 : w6.cell? ⟨gb143, 2, none⟩ = some (.int .i64 a0_2) := (blk_cell BK143.out 2).trans rfl; have hcz7_3 : w6.cell? ⟨gb143, 3, none⟩ = some (.slice A0_3 l0_3.length c0_3) := (blk_cell BK143.out 3).trans rfl; have hcz7_4 : w6.cell? ⟨gb143, 4, none⟩ = some (.slice A0_4 l0_4.length c0_4) := (blk_cell BK143.out 4).trans rfl; have hfz7_0 := blk_frozen BK143.out 0; have hfz7_1 := blk_frozen BK143.out 1; have hfz7_2 := blk_frozen BK143.out 2; have hfz7_3 := blk_frozen BK143.out 3; have hfz7_4 := blk_frozen BK143.out 4) | ((with_reducible refine gate_callee (f := 56) rfl ?_); refine goesL_ (some 6) rfl rfl Try.func56 (by kernel_rfl) rfl #[.int .i64 a0_0, .int .i64 0, .int .i64 31] rfl (by (try simp only [List.map_toArray, List.map_cons, List.map_nil]); first | done | rfl | (simp only [List.length_drop, List.length_take]; rfl)) ?_; (with_reducible refine (impl_within.calls a0_0 0 31 true _ A2.out).mono ?_); rintro e w' ⟨rfl, ⟨nd, rfl⟩⟩; refine ⟨_, rfl, ?_⟩; (try (rw [drewN_self w6]; generalize hq_ : World.drewN w6 _ = w6; have n0_ : Aside0 (w6.heap[gb143]? = some (.cells #[.int .i64 a0_0, .int .i64 a0_1, .int .i64 a0_2, .slice A0_3 l0_3.length c0_3, .slice A0_4 l0_4.length c0_4] 28 (0, 0))) := ⟨by rw [← hq_]; exact (by (with_reducible repeat (first | refine blk_drewN ?_ _ | refine blk_drew ?_ | refine blk_alloc ?_ _)); exact BK143.out)⟩; have n1_ : Aside0 (Below w.heap.size w w6) := ⟨by rw [← hq_]; exact (by repeat (first | (with_reducible first | exact HB.out | apply below_alloc | apply pw_below_drewN | apply below_drew1 | refine below_set ?_ GE143.out) | exact HB.out))⟩; clear BK143 HB hq_; have BK143 := n0_; have HB := n1_; clear n0_ n1_; (try (have hcz7_0 : w6.cell? ⟨gb143, 0, none⟩ = some (.int .i64 a0_0) := (blk_cell BK143.out 0).trans rfl)); (try (have hcz7_1 : w6.cell? ⟨gb143, 1, none⟩ = some (.int .i64 a0_1) := (blk_cell BK143.out 1).trans rfl)); (try (have hcz7_2 : w6.cell? ⟨gb143, 2, none⟩ = some (.int .i64 a0_2) := (blk_cell BK143.out 2).trans rfl)); (try (have hcz7_3 : w6.cell? ⟨gb143, 3, none⟩ = some (.slice A0_3 l0_3.length c0_3) := (blk_cell BK143.out 3).trans rfl)); (try (have hcz7_4 : w6.cell? ⟨gb143, 4, none⟩ = some (.slice A0_4 l0_4.length c0_4) := (blk_cell BK143.out 4).trans rfl)); (try (have hfz7_0 := blk_frozen BK143.out 0)); (try (have hfz7_1 := blk_frozen BK143.out 1)); (try (have hfz7_2 := blk_frozen BK143.out 2)); (try (have hfz7_3 := blk_frozen BK143.out 3)); (try (have hfz7_4 := blk_frozen BK143.out 4))))) | ((with_reducible refine gate_callee (f := 57) rfl ?_); refine goesL_ (some 10) rfl rfl Try.func57 (by kernel_rfl) rfl #[.int .i64 a0_0] rfl (by (try simp only [List.map_toArray, List.map_cons, List.map_nil]); first | done | rfl | (simp only [List.length_drop, List.length_take]; rfl)) ?_; (with_reducible refine (impl_partsOfIns.calls k a0_0 t145 t146 t147 t148 _ A4.out).mono ?_); rintro e w8 ⟨rfl, hb⟩; refine ⟨_, rfl, ?_⟩; have n0_ := Aside0.mk (blk_below (g := gb143) (o := .cells #[.int .i64 a0_0, .int .i64 a0_1, .int .i64 a0_2, .slice A0_3 l0_3.length c0_3, .slice A0_4 l0_4.length c0_4] 28 (0, 0)) (by (with_reducible repeat (first | refine blk_drewN ?_ _ | refine blk_drew ?_ | refine blk_alloc ?_ _)); exact BK143.out) hb); have n1_ := Aside0.mk (below_step (by repeat (first | (with_reducible first | exact HB.out | apply below_alloc | apply pw_below_drewN | apply below_drew1 | refine below_set ?_ GE143.out) | exact HB.out)) hb); clear BK143; clear HB; have BK143 := n0_; have HB := n1_; clear n0_ n1_; (try clear hb); (try clear hb2); (try clear hk); (try clear hi)) | ((with_reducible refine gate_dst (N := 3) rfl ?_); (try (refine gate_guard (by rfl) ?_; dsimp only)); refine box_event ?hg (N := 3) ?hd (cs := #[.bool false, .bool false, .bool false, .bool false]) (t := 99) ?hr ?_; (case hd => rfl); (case hg => rfl); (case hr => first | (go_simp; done) | (go_simp; rfl)); intro gb149 hg w9 hbox hb; have n0_ := Aside0.mk (blk_below (g := gb143) (o := .cells #[.int .i64 a0_0, .int .i64 a0_1, .int .i64 a0_2, .slice A0_3 l0_3.length c0_3, .slice A0_4 l0_4.length c0_4] 28 (0, 0)) (by (with_reducible repeat (first | refine blk_drewN ?_ _ | refine blk_drew ?_ | refine blk_alloc ?_ _)); exact BK143.out) hb); have n1_ := Aside0.mk (below_step (by repeat (first | (with_reducible first | exact HB.out | apply below_alloc | apply pw_below_drewN | apply below_drew1 | refine below_set ?_ GE143.out) | exact HB.out)) hb); have n2_ := Aside0.mk (hbox); have n3_ := Aside0.mk ((by rw [hg]; exact (below_size (by repeat (first | (with_reducible first | exact HB.out | apply below_alloc | apply pw_below_drewN | apply below_drew1 | refine below_set ?_ GE143.out) | exact HB.out))) : w.heap.size ≤ gb149)); have n4_ := Aside0.mk ((by rw [hg]; exact (below_size (by repeat (first | (with_reducible first | exact HB.out | apply below_alloc | apply pw_below_drewN | apply below_drew1 | refine below_set ?_ GE143.out) | exact HB.out))) : w.heap.size ≤ gb149)); have n5_ := Aside0.mk ((by rw [hg]; exact Nat.ne_of_lt (blk_lt (g := gb143) (o := .cells #[.int .i64 a0_0, .int .i64 a0_1, .int .i64 a0_2, .slice A0_3 l0_3.length c0_3, .slice A0_4 l0_4.length c0_4] 28 (0, 0)) (by (with_reducible repeat (first | refine blk_drewN ?_ _ | refine blk_drew ?_ | refine blk_alloc ?_ _)); exact BK143.out)) : gb143 ≠ gb149)); have n6_ := Aside0.mk ((by rw [hg]; exact Nat.ne_of_gt (blk_lt (g := gb143) (o := .cells #[.int .i64 a0_0, .int .i64 a0_1, .int .i64 a0_2, .slice A0_3 l0_3.length c0_3, .slice A0_4 l0_4.length c0_4] 28 (0, 0)) (by (with_reducible repeat (first | refine blk_drewN ?_ _ | refine blk_drew ?_ | refine blk_alloc ?_ _)); exact BK143.out)) : gb149 ≠ gb143)); clear BK143; clear HB; have BK143 := n0_; have HB := n1_; have BK149 := n2_; have GW149 := n3_; have GE149 := n4_; have NB143_149 := n5_; have NB149_143 := n6_; clear n0_ n1_ n2_ n3_ n4_ n5_ n6_; clear hb hbox hg; have hnb10 := NB149_143.out; have hnc10 := NB143_149.out; have hcz11_0 : w9.cell? ⟨gb149, 0, none⟩ = some (.bool false) := (blk_cell BK149.out 0).trans rfl; have hcz11_1 : w9.cell? ⟨gb149, 1, none⟩ = some (.bool false) := (blk_cell BK149.out 1).trans rfl; have hcz11_2 : w9.cell? ⟨gb149, 2, none⟩ = some (.bool false) := (blk_cell BK149.out 2).trans rfl; have hcz11_3 : w9.cell? ⟨gb149, 3, none⟩ = some (.bool false) := (blk_cell BK149.out 3).trans rfl; have hfz11_0 := blk_frozen BK149.out 0; have hfz11_1 := blk_frozen BK149.out 1; have hfz11_2 := blk_frozen BK149.out 2; have hfz11_3 := blk_frozen BK149.out 3))
    (try simp only [Act.put, List.setIfInBounds_toArray, List.set_cons_zero, List.set_cons_succ])
    go_cut [11] (fun v11 wc => ∃ (kq : Nat) (x11_4 : Bool), v11 = .bool x11_4 ∧ Aside0 (impl_InsOk.j0 kq x11_4 a0_0 a0_1 a0_2 l0_3 l0_4 t145 t146 t147 t148 = some r) ∧ Aside0 (kq ≤ k) ∧ Aside0 (wc.heap[gb143]? = some (.cells #[.int .i64 a0_0, .int .i64 a0_1, .int .i64 a0_2, (.slice A0_3 l0_3.length c0_3), (.slice A0_4 l0_4.length c0_4)] 28 (0, 0))) ∧ Aside0 (wc.heap[gb149]? = some (.cells #[.bool t145, .bool t146, .bool t147, .bool t148] 99 (0, 0))) ∧ Aside0 (Below w.heap.size w wc))
    case first =>
      have H := HC5.out
      clear HC5
      by_cases c12 : a0_0 = 1
      · rw [if_pos c12] at H
        have c12b0 : (a0_0 == 1) = true := beq_iff_eq.mpr c12
        have c12b1 : (a0_0 != 1) = false := bne_eq_false_iff_eq.mpr c12
        clear c12
        (first | rw [c12b0] | (simp only [i64_w, i32_w]; rw [c12b0]) | skip)
        replace H := Option.bind_eq_some_iff.mp H
        obtain ⟨t150, A130, H⟩ := H
        replace H : (impl_InsOk.j0 k (!t150) a0_0 a0_1 a0_2 l0_3 l0_4 t145 t146 t147 t148) = some r := H
        have A13 := Aside0.mk A130
        clear A130
        have H' := Aside0.mk H
        clear H
        have hnb14 := NB143_149.out
        have hnc14 := NB149_143.out
        have hcz15_0 : w9.cell? ⟨gb143, 0, none⟩ = some (.int .i64 a0_0) := (blk_cell BK143.out 0).trans rfl
        have hcz15_1 : w9.cell? ⟨gb143, 1, none⟩ = some (.int .i64 a0_1) := (blk_cell BK143.out 1).trans rfl
        have hcz15_2 : w9.cell? ⟨gb143, 2, none⟩ = some (.int .i64 a0_2) := (blk_cell BK143.out 2).trans rfl
        have hcz15_3 : w9.cell? ⟨gb143, 3, none⟩ = some (.slice A0_3 l0_3.length c0_3) := (blk_cell BK143.out 3).trans rfl
        have hcz15_4 : w9.cell? ⟨gb143, 4, none⟩ = some (.slice A0_4 l0_4.length c0_4) := (blk_cell BK143.out 4).trans rfl
        have hfz15_0 := blk_frozen BK143.out 0
        have hfz15_1 := blk_frozen BK143.out 1
        have hfz15_2 := blk_frozen BK143.out 2
        have hfz15_3 := blk_frozen BK143.out 3
        have hfz15_4 := blk_frozen BK143.out 4
        go_wp2_with (first | (go_at_call 58; (with_reducible refine (impl_wholeOk.calls a0_1 t150 _ A13.out).mono ?_); rintro e w' ⟨rfl, ⟨nd, rfl⟩⟩))
        go_meet
        case rel => exact ⟨_, (!t150), (by first | rfl | (simp; done) | (simp [*]; done) | (simp [bne]; done)), H', ⟨by first | omega | exact Nat.le_refl _⟩, ⟨by (with_reducible repeat (first | refine blk_drewN ?_ _ | refine blk_drew ?_ | refine blk_alloc ?_ _)); refine blk_far ?_ NB143_149.out _; (with_reducible repeat (first | refine blk_drewN ?_ _ | refine blk_drew ?_ | refine blk_alloc ?_ _)); refine blk_far ?_ NB143_149.out _; (with_reducible repeat (first | refine blk_drewN ?_ _ | refine blk_drew ?_ | refine blk_alloc ?_ _)); refine blk_far ?_ NB143_149.out _; (with_reducible repeat (first | refine blk_drewN ?_ _ | refine blk_drew ?_ | refine blk_alloc ?_ _)); refine blk_far ?_ NB143_149.out _; (with_reducible repeat (first | refine blk_drewN ?_ _ | refine blk_drew ?_ | refine blk_alloc ?_ _)); exact BK143.out⟩, ⟨by (with_reducible repeat (first | refine blk_drewN ?_ _ | refine blk_drew ?_ | refine blk_alloc ?_ _)); refine blk_put (cs := #[.bool t145, .bool t146, .bool t147, .bool false]) ?_ 3 _ rfl; (with_reducible repeat (first | refine blk_drewN ?_ _ | refine blk_drew ?_ | refine blk_alloc ?_ _)); refine blk_put (cs := #[.bool t145, .bool t146, .bool false, .bool false]) ?_ 2 _ rfl; (with_reducible repeat (first | refine blk_drewN ?_ _ | refine blk_drew ?_ | refine blk_alloc ?_ _)); refine blk_put (cs := #[.bool t145, .bool false, .bool false, .bool false]) ?_ 1 _ rfl; (with_reducible repeat (first | refine blk_drewN ?_ _ | refine blk_drew ?_ | refine blk_alloc ?_ _)); refine blk_put (cs := #[.bool false, .bool false, .bool false, .bool false]) ?_ 0 _ rfl; (with_reducible repeat (first | refine blk_drewN ?_ _ | refine blk_drew ?_ | refine blk_alloc ?_ _)); exact BK149.out⟩, ⟨by repeat (first | (with_reducible first | exact HB.out | apply below_alloc | apply pw_below_drewN | apply below_drew1 | refine below_set ?_ GE143.out | refine below_set ?_ GE149.out) | exact HB.out)⟩⟩
      · rw [if_neg c12] at H
        have c12b0 : (a0_0 == 1) = false := beq_eq_false_iff_ne.mpr c12
        have c12b1 : (a0_0 != 1) = true := bne_iff_ne.mpr c12
        (first | rw [c12b0] | (simp only [i64_w, i32_w]; rw [c12b0]) | skip)
        have H' := Aside0.mk H
        clear H
        have hnb16 := NB143_149.out
        have hnc16 := NB149_143.out
        have hcz17_0 : w9.cell? ⟨gb143, 0, none⟩ = some (.int .i64 a0_0) := (blk_cell BK143.out 0).trans rfl
        have hcz17_1 : w9.cell? ⟨gb143, 1, none⟩ = some (.int .i64 a0_1) := (blk_cell BK143.out 1).trans rfl
        have hcz17_2 : w9.cell? ⟨gb143, 2, none⟩ = some (.int .i64 a0_2) := (blk_cell BK143.out 2).trans rfl
        have hcz17_3 : w9.cell? ⟨gb143, 3, none⟩ = some (.slice A0_3 l0_3.length c0_3) := (blk_cell BK143.out 3).trans rfl
        have hcz17_4 : w9.cell? ⟨gb143, 4, none⟩ = some (.slice A0_4 l0_4.length c0_4) := (blk_cell BK143.out 4).trans rfl
        have hfz17_0 := blk_frozen BK143.out 0
        have hfz17_1 := blk_frozen BK143.out 1
        have hfz17_2 := blk_frozen BK143.out 2
        have hfz17_3 := blk_frozen BK143.out 3
        have hfz17_4 := blk_frozen BK143.out 4
        go_wp2
        go_meet
        case rel => exact ⟨_, (false), (by first | rfl | (simp; done) | (simp [*]; done) | (simp [bne]; done)), H', ⟨by first | omega | exact Nat.le_refl _⟩, ⟨by (with_reducible repeat (first | refine blk_drewN ?_ _ | refine blk_drew ?_ | refine blk_alloc ?_ _)); refine blk_far ?_ NB143_149.out _; (with_reducible repeat (first | refine blk_drewN ?_ _ | refine blk_drew ?_ | refine blk_alloc ?_ _)); refine blk_far ?_ NB143_149.out _; (with_reducible repeat (first | refine blk_drewN ?_ _ | refine blk_drew ?_ | refine blk_alloc ?_ _)); refine blk_far ?_ NB143_149.out _; (with_reducible repeat (first | refine blk_drewN ?_ _ | refine blk_drew ?_ | refine blk_alloc ?_ _)); refine blk_far ?_ NB143_149.out _; (with_reducible repeat (first | refine blk_drewN ?_ _ | refine blk_drew ?_ | refine blk_alloc ?_ _)); exact BK143.out⟩, ⟨by (with_reducible repeat (first | refine blk_drewN ?_ _ | refine blk_drew ?_ | refine blk_alloc ?_ _)); refine blk_put (cs := #[.bool t145, .bool t146, .bool t147, .bool false]) ?_ 3 _ rfl; (with_reducible repeat (first | refine blk_drewN ?_ _ | refine blk_drew ?_ | refine blk_alloc ?_ _)); refine blk_put (cs := #[.bool t145, .bool t146, .bool false, .bool false]) ?_ 2 _ rfl; (with_reducible repeat (first | refine blk_drewN ?_ _ | refine blk_drew ?_ | refine blk_alloc ?_ _)); refine blk_put (cs := #[.bool t145, .bool false, .bool false, .bool false]) ?_ 1 _ rfl; (with_reducible repeat (first | refine blk_drewN ?_ _ | refine blk_drew ?_ | refine blk_alloc ?_ _)); refine blk_put (cs := #[.bool false, .bool false, .bool false, .bool false]) ?_ 0 _ rfl; (with_reducible repeat (first | refine blk_drewN ?_ _ | refine blk_drew ?_ | refine blk_alloc ?_ _)); exact BK149.out⟩, ⟨by repeat (first | (with_reducible first | exact HB.out | apply below_alloc | apply pw_below_drewN | apply below_drew1 | refine below_set ?_ GE143.out | refine below_set ?_ GE149.out) | exact HB.out)⟩⟩
    case rest =>
      clear HC5
      try clear c1
      try clear p2
      try clear c3
      try clear c5
      try clear c10
      try clear c12
      try clear c12b0
      try clear c12b1
      try clear c14
      try clear c16
      try clear hcz11_0
      try clear hcz11_1
      try clear hcz11_2
      try clear hcz11_3
      try clear hcz15_0
      try clear hcz15_1
      try clear hcz15_2
      try clear hcz15_3
      try clear hcz15_4
      try clear hcz17_0
      try clear hcz17_1
      try clear hcz17_2
      try clear hcz17_3
      try clear hcz17_4
      try clear hcz7_0
      try clear hcz7_1
      try clear hcz7_2
      try clear hcz7_3
      try clear hcz7_4
      try clear hfz11_0
      try clear hfz11_1
      try clear hfz11_2
      try clear hfz11_3
      try clear hfz15_0
      try clear hfz15_1
      try clear hfz15_2
      try clear hfz15_3
      try clear hfz15_4
      try clear hfz17_0
      try clear hfz17_1
      try clear hfz17_2
      try clear hfz17_3
      try clear hfz17_4
      try clear hfz7_0
      try clear hfz7_1
      try clear hfz7_2
      try clear hfz7_3
      try clear hfz7_4
      obtain ⟨kq, x11_4, rfl, HA, HJ4, BK143, BK149, HB⟩ := hcut
      cases kq with
      | zero => exact absurd HA.out (by simp [impl_InsOk.j0])
      | succ kj4 =>
        have H := HA.out
        clear HA
        simp only [impl_InsOk.j0] at H
        have HC18 := Aside0.mk H
        clear H
        go_upto_if 11 with (fail)
        go_cut [11] (fun v11 wc => ∃ (kq : Nat) (x11_17 : Bool), v11 = .bool x11_17 ∧ Aside0 (impl_InsOk.j1 kq x11_17 a0_0 a0_1 a0_2 l0_3 l0_4 t145 t146 t147 t148 = some r) ∧ Aside0 (kq ≤ kj4) ∧ Aside0 (wc.heap[gb143]? = some (.cells #[.int .i64 a0_0, .int .i64 a0_1, .int .i64 a0_2, (.slice A0_3 l0_3.length c0_3), (.slice A0_4 l0_4.length c0_4)] 28 (0, 0))) ∧ Aside0 (wc.heap[gb149]? = some (.cells #[.bool t145, .bool t146, .bool t147, .bool t148] 99 (0, 0))) ∧ Aside0 (Below w.heap.size w wc))
        case first =>
          have H := HC18.out
          clear HC18
          by_cases c19 : x11_4 = true
          · subst c19
            have H1 : (impl_InsOk.j1 kj4 true a0_0 a0_1 a0_2 l0_3 l0_4 t145 t146 t147 t148) = some r := by rw [if_pos rfl] at H; exact H
            clear H
            have H := H1
            clear H1
            have H' := Aside0.mk H
            clear H
            go_wp2
            go_meet
            case rel => exact ⟨_, (true), (by first | rfl | (simp; done) | (simp [*]; done) | (simp [bne]; done)), H', ⟨by have := HJ4.out; first | omega | exact Nat.le_refl _⟩, ⟨by (with_reducible repeat (first | refine blk_drewN ?_ _ | refine blk_drew ?_ | refine blk_alloc ?_ _)); exact BK143.out⟩, ⟨by (with_reducible repeat (first | refine blk_drewN ?_ _ | refine blk_drew ?_ | refine blk_alloc ?_ _)); exact BK149.out⟩, ⟨by repeat (first | (with_reducible first | exact HB.out | apply below_alloc | apply pw_below_drewN | apply below_drew1 | refine below_set ?_ GE143.out | refine below_set ?_ GE149.out) | exact HB.out)⟩⟩
          · replace c19 := Bool.eq_false_iff.mpr c19
            subst c19
            have H1 : (if a0_0 = 1 then ((impl_within.f a0_2 0 2147483647).bind fun t151 => (impl_InsOk.j1 kj4 (!t151) a0_0 a0_1 a0_2 l0_3 l0_4 t145 t146 t147 t148)) else ((impl_within.f a0_1 0 2147483647).bind fun t152 => (if t152 = true then ((impl_within.f a0_2 0 2147483647).bind fun t153 => (impl_InsOk.j1 kj4 (!t153) a0_0 a0_1 a0_2 l0_3 l0_4 t145 t146 t147 t148)) else (impl_InsOk.j1 kj4 (!t152) a0_0 a0_1 a0_2 l0_3 l0_4 t145 t146 t147 t148)))) = some r := by rw [if_neg (show ¬ (false = true) by decide)] at H; exact H
            clear H
            have H := H1
            clear H1
            by_cases c20 : a0_0 = 1
            · rw [if_pos c20] at H
              have c20b0 : (a0_0 == 1) = true := beq_iff_eq.mpr c20
              have c20b1 : (a0_0 != 1) = false := bne_eq_false_iff_eq.mpr c20
              clear c20
              (first | rw [c20b0] | (simp only [i64_w, i32_w]; rw [c20b0]) | skip)
              replace H := Option.bind_eq_some_iff.mp H
              obtain ⟨t151, A210, H⟩ := H
              replace H : (impl_InsOk.j1 kj4 (!t151) a0_0 a0_1 a0_2 l0_3 l0_4 t145 t146 t147 t148) = some r := H
              have A21 := Aside0.mk A210
              clear A210
              have H' := Aside0.mk H
              clear H
              have hnb22 := NB143_149.out
              have hnc22 := NB149_143.out
              have hcz23_0 : wc.cell? ⟨gb143, 0, none⟩ = some (.int .i64 a0_0) := (blk_cell BK143.out 0).trans rfl
              have hcz23_1 : wc.cell? ⟨gb143, 1, none⟩ = some (.int .i64 a0_1) := (blk_cell BK143.out 1).trans rfl
              have hcz23_2 : wc.cell? ⟨gb143, 2, none⟩ = some (.int .i64 a0_2) := (blk_cell BK143.out 2).trans rfl
              have hcz23_3 : wc.cell? ⟨gb143, 3, none⟩ = some (.slice A0_3 l0_3.length c0_3) := (blk_cell BK143.out 3).trans rfl
              have hcz23_4 : wc.cell? ⟨gb143, 4, none⟩ = some (.slice A0_4 l0_4.length c0_4) := (blk_cell BK143.out 4).trans rfl
              have hfz23_0 := blk_frozen BK143.out 0
              have hfz23_1 := blk_frozen BK143.out 1
              have hfz23_2 := blk_frozen BK143.out 2
              have hfz23_3 := blk_frozen BK143.out 3
              have hfz23_4 := blk_frozen BK143.out 4
              go_wp2_with (first | ((with_reducible refine gate_callee (f := 56) rfl ?_); refine goesL_ (some 32) rfl rfl Try.func56 (by kernel_rfl) rfl #[.int .i64 a0_2, .int .i64 0, .int .i64 2147483647] rfl (by (try simp only [List.map_toArray, List.map_cons, List.map_nil]); first | done | rfl | (simp only [List.length_drop, List.length_take]; rfl)) ?_; (with_reducible refine (impl_within.calls a0_2 0 2147483647 t151 _ A21.out).mono ?_); rintro e w' ⟨rfl, ⟨nd, rfl⟩⟩; refine ⟨_, rfl, ?_⟩))
              go_meet
              case rel => exact ⟨_, (!t151), (by first | rfl | (simp; done) | (simp [*]; done) | (simp [bne]; done)), H', ⟨by have := HJ4.out; first | omega | exact Nat.le_refl _⟩, ⟨by (with_reducible repeat (first | refine blk_drewN ?_ _ | refine blk_drew ?_ | refine blk_alloc ?_ _)); exact BK143.out⟩, ⟨by (with_reducible repeat (first | refine blk_drewN ?_ _ | refine blk_drew ?_ | refine blk_alloc ?_ _)); exact BK149.out⟩, ⟨by repeat (first | (with_reducible first | exact HB.out | apply below_alloc | apply pw_below_drewN | apply below_drew1 | refine below_set ?_ GE143.out | refine below_set ?_ GE149.out) | exact HB.out)⟩⟩
            · rw [if_neg c20] at H
              have c20b0 : (a0_0 == 1) = false := beq_eq_false_iff_ne.mpr c20
              have c20b1 : (a0_0 != 1) = true := bne_iff_ne.mpr c20
              (first | rw [c20b0] | (simp only [i64_w, i32_w]; rw [c20b0]) | skip)
              replace H := Option.bind_eq_some_iff.mp H
              obtain ⟨t152, A240, H⟩ := H
              replace H : (if t152 = true then ((impl_within.f a0_2 0 2147483647).bind fun t153 => (impl_InsOk.j1 kj4 (!t153) a0_0 a0_1 a0_2 l0_3 l0_4 t145 t146 t147 t148)) else (impl_InsOk.j1 kj4 (!t152) a0_0 a0_1 a0_2 l0_3 l0_4 t145 t146 t147 t148)) = some r := H
              have A24 := Aside0.mk A240
              clear A240
              by_cases c25 : t152 = true
              · subst c25
                have H1 : ((impl_within.f a0_2 0 2147483647).bind fun t153 => (impl_InsOk.j1 kj4 (!t153) a0_0 a0_1 a0_2 l0_3 l0_4 t145 t146 t147 t148)) = some r := by rw [if_pos rfl] at H; exact H
                clear H
                have H := H1
                clear H1
                replace H := Option.bind_eq_some_iff.mp H
                obtain ⟨t153, A260, H⟩ := H
                replace H : (impl_InsOk.j1 kj4 (!t153) a0_0 a0_1 a0_2 l0_3 l0_4 t145 t146 t147 t148) = some r := H
                have A26 := Aside0.mk A260
                clear A260
                have H' := Aside0.mk H
                clear H
                have hnb27 := NB143_149.out
                have hnc27 := NB149_143.out
                have hcz28_0 : wc.cell? ⟨gb143, 0, none⟩ = some (.int .i64 a0_0) := (blk_cell BK143.out 0).trans rfl
                have hcz28_1 : wc.cell? ⟨gb143, 1, none⟩ = some (.int .i64 a0_1) := (blk_cell BK143.out 1).trans rfl
                have hcz28_2 : wc.cell? ⟨gb143, 2, none⟩ = some (.int .i64 a0_2) := (blk_cell BK143.out 2).trans rfl
                have hcz28_3 : wc.cell? ⟨gb143, 3, none⟩ = some (.slice A0_3 l0_3.length c0_3) := (blk_cell BK143.out 3).trans rfl
                have hcz28_4 : wc.cell? ⟨gb143, 4, none⟩ = some (.slice A0_4 l0_4.length c0_4) := (blk_cell BK143.out 4).trans rfl
                have hfz28_0 := blk_frozen BK143.out 0
                have hfz28_1 := blk_frozen BK143.out 1
                have hfz28_2 := blk_frozen BK143.out 2
                have hfz28_3 := blk_frozen BK143.out 3
                have hfz28_4 := blk_frozen BK143.out 4
                go_wp2_with (first | (go_at_call 56; (with_reducible refine (impl_within.calls a0_1 0 2147483647 true _ A24.out).mono ?_); rintro e w' ⟨rfl, ⟨nd, rfl⟩⟩) | ((with_reducible refine gate_callee (f := 56) rfl ?_); refine goesL_ (some 32) rfl rfl Try.func56 (by kernel_rfl) rfl #[.int .i64 a0_2, .int .i64 0, .int .i64 2147483647] rfl (by (try simp only [List.map_toArray, List.map_cons, List.map_nil]); first | done | rfl | (simp only [List.length_drop, List.length_take]; rfl)) ?_; (with_reducible refine (impl_within.calls a0_2 0 2147483647 t153 _ A26.out).mono ?_); rintro e w' ⟨rfl, ⟨nd, rfl⟩⟩; refine ⟨_, rfl, ?_⟩))
                go_meet
                case rel => exact ⟨_, (!t153), (by first | rfl | (simp; done) | (simp [*]; done) | (simp [bne]; done)), H', ⟨by have := HJ4.out; first | omega | exact Nat.le_refl _⟩, ⟨by (with_reducible repeat (first | refine blk_drewN ?_ _ | refine blk_drew ?_ | refine blk_alloc ?_ _)); exact BK143.out⟩, ⟨by (with_reducible repeat (first | refine blk_drewN ?_ _ | refine blk_drew ?_ | refine blk_alloc ?_ _)); exact BK149.out⟩, ⟨by repeat (first | (with_reducible first | exact HB.out | apply below_alloc | apply pw_below_drewN | apply below_drew1 | refine below_set ?_ GE143.out | refine below_set ?_ GE149.out) | exact HB.out)⟩⟩
              · replace c25 := Bool.eq_false_iff.mpr c25
                subst c25
                have H1 : (impl_InsOk.j1 kj4 (!false) a0_0 a0_1 a0_2 l0_3 l0_4 t145 t146 t147 t148) = some r := by rw [if_neg (show ¬ (false = true) by decide)] at H; exact H
                clear H
                have H := H1
                clear H1
                have H' := Aside0.mk H
                clear H
                have hnb29 := NB143_149.out
                have hnc29 := NB149_143.out
                have hcz30_0 : wc.cell? ⟨gb143, 0, none⟩ = some (.int .i64 a0_0) := (blk_cell BK143.out 0).trans rfl
                have hcz30_1 : wc.cell? ⟨gb143, 1, none⟩ = some (.int .i64 a0_1) := (blk_cell BK143.out 1).trans rfl
                have hcz30_2 : wc.cell? ⟨gb143, 2, none⟩ = some (.int .i64 a0_2) := (blk_cell BK143.out 2).trans rfl
                have hcz30_3 : wc.cell? ⟨gb143, 3, none⟩ = some (.slice A0_3 l0_3.length c0_3) := (blk_cell BK143.out 3).trans rfl
                have hcz30_4 : wc.cell? ⟨gb143, 4, none⟩ = some (.slice A0_4 l0_4.length c0_4) := (blk_cell BK143.out 4).trans rfl
                have hfz30_0 := blk_frozen BK143.out 0
                have hfz30_1 := blk_frozen BK143.out 1
                have hfz30_2 := blk_frozen BK143.out 2
                have hfz30_3 := blk_frozen BK143.out 3
                have hfz30_4 := blk_frozen BK143.out 4
                go_wp2_with (first | (go_at_call 56; (with_reducible refine (impl_within.calls a0_1 0 2147483647 false _ A24.out).mono ?_); rintro e w' ⟨rfl, ⟨nd, rfl⟩⟩))
                go_meet
                case rel => exact ⟨_, (!false), (by first | rfl | (simp; done) | (simp [*]; done) | (simp [bne]; done)), H', ⟨by have := HJ4.out; first | omega | exact Nat.le_refl _⟩, ⟨by (with_reducible repeat (first | refine blk_drewN ?_ _ | refine blk_drew ?_ | refine blk_alloc ?_ _)); exact BK143.out⟩, ⟨by (with_reducible repeat (first | refine blk_drewN ?_ _ | refine blk_drew ?_ | refine blk_alloc ?_ _)); exact BK149.out⟩, ⟨by repeat (first | (with_reducible first | exact HB.out | apply below_alloc | apply pw_below_drewN | apply below_drew1 | refine below_set ?_ GE143.out | refine below_set ?_ GE149.out) | exact HB.out)⟩⟩
        case rest =>
          clear HC18
          try clear c1
          try clear c2
          try clear p2
          try clear c3
          try clear c5
          try clear c10
          try clear c12
          try clear c12b0
          try clear c12b1
          try clear c14
          try clear c16
          try clear c19
          try clear c20
          try clear c20b0
          try clear c20b1
          try clear c22
          try clear c25
          try clear c27
          try clear c29
          try clear hcz11_0
          try clear hcz11_1
          try clear hcz11_2
          try clear hcz11_3
          try clear hcz15_0
          try clear hcz15_1
          try clear hcz15_2
          try clear hcz15_3
          try clear hcz15_4
          try clear hcz17_0
          try clear hcz17_1
          try clear hcz17_2
          try clear hcz17_3
          try clear hcz17_4
          try clear hcz23_0
          try clear hcz23_1
          try clear hcz23_2
          try clear hcz23_3
          try clear hcz23_4
          try clear hcz28_0
          try clear hcz28_1
          try clear hcz28_2
          try clear hcz28_3
          try clear hcz28_4
          try clear hcz30_0
          try clear hcz30_1
          try clear hcz30_2
          try clear hcz30_3
          try clear hcz30_4
          try clear hcz7_0
          try clear hcz7_1
          try clear hcz7_2
          try clear hcz7_3
          try clear hcz7_4
          try clear hfz11_0
          try clear hfz11_1
          try clear hfz11_2
          try clear hfz11_3
          try clear hfz15_0
          try clear hfz15_1
          try clear hfz15_2
          try clear hfz15_3
          try clear hfz15_4
          try clear hfz17_0
          try clear hfz17_1
          try clear hfz17_2
          try clear hfz17_3
          try clear hfz17_4
          try clear hfz23_0
          try clear hfz23_1
          try clear hfz23_2
          try clear hfz23_3
          try clear hfz23_4
          try clear hfz28_0
          try clear hfz28_1
          try clear hfz28_2
          try clear hfz28_3
          try clear hfz28_4
          try clear hfz30_0
          try clear hfz30_1
          try clear hfz30_2
          try clear hfz30_3
          try clear hfz30_4
          try clear hfz7_0
          try clear hfz7_1
          try clear hfz7_2
          try clear hfz7_3
          try clear hfz7_4
          try clear p2
          obtain ⟨kq, x11_17, rfl, HA, HJ17, BK143, BK149, HB⟩ := hcut
          cases kq with
          | zero => exact absurd HA.out (by simp [impl_InsOk.j1])
          | succ kj17 =>
            have H := HA.out
            clear HA
            simp only [impl_InsOk.j1] at H
            by_cases c31 : x11_17 = true
            · subst c31
              have H1 : (some false) = some r := by rw [if_pos rfl] at H; exact H
              clear H
              have H := H1
              clear H1
              obtain rfl := Option.some.inj H
              go_wp2
              go_ret
              exact ⟨by first | rfl | (simp [errW_none, errW_some] <;> rfl) | (simp [*, errW_none, errW_some] <;> rfl), by repeat (first | (with_reducible first | exact HB.out | apply below_alloc | apply pw_below_drewN | apply below_drew1 | refine below_set ?_ GE143.out | refine below_set ?_ GE149.out) | exact HB.out)⟩
            · replace c31 := Bool.eq_false_iff.mpr c31
              subst c31
              have H1 : (if t145 = true then (impl_InsOk.j2 kj17 false a0_0 a0_1 a0_2 l0_3 l0_4 t145 t146 t147 t148) else (impl_InsOk.j2 kj17 (a0_1 != 0) a0_0 a0_1 a0_2 l0_3 l0_4 t145 t146 t147 t148)) = some r := by rw [if_neg (show ¬ (false = true) by decide)] at H; exact H
              clear H
              have H := H1
              clear H1
              have HC32 := Aside0.mk H
              clear H
              go_upto_region 8 with (fail)
              go_cut [34] (fun v34 wc => ∃ (kq : Nat) (x34_31 : Bool), v34 = .bool x34_31 ∧ Aside0 (impl_InsOk.j2 kq x34_31 a0_0 a0_1 a0_2 l0_3 l0_4 t145 t146 t147 t148 = some r) ∧ Aside0 (kq ≤ kj17) ∧ Aside0 (wc.heap[gb143]? = some (.cells #[.int .i64 a0_0, .int .i64 a0_1, .int .i64 a0_2, (.slice A0_3 l0_3.length c0_3), (.slice A0_4 l0_4.length c0_4)] 28 (0, 0))) ∧ Aside0 (wc.heap[gb149]? = some (.cells #[.bool t145, .bool t146, .bool t147, .bool t148] 99 (0, 0))) ∧ Aside0 (Below w.heap.size w wc))
              case first =>
                have H := HC32.out
                clear HC32
                by_cases c33 : t145 = true
                · subst c33
                  have H1 : (impl_InsOk.j2 kj17 false a0_0 a0_1 a0_2 l0_3 l0_4 true t146 t147 t148) = some r := by rw [if_pos rfl] at H; exact H
                  clear H
                  have H := H1
                  clear H1
                  have H' := Aside0.mk H
                  clear H
                  have hnb34 := NB149_143.out
                  have hnc34 := NB143_149.out
                  have hcz35_0 : wc.cell? ⟨gb149, 0, none⟩ = some (.bool true) := (blk_cell BK149.out 0).trans rfl
                  have hcz35_1 : wc.cell? ⟨gb149, 1, none⟩ = some (.bool t146) := (blk_cell BK149.out 1).trans rfl
                  have hcz35_2 : wc.cell? ⟨gb149, 2, none⟩ = some (.bool t147) := (blk_cell BK149.out 2).trans rfl
                  have hcz35_3 : wc.cell? ⟨gb149, 3, none⟩ = some (.bool t148) := (blk_cell BK149.out 3).trans rfl
                  have hfz35_0 := blk_frozen BK149.out 0
                  have hfz35_1 := blk_frozen BK149.out 1
                  have hfz35_2 := blk_frozen BK149.out 2
                  have hfz35_3 := blk_frozen BK149.out 3
                  go_wp2
                  go_meet
                  case rel => exact ⟨_, (false), (by first | rfl | (simp; done) | (simp [*]; done) | (simp [bne]; done)), H', ⟨by have := HJ4.out; have := HJ17.out; first | omega | exact Nat.le_refl _⟩, ⟨by (with_reducible repeat (first | refine blk_drewN ?_ _ | refine blk_drew ?_ | refine blk_alloc ?_ _)); exact BK143.out⟩, ⟨by (with_reducible repeat (first | refine blk_drewN ?_ _ | refine blk_drew ?_ | refine blk_alloc ?_ _)); exact BK149.out⟩, ⟨by repeat (first | (with_reducible first | exact HB.out | apply below_alloc | apply pw_below_drewN | apply below_drew1 | refine below_set ?_ GE143.out | refine below_set ?_ GE149.out) | exact HB.out)⟩⟩
                · replace c33 := Bool.eq_false_iff.mpr c33
                  subst c33
                  have H1 : (impl_InsOk.j2 kj17 (a0_1 != 0) a0_0 a0_1 a0_2 l0_3 l0_4 false t146 t147 t148) = some r := by rw [if_neg (show ¬ (false = true) by decide)] at H; exact H
                  clear H
                  have H := H1
                  clear H1
                  have H' := Aside0.mk H
                  clear H
                  have hnb36 := NB149_143.out
                  have hnc36 := NB143_149.out
                  have hcz37_0 : wc.cell? ⟨gb149, 0, none⟩ = some (.bool false) := (blk_cell BK149.out 0).trans rfl
                  have hcz37_1 : wc.cell? ⟨gb149, 1, none⟩ = some (.bool t146) := (blk_cell BK149.out 1).trans rfl
                  have hcz37_2 : wc.cell? ⟨gb149, 2, none⟩ = some (.bool t147) := (blk_cell BK149.out 2).trans rfl
                  have hcz37_3 : wc.cell? ⟨gb149, 3, none⟩ = some (.bool t148) := (blk_cell BK149.out 3).trans rfl
                  have hfz37_0 := blk_frozen BK149.out 0
                  have hfz37_1 := blk_frozen BK149.out 1
                  have hfz37_2 := blk_frozen BK149.out 2
                  have hfz37_3 := blk_frozen BK149.out 3
                  have hcz38_0 : wc.cell? ⟨gb143, 0, none⟩ = some (.int .i64 a0_0) := (blk_cell BK143.out 0).trans rfl
                  have hcz38_1 : wc.cell? ⟨gb143, 1, none⟩ = some (.int .i64 a0_1) := (blk_cell BK143.out 1).trans rfl
                  have hcz38_2 : wc.cell? ⟨gb143, 2, none⟩ = some (.int .i64 a0_2) := (blk_cell BK143.out 2).trans rfl
                  have hcz38_3 : wc.cell? ⟨gb143, 3, none⟩ = some (.slice A0_3 l0_3.length c0_3) := (blk_cell BK143.out 3).trans rfl
                  have hcz38_4 : wc.cell? ⟨gb143, 4, none⟩ = some (.slice A0_4 l0_4.length c0_4) := (blk_cell BK143.out 4).trans rfl
                  have hfz38_0 := blk_frozen BK143.out 0
                  have hfz38_1 := blk_frozen BK143.out 1
                  have hfz38_2 := blk_frozen BK143.out 2
                  have hfz38_3 := blk_frozen BK143.out 3
                  have hfz38_4 := blk_frozen BK143.out 4
                  go_wp2
                  go_meet
                  case rel => exact ⟨_, ((a0_1 != 0)), (by first | rfl | (simp; done) | (simp [*]; done) | (simp [bne]; done)), H', ⟨by have := HJ4.out; have := HJ17.out; first | omega | exact Nat.le_refl _⟩, ⟨by (with_reducible repeat (first | refine blk_drewN ?_ _ | refine blk_drew ?_ | refine blk_alloc ?_ _)); exact BK143.out⟩, ⟨by (with_reducible repeat (first | refine blk_drewN ?_ _ | refine blk_drew ?_ | refine blk_alloc ?_ _)); exact BK149.out⟩, ⟨by repeat (first | (with_reducible first | exact HB.out | apply below_alloc | apply pw_below_drewN | apply below_drew1 | refine below_set ?_ GE143.out | refine below_set ?_ GE149.out) | exact HB.out)⟩⟩
              case rest =>
                clear HC32
                try clear c1
                try clear c2
                try clear p2
                try clear c3
                try clear c5
                try clear c10
                try clear c12
                try clear c12b0
                try clear c12b1
                try clear c14
                try clear c16
                try clear c19
                try clear c20
                try clear c20b0
                try clear c20b1
                try clear c22
                try clear c25
                try clear c27
                try clear c29
                try clear c31
                try clear c33
                try clear c34
                try clear c36
                try clear hcz11_0
                try clear hcz11_1
                try clear hcz11_2
                try clear hcz11_3
                try clear hcz15_0
                try clear hcz15_1
                try clear hcz15_2
                try clear hcz15_3
                try clear hcz15_4
                try clear hcz17_0
                try clear hcz17_1
                try clear hcz17_2
                try clear hcz17_3
                try clear hcz17_4
                try clear hcz23_0
                try clear hcz23_1
                try clear hcz23_2
                try clear hcz23_3
                try clear hcz23_4
                try clear hcz28_0
                try clear hcz28_1
                try clear hcz28_2
                try clear hcz28_3
                try clear hcz28_4
                try clear hcz30_0
                try clear hcz30_1
                try clear hcz30_2
                try clear hcz30_3
                try clear hcz30_4
                try clear hcz35_0
                try clear hcz35_1
                try clear hcz35_2
                try clear hcz35_3
                try clear hcz37_0
                try clear hcz37_1
                try clear hcz37_2
                try clear hcz37_3
                try clear hcz38_0
                try clear hcz38_1
                try clear hcz38_2
                try clear hcz38_3
                try clear hcz38_4
                try clear hcz7_0
                try clear hcz7_1
                try clear hcz7_2
                try clear hcz7_3
                try clear hcz7_4
                try clear hfz11_0
                try clear hfz11_1
                try clear hfz11_2
                try clear hfz11_3
                try clear hfz15_0
                try clear hfz15_1
                try clear hfz15_2
                try clear hfz15_3
                try clear hfz15_4
                try clear hfz17_0
                try clear hfz17_1
                try clear hfz17_2
                try clear hfz17_3
                try clear hfz17_4
                try clear hfz23_0
                try clear hfz23_1
                try clear hfz23_2
                try clear hfz23_3
                try clear hfz23_4
                try clear hfz28_0
                try clear hfz28_1
                try clear hfz28_2
                try clear hfz28_3
                try clear hfz28_4
                try clear hfz30_0
                try clear hfz30_1
                try clear hfz30_2
                try clear hfz30_3
                try clear hfz30_4
                try clear hfz35_0
                try clear hfz35_1
                try clear hfz35_2
                try clear hfz35_3
                try clear hfz37_0
                try clear hfz37_1
                try clear hfz37_2
                try clear hfz37_3
                try clear hfz38_0
                try clear hfz38_1
                try clear hfz38_2
                try clear hfz38_3
                try clear hfz38_4
                try clear hfz7_0
                try clear hfz7_1
                try clear hfz7_2
                try clear hfz7_3
                try clear hfz7_4
                try clear p2
                obtain ⟨kq, x34_31, rfl, HA, HJ31, BK143, BK149, HB⟩ := hcut
                cases kq with
                | zero => exact absurd HA.out (by simp [impl_InsOk.j2])
                | succ kj31 =>
                  have H := HA.out
                  clear HA
                  simp only [impl_InsOk.j2] at H
                  have HC39 := Aside0.mk H
                  clear H
                  go_upto_if 34 with (fail)
                  go_cut [34] (fun v34 wc => ∃ (kq : Nat) (x34_38 : Bool), v34 = .bool x34_38 ∧ Aside0 (impl_InsOk.j4 kq x34_38 a0_0 a0_1 a0_2 l0_3 l0_4 t145 t146 t147 t148 = some r) ∧ Aside0 (kq ≤ kj31) ∧ Aside0 (wc.heap[gb143]? = some (.cells #[.int .i64 a0_0, .int .i64 a0_1, .int .i64 a0_2, (.slice A0_3 l0_3.length c0_3), (.slice A0_4 l0_4.length c0_4)] 28 (0, 0))) ∧ Aside0 (wc.heap[gb149]? = some (.cells #[.bool t145, .bool t146, .bool t147, .bool t148] 99 (0, 0))) ∧ Aside0 (Below w.heap.size w wc))
                  case first =>
                    have H := HC39.out
                    clear HC39
                    by_cases c40 : x34_31 = true
                    · subst c40
                      have H1 : (impl_InsOk.j4 kj31 true a0_0 a0_1 a0_2 l0_3 l0_4 t145 t146 t147 t148) = some r := by rw [if_pos rfl] at H; exact H
                      clear H
                      have H := H1
                      clear H1
                      have H' := Aside0.mk H
                      clear H
                      go_wp2
                      go_meet
                      case rel => exact ⟨_, (true), (by first | rfl | (simp; done) | (simp [*]; done) | (simp [bne]; done)), H', ⟨by have := HJ4.out; have := HJ17.out; have := HJ31.out; first | omega | exact Nat.le_refl _⟩, ⟨by (with_reducible repeat (first | refine blk_drewN ?_ _ | refine blk_drew ?_ | refine blk_alloc ?_ _)); exact BK143.out⟩, ⟨by (with_reducible repeat (first | refine blk_drewN ?_ _ | refine blk_drew ?_ | refine blk_alloc ?_ _)); exact BK149.out⟩, ⟨by repeat (first | (with_reducible first | exact HB.out | apply below_alloc | apply pw_below_drewN | apply below_drew1 | refine below_set ?_ GE143.out | refine below_set ?_ GE149.out) | exact HB.out)⟩⟩
                    · replace c40 := Bool.eq_false_iff.mpr c40
                      subst c40
                      have H1 : (if t146 = true then (impl_InsOk.j3 kj31 false a0_0 a0_1 a0_2 l0_3 l0_4 t145 t146 t147 t148) else (impl_InsOk.j3 kj31 (a0_2 != 0) a0_0 a0_1 a0_2 l0_3 l0_4 t145 t146 t147 t148)) = some r := by rw [if_neg (show ¬ (false = true) by decide)] at H; exact H
                      clear H
                      have H := H1
                      clear H1
                      have HC41 := Aside0.mk H
                      clear H
                      go_upto_region 9 with (fail)
                      go_cut [34] (fun v34 wc => ∃ (kq : Nat) (x34_40 : Bool), v34 = .bool x34_40 ∧ Aside0 (impl_InsOk.j3 kq x34_40 a0_0 a0_1 a0_2 l0_3 l0_4 t145 t146 t147 t148 = some r) ∧ Aside0 (kq ≤ kj31) ∧ Aside0 (wc.heap[gb143]? = some (.cells #[.int .i64 a0_0, .int .i64 a0_1, .int .i64 a0_2, (.slice A0_3 l0_3.length c0_3), (.slice A0_4 l0_4.length c0_4)] 28 (0, 0))) ∧ Aside0 (wc.heap[gb149]? = some (.cells #[.bool t145, .bool t146, .bool t147, .bool t148] 99 (0, 0))) ∧ Aside0 (Below w.heap.size w wc))
                      case first =>
                        have H := HC41.out
                        clear HC41
                        by_cases c42 : t146 = true
                        · subst c42
                          have H1 : (impl_InsOk.j3 kj31 false a0_0 a0_1 a0_2 l0_3 l0_4 t145 true t147 t148) = some r := by rw [if_pos rfl] at H; exact H
                          clear H
                          have H := H1
                          clear H1
                          have H' := Aside0.mk H
                          clear H
                          have hnb43 := NB149_143.out
                          have hnc43 := NB143_149.out
                          have hcz44_0 : wc.cell? ⟨gb149, 0, none⟩ = some (.bool t145) := (blk_cell BK149.out 0).trans rfl
                          have hcz44_1 : wc.cell? ⟨gb149, 1, none⟩ = some (.bool true) := (blk_cell BK149.out 1).trans rfl
                          have hcz44_2 : wc.cell? ⟨gb149, 2, none⟩ = some (.bool t147) := (blk_cell BK149.out 2).trans rfl
                          have hcz44_3 : wc.cell? ⟨gb149, 3, none⟩ = some (.bool t148) := (blk_cell BK149.out 3).trans rfl
                          have hfz44_0 := blk_frozen BK149.out 0
                          have hfz44_1 := blk_frozen BK149.out 1
                          have hfz44_2 := blk_frozen BK149.out 2
                          have hfz44_3 := blk_frozen BK149.out 3
                          go_wp2
                          go_meet
                          case rel => exact ⟨_, (false), (by first | rfl | (simp; done) | (simp [*]; done) | (simp [bne]; done)), H', ⟨by have := HJ4.out; have := HJ17.out; have := HJ31.out; first | omega | exact Nat.le_refl _⟩, ⟨by (with_reducible repeat (first | refine blk_drewN ?_ _ | refine blk_drew ?_ | refine blk_alloc ?_ _)); exact BK143.out⟩, ⟨by (with_reducible repeat (first | refine blk_drewN ?_ _ | refine blk_drew ?_ | refine blk_alloc ?_ _)); exact BK149.out⟩, ⟨by repeat (first | (with_reducible first | exact HB.out | apply below_alloc | apply pw_below_drewN | apply below_drew1 | refine below_set ?_ GE143.out | refine below_set ?_ GE149.out) | exact HB.out)⟩⟩
                        · replace c42 := Bool.eq_false_iff.mpr c42
                          subst c42
                          have H1 : (impl_InsOk.j3 kj31 (a0_2 != 0) a0_0 a0_1 a0_2 l0_3 l0_4 t145 false t147 t148) = some r := by rw [if_neg (show ¬ (false = true) by decide)] at H; exact H
                          clear H
                          have H := H1
                          clear H1
                          have H' := Aside0.mk H
                          clear H
                          have hnb45 := NB149_143.out
                          have hnc45 := NB143_149.out
                          have hcz46_0 : wc.cell? ⟨gb149, 0, none⟩ = some (.bool t145) := (blk_cell BK149.out 0).trans rfl
                          have hcz46_1 : wc.cell? ⟨gb149, 1, none⟩ = some (.bool false) := (blk_cell BK149.out 1).trans rfl
                          have hcz46_2 : wc.cell? ⟨gb149, 2, none⟩ = some (.bool t147) := (blk_cell BK149.out 2).trans rfl
                          have hcz46_3 : wc.cell? ⟨gb149, 3, none⟩ = some (.bool t148) := (blk_cell BK149.out 3).trans rfl
                          have hfz46_0 := blk_frozen BK149.out 0
                          have hfz46_1 := blk_frozen BK149.out 1
                          have hfz46_2 := blk_frozen BK149.out 2
                          have hfz46_3 := blk_frozen BK149.out 3
                          have hcz47_0 : wc.cell? ⟨gb143, 0, none⟩ = some (.int .i64 a0_0) := (blk_cell BK143.out 0).trans rfl
                          have hcz47_1 : wc.cell? ⟨gb143, 1, none⟩ = some (.int .i64 a0_1) := (blk_cell BK143.out 1).trans rfl
                          have hcz47_2 : wc.cell? ⟨gb143, 2, none⟩ = some (.int .i64 a0_2) := (blk_cell BK143.out 2).trans rfl
                          have hcz47_3 : wc.cell? ⟨gb143, 3, none⟩ = some (.slice A0_3 l0_3.length c0_3) := (blk_cell BK143.out 3).trans rfl
                          have hcz47_4 : wc.cell? ⟨gb143, 4, none⟩ = some (.slice A0_4 l0_4.length c0_4) := (blk_cell BK143.out 4).trans rfl
                          have hfz47_0 := blk_frozen BK143.out 0
                          have hfz47_1 := blk_frozen BK143.out 1
                          have hfz47_2 := blk_frozen BK143.out 2
                          have hfz47_3 := blk_frozen BK143.out 3
                          have hfz47_4 := blk_frozen BK143.out 4
                          go_wp2
                          go_meet
                          case rel => exact ⟨_, ((a0_2 != 0)), (by first | rfl | (simp; done) | (simp [*]; done) | (simp [bne]; done)), H', ⟨by have := HJ4.out; have := HJ17.out; have := HJ31.out; first | omega | exact Nat.le_refl _⟩, ⟨by (with_reducible repeat (first | refine blk_drewN ?_ _ | refine blk_drew ?_ | refine blk_alloc ?_ _)); exact BK143.out⟩, ⟨by (with_reducible repeat (first | refine blk_drewN ?_ _ | refine blk_drew ?_ | refine blk_alloc ?_ _)); exact BK149.out⟩, ⟨by repeat (first | (with_reducible first | exact HB.out | apply below_alloc | apply pw_below_drewN | apply below_drew1 | refine below_set ?_ GE143.out | refine below_set ?_ GE149.out) | exact HB.out)⟩⟩
                      case rest =>
                        clear HC41
                        try clear c1
                        try clear c2
                        try clear p2
                        try clear c3
                        try clear c4
                        try clear c5
                        try clear c10
                        try clear c12
                        try clear c12b0
                        try clear c12b1
                        try clear c14
                        try clear c16
                        try clear c19
                        try clear c20
                        try clear c20b0
                        try clear c20b1
                        try clear c22
                        try clear c25
                        try clear c27
                        try clear c29
                        try clear c31
                        try clear c33
                        try clear c34
                        try clear c36
                        try clear c40
                        try clear c42
                        try clear c43
                        try clear c45
                        try clear hcz11_0
                        try clear hcz11_1
                        try clear hcz11_2
                        try clear hcz11_3
                        try clear hcz15_0
                        try clear hcz15_1
                        try clear hcz15_2
                        try clear hcz15_3
                        try clear hcz15_4
                        try clear hcz17_0
                        try clear hcz17_1
                        try clear hcz17_2
                        try clear hcz17_3
                        try clear hcz17_4
                        try clear hcz23_0
                        try clear hcz23_1
                        try clear hcz23_2
                        try clear hcz23_3
                        try clear hcz23_4
                        try clear hcz28_0
                        try clear hcz28_1
                        try clear hcz28_2
                        try clear hcz28_3
                        try clear hcz28_4
                        try clear hcz30_0
                        try clear hcz30_1
                        try clear hcz30_2
                        try clear hcz30_3
                        try clear hcz30_4
                        try clear hcz35_0
                        try clear hcz35_1
                        try clear hcz35_2
                        try clear hcz35_3
                        try clear hcz37_0
                        try clear hcz37_1
                        try clear hcz37_2
                        try clear hcz37_3
                        try clear hcz38_0
                        try clear hcz38_1
                        try clear hcz38_2
                        try clear hcz38_3
                        try clear hcz38_4
                        try clear hcz44_0
                        try clear hcz44_1
                        try clear hcz44_2
                        try clear hcz44_3
                        try clear hcz46_0
                        try clear hcz46_1
                        try clear hcz46_2
                        try clear hcz46_3
                        try clear hcz47_0
                        try clear hcz47_1
                        try clear hcz47_2
                        try clear hcz47_3
                        try clear hcz47_4
                        try clear hcz7_0
                        try clear hcz7_1
                        try clear hcz7_2
                        try clear hcz7_3
                        try clear hcz7_4
                        try clear hfz11_0
                        try clear hfz11_1
                        try clear hfz11_2
                        try clear hfz11_3
                        try clear hfz15_0
                        try clear hfz15_1
                        try clear hfz15_2
                        try clear hfz15_3
                        try clear hfz15_4
                        try clear hfz17_0
                        try clear hfz17_1
                        try clear hfz17_2
                        try clear hfz17_3
                        try clear hfz17_4
                        try clear hfz23_0
                        try clear hfz23_1
                        try clear hfz23_2
                        try clear hfz23_3
                        try clear hfz23_4
                        try clear hfz28_0
                        try clear hfz28_1
                        try clear hfz28_2
                        try clear hfz28_3
                        try clear hfz28_4
                        try clear hfz30_0
                        try clear hfz30_1
                        try clear hfz30_2
                        try clear hfz30_3
                        try clear hfz30_4
                        try clear hfz35_0
                        try clear hfz35_1
                        try clear hfz35_2
                        try clear hfz35_3
                        try clear hfz37_0
                        try clear hfz37_1
                        try clear hfz37_2
                        try clear hfz37_3
                        try clear hfz38_0
                        try clear hfz38_1
                        try clear hfz38_2
                        try clear hfz38_3
                        try clear hfz38_4
                        try clear hfz44_0
                        try clear hfz44_1
                        try clear hfz44_2
                        try clear hfz44_3
                        try clear hfz46_0
                        try clear hfz46_1
                        try clear hfz46_2
                        try clear hfz46_3
                        try clear hfz47_0
                        try clear hfz47_1
                        try clear hfz47_2
                        try clear hfz47_3
                        try clear hfz47_4
                        try clear hfz7_0
                        try clear hfz7_1
                        try clear hfz7_2
                        try clear hfz7_3
                        try clear hfz7_4
                        try clear p2
                        obtain ⟨kq, x34_40, rfl, HA, HJ40, BK143, BK149, HB⟩ := hcut
                        cases kq with
                        | zero => exact absurd HA.out (by simp [impl_InsOk.j3])
                        | succ kj40 =>
                          have H := HA.out
                          clear HA
                          simp only [impl_InsOk.j3] at H
                          by_cases c48 : x34_40 = true
                          · subst c48
                            have H1 : (impl_InsOk.j4 kj40 true a0_0 a0_1 a0_2 l0_3 l0_4 t145 t146 t147 t148) = some r := by rw [if_pos rfl] at H; exact H
                            clear H
                            have H := H1
                            clear H1
                            have H' := Aside0.mk H
                            clear H
                            go_wp2
                            go_meet
                            case rel => exact ⟨_, (true), (by first | rfl | (simp; done) | (simp [*]; done) | (simp [bne]; done)), H', ⟨by have := HJ4.out; have := HJ17.out; have := HJ31.out; have := HJ40.out; first | omega | exact Nat.le_refl _⟩, ⟨by (with_reducible repeat (first | refine blk_drewN ?_ _ | refine blk_drew ?_ | refine blk_alloc ?_ _)); exact BK143.out⟩, ⟨by (with_reducible repeat (first | refine blk_drewN ?_ _ | refine blk_drew ?_ | refine blk_alloc ?_ _)); exact BK149.out⟩, ⟨by repeat (first | (with_reducible first | exact HB.out | apply below_alloc | apply pw_below_drewN | apply below_drew1 | refine below_set ?_ GE143.out | refine below_set ?_ GE149.out) | exact HB.out)⟩⟩
                          · replace c48 := Bool.eq_false_iff.mpr c48
                            subst c48
                            have H1 : (if t147 = true then (if t148 = true then (impl_InsOk.j4 kj40 false a0_0 a0_1 a0_2 l0_3 l0_4 t145 t146 t147 t148) else (impl_InsOk.j4 kj40 (decide ((l0_3.length : Int) > 0)) a0_0 a0_1 a0_2 l0_3 l0_4 t145 t146 t147 t148)) else (if (l0_4.length : Int) > 0 then (impl_InsOk.j4 kj40 (decide ((l0_4.length : Int) > 0)) a0_0 a0_1 a0_2 l0_3 l0_4 t145 t146 t147 t148) else (if t148 = true then (impl_InsOk.j4 kj40 false a0_0 a0_1 a0_2 l0_3 l0_4 t145 t146 t147 t148) else (impl_InsOk.j4 kj40 (decide ((l0_3.length : Int) > 0)) a0_0 a0_1 a0_2 l0_3 l0_4 t145 t146 t147 t148)))) = some r := by rw [if_neg (show ¬ (false = true) by decide)] at H; exact H
                            clear H
                            have H := H1
                            clear H1
                            by_cases c49 : t147 = true
                            · subst c49
                              have H1 : (if t148 = true then (impl_InsOk.j4 kj40 false a0_0 a0_1 a0_2 l0_3 l0_4 t145 t146 true t148) else (impl_InsOk.j4 kj40 (decide ((l0_3.length : Int) > 0)) a0_0 a0_1 a0_2 l0_3 l0_4 t145 t146 true t148)) = some r := by rw [if_pos rfl] at H; exact H
                              clear H
                              have H := H1
                              clear H1
                              by_cases c50 : t148 = true
                              · subst c50
                                have H1 : (impl_InsOk.j4 kj40 false a0_0 a0_1 a0_2 l0_3 l0_4 t145 t146 true true) = some r := by rw [if_pos rfl] at H; exact H
                                clear H
                                have H := H1
                                clear H1
                                have H' := Aside0.mk H
                                clear H
                                have hnb51 := NB149_143.out
                                have hnc51 := NB143_149.out
                                have hcz52_0 : wc.cell? ⟨gb149, 0, none⟩ = some (.bool t145) := (blk_cell BK149.out 0).trans rfl
                                have hcz52_1 : wc.cell? ⟨gb149, 1, none⟩ = some (.bool t146) := (blk_cell BK149.out 1).trans rfl
                                have hcz52_2 : wc.cell? ⟨gb149, 2, none⟩ = some (.bool true) := (blk_cell BK149.out 2).trans rfl
                                have hcz52_3 : wc.cell? ⟨gb149, 3, none⟩ = some (.bool true) := (blk_cell BK149.out 3).trans rfl
                                have hfz52_0 := blk_frozen BK149.out 0
                                have hfz52_1 := blk_frozen BK149.out 1
                                have hfz52_2 := blk_frozen BK149.out 2
                                have hfz52_3 := blk_frozen BK149.out 3
                                go_wp2
                                go_meet
                                case rel => exact ⟨_, (false), (by first | rfl | (simp; done) | (simp [*]; done) | (simp [bne]; done)), H', ⟨by have := HJ4.out; have := HJ17.out; have := HJ31.out; have := HJ40.out; first | omega | exact Nat.le_refl _⟩, ⟨by (with_reducible repeat (first | refine blk_drewN ?_ _ | refine blk_drew ?_ | refine blk_alloc ?_ _)); exact BK143.out⟩, ⟨by (with_reducible repeat (first | refine blk_drewN ?_ _ | refine blk_drew ?_ | refine blk_alloc ?_ _)); exact BK149.out⟩, ⟨by repeat (first | (with_reducible first | exact HB.out | apply below_alloc | apply pw_below_drewN | apply below_drew1 | refine below_set ?_ GE143.out | refine below_set ?_ GE149.out) | exact HB.out)⟩⟩
                              · replace c50 := Bool.eq_false_iff.mpr c50
                                subst c50
                                have H1 : (impl_InsOk.j4 kj40 (decide ((l0_3.length : Int) > 0)) a0_0 a0_1 a0_2 l0_3 l0_4 t145 t146 true false) = some r := by rw [if_neg (show ¬ (false = true) by decide)] at H; exact H
                                clear H
                                have H := H1
                                clear H1
                                have H' := Aside0.mk H
                                clear H
                                have hnb53 := NB149_143.out
                                have hnc53 := NB143_149.out
                                have hcz54_0 : wc.cell? ⟨gb149, 0, none⟩ = some (.bool t145) := (blk_cell BK149.out 0).trans rfl
                                have hcz54_1 : wc.cell? ⟨gb149, 1, none⟩ = some (.bool t146) := (blk_cell BK149.out 1).trans rfl
                                have hcz54_2 : wc.cell? ⟨gb149, 2, none⟩ = some (.bool true) := (blk_cell BK149.out 2).trans rfl
                                have hcz54_3 : wc.cell? ⟨gb149, 3, none⟩ = some (.bool false) := (blk_cell BK149.out 3).trans rfl
                                have hfz54_0 := blk_frozen BK149.out 0
                                have hfz54_1 := blk_frozen BK149.out 1
                                have hfz54_2 := blk_frozen BK149.out 2
                                have hfz54_3 := blk_frozen BK149.out 3
                                have hcz55_0 : wc.cell? ⟨gb143, 0, none⟩ = some (.int .i64 a0_0) := (blk_cell BK143.out 0).trans rfl
                                have hcz55_1 : wc.cell? ⟨gb143, 1, none⟩ = some (.int .i64 a0_1) := (blk_cell BK143.out 1).trans rfl
                                have hcz55_2 : wc.cell? ⟨gb143, 2, none⟩ = some (.int .i64 a0_2) := (blk_cell BK143.out 2).trans rfl
                                have hcz55_3 : wc.cell? ⟨gb143, 3, none⟩ = some (.slice A0_3 l0_3.length c0_3) := (blk_cell BK143.out 3).trans rfl
                                have hcz55_4 : wc.cell? ⟨gb143, 4, none⟩ = some (.slice A0_4 l0_4.length c0_4) := (blk_cell BK143.out 4).trans rfl
                                have hfz55_0 := blk_frozen BK143.out 0
                                have hfz55_1 := blk_frozen BK143.out 1
                                have hfz55_2 := blk_frozen BK143.out 2
                                have hfz55_3 := blk_frozen BK143.out 3
                                have hfz55_4 := blk_frozen BK143.out 4
                                go_wp2
                                go_meet
                                case rel => exact ⟨_, (decide ((l0_3.length : Int) > 0)), (by first | rfl | (simp; done) | (simp [*]; done) | (simp [bne]; done)), H', ⟨by have := HJ4.out; have := HJ17.out; have := HJ31.out; have := HJ40.out; first | omega | exact Nat.le_refl _⟩, ⟨by (with_reducible repeat (first | refine blk_drewN ?_ _ | refine blk_drew ?_ | refine blk_alloc ?_ _)); exact BK143.out⟩, ⟨by (with_reducible repeat (first | refine blk_drewN ?_ _ | refine blk_drew ?_ | refine blk_alloc ?_ _)); exact BK149.out⟩, ⟨by repeat (first | (with_reducible first | exact HB.out | apply below_alloc | apply pw_below_drewN | apply below_drew1 | refine below_set ?_ GE143.out | refine below_set ?_ GE149.out) | exact HB.out)⟩⟩
                            · replace c49 := Bool.eq_false_iff.mpr c49
                              subst c49
                              have H1 : (if (l0_4.length : Int) > 0 then (impl_InsOk.j4 kj40 (decide ((l0_4.length : Int) > 0)) a0_0 a0_1 a0_2 l0_3 l0_4 t145 t146 false t148) else (if t148 = true then (impl_InsOk.j4 kj40 false a0_0 a0_1 a0_2 l0_3 l0_4 t145 t146 false t148) else (impl_InsOk.j4 kj40 (decide ((l0_3.length : Int) > 0)) a0_0 a0_1 a0_2 l0_3 l0_4 t145 t146 false t148))) = some r := by rw [if_neg (show ¬ (false = true) by decide)] at H; exact H
                              clear H
                              have H := H1
                              clear H1
                              by_cases c56 : (l0_4.length : Int) > 0
                              · rw [if_pos c56] at H
                                have c56b0 : decide (0 < (l0_4.length : Int)) = true := decide_eq_true c56
                                have c56b1 : decide (0 < l0_4.length) = true := decide_eq_true (by omega)
                                clear c56
                                have H' := Aside0.mk H
                                clear H
                                have hnb57 := NB149_143.out
                                have hnc57 := NB143_149.out
                                have hcz58_0 : wc.cell? ⟨gb149, 0, none⟩ = some (.bool t145) := (blk_cell BK149.out 0).trans rfl
                                have hcz58_1 : wc.cell? ⟨gb149, 1, none⟩ = some (.bool t146) := (blk_cell BK149.out 1).trans rfl
                                have hcz58_2 : wc.cell? ⟨gb149, 2, none⟩ = some (.bool false) := (blk_cell BK149.out 2).trans rfl
                                have hcz58_3 : wc.cell? ⟨gb149, 3, none⟩ = some (.bool t148) := (blk_cell BK149.out 3).trans rfl
                                have hfz58_0 := blk_frozen BK149.out 0
                                have hfz58_1 := blk_frozen BK149.out 1
                                have hfz58_2 := blk_frozen BK149.out 2
                                have hfz58_3 := blk_frozen BK149.out 3
                                have hcz59_0 : wc.cell? ⟨gb143, 0, none⟩ = some (.int .i64 a0_0) := (blk_cell BK143.out 0).trans rfl
                                have hcz59_1 : wc.cell? ⟨gb143, 1, none⟩ = some (.int .i64 a0_1) := (blk_cell BK143.out 1).trans rfl
                                have hcz59_2 : wc.cell? ⟨gb143, 2, none⟩ = some (.int .i64 a0_2) := (blk_cell BK143.out 2).trans rfl
                                have hcz59_3 : wc.cell? ⟨gb143, 3, none⟩ = some (.slice A0_3 l0_3.length c0_3) := (blk_cell BK143.out 3).trans rfl
                                have hcz59_4 : wc.cell? ⟨gb143, 4, none⟩ = some (.slice A0_4 l0_4.length c0_4) := (blk_cell BK143.out 4).trans rfl
                                have hfz59_0 := blk_frozen BK143.out 0
                                have hfz59_1 := blk_frozen BK143.out 1
                                have hfz59_2 := blk_frozen BK143.out 2
                                have hfz59_3 := blk_frozen BK143.out 3
                                have hfz59_4 := blk_frozen BK143.out 4
                                go_wp2
                                go_meet
                                case rel => exact ⟨_, (decide ((l0_4.length : Int) > 0)), (by first | rfl | (simp; done) | (simp [*]; done) | (simp [bne]; done)), H', ⟨by have := HJ4.out; have := HJ17.out; have := HJ31.out; have := HJ40.out; first | omega | exact Nat.le_refl _⟩, ⟨by (with_reducible repeat (first | refine blk_drewN ?_ _ | refine blk_drew ?_ | refine blk_alloc ?_ _)); exact BK143.out⟩, ⟨by (with_reducible repeat (first | refine blk_drewN ?_ _ | refine blk_drew ?_ | refine blk_alloc ?_ _)); exact BK149.out⟩, ⟨by repeat (first | (with_reducible first | exact HB.out | apply below_alloc | apply pw_below_drewN | apply below_drew1 | refine below_set ?_ GE143.out | refine below_set ?_ GE149.out) | exact HB.out)⟩⟩
                              · rw [if_neg c56] at H
                                have c56b0 : decide (0 < (l0_4.length : Int)) = false := decide_eq_false c56
                                have c56b1 : decide (0 < l0_4.length) = false := decide_eq_false (by omega)
                                clear c56
                                by_cases c60 : t148 = true
                                · subst c60
                                  have H1 : (impl_InsOk.j4 kj40 false a0_0 a0_1 a0_2 l0_3 l0_4 t145 t146 false true) = some r := by rw [if_pos rfl] at H; exact H
                                  clear H
                                  have H := H1
                                  clear H1
                                  have H' := Aside0.mk H
                                  clear H
                                  have hnb61 := NB149_143.out
                                  have hnc61 := NB143_149.out
                                  have hcz62_0 : wc.cell? ⟨gb149, 0, none⟩ = some (.bool t145) := (blk_cell BK149.out 0).trans rfl
                                  have hcz62_1 : wc.cell? ⟨gb149, 1, none⟩ = some (.bool t146) := (blk_cell BK149.out 1).trans rfl
                                  have hcz62_2 : wc.cell? ⟨gb149, 2, none⟩ = some (.bool false) := (blk_cell BK149.out 2).trans rfl
                                  have hcz62_3 : wc.cell? ⟨gb149, 3, none⟩ = some (.bool true) := (blk_cell BK149.out 3).trans rfl
                                  have hfz62_0 := blk_frozen BK149.out 0
                                  have hfz62_1 := blk_frozen BK149.out 1
                                  have hfz62_2 := blk_frozen BK149.out 2
                                  have hfz62_3 := blk_frozen BK149.out 3
                                  have hcz63_0 : wc.cell? ⟨gb143, 0, none⟩ = some (.int .i64 a0_0) := (blk_cell BK143.out 0).trans rfl
                                  have hcz63_1 : wc.cell? ⟨gb143, 1, none⟩ = some (.int .i64 a0_1) := (blk_cell BK143.out 1).trans rfl
                                  have hcz63_2 : wc.cell? ⟨gb143, 2, none⟩ = some (.int .i64 a0_2) := (blk_cell BK143.out 2).trans rfl
                                  have hcz63_3 : wc.cell? ⟨gb143, 3, none⟩ = some (.slice A0_3 l0_3.length c0_3) := (blk_cell BK143.out 3).trans rfl
                                  have hcz63_4 : wc.cell? ⟨gb143, 4, none⟩ = some (.slice A0_4 l0_4.length c0_4) := (blk_cell BK143.out 4).trans rfl
                                  have hfz63_0 := blk_frozen BK143.out 0
                                  have hfz63_1 := blk_frozen BK143.out 1
                                  have hfz63_2 := blk_frozen BK143.out 2
                                  have hfz63_3 := blk_frozen BK143.out 3
                                  have hfz63_4 := blk_frozen BK143.out 4
                                  go_wp2
                                  go_meet
                                  case rel => exact ⟨_, (false), (by first | rfl | (simp; done) | (simp [*]; done) | (simp [bne]; done)), H', ⟨by have := HJ4.out; have := HJ17.out; have := HJ31.out; have := HJ40.out; first | omega | exact Nat.le_refl _⟩, ⟨by (with_reducible repeat (first | refine blk_drewN ?_ _ | refine blk_drew ?_ | refine blk_alloc ?_ _)); exact BK143.out⟩, ⟨by (with_reducible repeat (first | refine blk_drewN ?_ _ | refine blk_drew ?_ | refine blk_alloc ?_ _)); exact BK149.out⟩, ⟨by repeat (first | (with_reducible first | exact HB.out | apply below_alloc | apply pw_below_drewN | apply below_drew1 | refine below_set ?_ GE143.out | refine below_set ?_ GE149.out) | exact HB.out)⟩⟩
                                · replace c60 := Bool.eq_false_iff.mpr c60
                                  subst c60
                                  have H1 : (impl_InsOk.j4 kj40 (decide ((l0_3.length : Int) > 0)) a0_0 a0_1 a0_2 l0_3 l0_4 t145 t146 false false) = some r := by rw [if_neg (show ¬ (false = true) by decide)] at H; exact H
                                  clear H
                                  have H := H1
                                  clear H1
                                  have H' := Aside0.mk H
                                  clear H
                                  have hnb64 := NB149_143.out
                                  have hnc64 := NB143_149.out
                                  have hcz65_0 : wc.cell? ⟨gb149, 0, none⟩ = some (.bool t145) := (blk_cell BK149.out 0).trans rfl
                                  have hcz65_1 : wc.cell? ⟨gb149, 1, none⟩ = some (.bool t146) := (blk_cell BK149.out 1).trans rfl
                                  have hcz65_2 : wc.cell? ⟨gb149, 2, none⟩ = some (.bool false) := (blk_cell BK149.out 2).trans rfl
                                  have hcz65_3 : wc.cell? ⟨gb149, 3, none⟩ = some (.bool false) := (blk_cell BK149.out 3).trans rfl
                                  have hfz65_0 := blk_frozen BK149.out 0
                                  have hfz65_1 := blk_frozen BK149.out 1
                                  have hfz65_2 := blk_frozen BK149.out 2
                                  have hfz65_3 := blk_frozen BK149.out 3
                                  have hcz66_0 : wc.cell? ⟨gb143, 0, none⟩ = some (.int .i64 a0_0) := (blk_cell BK143.out 0).trans rfl
                                  have hcz66_1 : wc.cell? ⟨gb143, 1, none⟩ = some (.int .i64 a0_1) := (blk_cell BK143.out 1).trans rfl
                                  have hcz66_2 : wc.cell? ⟨gb143, 2, none⟩ = some (.int .i64 a0_2) := (blk_cell BK143.out 2).trans rfl
                                  have hcz66_3 : wc.cell? ⟨gb143, 3, none⟩ = some (.slice A0_3 l0_3.length c0_3) := (blk_cell BK143.out 3).trans rfl
                                  have hcz66_4 : wc.cell? ⟨gb143, 4, none⟩ = some (.slice A0_4 l0_4.length c0_4) := (blk_cell BK143.out 4).trans rfl
                                  have hfz66_0 := blk_frozen BK143.out 0
                                  have hfz66_1 := blk_frozen BK143.out 1
                                  have hfz66_2 := blk_frozen BK143.out 2
                                  have hfz66_3 := blk_frozen BK143.out 3
                                  have hfz66_4 := blk_frozen BK143.out 4
                                  go_wp2
                                  go_meet
                                  case rel => exact ⟨_, (decide ((l0_3.length : Int) > 0)), (by first | rfl | (simp; done) | (simp [*]; done) | (simp [bne]; done)), H', ⟨by have := HJ4.out; have := HJ17.out; have := HJ31.out; have := HJ40.out; first | omega | exact Nat.le_refl _⟩, ⟨by (with_reducible repeat (first | refine blk_drewN ?_ _ | refine blk_drew ?_ | refine blk_alloc ?_ _)); exact BK143.out⟩, ⟨by (with_reducible repeat (first | refine blk_drewN ?_ _ | refine blk_drew ?_ | refine blk_alloc ?_ _)); exact BK149.out⟩, ⟨by repeat (first | (with_reducible first | exact HB.out | apply below_alloc | apply pw_below_drewN | apply below_drew1 | refine below_set ?_ GE143.out | refine below_set ?_ GE149.out) | exact HB.out)⟩⟩
                  case rest =>
                    clear HC39
                    try clear c1
                    try clear c2
                    try clear p2
                    try clear c3
                    try clear c4
                    try clear c5
                    try clear c6
                    try clear c10
                    try clear c12
                    try clear c12b0
                    try clear c12b1
                    try clear c14
                    try clear c16
                    try clear c19
                    try clear c20
                    try clear c20b0
                    try clear c20b1
                    try clear c22
                    try clear c25
                    try clear c27
                    try clear c29
                    try clear c31
                    try clear c33
                    try clear c34
                    try clear c36
                    try clear c40
                    try clear c42
                    try clear c43
                    try clear c45
                    try clear c48
                    try clear c49
                    try clear c50
                    try clear c51
                    try clear c53
                    try clear c56
                    try clear c56b0
                    try clear c56b1
                    try clear c57
                    try clear c60
                    try clear c61
                    try clear c64
                    try clear hcz11_0
                    try clear hcz11_1
                    try clear hcz11_2
                    try clear hcz11_3
                    try clear hcz15_0
                    try clear hcz15_1
                    try clear hcz15_2
                    try clear hcz15_3
                    try clear hcz15_4
                    try clear hcz17_0
                    try clear hcz17_1
                    try clear hcz17_2
                    try clear hcz17_3
                    try clear hcz17_4
                    try clear hcz23_0
                    try clear hcz23_1
                    try clear hcz23_2
                    try clear hcz23_3
                    try clear hcz23_4
                    try clear hcz28_0
                    try clear hcz28_1
                    try clear hcz28_2
                    try clear hcz28_3
                    try clear hcz28_4
                    try clear hcz30_0
                    try clear hcz30_1
                    try clear hcz30_2
                    try clear hcz30_3
                    try clear hcz30_4
                    try clear hcz35_0
                    try clear hcz35_1
                    try clear hcz35_2
                    try clear hcz35_3
                    try clear hcz37_0
                    try clear hcz37_1
                    try clear hcz37_2
                    try clear hcz37_3
                    try clear hcz38_0
                    try clear hcz38_1
                    try clear hcz38_2
                    try clear hcz38_3
                    try clear hcz38_4
                    try clear hcz44_0
                    try clear hcz44_1
                    try clear hcz44_2
                    try clear hcz44_3
                    try clear hcz46_0
                    try clear hcz46_1
                    try clear hcz46_2
                    try clear hcz46_3
                    try clear hcz47_0
                    try clear hcz47_1
                    try clear hcz47_2
                    try clear hcz47_3
                    try clear hcz47_4
                    try clear hcz52_0
                    try clear hcz52_1
                    try clear hcz52_2
                    try clear hcz52_3
                    try clear hcz54_0
                    try clear hcz54_1
                    try clear hcz54_2
                    try clear hcz54_3
                    try clear hcz55_0
                    try clear hcz55_1
                    try clear hcz55_2
                    try clear hcz55_3
                    try clear hcz55_4
                    try clear hcz58_0
                    try clear hcz58_1
                    try clear hcz58_2
                    try clear hcz58_3
                    try clear hcz59_0
                    try clear hcz59_1
                    try clear hcz59_2
                    try clear hcz59_3
                    try clear hcz59_4
                    try clear hcz62_0
                    try clear hcz62_1
                    try clear hcz62_2
                    try clear hcz62_3
                    try clear hcz63_0
                    try clear hcz63_1
                    try clear hcz63_2
                    try clear hcz63_3
                    try clear hcz63_4
                    try clear hcz65_0
                    try clear hcz65_1
                    try clear hcz65_2
                    try clear hcz65_3
                    try clear hcz66_0
                    try clear hcz66_1
                    try clear hcz66_2
                    try clear hcz66_3
                    try clear hcz66_4
                    try clear hcz7_0
                    try clear hcz7_1
                    try clear hcz7_2
                    try clear hcz7_3
                    try clear hcz7_4
                    try clear hfz11_0
                    try clear hfz11_1
                    try clear hfz11_2
                    try clear hfz11_3
                    try clear hfz15_0
                    try clear hfz15_1
                    try clear hfz15_2
                    try clear hfz15_3
                    try clear hfz15_4
                    try clear hfz17_0
                    try clear hfz17_1
                    try clear hfz17_2
                    try clear hfz17_3
                    try clear hfz17_4
                    try clear hfz23_0
                    try clear hfz23_1
                    try clear hfz23_2
                    try clear hfz23_3
                    try clear hfz23_4
                    try clear hfz28_0
                    try clear hfz28_1
                    try clear hfz28_2
                    try clear hfz28_3
                    try clear hfz28_4
                    try clear hfz30_0
                    try clear hfz30_1
                    try clear hfz30_2
                    try clear hfz30_3
                    try clear hfz30_4
                    try clear hfz35_0
                    try clear hfz35_1
                    try clear hfz35_2
                    try clear hfz35_3
                    try clear hfz37_0
                    try clear hfz37_1
                    try clear hfz37_2
                    try clear hfz37_3
                    try clear hfz38_0
                    try clear hfz38_1
                    try clear hfz38_2
                    try clear hfz38_3
                    try clear hfz38_4
                    try clear hfz44_0
                    try clear hfz44_1
                    try clear hfz44_2
                    try clear hfz44_3
                    try clear hfz46_0
                    try clear hfz46_1
                    try clear hfz46_2
                    try clear hfz46_3
                    try clear hfz47_0
                    try clear hfz47_1
                    try clear hfz47_2
                    try clear hfz47_3
                    try clear hfz47_4
                    try clear hfz52_0
                    try clear hfz52_1
                    try clear hfz52_2
                    try clear hfz52_3
                    try clear hfz54_0
                    try clear hfz54_1
                    try clear hfz54_2
                    try clear hfz54_3
                    try clear hfz55_0
                    try clear hfz55_1
                    try clear hfz55_2
                    try clear hfz55_3
                    try clear hfz55_4
                    try clear hfz58_0
                    try clear hfz58_1
                    try clear hfz58_2
                    try clear hfz58_3
                    try clear hfz59_0
                    try clear hfz59_1
                    try clear hfz59_2
                    try clear hfz59_3
                    try clear hfz59_4
                    try clear hfz62_0
                    try clear hfz62_1
                    try clear hfz62_2
                    try clear hfz62_3
                    try clear hfz63_0
                    try clear hfz63_1
                    try clear hfz63_2
                    try clear hfz63_3
                    try clear hfz63_4
                    try clear hfz65_0
                    try clear hfz65_1
                    try clear hfz65_2
                    try clear hfz65_3
                    try clear hfz66_0
                    try clear hfz66_1
                    try clear hfz66_2
                    try clear hfz66_3
                    try clear hfz66_4
                    try clear hfz7_0
                    try clear hfz7_1
                    try clear hfz7_2
                    try clear hfz7_3
                    try clear hfz7_4
                    try clear p2
                    obtain ⟨kq, x34_38, rfl, HA, HJ38, BK143, BK149, HB⟩ := hcut
                    cases kq with
                    | zero => exact absurd HA.out (by simp [impl_InsOk.j4])
                    | succ kj38 =>
                      have H := HA.out
                      clear HA
                      simp only [impl_InsOk.j4] at H
                      by_cases c67 : x34_38 = true
                      · subst c67
                        have H1 : (some false) = some r := by rw [if_pos rfl] at H; exact H
                        clear H
                        have H := H1
                        clear H1
                        obtain rfl := Option.some.inj H
                        go_wp2
                        go_ret
                        exact ⟨by first | rfl | (simp [errW_none, errW_some] <;> rfl) | (simp [*, errW_none, errW_some] <;> rfl), by repeat (first | (with_reducible first | exact HB.out | apply below_alloc | apply pw_below_drewN | apply below_drew1 | refine below_set ?_ GE143.out | refine below_set ?_ GE149.out) | exact HB.out)⟩
                      · replace c67 := Bool.eq_false_iff.mpr c67
                        subst c67
                        have H1 : (if t147 = true then ((impl_within.f (l0_4.length : Int) 1 5).bind fun t154 => (impl_InsOk.j5 kj38 (!t154) a0_0 a0_1 a0_2 l0_3 l0_4 t145 t146 t147 t148)) else (impl_InsOk.j5 kj38 false a0_0 a0_1 a0_2 l0_3 l0_4 t145 t146 t147 t148)) = some r := by rw [if_neg (show ¬ (false = true) by decide)] at H; exact H
                        clear H
                        have H := H1
                        clear H1
                        have HC68 := Aside0.mk H
                        clear H
                        go_upto_region 13 with (fail)
                        go_cut [69] (fun v69 wc => ∃ (kq : Nat) (x69_67 : Bool), v69 = .bool x69_67 ∧ Aside0 (impl_InsOk.j5 kq x69_67 a0_0 a0_1 a0_2 l0_3 l0_4 t145 t146 t147 t148 = some r) ∧ Aside0 (kq ≤ kj38) ∧ Aside0 (wc.heap[gb143]? = some (.cells #[.int .i64 a0_0, .int .i64 a0_1, .int .i64 a0_2, (.slice A0_3 l0_3.length c0_3), (.slice A0_4 l0_4.length c0_4)] 28 (0, 0))) ∧ Aside0 (wc.heap[gb149]? = some (.cells #[.bool t145, .bool t146, .bool t147, .bool t148] 99 (0, 0))) ∧ Aside0 (Below w.heap.size w wc))
                        case first =>
                          have H := HC68.out
                          clear HC68
                          by_cases c69 : t147 = true
                          · subst c69
                            have H1 : ((impl_within.f (l0_4.length : Int) 1 5).bind fun t154 => (impl_InsOk.j5 kj38 (!t154) a0_0 a0_1 a0_2 l0_3 l0_4 t145 t146 true t148)) = some r := by rw [if_pos rfl] at H; exact H
                            clear H
                            have H := H1
                            clear H1
                            replace H := Option.bind_eq_some_iff.mp H
                            obtain ⟨t154, A700, H⟩ := H
                            replace H : (impl_InsOk.j5 kj38 (!t154) a0_0 a0_1 a0_2 l0_3 l0_4 t145 t146 true t148) = some r := H
                            have A70 := Aside0.mk A700
                            clear A700
                            have H' := Aside0.mk H
                            clear H
                            have hnb71 := NB149_143.out
                            have hnc71 := NB143_149.out
                            have hcz72_0 : wc.cell? ⟨gb149, 0, none⟩ = some (.bool t145) := (blk_cell BK149.out 0).trans rfl
                            have hcz72_1 : wc.cell? ⟨gb149, 1, none⟩ = some (.bool t146) := (blk_cell BK149.out 1).trans rfl
                            have hcz72_2 : wc.cell? ⟨gb149, 2, none⟩ = some (.bool true) := (blk_cell BK149.out 2).trans rfl
                            have hcz72_3 : wc.cell? ⟨gb149, 3, none⟩ = some (.bool t148) := (blk_cell BK149.out 3).trans rfl
                            have hfz72_0 := blk_frozen BK149.out 0
                            have hfz72_1 := blk_frozen BK149.out 1
                            have hfz72_2 := blk_frozen BK149.out 2
                            have hfz72_3 := blk_frozen BK149.out 3
                            have hcz73_0 : wc.cell? ⟨gb143, 0, none⟩ = some (.int .i64 a0_0) := (blk_cell BK143.out 0).trans rfl
                            have hcz73_1 : wc.cell? ⟨gb143, 1, none⟩ = some (.int .i64 a0_1) := (blk_cell BK143.out 1).trans rfl
                            have hcz73_2 : wc.cell? ⟨gb143, 2, none⟩ = some (.int .i64 a0_2) := (blk_cell BK143.out 2).trans rfl
                            have hcz73_3 : wc.cell? ⟨gb143, 3, none⟩ = some (.slice A0_3 l0_3.length c0_3) := (blk_cell BK143.out 3).trans rfl
                            have hcz73_4 : wc.cell? ⟨gb143, 4, none⟩ = some (.slice A0_4 l0_4.length c0_4) := (blk_cell BK143.out 4).trans rfl
                            have hfz73_0 := blk_frozen BK143.out 0
                            have hfz73_1 := blk_frozen BK143.out 1
                            have hfz73_2 := blk_frozen BK143.out 2
                            have hfz73_3 := blk_frozen BK143.out 3
                            have hfz73_4 := blk_frozen BK143.out 4
                            go_wp2_with (first | (go_at_call 56; (with_reducible refine (impl_within.calls (l0_4.length : Int) 1 5 t154 _ A70.out).mono ?_); rintro e w' ⟨rfl, ⟨nd, rfl⟩⟩))
                            go_meet
                            case rel => exact ⟨_, (!t154), (by first | rfl | (simp; done) | (simp [*]; done) | (simp [bne]; done)), H', ⟨by have := HJ4.out; have := HJ17.out; have := HJ31.out; have := HJ38.out; first | omega | exact Nat.le_refl _⟩, ⟨by (with_reducible repeat (first | refine blk_drewN ?_ _ | refine blk_drew ?_ | refine blk_alloc ?_ _)); exact BK143.out⟩, ⟨by (with_reducible repeat (first | refine blk_drewN ?_ _ | refine blk_drew ?_ | refine blk_alloc ?_ _)); exact BK149.out⟩, ⟨by repeat (first | (with_reducible first | exact HB.out | apply below_alloc | apply pw_below_drewN | apply below_drew1 | refine below_set ?_ GE143.out | refine below_set ?_ GE149.out) | exact HB.out)⟩⟩
                          · replace c69 := Bool.eq_false_iff.mpr c69
                            subst c69
                            have H1 : (impl_InsOk.j5 kj38 false a0_0 a0_1 a0_2 l0_3 l0_4 t145 t146 false t148) = some r := by rw [if_neg (show ¬ (false = true) by decide)] at H; exact H
                            clear H
                            have H := H1
                            clear H1
                            have H' := Aside0.mk H
                            clear H
                            have hnb74 := NB149_143.out
                            have hnc74 := NB143_149.out
                            have hcz75_0 : wc.cell? ⟨gb149, 0, none⟩ = some (.bool t145) := (blk_cell BK149.out 0).trans rfl
                            have hcz75_1 : wc.cell? ⟨gb149, 1, none⟩ = some (.bool t146) := (blk_cell BK149.out 1).trans rfl
                            have hcz75_2 : wc.cell? ⟨gb149, 2, none⟩ = some (.bool false) := (blk_cell BK149.out 2).trans rfl
                            have hcz75_3 : wc.cell? ⟨gb149, 3, none⟩ = some (.bool t148) := (blk_cell BK149.out 3).trans rfl
                            have hfz75_0 := blk_frozen BK149.out 0
                            have hfz75_1 := blk_frozen BK149.out 1
                            have hfz75_2 := blk_frozen BK149.out 2
                            have hfz75_3 := blk_frozen BK149.out 3
                            go_wp2
                            go_meet
                            case rel => exact ⟨_, (false), (by first | rfl | (simp; done) | (simp [*]; done) | (simp [bne]; done)), H', ⟨by have := HJ4.out; have := HJ17.out; have := HJ31.out; have := HJ38.out; first | omega | exact Nat.le_refl _⟩, ⟨by (with_reducible repeat (first | refine blk_drewN ?_ _ | refine blk_drew ?_ | refine blk_alloc ?_ _)); exact BK143.out⟩, ⟨by (with_reducible repeat (first | refine blk_drewN ?_ _ | refine blk_drew ?_ | refine blk_alloc ?_ _)); exact BK149.out⟩, ⟨by repeat (first | (with_reducible first | exact HB.out | apply below_alloc | apply pw_below_drewN | apply below_drew1 | refine below_set ?_ GE143.out | refine below_set ?_ GE149.out) | exact HB.out)⟩⟩
                        case rest =>
                          clear HC68
                          try clear c1
                          try clear c2
                          try clear p2
                          try clear c3
                          try clear c4
                          try clear c5
                          try clear c6
                          try clear c7
                          try clear c10
                          try clear c12
                          try clear c12b0
                          try clear c12b1
                          try clear c14
                          try clear c16
                          try clear c19
                          try clear c20
                          try clear c20b0
                          try clear c20b1
                          try clear c22
                          try clear c25
                          try clear c27
                          try clear c29
                          try clear c31
                          try clear c33
                          try clear c34
                          try clear c36
                          try clear c40
                          try clear c42
                          try clear c43
                          try clear c45
                          try clear c48
                          try clear c49
                          try clear c50
                          try clear c51
                          try clear c53
                          try clear c56
                          try clear c56b0
                          try clear c56b1
                          try clear c57
                          try clear c60
                          try clear c61
                          try clear c64
                          try clear c67
                          try clear c69
                          try clear c71
                          try clear c74
                          try clear hcz11_0
                          try clear hcz11_1
                          try clear hcz11_2
                          try clear hcz11_3
                          try clear hcz15_0
                          try clear hcz15_1
                          try clear hcz15_2
                          try clear hcz15_3
                          try clear hcz15_4
                          try clear hcz17_0
                          try clear hcz17_1
                          try clear hcz17_2
                          try clear hcz17_3
                          try clear hcz17_4
                          try clear hcz23_0
                          try clear hcz23_1
                          try clear hcz23_2
                          try clear hcz23_3
                          try clear hcz23_4
                          try clear hcz28_0
                          try clear hcz28_1
                          try clear hcz28_2
                          try clear hcz28_3
                          try clear hcz28_4
                          try clear hcz30_0
                          try clear hcz30_1
                          try clear hcz30_2
                          try clear hcz30_3
                          try clear hcz30_4
                          try clear hcz35_0
                          try clear hcz35_1
                          try clear hcz35_2
                          try clear hcz35_3
                          try clear hcz37_0
                          try clear hcz37_1
                          try clear hcz37_2
                          try clear hcz37_3
                          try clear hcz38_0
                          try clear hcz38_1
                          try clear hcz38_2
                          try clear hcz38_3
                          try clear hcz38_4
                          try clear hcz44_0
                          try clear hcz44_1
                          try clear hcz44_2
                          try clear hcz44_3
                          try clear hcz46_0
                          try clear hcz46_1
                          try clear hcz46_2
                          try clear hcz46_3
                          try clear hcz47_0
                          try clear hcz47_1
                          try clear hcz47_2
                          try clear hcz47_3
                          try clear hcz47_4
                          try clear hcz52_0
                          try clear hcz52_1
                          try clear hcz52_2
                          try clear hcz52_3
                          try clear hcz54_0
                          try clear hcz54_1
                          try clear hcz54_2
                          try clear hcz54_3
                          try clear hcz55_0
                          try clear hcz55_1
                          try clear hcz55_2
                          try clear hcz55_3
                          try clear hcz55_4
                          try clear hcz58_0
                          try clear hcz58_1
                          try clear hcz58_2
                          try clear hcz58_3
                          try clear hcz59_0
                          try clear hcz59_1
                          try clear hcz59_2
                          try clear hcz59_3
                          try clear hcz59_4
                          try clear hcz62_0
                          try clear hcz62_1
                          try clear hcz62_2
                          try clear hcz62_3
                          try clear hcz63_0
                          try clear hcz63_1
                          try clear hcz63_2
                          try clear hcz63_3
                          try clear hcz63_4
                          try clear hcz65_0
                          try clear hcz65_1
                          try clear hcz65_2
                          try clear hcz65_3
                          try clear hcz66_0
                          try clear hcz66_1
                          try clear hcz66_2
                          try clear hcz66_3
                          try clear hcz66_4
                          try clear hcz72_0
                          try clear hcz72_1
                          try clear hcz72_2
                          try clear hcz72_3
                          try clear hcz73_0
                          try clear hcz73_1
                          try clear hcz73_2
                          try clear hcz73_3
                          try clear hcz73_4
                          try clear hcz75_0
                          try clear hcz75_1
                          try clear hcz75_2
                          try clear hcz75_3
                          try clear hcz7_0
                          try clear hcz7_1
                          try clear hcz7_2
                          try clear hcz7_3
                          try clear hcz7_4
                          try clear hfz11_0
                          try clear hfz11_1
                          try clear hfz11_2
                          try clear hfz11_3
                          try clear hfz15_0
                          try clear hfz15_1
                          try clear hfz15_2
                          try clear hfz15_3
                          try clear hfz15_4
                          try clear hfz17_0
                          try clear hfz17_1
                          try clear hfz17_2
                          try clear hfz17_3
                          try clear hfz17_4
                          try clear hfz23_0
                          try clear hfz23_1
                          try clear hfz23_2
                          try clear hfz23_3
                          try clear hfz23_4
                          try clear hfz28_0
                          try clear hfz28_1
                          try clear hfz28_2
                          try clear hfz28_3
                          try clear hfz28_4
                          try clear hfz30_0
                          try clear hfz30_1
                          try clear hfz30_2
                          try clear hfz30_3
                          try clear hfz30_4
                          try clear hfz35_0
                          try clear hfz35_1
                          try clear hfz35_2
                          try clear hfz35_3
                          try clear hfz37_0
                          try clear hfz37_1
                          try clear hfz37_2
                          try clear hfz37_3
                          try clear hfz38_0
                          try clear hfz38_1
                          try clear hfz38_2
                          try clear hfz38_3
                          try clear hfz38_4
                          try clear hfz44_0
                          try clear hfz44_1
                          try clear hfz44_2
                          try clear hfz44_3
                          try clear hfz46_0
                          try clear hfz46_1
                          try clear hfz46_2
                          try clear hfz46_3
                          try clear hfz47_0
                          try clear hfz47_1
                          try clear hfz47_2
                          try clear hfz47_3
                          try clear hfz47_4
                          try clear hfz52_0
                          try clear hfz52_1
                          try clear hfz52_2
                          try clear hfz52_3
                          try clear hfz54_0
                          try clear hfz54_1
                          try clear hfz54_2
                          try clear hfz54_3
                          try clear hfz55_0
                          try clear hfz55_1
                          try clear hfz55_2
                          try clear hfz55_3
                          try clear hfz55_4
                          try clear hfz58_0
                          try clear hfz58_1
                          try clear hfz58_2
                          try clear hfz58_3
                          try clear hfz59_0
                          try clear hfz59_1
                          try clear hfz59_2
                          try clear hfz59_3
                          try clear hfz59_4
                          try clear hfz62_0
                          try clear hfz62_1
                          try clear hfz62_2
                          try clear hfz62_3
                          try clear hfz63_0
                          try clear hfz63_1
                          try clear hfz63_2
                          try clear hfz63_3
                          try clear hfz63_4
                          try clear hfz65_0
                          try clear hfz65_1
                          try clear hfz65_2
                          try clear hfz65_3
                          try clear hfz66_0
                          try clear hfz66_1
                          try clear hfz66_2
                          try clear hfz66_3
                          try clear hfz66_4
                          try clear hfz72_0
                          try clear hfz72_1
                          try clear hfz72_2
                          try clear hfz72_3
                          try clear hfz73_0
                          try clear hfz73_1
                          try clear hfz73_2
                          try clear hfz73_3
                          try clear hfz73_4
                          try clear hfz75_0
                          try clear hfz75_1
                          try clear hfz75_2
                          try clear hfz75_3
                          try clear hfz7_0
                          try clear hfz7_1
                          try clear hfz7_2
                          try clear hfz7_3
                          try clear hfz7_4
                          try clear p2
                          obtain ⟨kq, x69_67, rfl, HA, HJ67, BK143, BK149, HB⟩ := hcut
                          cases kq with
                          | zero => exact absurd HA.out (by simp [impl_InsOk.j5])
                          | succ kj67 =>
                            have H := HA.out
                            clear HA
                            simp only [impl_InsOk.j5] at H
                            by_cases c76 : x69_67 = true
                            · subst c76
                              have H1 : (some false) = some r := by rw [if_pos rfl] at H; exact H
                              clear H
                              have H := H1
                              clear H1
                              obtain rfl := Option.some.inj H
                              go_wp2
                              go_ret
                              exact ⟨by first | rfl | (simp [errW_none, errW_some] <;> rfl) | (simp [*, errW_none, errW_some] <;> rfl), by repeat (first | (with_reducible first | exact HB.out | apply below_alloc | apply pw_below_drewN | apply below_drew1 | refine below_set ?_ GE143.out | refine below_set ?_ GE149.out) | exact HB.out)⟩
                            · replace c76 := Bool.eq_false_iff.mpr c76
                              subst c76
                              have H1 : (if t148 = true then ((impl_litOk.f kj67 l0_3).bind fun t155 => (if t155 = true then ((slices_ContainsFunc_impl_InsOk_1.f kj67 l0_4).bind fun t156 => (some (!t156))) else (some false))) else ((slices_ContainsFunc_impl_InsOk_1.f kj67 l0_4).bind fun t157 => (some (!t157)))) = some r := by rw [if_neg (show ¬ (false = true) by decide)] at H; exact H
                              clear H
                              have H := H1
                              clear H1
                              by_cases c77 : t148 = true
                              · subst c77
                                have H1 : ((impl_litOk.f kj67 l0_3).bind fun t155 => (if t155 = true then ((slices_ContainsFunc_impl_InsOk_1.f kj67 l0_4).bind fun t156 => (some (!t156))) else (some false))) = some r := by rw [if_pos rfl] at H; exact H
                                clear H
                                have H := H1
                                clear H1
                                replace H := Option.bind_eq_some_iff.mp H
                                obtain ⟨t155, A780, H⟩ := H
                                replace H : (if t155 = true then ((slices_ContainsFunc_impl_InsOk_1.f kj67 l0_4).bind fun t156 => (some (!t156))) else (some false)) = some r := H
                                have A78 := Aside0.mk A780
                                clear A780
                                by_cases c79 : t155 = true
                                · subst c79
                                  have H1 : ((slices_ContainsFunc_impl_InsOk_1.f kj67 l0_4).bind fun t156 => (some (!t156))) = some r := by rw [if_pos rfl] at H; exact H
                                  clear H
                                  have H := H1
                                  clear H1
                                  replace H := Option.bind_eq_some_iff.mp H
                                  obtain ⟨t156, A800, H⟩ := H
                                  replace H : (some (!t156)) = some r := H
                                  have A80 := Aside0.mk A800
                                  clear A800
                                  obtain rfl := Option.some.inj H
                                  have hnb81 := NB149_143.out
                                  have hnc81 := NB143_149.out
                                  have hcz82_0 : wc.cell? ⟨gb149, 0, none⟩ = some (.bool t145) := (blk_cell BK149.out 0).trans rfl
                                  have hcz82_1 : wc.cell? ⟨gb149, 1, none⟩ = some (.bool t146) := (blk_cell BK149.out 1).trans rfl
                                  have hcz82_2 : wc.cell? ⟨gb149, 2, none⟩ = some (.bool t147) := (blk_cell BK149.out 2).trans rfl
                                  have hcz82_3 : wc.cell? ⟨gb149, 3, none⟩ = some (.bool true) := (blk_cell BK149.out 3).trans rfl
                                  have hfz82_0 := blk_frozen BK149.out 0
                                  have hfz82_1 := blk_frozen BK149.out 1
                                  have hfz82_2 := blk_frozen BK149.out 2
                                  have hfz82_3 := blk_frozen BK149.out 3
                                  have hcz83_0 : wc.cell? ⟨gb143, 0, none⟩ = some (.int .i64 a0_0) := (blk_cell BK143.out 0).trans rfl
                                  have hcz83_1 : wc.cell? ⟨gb143, 1, none⟩ = some (.int .i64 a0_1) := (blk_cell BK143.out 1).trans rfl
                                  have hcz83_2 : wc.cell? ⟨gb143, 2, none⟩ = some (.int .i64 a0_2) := (blk_cell BK143.out 2).trans rfl
                                  have hcz83_3 : wc.cell? ⟨gb143, 3, none⟩ = some (.slice A0_3 l0_3.length c0_3) := (blk_cell BK143.out 3).trans rfl
                                  have hcz83_4 : wc.cell? ⟨gb143, 4, none⟩ = some (.slice A0_4 l0_4.length c0_4) := (blk_cell BK143.out 4).trans rfl
                                  have hfz83_0 := blk_frozen BK143.out 0
                                  have hfz83_1 := blk_frozen BK143.out 1
                                  have hfz83_2 := blk_frozen BK143.out 2
                                  have hfz83_3 := blk_frozen BK143.out 3
                                  have hfz83_4 := blk_frozen BK143.out 4
                                  go_wp2_with (first | (go_at_call 59; (with_reducible refine (impl_litOk.calls kj67 _ _ l0_3 true _ ?side1 ?side2 A78.out).mono ?_); (case side1 => repeat (first | exact (Kd.C_below HR0_3.out HB.out) | (with_reducible refine Kd.C_alloc ?_ _) | (with_reducible refine Kd.C_drewN ?_ _) | (with_reducible refine Kd.C_drew ?_))); (case side2 => exact HC0_3.out); rintro e w' ⟨rfl, ⟨nd, rfl⟩⟩) | (go_at_call 60; (with_reducible refine (slices_ContainsFunc_impl_InsOk_1.calls kj67 _ _ l0_4 t156 _ ?side1 ?side2 A80.out).mono ?_); (case side1 => repeat (first | exact (Kd.C_below HR0_4.out (by repeat (first | (with_reducible first | exact HB.out | apply below_alloc | apply pw_below_drewN | apply below_drew1 | refine below_set ?_ GE143.out | refine below_set ?_ GE149.out) | exact HB.out))) | (with_reducible refine Kd.C_alloc ?_ _) | (with_reducible refine Kd.C_drewN ?_ _) | (with_reducible refine Kd.C_drew ?_))); (case side2 => exact HC0_4.out); rintro e w' ⟨rfl, ⟨nd, rfl⟩⟩))
                                  go_ret
                                  exact ⟨by first | rfl | (simp [errW_none, errW_some] <;> rfl) | (simp [*, errW_none, errW_some] <;> rfl), by repeat (first | (with_reducible first | exact HB.out | apply below_alloc | apply pw_below_drewN | apply below_drew1 | refine below_set ?_ GE143.out | refine below_set ?_ GE149.out) | exact HB.out)⟩
                                · replace c79 := Bool.eq_false_iff.mpr c79
                                  subst c79
                                  have H1 : (some false) = some r := by rw [if_neg (show ¬ (false = true) by decide)] at H; exact H
                                  clear H
                                  have H := H1
                                  clear H1
                                  obtain rfl := Option.some.inj H
                                  have hnb84 := NB149_143.out
                                  have hnc84 := NB143_149.out
                                  have hcz85_0 : wc.cell? ⟨gb149, 0, none⟩ = some (.bool t145) := (blk_cell BK149.out 0).trans rfl
                                  have hcz85_1 : wc.cell? ⟨gb149, 1, none⟩ = some (.bool t146) := (blk_cell BK149.out 1).trans rfl
                                  have hcz85_2 : wc.cell? ⟨gb149, 2, none⟩ = some (.bool t147) := (blk_cell BK149.out 2).trans rfl
                                  have hcz85_3 : wc.cell? ⟨gb149, 3, none⟩ = some (.bool true) := (blk_cell BK149.out 3).trans rfl
                                  have hfz85_0 := blk_frozen BK149.out 0
                                  have hfz85_1 := blk_frozen BK149.out 1
                                  have hfz85_2 := blk_frozen BK149.out 2
                                  have hfz85_3 := blk_frozen BK149.out 3
                                  have hcz86_0 : wc.cell? ⟨gb143, 0, none⟩ = some (.int .i64 a0_0) := (blk_cell BK143.out 0).trans rfl
                                  have hcz86_1 : wc.cell? ⟨gb143, 1, none⟩ = some (.int .i64 a0_1) := (blk_cell BK143.out 1).trans rfl
                                  have hcz86_2 : wc.cell? ⟨gb143, 2, none⟩ = some (.int .i64 a0_2) := (blk_cell BK143.out 2).trans rfl
                                  have hcz86_3 : wc.cell? ⟨gb143, 3, none⟩ = some (.slice A0_3 l0_3.length c0_3) := (blk_cell BK143.out 3).trans rfl
                                  have hcz86_4 : wc.cell? ⟨gb143, 4, none⟩ = some (.slice A0_4 l0_4.length c0_4) := (blk_cell BK143.out 4).trans rfl
                                  have hfz86_0 := blk_frozen BK143.out 0
                                  have hfz86_1 := blk_frozen BK143.out 1
                                  have hfz86_2 := blk_frozen BK143.out 2
                                  have hfz86_3 := blk_frozen BK143.out 3
                                  have hfz86_4 := blk_frozen BK143.out 4
                                  go_wp2_with (first | (go_at_call 59; (with_reducible refine (impl_litOk.calls kj67 _ _ l0_3 false _ ?side1 ?side2 A78.out).mono ?_); (case side1 => repeat (first | exact (Kd.C_below HR0_3.out HB.out) | (with_reducible refine Kd.C_alloc ?_ _) | (with_reducible refine Kd.C_drewN ?_ _) | (with_reducible refine Kd.C_drew ?_))); (case side2 => exact HC0_3.out); rintro e w' ⟨rfl, ⟨nd, rfl⟩⟩))
                                  go_ret
                                  exact ⟨by first | rfl | (simp [errW_none, errW_some] <;> rfl) | (simp [*, errW_none, errW_some] <;> rfl), by repeat (first | (with_reducible first | exact HB.out | apply below_alloc | apply pw_below_drewN | apply below_drew1 | refine below_set ?_ GE143.out | refine below_set ?_ GE149.out) | exact HB.out)⟩
                              · replace c77 := Bool.eq_false_iff.mpr c77
                                subst c77
                                have H1 : ((slices_ContainsFunc_impl_InsOk_1.f kj67 l0_4).bind fun t157 => (some (!t157))) = some r := by rw [if_neg (show ¬ (false = true) by decide)] at H; exact H
                                clear H
                                have H := H1
                                clear H1
                                replace H := Option.bind_eq_some_iff.mp H
                                obtain ⟨t157, A870, H⟩ := H
                                replace H : (some (!t157)) = some r := H
                                have A87 := Aside0.mk A870
                                clear A870
                                obtain rfl := Option.some.inj H
                                have hnb88 := NB149_143.out
                                have hnc88 := NB143_149.out
                                have hcz89_0 : wc.cell? ⟨gb149, 0, none⟩ = some (.bool t145) := (blk_cell BK149.out 0).trans rfl
                                have hcz89_1 : wc.cell? ⟨gb149, 1, none⟩ = some (.bool t146) := (blk_cell BK149.out 1).trans rfl
                                have hcz89_2 : wc.cell? ⟨gb149, 2, none⟩ = some (.bool t147) := (blk_cell BK149.out 2).trans rfl
                                have hcz89_3 : wc.cell? ⟨gb149, 3, none⟩ = some (.bool false) := (blk_cell BK149.out 3).trans rfl
                                have hfz89_0 := blk_frozen BK149.out 0
                                have hfz89_1 := blk_frozen BK149.out 1
                                have hfz89_2 := blk_frozen BK149.out 2
                                have hfz89_3 := blk_frozen BK149.out 3
                                have hcz90_0 : wc.cell? ⟨gb143, 0, none⟩ = some (.int .i64 a0_0) := (blk_cell BK143.out 0).trans rfl
                                have hcz90_1 : wc.cell? ⟨gb143, 1, none⟩ = some (.int .i64 a0_1) := (blk_cell BK143.out 1).trans rfl
                                have hcz90_2 : wc.cell? ⟨gb143, 2, none⟩ = some (.int .i64 a0_2) := (blk_cell BK143.out 2).trans rfl
                                have hcz90_3 : wc.cell? ⟨gb143, 3, none⟩ = some (.slice A0_3 l0_3.length c0_3) := (blk_cell BK143.out 3).trans rfl
                                have hcz90_4 : wc.cell? ⟨gb143, 4, none⟩ = some (.slice A0_4 l0_4.length c0_4) := (blk_cell BK143.out 4).trans rfl
                                have hfz90_0 := blk_frozen BK143.out 0
                                have hfz90_1 := blk_frozen BK143.out 1
                                have hfz90_2 := blk_frozen BK143.out 2
                                have hfz90_3 := blk_frozen BK143.out 3
                                have hfz90_4 := blk_frozen BK143.out 4
                                go_wp2_with (first | (go_at_call 60; (with_reducible refine (slices_ContainsFunc_impl_InsOk_1.calls kj67 _ _ l0_4 t157 _ ?side1 ?side2 A87.out).mono ?_); (case side1 => repeat (first | exact (Kd.C_below HR0_4.out HB.out) | (with_reducible refine Kd.C_alloc ?_ _) | (with_reducible refine Kd.C_drewN ?_ _) | (with_reducible refine Kd.C_drew ?_))); (case side2 => exact HC0_4.out); rintro e w' ⟨rfl, ⟨nd, rfl⟩⟩))
                                go_ret
                                exact ⟨by first | rfl | (simp [errW_none, errW_some] <;> rfl) | (simp [*, errW_none, errW_some] <;> rfl), by repeat (first | (with_reducible first | exact HB.out | apply below_alloc | apply pw_below_drewN | apply below_drew1 | refine below_set ?_ GE143.out | refine below_set ?_ GE149.out) | exact HB.out)⟩
  · replace c3 := Bool.eq_false_iff.mpr c3
    subst c3
    have H1 : (some false) = some r := by rw [if_neg (show ¬ (false = true) by decide)] at H; exact H
    clear H
    have H := H1
    clear H1
    obtain rfl := Option.some.inj H
    go_enter Try.func14, Try.ntmps14
    go_wp2_with (first | ((with_reducible refine gate_dst (N := 1) rfl ?_); (try (refine gate_guard (by rfl) ?_; dsimp only)); refine box_event ?hg (N := 1) ?hd (cs := #[.int .i64 a0_0, .int .i64 a0_1, .int .i64 a0_2, .slice A0_3 l0_3.length c0_3, .slice A0_4 l0_4.length c0_4]) (t := 28) ?hr ?_; (case hd => rfl); (case hg => rfl); (case hr => first | (go_simp; done) | (go_simp; rfl)); intro gb143 hg w91 hbox hb; have n0_ := Aside0.mk (below_step (by repeat (first | (with_reducible first | exact HB.out | apply below_alloc | apply pw_below_drewN | apply below_drew1) | exact HB.out)) hb); have n1_ := Aside0.mk (hbox); have n2_ := Aside0.mk ((by rw [hg]; exact (below_size (by repeat (first | (with_reducible first | exact HB.out | apply below_alloc | apply pw_below_drewN | apply below_drew1) | exact HB.out))) : w.heap.size ≤ gb143)); have n3_ := Aside0.mk ((by rw [hg]; exact (below_size (by repeat (first | (with_reducible first | exact HB.out | apply below_alloc | apply pw_below_drewN | apply below_drew1) | exact HB.out))) : w.heap.size ≤ gb143)); clear HB; have HB := n0_; have BK143 := n1_; have GW143 := n2_; have GE143 := n3_; clear n0_ n1_ n2_ n3_; clear hb hbox hg; have hcz92_0 : w91.cell? ⟨gb143, 0, none⟩ = some (.int .i64 a0_0) := (blk_cell BK143.out 0).trans rfl; have hcz92_1 : w91.cell? ⟨gb143, 1, none⟩ = some (.int .i64 a0_1) := (blk_cell BK143.out 1).trans rfl; have hcz92_2 : w91.cell? ⟨gb143, 2, none⟩ = some (.int .i64 a0_2) := (blk_cell BK143.out 2).trans rfl; have hcz92_3 : w91.cell? ⟨gb143, 3, none⟩ = some (.slice A0_3 l0_3.length c0_3) := (blk_cell BK143.out 3).trans rfl; have hcz92_4 : w91.cell? ⟨gb143, 4, none⟩ = some (.slice A0_4 l0_4.length c0_4) := (blk_cell BK143.out 4).trans rfl; have hfz92_0 := blk_frozen BK143.out 0; have hfz92_1 := blk_frozen BK143.out 1; have hfz92_2 := blk_frozen BK143.out 2; have hfz92_3 := blk_frozen BK143.out 3; have hfz92_4 := blk_frozen BK143.out 4) | ((with_reducible refine gate_callee (f := 56) rfl ?_); refine goesL_ (some 6) rfl rfl Try.func56 (by kernel_rfl) rfl #[.int .i64 a0_0, .int .i64 0, .int .i64 31] rfl (by (try simp only [List.map_toArray, List.map_cons, List.map_nil]); first | done | rfl | (simp only [List.length_drop, List.length_take]; rfl)) ?_; (with_reducible refine (impl_within.calls a0_0 0 31 false _ A2.out).mono ?_); rintro e w' ⟨rfl, ⟨nd, rfl⟩⟩; refine ⟨_, rfl, ?_⟩))
    go_ret
    exact ⟨by first | rfl | (simp [errW_none, errW_some] <;> rfl) | (simp [*, errW_none, errW_some] <;> rfl), by repeat (first | (with_reducible first | exact HB.out | apply below_alloc | apply pw_below_drewN | apply below_drew1 | refine below_set ?_ GE143.out) | exact HB.out)⟩

end Go.Proofs.Ytmbacnnbpnlekaa.PA
