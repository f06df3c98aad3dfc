-- Printed by a program of this session (wrap.py) out of the translation. Lean checks it.
import Derived.Test.YtophpcadfljkgaaPAx0
import Derived.Test.YtophpcadfljkgaaPAx8
import Derived.Test.YtophpcadfljkgaaPAx10
import Derived.Test.YtophpcadfljkgaaPAx11
import Derived.Test.YtophpcadfljkgaaPAx16
import Derived.Test.YtophpcadfljkgaaPAx24
import Derived.Test.YtophpcadfljkgaaPAx29
import Derived.Test.YtophpcadfljkgaaPAx31
namespace Go.Proofs.Ytophpcadfljkgaa.PA
open Go.RowKit Go.Proofs.YtophpcadfljkgaaW.PrintWords Go.Proofs.YtophpcadfljkgaaW.PrintLast Go.Proofs.YtophpcadfljkgaaW.PrintMore
attribute [local go_sem] max2_int min2_int max_two min_two max_three min_three max_four min_four   -- for this text's walks alone
set_option linter.unusedVariables false
set_option linter.unusedSimpArgs false

/-! ### spec_DrawGetText: function 40 -/
mutual
def spec_DrawGetText.j0 : Nat → List Int → Int → List Int → List Int → Int → Int → Option (List Int × Int)
  | 0, _, _, _, _, _, _ => none
  | k + 1, x5, x6, x7, x616000, x616001, x616002 => (spec_PutText.f k x5 x7).bind fun t632 => ((spec_l1some.f k x616000 x616001 x616002 3).bind fun bt635 => (if t632.length + bt635.1.length < 140737488355328 then ((some (t632 ++ bt635.1 : List Int)).bind fun y640 => ((spec_l1Once.f x616000 bt635.2.1 bt635.2.2 9).bind fun bt643 => (if bt643.1 = true then (if 0 ≤ x6 then (if x6 ≤ (y640.length : Int) then ((spec_PutNum.f k (y640.take (x6 : Int).toNat) 41).bind fun t650 => (if t650.length + 41 < 140737488355328 then (spec_DrawGetText.j1 k (t650 ++ List.replicate 41 0) x6 x616000 bt643.2.1 bt643.2.2) else (none))) else (none)) else (none)) else (spec_DrawGetText.j1 k y640 x6 x616000 bt643.2.1 bt643.2.2)))) else (none)))
def spec_DrawGetText.j1 : Nat → List Int → Int → List Int → Int → Int → Option (List Int × Int)
  | 0, _, _, _, _, _ => none
  | k + 1, x5, x6, x616000, x616001, x616002 => (spec_l1Once.f x616000 x616001 x616002 3).bind fun bt656 => (if bt656.1 = true then ((spec_l1spoil.f x616000 bt656.2.1 bt656.2.2 x5).bind fun bt659 => (spec_DrawGetText.j2 k bt659.1 x6 x616000 bt659.2.1 bt659.2.2)) else (spec_DrawGetText.j2 k x5 x6 x616000 bt656.2.1 bt656.2.2))
def spec_DrawGetText.j2 : Nat → List Int → Int → List Int → Int → Int → Option (List Int × Int)
  | 0, _, _, _, _, _ => none
  | k + 1, x5, x6, x616000, x616001, x616002 => (spec_l1Once.f x616000 x616001 x616002 8).bind fun bt664 => (if bt664.1 = true then ((spec_l1PickInt.f x616000 bt664.2.1 bt664.2.2 (([(-1), 0, (x5.length : Int), 4611686018427387904] : List Int))).bind fun bt670 => (some (x5, bt670.1))) else (some (x5, x6)))
end
def spec_DrawGetText.f (k : Nat) (l0 : List Int) : Option (List Int × Int) := (spec_l1New.f k l0).bind fun bt612 => ((spec_l1some.f k bt612.1 bt612.2.1 bt612.2.2 4).bind fun bt616 => ((spec_l1some.f k bt612.1 bt616.2.1 bt616.2.2 9).bind fun bt621 => ((spec_l1Once.f bt612.1 bt621.2.1 bt621.2.2 9).bind fun bt626 => (if bt626.1 = true then (if 40 ≤ 281474976710656 then (spec_DrawGetText.j0 k bt616.1 (bt616.1.length : Int) (List.replicate 40 0) bt612.1 bt626.2.1 bt626.2.2) else (none)) else (spec_DrawGetText.j0 k bt616.1 (bt616.1.length : Int) bt621.1 bt612.1 bt626.2.1 bt626.2.2)))))
theorem spec_DrawGetText.mono_l : ∀ k, (∀ y0 y1 y2 y3 y4 y5, LeO (spec_DrawGetText.j0 k y0 y1 y2 y3 y4 y5) (spec_DrawGetText.j0 (k + 1) y0 y1 y2 y3 y4 y5)) ∧ (∀ y0 y1 y2 y3 y4, LeO (spec_DrawGetText.j1 k y0 y1 y2 y3 y4) (spec_DrawGetText.j1 (k + 1) y0 y1 y2 y3 y4)) ∧ (∀ y0 y1 y2 y3 y4, LeO (spec_DrawGetText.j2 k y0 y1 y2 y3 y4) (spec_DrawGetText.j2 (k + 1) y0 y1 y2 y3 y4))
  | 0 => ⟨fun _ _ _ _ _ _ r h => by simp [spec_DrawGetText.j0] at h, fun _ _ _ _ _ r h => by simp [spec_DrawGetText.j1] at h, fun _ _ _ _ _ r h => by simp [spec_DrawGetText.j2] at h⟩
  | k + 1 => by
    obtain ⟨ih0, ih1, ih2⟩ := spec_DrawGetText.mono_l k
    refine ⟨?_, ?_, ?_⟩
    · intro y0 y1 y2 y3 y4 y5
      unfold spec_DrawGetText.j0
      repeat' first
      | (with_reducible exact ih0 _ _ _ _ _ _)
      | (with_reducible exact ih1 _ _ _ _ _)
      | (with_reducible exact ih2 _ _ _ _ _)
      | (with_reducible exact spec_PutNum.mono _ _ _)
      | (with_reducible exact spec_PutText.mono _ _ _)
      | (with_reducible exact spec_l1New.mono _ _)
      | (with_reducible exact spec_l1some.mono _ _ _ _ _)
      | (with_reducible exact LeO.refl _)
      | (with_reducible exact LeO.none _)
      | (with_reducible refine LeO.ite ?_ ?_)
      | (with_reducible refine LeO.bind ?_ (fun _ => ?_))
      | exact ih0 _ _ _ _ _ _
      | exact ih1 _ _ _ _ _
      | exact ih2 _ _ _ _ _
      | exact spec_PutNum.mono _ _ _
      | exact spec_PutText.mono _ _ _
      | exact spec_l1New.mono _ _
      | exact spec_l1some.mono _ _ _ _ _
      | exact LeO.none _
      | refine LeO.ite ?_ ?_
      | refine LeO.bind ?_ (fun _ => ?_)
    · intro y0 y1 y2 y3 y4
      unfold spec_DrawGetText.j1
      repeat' first
      | (with_reducible exact ih0 _ _ _ _ _ _)
      | (with_reducible exact ih1 _ _ _ _ _)
      | (with_reducible exact ih2 _ _ _ _ _)
      | (with_reducible exact spec_PutNum.mono _ _ _)
      | (with_reducible exact spec_PutText.mono _ _ _)
      | (with_reducible exact spec_l1New.mono _ _)
      | (with_reducible exact spec_l1some.mono _ _ _ _ _)
      | (with_reducible exact LeO.refl _)
      | (with_reducible exact LeO.none _)
      | (with_reducible refine LeO.ite ?_ ?_)
      | (with_reducible refine LeO.bind ?_ (fun _ => ?_))
      | exact ih0 _ _ _ _ _ _
      | exact ih1 _ _ _ _ _
      | exact ih2 _ _ _ _ _
      | exact spec_PutNum.mono _ _ _
      | exact spec_PutText.mono _ _ _
      | exact spec_l1New.mono _ _
      | exact spec_l1some.mono _ _ _ _ _
      | exact LeO.none _
      | refine LeO.ite ?_ ?_
      | refine LeO.bind ?_ (fun _ => ?_)
    · intro y0 y1 y2 y3 y4
      unfold spec_DrawGetText.j2
      repeat' first
      | (with_reducible exact ih0 _ _ _ _ _ _)
      | (with_reducible exact ih1 _ _ _ _ _)
      | (with_reducible exact ih2 _ _ _ _ _)
      | (with_reducible exact spec_PutNum.mono _ _ _)
      | (with_reducible exact spec_PutText.mono _ _ _)
      | (with_reducible exact spec_l1New.mono _ _)
      | (with_reducible exact spec_l1some.mono _ _ _ _ _)
      | (with_reducible exact LeO.refl _)
      | (with_reducible exact LeO.none _)
      | (with_reducible refine LeO.ite ?_ ?_)
      | (with_reducible refine LeO.bind ?_ (fun _ => ?_))
      | exact ih0 _ _ _ _ _ _
      | exact ih1 _ _ _ _ _
      | exact ih2 _ _ _ _ _
      | exact spec_PutNum.mono _ _ _
      | exact spec_PutText.mono _ _ _
      | exact spec_l1New.mono _ _
      | exact spec_l1some.mono _ _ _ _ _
      | exact LeO.none _
      | refine LeO.ite ?_ ?_
      | refine LeO.bind ?_ (fun _ => ?_)
theorem spec_DrawGetText.mono : ∀ a0 k, LeO (spec_DrawGetText.f k a0) (spec_DrawGetText.f (k + 1) a0) := by
  intro a0 k
  obtain ⟨ih0, ih1, ih2⟩ := spec_DrawGetText.mono_l k
  unfold spec_DrawGetText.f
  repeat' first
      | (with_reducible exact ih0 _ _ _ _ _ _)
      | (with_reducible exact ih1 _ _ _ _ _)
      | (with_reducible exact ih2 _ _ _ _ _)
      | (with_reducible exact spec_PutNum.mono _ _ _)
      | (with_reducible exact spec_PutText.mono _ _ _)
      | (with_reducible exact spec_l1New.mono _ _)
      | (with_reducible exact spec_l1some.mono _ _ _ _ _)
      | (with_reducible exact LeO.refl _)
      | (with_reducible exact LeO.none _)
      | (with_reducible refine LeO.ite ?_ ?_)
      | (with_reducible refine LeO.bind ?_ (fun _ => ?_))
      | exact ih0 _ _ _ _ _ _
      | exact ih1 _ _ _ _ _
      | exact ih2 _ _ _ _ _
      | exact spec_PutNum.mono _ _ _
      | exact spec_PutText.mono _ _ _
      | exact spec_l1New.mono _ _
      | exact spec_l1some.mono _ _ _ _ _
      | exact LeO.none _
      | refine LeO.ite ?_ ?_
      | refine LeO.bind ?_ (fun _ => ?_)
set_option maxHeartbeats 8000000 in
set_option maxRecDepth 100000 in
theorem spec_DrawGetText.calls (k : Nat) (A0 : Option Addr) (c0 : Nat) (l0 : List Int) (r1 : List Int) (r2 : Int) (w : World) (hr0 : Kd.C (Kd.int .u8) w A0 l0.length l0) (hc0 : l0.length ≤ c0) (h : spec_DrawGetText.f k l0 = some (r1, r2)) :
    Calls Try.prog 40 #[.slice A0 l0.length c0] w fun e w' => ∃ v0_ : Value, e = .returned (.tuple #[v0_, .int .i64 r2]) ∧ Kd.R (Kd.int .u8) 5 w' w.heap.size (fun _ => True) v0_ r1 ∧ Below w.heap.size w w' := by
  have HR0 := Aside0.mk hr0
  have HC0 := Aside0.mk hc0
  clear hr0 hc0
  have HB := Aside0.mk (Below.refl w.heap.size w)
  have H : ((spec_l1New.f k l0).bind fun bt612 => ((spec_l1some.f k bt612.1 bt612.2.1 bt612.2.2 4).bind fun bt616 => ((spec_l1some.f k bt612.1 bt616.2.1 bt616.2.2 9).bind fun bt621 => ((spec_l1Once.f bt612.1 bt621.2.1 bt621.2.2 9).bind fun bt626 => (if bt626.1 = true then (if 40 ≤ 281474976710656 then (spec_DrawGetText.j0 k bt616.1 (bt616.1.length : Int) (List.replicate 40 0) bt612.1 bt626.2.1 bt626.2.2) else (none)) else (spec_DrawGetText.j0 k bt616.1 (bt616.1.length : Int) bt621.1 bt612.1 bt626.2.1 bt626.2.2)))))) = some (r1, r2) := h
  clear h
  replace H := Option.bind_eq_some_iff.mp H
  obtain ⟨⟨t612, t613, t614⟩, A20, H⟩ := H
  replace H : ((spec_l1some.f k t612 t613 t614 4).bind fun bt616 => ((spec_l1some.f k t612 bt616.2.1 bt616.2.2 9).bind fun bt621 => ((spec_l1Once.f t612 bt621.2.1 bt621.2.2 9).bind fun bt626 => (if bt626.1 = true then (if 40 ≤ 281474976710656 then (spec_DrawGetText.j0 k bt616.1 (bt616.1.length : Int) (List.replicate 40 0) t612 bt626.2.1 bt626.2.2) else (none)) else (spec_DrawGetText.j0 k bt616.1 (bt616.1.length : Int) bt621.1 t612 bt626.2.1 bt626.2.2))))) = some (r1, r2) := H
  have A2 := Aside0.mk A20
  clear A20
  replace H := Option.bind_eq_some_iff.mp H
  obtain ⟨⟨t616, t619, t620⟩, A30, H⟩ := H
  replace H : ((spec_l1some.f k t612 t619 t620 9).bind fun bt621 => ((spec_l1Once.f t612 bt621.2.1 bt621.2.2 9).bind fun bt626 => (if bt626.1 = true then (if 40 ≤ 281474976710656 then (spec_DrawGetText.j0 k t616 (t616.length : Int) (List.replicate 40 0) t612 bt626.2.1 bt626.2.2) else (none)) else (spec_DrawGetText.j0 k t616 (t616.length : Int) bt621.1 t612 bt626.2.1 bt626.2.2)))) = some (r1, r2) := H
  have A3 := Aside0.mk A30
  clear A30
  replace H := Option.bind_eq_some_iff.mp H
  obtain ⟨⟨t621, t624, t625⟩, A40, H⟩ := H
  replace H : ((spec_l1Once.f t612 t624 t625 9).bind fun bt626 => (if bt626.1 = true then (if 40 ≤ 281474976710656 then (spec_DrawGetText.j0 k t616 (t616.length : Int) (List.replicate 40 0) t612 bt626.2.1 bt626.2.2) else (none)) else (spec_DrawGetText.j0 k t616 (t616.length : Int) t621 t612 bt626.2.1 bt626.2.2))) = some (r1, r2) := H
  have A4 := Aside0.mk A40
  clear A40
  replace H := Option.bind_eq_some_iff.mp H
  obtain ⟨⟨t626, t627, t628⟩, A50, H⟩ := H
  replace H : (if t626 = true then (if 40 ≤ 281474976710656 then (spec_DrawGetText.j0 k t616 (t616.length : Int) (List.replicate 40 0) t612 t627 t628) else (none)) else (spec_DrawGetText.j0 k t616 (t616.length : Int) t621 t612 t627 t628)) = some (r1, r2) := H
  have A5 := Aside0.mk A50
  clear A50
  have HC6 := Aside0.mk H
  clear H
  go_enter Try.func40, Try.ntmps40
  go_upto_if 17 with (first | ((with_reducible refine gate_callee (f := 42) rfl ?_); refine goesL_ (some 9) rfl rfl Try.func42 (by kernel_rfl) rfl #[.slice A0 l0.length c0] rfl (by (try simp only [List.map_toArray, List.map_cons, List.map_nil]); first | done | rfl | (simp only [List.length_drop, List.length_take]; rfl)) ?_; (with_reducible refine (spec_l1New.calls k _ _ l0 t612 t613 t614 w _ ?side1 ?side2 ?side3 A2.out).mono ?_); (case side1 => repeat (first | (with_reducible first | exact HB.out | apply below_alloc | apply pw_below_drewN | apply below_drew1) | exact HB.out)); (case side2 => exact HR0.out); (case side3 => exact HC0.out); rintro e w7 ⟨g615, rfl, hi, hb, hb2⟩; refine ⟨_, rfl, ?_⟩; have n0_ := Aside0.mk (hb); have n1_ := Aside0.mk (hi); clear HB; have HB := n0_; have HI615 := n1_; clear n0_ n1_; (try clear hb); (try clear hb2); (try clear hk); (try clear hi)) | ((with_reducible refine gate_callee (f := 48) rfl ?_); refine goesL_ (some 11) rfl rfl Try.func48 (by kernel_rfl) rfl #[.pointer (some ⟨g615, 0, none⟩), .int .i64 4] rfl (by (try simp only [List.map_toArray, List.map_cons, List.map_nil]); first | done | rfl | (simp only [List.length_drop, List.length_take]; rfl)) ?_; (with_reducible refine (spec_l1some.calls k g615 t612 t613 t614 4 t616 t619 t620 w _ ?side1 ?side2 A3.out).mono ?_); (case side1 => repeat (first | (with_reducible first | exact HI615.out | apply IsS53.alloc | apply IsS53.drewN | apply IsS53.drew | apply IsS53.set_1 | apply IsS53.set_2) | exact HI615.out)); (case side2 => repeat (first | (with_reducible first | exact HB.out | apply below_alloc | apply pw_below_drewN | apply below_drew1 | refine below_set ?_ (IsS53.ge HI615.out)) | exact HB.out)); rintro e w8 ⟨v617, rfl, ho0, hi, hb, hk⟩; refine ⟨_, rfl, ?_⟩; have n0_ := Aside0.mk (Kd.R_lower ho0 (below_size (by repeat (first | (with_reducible first | exact HB.out | apply below_alloc | apply pw_below_drewN | apply below_drew1 | refine below_set ?_ (IsS53.ge HI615.out)) | exact HB.out)))); have n1_ := Aside0.mk (hb); have n2_ := Aside0.mk (hi); clear HB; clear HI615; have HO618 := n0_; have HB := n1_; have HI615 := n2_; clear n0_ n1_ n2_; (try clear hb); (try clear hb2); (try clear hk); (try clear hi); (try clear ho0); obtain ⟨Ao9, co9, eo9⟩ := Kd.R_slice HO618.out; subst eo9) | ((with_reducible refine gate_callee (f := 48) rfl ?_); refine goesL_ (some 15) rfl rfl Try.func48 (by kernel_rfl) rfl #[.pointer (some ⟨g615, 0, none⟩), .int .i64 9] rfl (by (try simp only [List.map_toArray, List.map_cons, List.map_nil]); first | done | rfl | (simp only [List.length_drop, List.length_take]; rfl)) ?_; (with_reducible refine (spec_l1some.calls k g615 t612 t619 t620 9 t621 t624 t625 w _ ?side1 ?side2 A4.out).mono ?_); (case side1 => repeat (first | (with_reducible first | exact HI615.out | apply IsS53.alloc | apply IsS53.drewN | apply IsS53.drew | apply IsS53.set_1 | apply IsS53.set_2) | exact HI615.out)); (case side2 => repeat (first | (with_reducible first | exact HB.out | apply below_alloc | apply pw_below_drewN | apply below_drew1 | refine below_set ?_ (IsS53.ge HI615.out)) | exact HB.out)); rintro e w10 ⟨v622, rfl, ho0, hi, hb, hk⟩; refine ⟨_, rfl, ?_⟩; have n0_ := Aside0.mk (Kd.R_mono (Kd.R_told (Kd.R_oldK (IsS53.apart (show IsS53 w _ g615 t612 t619 t620 from by repeat (first | (with_reducible first | exact HI615.out | apply IsS53.alloc | apply IsS53.drewN | apply IsS53.drew | apply IsS53.set_1 | apply IsS53.set_2) | exact HI615.out)) (by (with_reducible repeat (first | apply Kd.R_alloc | apply Kd.R_drewN | apply Kd.R_drew)); exact HO618.out) (by decide)) hk) (Kd.R_base ho0)) (fun _ h_ => h_.1)); have n1_ := Aside0.mk (Kd.R_lower (Kd.R_new' ho0 (Kd.R_lt (by (with_reducible repeat (first | apply Kd.R_alloc | apply Kd.R_drewN | apply Kd.R_drew)); exact HO618.out))) (below_size (by repeat (first | (with_reducible first | exact HB.out | apply below_alloc | apply pw_below_drewN | apply below_drew1 | refine below_set ?_ (IsS53.ge HI615.out)) | exact HB.out)))); have n2_ := Aside0.mk (hb); have n3_ := Aside0.mk (hi); clear HO618; clear HB; clear HI615; have HO618 := n0_; have HO623 := n1_; have HB := n2_; have HI615 := n3_; clear n0_ n1_ n2_ n3_; (try clear hb); (try clear hb2); (try clear hk); (try clear hi); (try clear ho0)) | ((with_reducible refine gate_callee (f := 43) rfl ?_); refine goesL_ (some 17) rfl rfl Try.func43 (by kernel_rfl) rfl #[.pointer (some ⟨g615, 0, none⟩), .int .i64 9] rfl (by (try simp only [List.map_toArray, List.map_cons, List.map_nil]); first | done | rfl | (simp only [List.length_drop, List.length_take]; rfl)) ?_; (with_reducible refine (spec_l1Once.calls g615 t612 t624 t625 9 t626 t627 t628 w _ ?side1 ?side2 A5.out).mono ?_); (case side1 => repeat (first | (with_reducible first | exact HI615.out | apply IsS53.alloc | apply IsS53.drewN | apply IsS53.drew | apply IsS53.set_1 | apply IsS53.set_2) | exact HI615.out)); (case side2 => repeat (first | (with_reducible first | exact HB.out | apply below_alloc | apply pw_below_drewN | apply below_drew1 | refine below_set ?_ (IsS53.ge HI615.out)) | exact HB.out)); rintro e w11 ⟨rfl, hi, hb, hk⟩; refine ⟨_, rfl, ?_⟩; have n0_ := Aside0.mk (Kd.R_mono (Kd.R_keep (IsS53.apart (show IsS53 w _ g615 t612 t624 t625 from by repeat (first | (with_reducible first | exact HI615.out | apply IsS53.alloc | apply IsS53.drewN | apply IsS53.drew | apply IsS53.set_1 | apply IsS53.set_2) | exact HI615.out)) (by (with_reducible repeat (first | apply Kd.R_alloc | apply Kd.R_drewN | apply Kd.R_drew)); exact HO618.out) (by decide)) hk (fun _ h => h.2)) (fun _ h => h.1)); have n1_ := Aside0.mk (Kd.R_mono (Kd.R_keep (IsS53.apart (show IsS53 w _ g615 t612 t624 t625 from by repeat (first | (with_reducible first | exact HI615.out | apply IsS53.alloc | apply IsS53.drewN | apply IsS53.drew | apply IsS53.set_1 | apply IsS53.set_2) | exact HI615.out)) (by (with_reducible repeat (first | apply Kd.R_alloc | apply Kd.R_drewN | apply Kd.R_drew)); exact HO623.out) (by decide)) hk (fun _ h => h.2)) (fun _ h => h.1)); have n2_ := Aside0.mk (hb); have n3_ := Aside0.mk (hi); clear HO618; clear HO623; clear HB; clear HI615; have HO618 := n0_; have HO623 := n1_; have HB := n2_; have HI615 := n3_; clear n0_ n1_ n2_ n3_; (try clear hb); (try clear hb2); (try clear hk); (try clear hi)))
  (try simp only [Act.put, List.setIfInBounds_toArray, List.set_cons_zero, List.set_cons_succ])
  go_cut [7] (fun v7 wc => ∃ (kq : Nat) (x7_5 : List Int), Aside0 (spec_DrawGetText.j0 kq t616 (t616.length : Int) x7_5 t612 t627 t628 = some (r1, r2)) ∧ Aside0 (kq ≤ k) ∧ Aside0 (Kd.R (Kd.int .u8) 5 wc w.heap.size (fun k_ => some k_ ≠ (v7 : Value).ownBlock) (.slice Ao9 t616.length co9) t616) ∧ Aside0 (Kd.R (Kd.int .u8) 5 wc w.heap.size (fun k_ => some k_ ≠ ((.slice Ao9 t616.length co9) : Value).ownBlock) v7 x7_5) ∧ Aside0 (IsS53 w wc g615 t612 t627 t628) ∧ Aside0 (Below w.heap.size w wc))
  case first =>
    have H := HC6.out
    clear HC6
    by_cases c12 : t626 = true
    · subst c12
      have H1 : (if 40 ≤ 281474976710656 then (spec_DrawGetText.j0 k t616 (t616.length : Int) (List.replicate 40 0) t612 t627 t628) else (none)) = some (r1, r2) := by rw [if_pos rfl] at H; exact H
      clear H
      have H := H1
      clear H1
      by_cases c13 : 40 ≤ 281474976710656
      · rw [if_pos c13] at H
        have c13b0 := eq_true c13
        have c13b1 : decide (40 ≤ 281474976710656) = true := decide_eq_true c13
        clear c13
        obtain ⟨y629, hy629⟩ : ∃ y_ : List Int, y_ = (List.replicate 40 0) := ⟨_, rfl⟩
        replace H : (spec_DrawGetText.j0 k t616 (t616.length : Int) y629 t612 t627 t628) = some (r1, r2) := by first | (rw [hy629]; with_reducible exact H) | (have H2_ := (Option.bind_some _ _).symm.trans H; rw [hy629]; with_reducible exact H2_) | (have H2_ := (Option.bind_some _ _).symm.trans H; with_reducible exact H2_) | with_reducible exact H | (rw [hy629]; exact H) | exact H
        have Ny629 := Aside0.mk hy629
        clear hy629
        have H' := Aside0.mk H
        clear H
        go_wp2_with (first | ((with_reducible refine gate_dst (N := 18) rfl ?_); refine Kd.R_make (Kd.int .u8) _ 5 rfl (N := 18) rfl 25 _ _ rfl 40 rfl rfl Try.underlying25 (.int .u8 0) 1 info5 rfl (by decide) (by omega) 0 (ok := fun _ => True) (okp := fun _ => True) rfl (fun _ hk => hk) trivial (by omega) (by omega) (Below.refl _ _) (Nat.le_refl _) ?_; intro v630 w14 ho15 hb hg_ hnew_; clear hg_ hnew_; (first | rw [← Ny629.out] at ho15 | (simp only [Int.reduceToNat] at ho15; rw [← Ny629.out] at ho15)); have n0_ := Aside0.mk (Kd.R_elder' (by (with_reducible repeat (first | apply Kd.R_alloc | apply Kd.R_drewN | apply Kd.R_drew)); exact HO618.out) (Kd.R_base ho15) hb); have n1_ := Aside0.mk (Kd.R_elder' (by (with_reducible repeat (first | apply Kd.R_alloc | apply Kd.R_drewN | apply Kd.R_drew)); exact HO623.out) (Kd.R_base ho15) hb); have n2_ := Aside0.mk (Kd.R_lower (Kd.R_new' (Kd.R_new' ho15 (Kd.R_lt (by (with_reducible repeat (first | apply Kd.R_alloc | apply Kd.R_drewN | apply Kd.R_drew)); exact HO618.out))) (Kd.R_lt (by (with_reducible repeat (first | apply Kd.R_alloc | apply Kd.R_drewN | apply Kd.R_drew)); exact HO623.out))) (below_size (by repeat (first | (with_reducible first | exact HB.out | apply below_alloc | apply pw_below_drewN | apply below_drew1 | refine below_set ?_ (IsS53.ge HI615.out)) | exact HB.out)))); have n3_ := Aside0.mk (IsS53.below (by repeat (first | (with_reducible first | exact HI615.out | apply IsS53.alloc | apply IsS53.drewN | apply IsS53.drew | apply IsS53.set_1 | apply IsS53.set_2) | exact HI615.out)) hb); have n4_ := Aside0.mk (below_step (by repeat (first | (with_reducible first | exact HB.out | apply below_alloc | apply pw_below_drewN | apply below_drew1 | refine below_set ?_ (IsS53.ge HI615.out)) | exact HB.out)) hb); clear HO618; clear HO623; clear HI615; clear HB; have HO618 := n0_; have HO623 := n1_; have HO631 := n2_; have HI615 := n3_; have HB := n4_; clear n0_ n1_ n2_ n3_ n4_; clear hb ho15))
        go_meet
        case rel => exact ⟨_, (y629), H', ⟨by first | omega | exact Nat.le_refl _⟩, ⟨by (with_reducible repeat (first | apply Kd.R_alloc | apply Kd.R_drewN | apply Kd.R_drew)); exact Kd.R_mono HO618.out (fun _ hk => hk.2)⟩, ⟨by (with_reducible repeat (first | apply Kd.R_alloc | apply Kd.R_drewN | apply Kd.R_drew)); exact Kd.R_mono HO631.out (fun _ hk => hk.1.2)⟩, ⟨by repeat (first | (with_reducible first | exact HI615.out | apply IsS53.alloc | apply IsS53.drewN | apply IsS53.drew | apply IsS53.set_1 | apply IsS53.set_2) | exact HI615.out)⟩, ⟨by repeat (first | (with_reducible first | exact HB.out | apply below_alloc | apply pw_below_drewN | apply below_drew1 | refine below_set ?_ (IsS53.ge HI615.out)) | exact HB.out)⟩⟩
      · rw [if_neg c13] at H
        exact absurd H (by simp)
    · replace c12 := Bool.eq_false_iff.mpr c12
      subst c12
      have H1 : (spec_DrawGetText.j0 k t616 (t616.length : Int) t621 t612 t627 t628) = some (r1, r2) := by rw [if_neg (show ¬ (false = true) by decide)] at H; exact H
      clear H
      have H := H1
      clear H1
      have H' := Aside0.mk H
      clear H
      go_wp2
      go_meet
      case rel => exact ⟨_, (t621), H', ⟨by first | omega | exact Nat.le_refl _⟩, ⟨by (with_reducible repeat (first | apply Kd.R_alloc | apply Kd.R_drewN | apply Kd.R_drew)); exact Kd.R_mono HO618.out (fun _ hk => hk.2)⟩, ⟨by (with_reducible repeat (first | apply Kd.R_alloc | apply Kd.R_drewN | apply Kd.R_drew)); exact Kd.R_mono HO623.out (fun _ hk => hk.2)⟩, ⟨by repeat (first | (with_reducible first | exact HI615.out | apply IsS53.alloc | apply IsS53.drewN | apply IsS53.drew | apply IsS53.set_1 | apply IsS53.set_2) | exact HI615.out)⟩, ⟨by repeat (first | (with_reducible first | exact HB.out | apply below_alloc | apply pw_below_drewN | apply below_drew1 | refine below_set ?_ (IsS53.ge HI615.out)) | exact HB.out)⟩⟩
  case rest =>
    clear HC6
    try clear c1
    try clear p2
    try clear c4
    try clear c12
    try clear c13
    try clear c13b0
    try clear c13b1
    obtain ⟨kq, x7_5, HA, HJ5, HO_5, HO_7, HI615, HB⟩ := hcut
    cases kq with
    | zero => exact absurd HA.out (by simp [spec_DrawGetText.j0])
    | succ kj5 =>
      have H := HA.out
      clear HA
      simp only [spec_DrawGetText.j0] at H
      replace H := Option.bind_eq_some_iff.mp H
      obtain ⟨t632, A160, H⟩ := H
      replace H : ((spec_l1some.f kj5 t612 t627 t628 3).bind fun bt635 => (if t632.length + bt635.1.length < 140737488355328 then ((some (t632 ++ bt635.1 : List Int)).bind fun y640 => ((spec_l1Once.f t612 bt635.2.1 bt635.2.2 9).bind fun bt643 => (if bt643.1 = true then (if 0 ≤ (t616.length : Int) then (if (t616.length : Int) ≤ (y640.length : Int) then ((spec_PutNum.f kj5 (y640.take ((t616.length : Int) : Int).toNat) 41).bind fun t650 => (if t650.length + 41 < 140737488355328 then (spec_DrawGetText.j1 kj5 (t650 ++ List.replicate 41 0) (t616.length : Int) t612 bt643.2.1 bt643.2.2) else (none))) else (none)) else (none)) else (spec_DrawGetText.j1 kj5 y640 (t616.length : Int) t612 bt643.2.1 bt643.2.2)))) else (none))) = some (r1, r2) := H
      have A16 := Aside0.mk A160
      clear A160
      replace H := Option.bind_eq_some_iff.mp H
      obtain ⟨⟨t635, t638, t639⟩, A170, H⟩ := H
      replace H : (if t632.length + t635.length < 140737488355328 then ((some (t632 ++ t635 : List Int)).bind fun y640 => ((spec_l1Once.f t612 t638 t639 9).bind fun bt643 => (if bt643.1 = true then (if 0 ≤ (t616.length : Int) then (if (t616.length : Int) ≤ (y640.length : Int) then ((spec_PutNum.f kj5 (y640.take ((t616.length : Int) : Int).toNat) 41).bind fun t650 => (if t650.length + 41 < 140737488355328 then (spec_DrawGetText.j1 kj5 (t650 ++ List.replicate 41 0) (t616.length : Int) t612 bt643.2.1 bt643.2.2) else (none))) else (none)) else (none)) else (spec_DrawGetText.j1 kj5 y640 (t616.length : Int) t612 bt643.2.1 bt643.2.2)))) else (none)) = some (r1, r2) := H
      have A17 := Aside0.mk A170
      clear A170
      by_cases c18 : t632.length + t635.length < 140737488355328
      · rw [if_pos c18] at H
        have LMc18 := Aside0.mk c18
        clear c18
        obtain ⟨y640, hy640⟩ : ∃ y_ : List Int, y_ = (t632 ++ t635) := ⟨_, rfl⟩
        replace H : ((spec_l1Once.f t612 t638 t639 9).bind fun bt643 => (if bt643.1 = true then (if 0 ≤ (t616.length : Int) then (if (t616.length : Int) ≤ (y640.length : Int) then ((spec_PutNum.f kj5 (y640.take ((t616.length : Int) : Int).toNat) 41).bind fun t650 => (if t650.length + 41 < 140737488355328 then (spec_DrawGetText.j1 kj5 (t650 ++ List.replicate 41 0) (t616.length : Int) t612 bt643.2.1 bt643.2.2) else (none))) else (none)) else (none)) else (spec_DrawGetText.j1 kj5 y640 (t616.length : Int) t612 bt643.2.1 bt643.2.2))) = some (r1, r2) := by first | (rw [hy640]; with_reducible exact H) | (have H2_ := (Option.bind_some _ _).symm.trans H; rw [hy640]; with_reducible exact H2_) | (have H2_ := (Option.bind_some _ _).symm.trans H; with_reducible exact H2_) | with_reducible exact H | (rw [hy640]; exact H) | exact H
        have Ny640 := Aside0.mk hy640
        clear hy640
        replace H := Option.bind_eq_some_iff.mp H
        obtain ⟨⟨t643, t644, t645⟩, A190, H⟩ := H
        replace H : (if t643 = true then (if 0 ≤ (t616.length : Int) then (if (t616.length : Int) ≤ (y640.length : Int) then ((spec_PutNum.f kj5 (y640.take ((t616.length : Int) : Int).toNat) 41).bind fun t650 => (if t650.length + 41 < 140737488355328 then (spec_DrawGetText.j1 kj5 (t650 ++ List.replicate 41 0) (t616.length : Int) t612 t644 t645) else (none))) else (none)) else (none)) else (spec_DrawGetText.j1 kj5 y640 (t616.length : Int) t612 t644 t645)) = some (r1, r2) := H
        have A19 := Aside0.mk A190
        clear A190
        have HC20 := Aside0.mk H
        clear H
        obtain ⟨Ao21, co21, eo21⟩ := Kd.R_slice HO_7.out
        subst eo21
        go_upto_if 26 with (first | ((with_reducible refine gate_callee (f := 32) rfl ?_); refine goesL_ (some 21) rfl rfl Try.func32 (by kernel_rfl) rfl #[.slice Ao9 t616.length co9, .slice Ao21 x7_5.length co21] rfl (by (try simp only [List.map_toArray, List.map_cons, List.map_nil]); first | done | rfl | (simp only [List.length_drop, List.length_take]; rfl)) ?_; (with_reducible refine (spec_PutText.calls kj5 _ _ t616 _ _ x7_5 t632 _ ?side1 ?side2 ?side3 ?side4 A16.out).mono ?_); (case side1 => repeat (first | exact (Kd.R_reads' HO_5.out).2.2 | (with_reducible refine Kd.C_alloc ?_ _) | (with_reducible refine Kd.C_drewN ?_ _) | (with_reducible refine Kd.C_drew ?_))); (case side2 => exact (Kd.R_reads' HO_5.out).2.1); (case side3 => repeat (first | exact (Kd.R_reads' HO_7.out).2.2 | (with_reducible refine Kd.C_alloc ?_ _) | (with_reducible refine Kd.C_drewN ?_ _) | (with_reducible refine Kd.C_drew ?_))); (case side4 => exact (Kd.R_reads' HO_7.out).2.1); rintro e w22 ⟨v633, rfl, ho0, hb⟩; refine ⟨_, rfl, ?_⟩; have n0_ := Aside0.mk (Kd.R_elder' (by (with_reducible repeat (first | apply Kd.R_alloc | apply Kd.R_drewN | apply Kd.R_drew)); exact HO_5.out) (Kd.R_base ho0) hb); have n1_ := Aside0.mk (Kd.R_elder' (by (with_reducible repeat (first | apply Kd.R_alloc | apply Kd.R_drewN | apply Kd.R_drew)); exact HO_7.out) (Kd.R_base ho0) hb); have n2_ := Aside0.mk (Kd.R_lower (Kd.R_new' (Kd.R_new' ho0 (Kd.R_lt (by (with_reducible repeat (first | apply Kd.R_alloc | apply Kd.R_drewN | apply Kd.R_drew)); exact HO_5.out))) (Kd.R_lt (by (with_reducible repeat (first | apply Kd.R_alloc | apply Kd.R_drewN | apply Kd.R_drew)); exact HO_7.out))) (below_size (by repeat (first | (with_reducible first | exact HB.out | apply below_alloc | apply pw_below_drewN | apply below_drew1 | refine below_set ?_ (IsS53.ge HI615.out)) | exact HB.out)))); have n3_ := Aside0.mk (IsS53.below (by repeat (first | (with_reducible first | exact HI615.out | apply IsS53.alloc | apply IsS53.drewN | apply IsS53.drew | apply IsS53.set_1 | apply IsS53.set_2) | exact HI615.out)) hb); have n4_ := Aside0.mk (below_step (by repeat (first | (with_reducible first | exact HB.out | apply below_alloc | apply pw_below_drewN | apply below_drew1 | refine below_set ?_ (IsS53.ge HI615.out)) | exact HB.out)) hb); clear HO_5; clear HO_7; clear HI615; clear HB; have HO_5 := n0_; have HO_7 := n1_; have HO634 := n2_; have HI615 := n3_; have HB := n4_; clear n0_ n1_ n2_ n3_ n4_; (try clear hb); (try clear hb2); (try clear hk); (try clear hi); (try clear ho0)) | ((with_reducible refine gate_callee (f := 48) rfl ?_); refine goesL_ (some 23) rfl rfl Try.func48 (by kernel_rfl) rfl #[.pointer (some ⟨g615, 0, none⟩), .int .i64 3] rfl (by (try simp only [List.map_toArray, List.map_cons, List.map_nil]); first | done | rfl | (simp only [List.length_drop, List.length_take]; rfl)) ?_; (with_reducible refine (spec_l1some.calls kj5 g615 t612 t627 t628 3 t635 t638 t639 w _ ?side1 ?side2 A17.out).mono ?_); (case side1 => repeat (first | (with_reducible first | exact HI615.out | apply IsS53.alloc | apply IsS53.drewN | apply IsS53.drew | apply IsS53.set_1 | apply IsS53.set_2) | exact HI615.out)); (case side2 => repeat (first | (with_reducible first | exact HB.out | apply below_alloc | apply pw_below_drewN | apply below_drew1 | refine below_set ?_ (IsS53.ge HI615.out)) | exact HB.out)); rintro e w23 ⟨v636, rfl, ho0, hi, hb, hk⟩; refine ⟨_, rfl, ?_⟩; have n0_ := Aside0.mk (Kd.R_mono (Kd.R_told (Kd.R_oldK (IsS53.apart (show IsS53 w _ g615 t612 t627 t628 from by repeat (first | (with_reducible first | exact HI615.out | apply IsS53.alloc | apply IsS53.drewN | apply IsS53.drew | apply IsS53.set_1 | apply IsS53.set_2) | exact HI615.out)) (by (with_reducible repeat (first | apply Kd.R_alloc | apply Kd.R_drewN | apply Kd.R_drew)); exact HO_5.out) (by decide)) hk) (Kd.R_base ho0)) (fun _ h_ => h_.1)); have n1_ := Aside0.mk (Kd.R_mono (Kd.R_told (Kd.R_oldK (IsS53.apart (show IsS53 w _ g615 t612 t627 t628 from by repeat (first | (with_reducible first | exact HI615.out | apply IsS53.alloc | apply IsS53.drewN | apply IsS53.drew | apply IsS53.set_1 | apply IsS53.set_2) | exact HI615.out)) (by (with_reducible repeat (first | apply Kd.R_alloc | apply Kd.R_drewN | apply Kd.R_drew)); exact HO_7.out) (by decide)) hk) (Kd.R_base ho0)) (fun _ h_ => h_.1)); have n2_ := Aside0.mk (Kd.R_mono (Kd.R_told (Kd.R_oldK (IsS53.apart (show IsS53 w _ g615 t612 t627 t628 from by repeat (first | (with_reducible first | exact HI615.out | apply IsS53.alloc | apply IsS53.drewN | apply IsS53.drew | apply IsS53.set_1 | apply IsS53.set_2) | exact HI615.out)) (by (with_reducible repeat (first | apply Kd.R_alloc | apply Kd.R_drewN | apply Kd.R_drew)); exact HO634.out) (by decide)) hk) (Kd.R_base ho0)) (fun _ h_ => h_.1)); have n3_ := Aside0.mk (Kd.R_lower (Kd.R_new' (Kd.R_new' (Kd.R_new' ho0 (Kd.R_lt (by (with_reducible repeat (first | apply Kd.R_alloc | apply Kd.R_drewN | apply Kd.R_drew)); exact HO_5.out))) (Kd.R_lt (by (with_reducible repeat (first | apply Kd.R_alloc | apply Kd.R_drewN | apply Kd.R_drew)); exact HO_7.out))) (Kd.R_lt (by (with_reducible repeat (first | apply Kd.R_alloc | apply Kd.R_drewN | apply Kd.R_drew)); exact HO634.out))) (below_size (by repeat (first | (with_reducible first | exact HB.out | apply below_alloc | apply pw_below_drewN | apply below_drew1 | refine below_set ?_ (IsS53.ge HI615.out)) | exact HB.out)))); have n4_ := Aside0.mk (hb); have n5_ := Aside0.mk (hi); clear HO_5; clear HO_7; clear HO634; clear HB; clear HI615; have HO_5 := n0_; have HO_7 := n1_; have HO634 := n2_; have HO637 := n3_; have HB := n4_; have HI615 := n5_; clear n0_ n1_ n2_ n3_ n4_ n5_; (try clear hb); (try clear hb2); (try clear hk); (try clear hi); (try clear ho0); obtain ⟨Ao25, co25, eo25⟩ := Kd.R_slice HO637.out; subst eo25) | ((with_reducible refine gate_builtin (b := .append) (xs := #[.tmp 21, .tmp 23]) rfl ?_); at_builtin; refine Kd.R_append_rows (Kd.int .u8) (w0 := w) w.heap.size rfl (.tmp 21) (.tmp 23) 25 5 (.int .u8 0) 1 rfl Try.underlying25 info5 rfl (by decide) (by omega) v633 t632 t635 _ _ _ (fun k_ => some k_ ≠ (.slice Ao9 t616.length co9 : Value).ownBlock ∧ some k_ ≠ (.slice Ao21 x7_5.length co21 : Value).ownBlock ∧ some k_ ≠ (.slice Ao25 t635.length co25 : Value).ownBlock) (fun _ => False) rfl rfl ?aO ?aR (fun _ _ h => h) (fun _ h => h.elim) ?aF ?aB ?aS ?aL ?_; (case aR => repeat (first | exact (Kd.R_reads' HO637.out).2.2 | (with_reducible refine Kd.C_alloc ?_ _) | (with_reducible refine Kd.C_drewN ?_ _) | (with_reducible refine Kd.C_drew ?_))); (case aB => exact (by repeat (first | (with_reducible first | exact HB.out | apply below_alloc | apply pw_below_drewN | apply below_drew1 | refine below_set ?_ (IsS53.ge HI615.out)) | exact HB.out))); (case aF => exact (fun k_ hk => ⟨Kd.fresh' (Kd.R_lt (by (with_reducible repeat (first | apply Kd.R_alloc | apply Kd.R_drewN | apply Kd.R_drew)); exact HO_5.out)) k_ hk, Kd.fresh' (Kd.R_lt (by (with_reducible repeat (first | apply Kd.R_alloc | apply Kd.R_drewN | apply Kd.R_drew)); exact HO_7.out)) k_ hk, Kd.fresh' (Kd.R_lt (by (with_reducible repeat (first | apply Kd.R_alloc | apply Kd.R_drewN | apply Kd.R_drew)); exact HO637.out)) k_ hk⟩)); (case aO => exact (by (with_reducible repeat (first | apply Kd.R_alloc | apply Kd.R_drewN | apply Kd.R_drew)); exact Kd.R_mono HO634.out (fun _ hk => ⟨hk.1.1.2, ⟨hk.1.2, hk.2⟩⟩))); (case aS => exact (below_size (by repeat (first | (with_reducible first | exact HB.out | apply below_alloc | apply pw_below_drewN | apply below_drew1 | refine below_set ?_ (IsS53.ge HI615.out)) | exact HB.out)))); (case aL => have := LMc18.out; omega); intro v641 w24 ho hb hg hat; (first | (simp only [Int.reduceToNat] at ho; rw [← Ny640.out] at ho) | rw [← Ny640.out] at ho); have n0_ := Aside0.mk (Kd.R_after (ok := (fun k_ => some k_ ≠ (.slice Ao21 x7_5.length co21 : Value).ownBlock ∧ some k_ ≠ (.slice Ao25 t635.length co25 : Value).ownBlock)) (by (with_reducible repeat (first | apply Kd.R_alloc | apply Kd.R_drewN | apply Kd.R_drew)); exact Kd.R_mono HO_5.out (fun _ hk => ⟨⟨hk.1.1, hk.2⟩, hk.1.2⟩)) hg hat); have n1_ := Aside0.mk (Kd.R_after (ok := (fun k_ => some k_ ≠ (.slice Ao9 t616.length co9 : Value).ownBlock ∧ some k_ ≠ (.slice Ao25 t635.length co25 : Value).ownBlock)) (by (with_reducible repeat (first | apply Kd.R_alloc | apply Kd.R_drewN | apply Kd.R_drew)); exact Kd.R_mono HO_7.out (fun _ hk => ⟨⟨hk.1.1, hk.2⟩, hk.1.2⟩)) hg hat); have n2_ := Aside0.mk (IsS53.grown (by repeat (first | (with_reducible first | exact HI615.out | apply IsS53.alloc | apply IsS53.drewN | apply IsS53.drew | apply IsS53.set_1 | apply IsS53.set_2) | exact HI615.out)) hg (IsS53.own_ne HI615.out HO634.out (by decide))); have n3_ := Aside0.mk (Kd.R_after (ok := (fun k_ => some k_ ≠ (.slice Ao9 t616.length co9 : Value).ownBlock ∧ some k_ ≠ (.slice Ao21 x7_5.length co21 : Value).ownBlock)) (by (with_reducible repeat (first | apply Kd.R_alloc | apply Kd.R_drewN | apply Kd.R_drew)); exact Kd.R_mono HO637.out (fun _ hk => ⟨⟨hk.1.1.2, hk.1.2⟩, hk.2⟩)) hg hat); have n4_ := Aside0.mk (hb); have n5_ := Aside0.mk (ho); clear HO_5; clear HO_7; clear HI615; clear HO637; clear HB; clear HO634; have HO_5 := n0_; have HO_7 := n1_; have HI615 := n2_; have HO637 := n3_; have HB := n4_; have HO642 := n5_; clear n0_ n1_ n2_ n3_ n4_ n5_; clear ho hb hg hat) | ((with_reducible refine gate_callee (f := 43) rfl ?_); refine goesL_ (some 26) rfl rfl Try.func43 (by kernel_rfl) rfl #[.pointer (some ⟨g615, 0, none⟩), .int .i64 9] rfl (by (try simp only [List.map_toArray, List.map_cons, List.map_nil]); first | done | rfl | (simp only [List.length_drop, List.length_take]; rfl)) ?_; (with_reducible refine (spec_l1Once.calls g615 t612 t638 t639 9 t643 t644 t645 w _ ?side1 ?side2 A19.out).mono ?_); (case side1 => repeat (first | (with_reducible first | exact HI615.out | apply IsS53.alloc | apply IsS53.drewN | apply IsS53.drew | apply IsS53.set_1 | apply IsS53.set_2) | exact HI615.out)); (case side2 => repeat (first | (with_reducible first | exact HB.out | apply below_alloc | apply pw_below_drewN | apply below_drew1 | refine below_set ?_ (IsS53.ge HI615.out)) | exact HB.out)); rintro e w26 ⟨rfl, hi, hb, hk⟩; refine ⟨_, rfl, ?_⟩; have n0_ := Aside0.mk (Kd.R_mono (Kd.R_keep (IsS53.apart (show IsS53 w _ g615 t612 t638 t639 from by repeat (first | (with_reducible first | exact HI615.out | apply IsS53.alloc | apply IsS53.drewN | apply IsS53.drew | apply IsS53.set_1 | apply IsS53.set_2) | exact HI615.out)) (by (with_reducible repeat (first | apply Kd.R_alloc | apply Kd.R_drewN | apply Kd.R_drew)); exact HO_5.out) (by decide)) hk (fun _ h => h.2)) (fun _ h => h.1)); have n1_ := Aside0.mk (Kd.R_mono (Kd.R_keep (IsS53.apart (show IsS53 w _ g615 t612 t638 t639 from by repeat (first | (with_reducible first | exact HI615.out | apply IsS53.alloc | apply IsS53.drewN | apply IsS53.drew | apply IsS53.set_1 | apply IsS53.set_2) | exact HI615.out)) (by (with_reducible repeat (first | apply Kd.R_alloc | apply Kd.R_drewN | apply Kd.R_drew)); exact HO_7.out) (by decide)) hk (fun _ h => h.2)) (fun _ h => h.1)); have n2_ := Aside0.mk (Kd.R_mono (Kd.R_keep (IsS53.apart (show IsS53 w _ g615 t612 t638 t639 from by repeat (first | (with_reducible first | exact HI615.out | apply IsS53.alloc | apply IsS53.drewN | apply IsS53.drew | apply IsS53.set_1 | apply IsS53.set_2) | exact HI615.out)) (by (with_reducible repeat (first | apply Kd.R_alloc | apply Kd.R_drewN | apply Kd.R_drew)); exact HO637.out) (by decide)) hk (fun _ h => h.2)) (fun _ h => h.1)); have n3_ := Aside0.mk (Kd.R_mono (Kd.R_keep (IsS53.apart (show IsS53 w _ g615 t612 t638 t639 from by repeat (first | (with_reducible first | exact HI615.out | apply IsS53.alloc | apply IsS53.drewN | apply IsS53.drew | apply IsS53.set_1 | apply IsS53.set_2) | exact HI615.out)) (by (with_reducible repeat (first | apply Kd.R_alloc | apply Kd.R_drewN | apply Kd.R_drew)); exact HO642.out) (by decide)) hk (fun _ h => h.2)) (fun _ h => h.1)); have n4_ := Aside0.mk (hb); have n5_ := Aside0.mk (hi); clear HO_5; clear HO_7; clear HO637; clear HO642; clear HB; clear HI615; have HO_5 := n0_; have HO_7 := n1_; have HO637 := n2_; have HO642 := n3_; have HB := n4_; have HI615 := n5_; clear n0_ n1_ n2_ n3_ n4_ n5_; (try clear hb); (try clear hb2); (try clear hk); (try clear hi)))
        (try simp only [Act.put, List.setIfInBounds_toArray, List.set_cons_zero, List.set_cons_succ])
        go_cut [5] (fun v5 wc => ∃ (kq : Nat) (x5_19 : List Int), Aside0 (spec_DrawGetText.j1 kq x5_19 (t616.length : Int) t612 t644 t645 = some (r1, r2)) ∧ Aside0 (kq ≤ kj5) ∧ Aside0 (Kd.R (Kd.int .u8) 5 wc w.heap.size (fun _ => True) v5 x5_19) ∧ Aside0 (IsS53 w wc g615 t612 t644 t645) ∧ Aside0 (Below w.heap.size w wc))
        case first =>
          have H := HC20.out
          clear HC20
          by_cases c27 : t643 = true
          · subst c27
            have H1 : (if 0 ≤ (t616.length : Int) then (if (t616.length : Int) ≤ (y640.length : Int) then ((spec_PutNum.f kj5 (y640.take ((t616.length : Int) : Int).toNat) 41).bind fun t650 => (if t650.length + 41 < 140737488355328 then (spec_DrawGetText.j1 kj5 (t650 ++ List.replicate 41 0) (t616.length : Int) t612 t644 t645) else (none))) else (none)) else (none)) = some (r1, r2) := by rw [if_pos rfl] at H; exact H
            clear H
            have H := H1
            clear H1
            by_cases c28 : 0 ≤ (t616.length : Int)
            · rw [if_pos c28] at H
              have c28b0 := eq_true c28
              have c28b1 : decide (0 ≤ (t616.length : Int)) = true := decide_eq_true c28
              clear c28
              by_cases c29 : (t616.length : Int) ≤ (y640.length : Int)
              · rw [if_pos c29] at H
                have c29b0 := eq_true c29
                have c29b1 : decide ((t616.length : Int) ≤ (y640.length : Int)) = true := decide_eq_true c29
                clear c29
                obtain ⟨y646, hy646⟩ : ∃ y_ : List Int, y_ = (y640.take ((t616.length : Int) : Int).toNat) := ⟨_, rfl⟩
                replace H : ((spec_PutNum.f kj5 y646 41).bind fun t650 => (if t650.length + 41 < 140737488355328 then (spec_DrawGetText.j1 kj5 (t650 ++ List.replicate 41 0) (t616.length : Int) t612 t644 t645) else (none))) = some (r1, r2) := by first | (rw [hy646]; with_reducible exact H) | (have H2_ := (Option.bind_some _ _).symm.trans H; rw [hy646]; with_reducible exact H2_) | (have H2_ := (Option.bind_some _ _).symm.trans H; with_reducible exact H2_) | with_reducible exact H | (rw [hy646]; exact H) | exact H
                have Ny646 := Aside0.mk hy646
                clear hy646
                replace H := Option.bind_eq_some_iff.mp H
                obtain ⟨t650, A300, H⟩ := H
                replace H : (if t650.length + 41 < 140737488355328 then (spec_DrawGetText.j1 kj5 (t650 ++ List.replicate 41 0) (t616.length : Int) t612 t644 t645) else (none)) = some (r1, r2) := H
                have A30 := Aside0.mk A300
                clear A300
                by_cases c31 : t650.length + 41 < 140737488355328
                · rw [if_pos c31] at H
                  have LMc31 := Aside0.mk c31
                  clear c31
                  obtain ⟨y653, hy653⟩ : ∃ y_ : List Int, y_ = (t650 ++ List.replicate 41 0) := ⟨_, rfl⟩
                  replace H : (spec_DrawGetText.j1 kj5 y653 (t616.length : Int) t612 t644 t645) = some (r1, r2) := by first | (rw [hy653]; with_reducible exact H) | (have H2_ := (Option.bind_some _ _).symm.trans H; rw [hy653]; with_reducible exact H2_) | (have H2_ := (Option.bind_some _ _).symm.trans H; with_reducible exact H2_) | with_reducible exact H | (rw [hy653]; exact H) | exact H
                  have Ny653 := Aside0.mk hy653
                  clear hy653
                  have H' := Aside0.mk H
                  clear H
                  obtain ⟨Ao33, co33, eo33⟩ := Kd.R_slice HO642.out
                  subst eo33
                  have q32 : ((t616.length : Int) : Int) ≤ ((y640.length : Int) : Int) := of_decide_eq_true (by first | (with_reducible assumption) | assumption)
                  obtain ⟨i032, hi032, _, hsz32, _⟩ := info_parts info5
                  have hroom32 : y640.length ≤ co33 := (Kd.R_reads' HO642.out).2.1
                  have hC32 : Kd.C (Kd.int .u8) _ Ao33 y640.length y640 := (Kd.R_reads' HO642.out).2.2
                  have hcut32 := cut_to (P := Try.prog) 25 5 .i64 Try.underlying25 hi032 Ao33 y640.length co33 (t616.length : Int) (of_decide_eq_true (by first | (with_reducible assumption) | assumption)) q32 hroom32
                  have hr32 := Kd.C_take (m := ((t616.length : Int) : Int).toNat) hC32 (by omega)
                  have hy32 : y646.length = ((t616.length : Int) : Int).toNat := (by rw [Ny646.out, List.length_take]; omega)
                  rw [← Ny646.out] at hr32
                  rw [← hy32] at hcut32
                  have HR649 := Aside0.mk hr32
                  have HC649 := Aside0.mk (show y646.length ≤ co33 from by omega)
                  clear hr32 hC32 hroom32 hi032 hsz32
                  have KY32 := Aside0.mk hy32
                  clear hy32
                  have KL32 := Aside0.mk (show ((t616.length : Int) : Int).toNat ≤ y640.length from by omega)
                  replace q32 := eq_true q32
                  go_wp2_with (first | ((with_reducible refine gate_callee (f := 27) rfl ?_); refine goesL_ (some 30) rfl rfl Try.func27 (by kernel_rfl) rfl #[.slice Ao33 y646.length co33, .int .i64 41] rfl (by (try simp only [List.map_toArray, List.map_cons, List.map_nil]); first | done | rfl | (simp only [List.length_drop, List.length_take]; rfl)) ?_; (with_reducible refine (spec_PutNum.calls kj5 _ _ y646 41 t650 _ ?side1 ?side2 A30.out).mono ?_); (case side1 => repeat (first | exact (by repeat (first | (with_reducible exact HR649.out) | (with_reducible refine Kd.C_alloc ?_ _) | (with_reducible refine Kd.C_drewN ?_ _) | (with_reducible refine Kd.C_drew ?_) | exact HR649.out)) | (with_reducible refine Kd.C_alloc ?_ _) | (with_reducible refine Kd.C_drewN ?_ _) | (with_reducible refine Kd.C_drew ?_))); (case side2 => exact HC649.out); rintro e w34 ⟨v651, rfl, ho0, hb⟩; refine ⟨_, rfl, ?_⟩; have n0_ := Aside0.mk (Kd.R_elder' (by (with_reducible repeat (first | apply Kd.R_alloc | apply Kd.R_drewN | apply Kd.R_drew)); exact HO_5.out) (Kd.R_base ho0) hb); have n1_ := Aside0.mk (Kd.R_elder' (by (with_reducible repeat (first | apply Kd.R_alloc | apply Kd.R_drewN | apply Kd.R_drew)); exact HO_7.out) (Kd.R_base ho0) hb); have n2_ := Aside0.mk (Kd.R_elder' (by (with_reducible repeat (first | apply Kd.R_alloc | apply Kd.R_drewN | apply Kd.R_drew)); exact HO637.out) (Kd.R_base ho0) hb); have n3_ := Aside0.mk (Kd.R_elder' (by (with_reducible repeat (first | apply Kd.R_alloc | apply Kd.R_drewN | apply Kd.R_drew)); exact HO642.out) (Kd.R_base ho0) hb); have n4_ := Aside0.mk (Kd.R_lower (Kd.R_new' (Kd.R_new' (Kd.R_new' (Kd.R_new' ho0 (Kd.R_lt (by (with_reducible repeat (first | apply Kd.R_alloc | apply Kd.R_drewN | apply Kd.R_drew)); exact HO_5.out))) (Kd.R_lt (by (with_reducible repeat (first | apply Kd.R_alloc | apply Kd.R_drewN | apply Kd.R_drew)); exact HO_7.out))) (Kd.R_lt (by (with_reducible repeat (first | apply Kd.R_alloc | apply Kd.R_drewN | apply Kd.R_drew)); exact HO637.out))) (Kd.R_lt (by (with_reducible repeat (first | apply Kd.R_alloc | apply Kd.R_drewN | apply Kd.R_drew)); exact HO642.out))) (below_size (by repeat (first | (with_reducible first | exact HB.out | apply below_alloc | apply pw_below_drewN | apply below_drew1 | refine below_set ?_ (IsS53.ge HI615.out)) | exact HB.out)))); have n5_ := Aside0.mk (IsS53.below (by repeat (first | (with_reducible first | exact HI615.out | apply IsS53.alloc | apply IsS53.drewN | apply IsS53.drew | apply IsS53.set_1 | apply IsS53.set_2) | exact HI615.out)) hb); have n6_ := Aside0.mk (Kd.C_below (by repeat (first | (with_reducible exact HR649.out) | (with_reducible refine Kd.C_alloc ?_ _) | (with_reducible refine Kd.C_drewN ?_ _) | (with_reducible refine Kd.C_drew ?_) | exact HR649.out)) hb); have n7_ := Aside0.mk (below_step (by repeat (first | (with_reducible first | exact HB.out | apply below_alloc | apply pw_below_drewN | apply below_drew1 | refine below_set ?_ (IsS53.ge HI615.out)) | exact HB.out)) hb); clear HO_5; clear HO_7; clear HO637; clear HO642; clear HI615; clear HR649; clear HB; have HO_5 := n0_; have HO_7 := n1_; have HO637 := n2_; have HO642 := n3_; have HO652 := n4_; have HI615 := n5_; have HR649 := n6_; have HB := n7_; clear n0_ n1_ n2_ n3_ n4_ n5_ n6_ n7_; (try clear hb); (try clear hb2); (try clear hk); (try clear hi); (try clear ho0)) | (at_builtin; refine Kd.R_append_zeros (Kd.int .u8) (w0 := w) w.heap.size rfl (.tmp 30) (.const (.int .i64 41)) 25 3 5 (.int .u8 0) 1 rfl Try.underlying25 Try.underlying3 info5 rfl (by decide) (by omega) v651 t650 0 (41 : Int) (fun k_ => some k_ ≠ (.slice Ao9 t616.length co9 : Value).ownBlock ∧ some k_ ≠ (.slice Ao21 x7_5.length co21 : Value).ownBlock ∧ some k_ ≠ (.slice Ao25 t635.length co25 : Value).ownBlock ∧ some k_ ≠ (.slice Ao33 y640.length co33 : Value).ownBlock) rfl rfl rfl ?aF ?aO (by omega) ?aB ?aS ?aL ?_; (case aB => exact (by repeat (first | (with_reducible first | exact HB.out | apply below_alloc | apply pw_below_drewN | apply below_drew1 | refine below_set ?_ (IsS53.ge HI615.out)) | exact HB.out))); (case aF => exact (fun k_ hk => ⟨Kd.fresh' (Kd.R_lt (by (with_reducible repeat (first | apply Kd.R_alloc | apply Kd.R_drewN | apply Kd.R_drew)); exact HO_5.out)) k_ hk, Kd.fresh' (Kd.R_lt (by (with_reducible repeat (first | apply Kd.R_alloc | apply Kd.R_drewN | apply Kd.R_drew)); exact HO_7.out)) k_ hk, Kd.fresh' (Kd.R_lt (by (with_reducible repeat (first | apply Kd.R_alloc | apply Kd.R_drewN | apply Kd.R_drew)); exact HO637.out)) k_ hk, Kd.fresh' (Kd.R_lt (by (with_reducible repeat (first | apply Kd.R_alloc | apply Kd.R_drewN | apply Kd.R_drew)); exact HO642.out)) k_ hk⟩)); (case aO => exact (by (with_reducible repeat (first | apply Kd.R_alloc | apply Kd.R_drewN | apply Kd.R_drew)); exact Kd.R_mono HO652.out (fun _ hk => ⟨hk.1.1.1.2, ⟨hk.1.1.2, ⟨hk.1.2, hk.2⟩⟩⟩))); (case aS => exact (below_size (by repeat (first | (with_reducible first | exact HB.out | apply below_alloc | apply pw_below_drewN | apply below_drew1 | refine below_set ?_ (IsS53.ge HI615.out)) | exact HB.out)))); (case aL => have := LMc31.out; omega); intro v654 w35 ho hb hg hat; (first | (simp only [Int.reduceToNat] at ho; rw [← Ny653.out] at ho) | rw [← Ny653.out] at ho); have n0_ := Aside0.mk (Kd.R_after (ok := (fun k_ => some k_ ≠ (.slice Ao21 x7_5.length co21 : Value).ownBlock ∧ some k_ ≠ (.slice Ao25 t635.length co25 : Value).ownBlock ∧ some k_ ≠ (.slice Ao33 y640.length co33 : Value).ownBlock)) (by (with_reducible repeat (first | apply Kd.R_alloc | apply Kd.R_drewN | apply Kd.R_drew)); exact Kd.R_mono HO_5.out (fun _ hk => ⟨⟨hk.1.1.1, ⟨hk.1.1.2, hk.1.2⟩⟩, hk.2⟩)) hg hat); have n1_ := Aside0.mk (Kd.R_after (ok := (fun k_ => some k_ ≠ (.slice Ao9 t616.length co9 : Value).ownBlock ∧ some k_ ≠ (.slice Ao25 t635.length co25 : Value).ownBlock ∧ some k_ ≠ (.slice Ao33 y640.length co33 : Value).ownBlock)) (by (with_reducible repeat (first | apply Kd.R_alloc | apply Kd.R_drewN | apply Kd.R_drew)); exact Kd.R_mono HO_7.out (fun _ hk => ⟨⟨hk.1.1.1, ⟨hk.1.1.2, hk.1.2⟩⟩, hk.2⟩)) hg hat); have n2_ := Aside0.mk (IsS53.grown (by repeat (first | (with_reducible first | exact HI615.out | apply IsS53.alloc | apply IsS53.drewN | apply IsS53.drew | apply IsS53.set_1 | apply IsS53.set_2) | exact HI615.out)) hg (IsS53.own_ne HI615.out HO652.out (by decide))); have n3_ := Aside0.mk (Kd.R_after (ok := (fun k_ => some k_ ≠ (.slice Ao9 t616.length co9 : Value).ownBlock ∧ some k_ ≠ (.slice Ao21 x7_5.length co21 : Value).ownBlock ∧ some k_ ≠ (.slice Ao33 y640.length co33 : Value).ownBlock)) (by (with_reducible repeat (first | apply Kd.R_alloc | apply Kd.R_drewN | apply Kd.R_drew)); exact Kd.R_mono HO637.out (fun _ hk => ⟨⟨hk.1.1.1, ⟨hk.1.1.2, hk.1.2⟩⟩, hk.2⟩)) hg hat); have n4_ := Aside0.mk (Kd.R_after (ok := (fun k_ => some k_ ≠ (.slice Ao9 t616.length co9 : Value).ownBlock ∧ some k_ ≠ (.slice Ao21 x7_5.length co21 : Value).ownBlock ∧ some k_ ≠ (.slice Ao25 t635.length co25 : Value).ownBlock)) (by (with_reducible repeat (first | apply Kd.R_alloc | apply Kd.R_drewN | apply Kd.R_drew)); exact HO642.out) hg hat); have n5_ := Aside0.mk (hb); have n6_ := Aside0.mk ((show Kd.C (Kd.int .u8) w35 Ao33 y646.length y646 from by rw [Ny646.out]; exact Kd.C_take (m := ((t616.length : Int) : Int).toNat) ((Kd.R_reads' (Kd.R_after (ok := (fun k_ => some k_ ≠ (.slice Ao9 t616.length co9 : Value).ownBlock ∧ some k_ ≠ (.slice Ao21 x7_5.length co21 : Value).ownBlock ∧ some k_ ≠ (.slice Ao25 t635.length co25 : Value).ownBlock)) (by (with_reducible repeat (first | apply Kd.R_alloc | apply Kd.R_drewN | apply Kd.R_drew)); exact HO642.out) hg hat)).2.2) KL32.out)); have n7_ := Aside0.mk (ho); clear HO_5; clear HO_7; clear HI615; clear HO637; clear HO642; clear HB; clear HR649; clear HO652; have HO_5 := n0_; have HO_7 := n1_; have HI615 := n2_; have HO637 := n3_; have HO642 := n4_; have HB := n5_; have HR649 := n6_; have HO655 := n7_; clear n0_ n1_ n2_ n3_ n4_ n5_ n6_ n7_; clear ho hb hg hat))
                  go_meet
                  case rel => exact ⟨_, (y653), H', ⟨by have := HJ5.out; first | omega | exact Nat.le_refl _⟩, ⟨by (with_reducible repeat (first | apply Kd.R_alloc | apply Kd.R_drewN | apply Kd.R_drew)); exact Kd.R_mono HO655.out (fun _ hk => trivial)⟩, ⟨by repeat (first | (with_reducible first | exact HI615.out | apply IsS53.alloc | apply IsS53.drewN | apply IsS53.drew | apply IsS53.set_1 | apply IsS53.set_2) | exact HI615.out)⟩, ⟨by repeat (first | (with_reducible first | exact HB.out | apply below_alloc | apply pw_below_drewN | apply below_drew1 | refine below_set ?_ (IsS53.ge HI615.out)) | exact HB.out)⟩⟩
                · rw [if_neg c31] at H
                  exact absurd H (by simp)
              · rw [if_neg c29] at H
                exact absurd H (by simp)
            · rw [if_neg c28] at H
              exact absurd H (by simp)
          · replace c27 := Bool.eq_false_iff.mpr c27
            subst c27
            have H1 : (spec_DrawGetText.j1 kj5 y640 (t616.length : Int) t612 t644 t645) = some (r1, r2) := by rw [if_neg (show ¬ (false = true) by decide)] at H; exact H
            clear H
            have H := H1
            clear H1
            have H' := Aside0.mk H
            clear H
            go_wp2
            go_meet
            case rel => exact ⟨_, (y640), H', ⟨by have := HJ5.out; first | omega | exact Nat.le_refl _⟩, ⟨by (with_reducible repeat (first | apply Kd.R_alloc | apply Kd.R_drewN | apply Kd.R_drew)); exact Kd.R_mono HO642.out (fun _ hk => trivial)⟩, ⟨by repeat (first | (with_reducible first | exact HI615.out | apply IsS53.alloc | apply IsS53.drewN | apply IsS53.drew | apply IsS53.set_1 | apply IsS53.set_2) | exact HI615.out)⟩, ⟨by repeat (first | (with_reducible first | exact HB.out | apply below_alloc | apply pw_below_drewN | apply below_drew1 | refine below_set ?_ (IsS53.ge HI615.out)) | exact HB.out)⟩⟩
        case rest =>
          clear HC20
          try clear c1
          try clear c2
          try clear p2
          try clear c3
          try clear q3
          try clear c4
          try clear c12
          try clear c13
          try clear c13b0
          try clear c13b1
          try clear c18
          try clear c27
          try clear c28
          try clear c28b0
          try clear c28b1
          try clear c29
          try clear c29b0
          try clear c29b1
          try clear c31
          try clear c32
          try clear q32
          try clear p2
          try clear q32
          obtain ⟨kq, x5_19, HA, HJ19, HO_5, HI615, HB⟩ := hcut
          cases kq with
          | zero => exact absurd HA.out (by simp [spec_DrawGetText.j1])
          | succ kj19 =>
            have H := HA.out
            clear HA
            simp only [spec_DrawGetText.j1] at H
            replace H := Option.bind_eq_some_iff.mp H
            obtain ⟨⟨t656, t657, t658⟩, A360, H⟩ := H
            replace H : (if t656 = true then ((spec_l1spoil.f t612 t657 t658 x5_19).bind fun bt659 => (spec_DrawGetText.j2 kj19 bt659.1 (t616.length : Int) t612 bt659.2.1 bt659.2.2)) else (spec_DrawGetText.j2 kj19 x5_19 (t616.length : Int) t612 t657 t658)) = some (r1, r2) := H
            have A36 := Aside0.mk A360
            clear A360
            have HC37 := Aside0.mk H
            clear H
            go_upto_if 33 with (first | ((with_reducible refine gate_callee (f := 43) rfl ?_); refine goesL_ (some 33) rfl rfl Try.func43 (by kernel_rfl) rfl #[.pointer (some ⟨g615, 0, none⟩), .int .i64 3] rfl (by (try simp only [List.map_toArray, List.map_cons, List.map_nil]); first | done | rfl | (simp only [List.length_drop, List.length_take]; rfl)) ?_; (with_reducible refine (spec_l1Once.calls g615 t612 t644 t645 3 t656 t657 t658 w _ ?side1 ?side2 A36.out).mono ?_); (case side1 => repeat (first | (with_reducible first | exact HI615.out | apply IsS53.alloc | apply IsS53.drewN | apply IsS53.drew | apply IsS53.set_1 | apply IsS53.set_2) | exact HI615.out)); (case side2 => repeat (first | (with_reducible first | exact HB.out | apply below_alloc | apply pw_below_drewN | apply below_drew1 | refine below_set ?_ (IsS53.ge HI615.out)) | exact HB.out)); rintro e w38 ⟨rfl, hi, hb, hk⟩; refine ⟨_, rfl, ?_⟩; have n0_ := Aside0.mk (Kd.R_mono (Kd.R_keep (IsS53.apart (show IsS53 w _ g615 t612 t644 t645 from by repeat (first | (with_reducible first | exact HI615.out | apply IsS53.alloc | apply IsS53.drewN | apply IsS53.drew | apply IsS53.set_1 | apply IsS53.set_2) | exact HI615.out)) (by (with_reducible repeat (first | apply Kd.R_alloc | apply Kd.R_drewN | apply Kd.R_drew)); exact HO_5.out) (by decide)) hk (fun _ h => h.2)) (fun _ h => h.1)); have n1_ := Aside0.mk (hb); have n2_ := Aside0.mk (hi); clear HO_5; clear HB; clear HI615; have HO_5 := n0_; have HB := n1_; have HI615 := n2_; clear n0_ n1_ n2_; (try clear hb); (try clear hb2); (try clear hk); (try clear hi)))
            (try simp only [Act.put, List.setIfInBounds_toArray, List.set_cons_zero, List.set_cons_succ])
            go_cut [5] (fun v5 wc => ∃ (kq : Nat) (x5_36 : List Int) (x616001_36 : Int) (x616002_36 : Int), Aside0 (spec_DrawGetText.j2 kq x5_36 (t616.length : Int) t612 x616001_36 x616002_36 = some (r1, r2)) ∧ Aside0 (kq ≤ kj19) ∧ Aside0 (Kd.R (Kd.int .u8) 5 wc w.heap.size (fun _ => True) v5 x5_36) ∧ Aside0 (IsS53 w wc g615 t612 x616001_36 x616002_36) ∧ Aside0 (Below w.heap.size w wc))
            case first =>
              have H := HC37.out
              clear HC37
              by_cases c39 : t656 = true
              · subst c39
                have H1 : ((spec_l1spoil.f t612 t657 t658 x5_19).bind fun bt659 => (spec_DrawGetText.j2 kj19 bt659.1 (t616.length : Int) t612 bt659.2.1 bt659.2.2)) = some (r1, r2) := by rw [if_pos rfl] at H; exact H
                clear H
                have H := H1
                clear H1
                replace H := Option.bind_eq_some_iff.mp H
                obtain ⟨⟨t659, t662, t663⟩, A400, H⟩ := H
                replace H : (spec_DrawGetText.j2 kj19 t659 (t616.length : Int) t612 t662 t663) = some (r1, r2) := H
                have A40 := Aside0.mk A400
                clear A400
                have H' := Aside0.mk H
                clear H
                obtain ⟨Ao41, co41, eo41⟩ := Kd.R_slice HO_5.out
                subst eo41
                go_wp2_with (first | ((with_reducible refine gate_callee (f := 49) rfl ?_); refine goesL_ (some 36) rfl rfl Try.func49 (by kernel_rfl) rfl #[.pointer (some ⟨g615, 0, none⟩), .slice Ao41 x5_19.length co41] rfl (by (try simp only [List.map_toArray, List.map_cons, List.map_nil]); first | done | rfl | (simp only [List.length_drop, List.length_take]; rfl)) ?_; (with_reducible refine (spec_l1spoil.calls g615 t612 t657 t658 _ _ x5_19 t659 t662 t663 w _ ?side1 ?side2 ?side3 ?side4 ?side5 A40.out).mono ?_); (case side1 => repeat (first | (with_reducible first | exact HI615.out | apply IsS53.alloc | apply IsS53.drewN | apply IsS53.drew | apply IsS53.set_1 | apply IsS53.set_2) | exact HI615.out)); (case side2 => repeat (first | (with_reducible first | exact HB.out | apply below_alloc | apply pw_below_drewN | apply below_drew1 | refine below_set ?_ (IsS53.ge HI615.out)) | exact HB.out)); (case side3 => repeat (first | exact (Kd.R_reads' HO_5.out).2.2 | (with_reducible refine Kd.C_alloc ?_ _) | (with_reducible refine Kd.C_drewN ?_ _) | (with_reducible refine Kd.C_drew ?_))); (case side4 => exact (Kd.R_reads' HO_5.out).2.1); (case side5 => exact far_slice (IsS53.own_ne HI615.out HO_5.out (by decide))); rintro e w42 ⟨v660, rfl, ho0, hi, hb, hk⟩; refine ⟨_, rfl, ?_⟩; have n0_ := Aside0.mk (Kd.R_mono (Kd.R_told (Kd.R_oldK (IsS53.apart (show IsS53 w _ g615 t612 t657 t658 from by repeat (first | (with_reducible first | exact HI615.out | apply IsS53.alloc | apply IsS53.drewN | apply IsS53.drew | apply IsS53.set_1 | apply IsS53.set_2) | exact HI615.out)) (by (with_reducible repeat (first | apply Kd.R_alloc | apply Kd.R_drewN | apply Kd.R_drew)); exact HO_5.out) (by decide)) hk) (Kd.R_base ho0)) (fun _ h_ => h_.1)); have n1_ := Aside0.mk (Kd.R_lower (Kd.R_new' ho0 (Kd.R_lt (by (with_reducible repeat (first | apply Kd.R_alloc | apply Kd.R_drewN | apply Kd.R_drew)); exact HO_5.out))) (below_size (by repeat (first | (with_reducible first | exact HB.out | apply below_alloc | apply pw_below_drewN | apply below_drew1 | refine below_set ?_ (IsS53.ge HI615.out)) | exact HB.out)))); have n2_ := Aside0.mk (hb); have n3_ := Aside0.mk (hi); clear HO_5; clear HB; clear HI615; have HO_5 := n0_; have HO661 := n1_; have HB := n2_; have HI615 := n3_; clear n0_ n1_ n2_ n3_; (try clear hb); (try clear hb2); (try clear hk); (try clear hi); (try clear ho0)))
                go_meet
                case rel => exact ⟨_, (t659), (t662), (t663), H', ⟨by have := HJ5.out; have := HJ19.out; first | omega | exact Nat.le_refl _⟩, ⟨by (with_reducible repeat (first | apply Kd.R_alloc | apply Kd.R_drewN | apply Kd.R_drew)); exact Kd.R_mono HO661.out (fun _ hk => trivial)⟩, ⟨by repeat (first | (with_reducible first | exact HI615.out | apply IsS53.alloc | apply IsS53.drewN | apply IsS53.drew | apply IsS53.set_1 | apply IsS53.set_2) | exact HI615.out)⟩, ⟨by repeat (first | (with_reducible first | exact HB.out | apply below_alloc | apply pw_below_drewN | apply below_drew1 | refine below_set ?_ (IsS53.ge HI615.out)) | exact HB.out)⟩⟩
              · replace c39 := Bool.eq_false_iff.mpr c39
                subst c39
                have H1 : (spec_DrawGetText.j2 kj19 x5_19 (t616.length : Int) t612 t657 t658) = some (r1, r2) := by rw [if_neg (show ¬ (false = true) by decide)] at H; exact H
                clear H
                have H := H1
                clear H1
                have H' := Aside0.mk H
                clear H
                go_wp2
                go_meet
                case rel => exact ⟨_, (x5_19), (t657), (t658), H', ⟨by have := HJ5.out; have := HJ19.out; first | omega | exact Nat.le_refl _⟩, ⟨by (with_reducible repeat (first | apply Kd.R_alloc | apply Kd.R_drewN | apply Kd.R_drew)); exact HO_5.out⟩, ⟨by repeat (first | (with_reducible first | exact HI615.out | apply IsS53.alloc | apply IsS53.drewN | apply IsS53.drew | apply IsS53.set_1 | apply IsS53.set_2) | exact HI615.out)⟩, ⟨by repeat (first | (with_reducible first | exact HB.out | apply below_alloc | apply pw_below_drewN | apply below_drew1 | refine below_set ?_ (IsS53.ge HI615.out)) | exact HB.out)⟩⟩
            case rest =>
              clear HC37
              try clear c1
              try clear c2
              try clear p2
              try clear c3
              try clear q3
              try clear c4
              try clear c12
              try clear c13
              try clear c13b0
              try clear c13b1
              try clear c18
              try clear c27
              try clear c28
              try clear c28b0
              try clear c28b1
              try clear c29
              try clear c29b0
              try clear c29b1
              try clear c31
              try clear c32
              try clear q32
              try clear c39
              try clear c40
              try clear c42
              try clear p2
              try clear q3
              try clear q32
              obtain ⟨kq, x5_36, x616001_36, x616002_36, HA, HJ36, HO_5, HI615, HB⟩ := hcut
              cases kq with
              | zero => exact absurd HA.out (by simp [spec_DrawGetText.j2])
              | succ kj36 =>
                have H := HA.out
                clear HA
                simp only [spec_DrawGetText.j2] at H
                replace H := Option.bind_eq_some_iff.mp H
                obtain ⟨⟨t664, t665, t666⟩, A430, H⟩ := H
                replace H : (if t664 = true then ((spec_l1PickInt.f t612 t665 t666 (([(-1), 0, (x5_36.length : Int), 4611686018427387904] : List Int))).bind fun bt670 => (some (x5_36, bt670.1))) else (some (x5_36, (t616.length : Int)))) = some (r1, r2) := H
                have A43 := Aside0.mk A430
                clear A430
                by_cases c44 : t664 = true
                · subst c44
                  have H1 : ((spec_l1PickInt.f t612 t665 t666 (([(-1), 0, (x5_36.length : Int), 4611686018427387904] : List Int))).bind fun bt670 => (some (x5_36, bt670.1))) = some (r1, r2) := by rw [if_pos rfl] at H; exact H
                  clear H
                  have H := H1
                  clear H1
                  obtain ⟨y667, hy667⟩ : ∃ y_ : List Int, y_ = (([(-1), 0, (x5_36.length : Int), 4611686018427387904] : List Int)) := ⟨_, rfl⟩
                  replace H : ((spec_l1PickInt.f t612 t665 t666 y667).bind fun bt670 => (some (x5_36, bt670.1))) = some (r1, r2) := by first | (rw [hy667]; with_reducible exact H) | (have H2_ := (Option.bind_some _ _).symm.trans H; rw [hy667]; with_reducible exact H2_) | (have H2_ := (Option.bind_some _ _).symm.trans H; with_reducible exact H2_) | with_reducible exact H | (rw [hy667]; exact H) | exact H
                  have Ny667 := Aside0.mk hy667
                  clear hy667
                  replace H := Option.bind_eq_some_iff.mp H
                  obtain ⟨⟨t670, t671, t672⟩, A450, H⟩ := H
                  replace H : (some (x5_36, t670)) = some (r1, r2) := H
                  have A45 := Aside0.mk A450
                  clear A450
                  simp only [Option.some.injEq, Prod.mk.injEq] at H
                  obtain ⟨rfl, rfl⟩ := H
                  go_wp2_with (first | ((with_reducible refine gate_callee (f := 43) rfl ?_); refine goesL_ (some 38) rfl rfl Try.func43 (by kernel_rfl) rfl #[.pointer (some ⟨g615, 0, none⟩), .int .i64 8] rfl (by (try simp only [List.map_toArray, List.map_cons, List.map_nil]); first | done | rfl | (simp only [List.length_drop, List.length_take]; rfl)) ?_; (with_reducible refine (spec_l1Once.calls g615 t612 x616001_36 x616002_36 8 true t665 t666 w _ ?side1 ?side2 A43.out).mono ?_); (case side1 => repeat (first | (with_reducible first | exact HI615.out | apply IsS53.alloc | apply IsS53.drewN | apply IsS53.drew | apply IsS53.set_1 | apply IsS53.set_2) | exact HI615.out)); (case side2 => repeat (first | (with_reducible first | exact HB.out | apply below_alloc | apply pw_below_drewN | apply below_drew1 | refine below_set ?_ (IsS53.ge HI615.out)) | exact HB.out)); rintro e w46 ⟨rfl, hi, hb, hk⟩; refine ⟨_, rfl, ?_⟩; have n0_ := Aside0.mk (Kd.R_mono (Kd.R_keep (IsS53.apart (show IsS53 w _ g615 t612 x616001_36 x616002_36 from by repeat (first | (with_reducible first | exact HI615.out | apply IsS53.alloc | apply IsS53.drewN | apply IsS53.drew | apply IsS53.set_1 | apply IsS53.set_2) | exact HI615.out)) (by (with_reducible repeat (first | apply Kd.R_alloc | apply Kd.R_drewN | apply Kd.R_drew)); exact HO_5.out) (by decide)) hk (fun _ h => h.2)) (fun _ h => h.1)); have n1_ := Aside0.mk (hb); have n2_ := Aside0.mk (hi); clear HO_5; clear HB; clear HI615; have HO_5 := n0_; have HB := n1_; have HI615 := n2_; clear n0_ n1_ n2_; (try clear hb); (try clear hb2); (try clear hk); (try clear hi); obtain ⟨Ao47, co47, eo47⟩ := Kd.R_slice HO_5.out; subst eo47) | ((with_reducible refine gate_dst (N := 42) rfl ?_); refine Kd.R_lit (Kd.int .i64) _ 3 ?hg (N := 42) ?hd (xs := ([(-1), 0, (x5_36.length : Int), 4611686018427387904] : List Int)) (inner := [.int .i64 (-1), .int .i64 0, .int .i64 (x5_36.length : Int), .int .i64 4611686018427387904]) (ok := fun _ => True) (okp := fun _ => True) ?hr ?hp (fun _ hk => hk) trivial (Below.refl _ _) (Nat.le_refl _) (by simp) ?_; (case hd => rfl); (case hg => rfl); (case hr => first | (go_simp; done) | (go_simp; rfl)); (case hp => exact (Reps.one (show Kd.M (Kd.int .i64) _ _ _ (-1) [.int .i64 (-1)] from rfl) (Reps.one (show Kd.M (Kd.int .i64) _ _ _ 0 [.int .i64 0] from rfl) (Reps.one (show Kd.M (Kd.int .i64) _ _ _ (x5_36.length : Int) [.int .i64 (x5_36.length : Int)] from rfl) (Reps.one (show Kd.M (Kd.int .i64) _ _ _ 4611686018427387904 [.int .i64 4611686018427387904] from rfl) (Reps.none _ _)))))); intro v668 w48 ho49 hb hg_ hnew_; clear hg_ hnew_; (first | rw [← Ny667.out] at ho49 | (simp only [Int.reduceToNat] at ho49; rw [← Ny667.out] at ho49)); have n0_ := Aside0.mk (Kd.R_below (by (with_reducible repeat (first | apply Kd.R_alloc | apply Kd.R_drewN | apply Kd.R_drew)); exact HO_5.out) hb); have n1_ := Aside0.mk (Kd.R_lower ho49 (below_size (by repeat (first | (with_reducible first | exact HB.out | apply below_alloc | apply pw_below_drewN | apply below_drew1 | refine below_set ?_ (IsS53.ge HI615.out)) | exact HB.out)))); have n2_ := Aside0.mk (IsS53.below (by repeat (first | (with_reducible first | exact HI615.out | apply IsS53.alloc | apply IsS53.drewN | apply IsS53.drew | apply IsS53.set_1 | apply IsS53.set_2) | exact HI615.out)) hb); have n3_ := Aside0.mk (below_step (by repeat (first | (with_reducible first | exact HB.out | apply below_alloc | apply pw_below_drewN | apply below_drew1 | refine below_set ?_ (IsS53.ge HI615.out)) | exact HB.out)) hb); clear HO_5; clear HI615; clear HB; have HO_5 := n0_; have HO669 := n1_; have HI615 := n2_; have HB := n3_; clear n0_ n1_ n2_ n3_; clear hb ho49; obtain ⟨Ao50, co50, eo50⟩ := Kd.R_slice HO669.out; subst eo50) | ((with_reducible refine gate_callee (f := 50) rfl ?_); refine goesL_ (some 43) rfl rfl Try.func50 (by kernel_rfl) rfl #[.pointer (some ⟨g615, 0, none⟩), .slice Ao50 y667.length co50] rfl (by (try simp only [List.map_toArray, List.map_cons, List.map_nil]); first | done | rfl | (simp only [List.length_drop, List.length_take]; rfl)) ?_; (with_reducible refine (spec_l1PickInt.calls g615 t612 t665 t666 _ _ y667 t670 t671 t672 w _ ?side1 ?side2 ?side3 ?side4 ?side5 A45.out).mono ?_); (case side1 => repeat (first | (with_reducible first | exact HI615.out | apply IsS53.alloc | apply IsS53.drewN | apply IsS53.drew | apply IsS53.set_1 | apply IsS53.set_2) | exact HI615.out)); (case side2 => repeat (first | (with_reducible first | exact HB.out | apply below_alloc | apply pw_below_drewN | apply below_drew1 | refine below_set ?_ (IsS53.ge HI615.out)) | exact HB.out)); (case side3 => repeat (first | exact (Kd.R_reads' HO669.out).2.2 | (with_reducible refine Kd.C_alloc ?_ _) | (with_reducible refine Kd.C_drewN ?_ _) | (with_reducible refine Kd.C_drew ?_))); (case side4 => exact (Kd.R_reads' HO669.out).2.1); (case side5 => exact far_slice (IsS53.own_ne HI615.out HO669.out (by decide))); rintro e w51 ⟨rfl, hi, hb, hk⟩; refine ⟨_, rfl, ?_⟩; have n0_ := Aside0.mk (Kd.R_mono (Kd.R_keep (IsS53.apart (show IsS53 w _ g615 t612 t665 t666 from by repeat (first | (with_reducible first | exact HI615.out | apply IsS53.alloc | apply IsS53.drewN | apply IsS53.drew | apply IsS53.set_1 | apply IsS53.set_2) | exact HI615.out)) (by (with_reducible repeat (first | apply Kd.R_alloc | apply Kd.R_drewN | apply Kd.R_drew)); exact HO_5.out) (by decide)) hk (fun _ h => h.2)) (fun _ h => h.1)); have n1_ := Aside0.mk (Kd.R_mono (Kd.R_keep (IsS53.apart (show IsS53 w _ g615 t612 t665 t666 from by repeat (first | (with_reducible first | exact HI615.out | apply IsS53.alloc | apply IsS53.drewN | apply IsS53.drew | apply IsS53.set_1 | apply IsS53.set_2) | exact HI615.out)) (by (with_reducible repeat (first | apply Kd.R_alloc | apply Kd.R_drewN | apply Kd.R_drew)); exact HO669.out) (by decide)) hk (fun _ h => h.2)) (fun _ h => h.1)); have n2_ := Aside0.mk (hb); have n3_ := Aside0.mk (hi); clear HO_5; clear HO669; clear HB; clear HI615; have HO_5 := n0_; have HO669 := n1_; have HB := n2_; have HI615 := n3_; clear n0_ n1_ n2_ n3_; (try clear hb); (try clear hb2); (try clear hk); (try clear hi)))
                  go_ret2
                  exact ⟨_, by first | rfl | (simp [errW_none, errW_some] <;> rfl) | (simp [*, errW_none, errW_some] <;> rfl), by (with_reducible repeat (first | apply Kd.R_alloc | apply Kd.R_drewN | apply Kd.R_drew)); exact HO_5.out, by repeat (first | (with_reducible first | exact HB.out | apply below_alloc | apply pw_below_drewN | apply below_drew1 | refine below_set ?_ (IsS53.ge HI615.out)) | exact HB.out)⟩
                · replace c44 := Bool.eq_false_iff.mpr c44
                  subst c44
                  have H1 : (some (x5_36, (t616.length : Int))) = some (r1, r2) := by rw [if_neg (show ¬ (false = true) by decide)] at H; exact H
                  clear H
                  have H := H1
                  clear H1
                  simp only [Option.some.injEq, Prod.mk.injEq] at H
                  obtain ⟨rfl, rfl⟩ := H
                  go_wp2_with (first | ((with_reducible refine gate_callee (f := 43) rfl ?_); refine goesL_ (some 38) rfl rfl Try.func43 (by kernel_rfl) rfl #[.pointer (some ⟨g615, 0, none⟩), .int .i64 8] rfl (by (try simp only [List.map_toArray, List.map_cons, List.map_nil]); first | done | rfl | (simp only [List.length_drop, List.length_take]; rfl)) ?_; (with_reducible refine (spec_l1Once.calls g615 t612 x616001_36 x616002_36 8 false t665 t666 w _ ?side1 ?side2 A43.out).mono ?_); (case side1 => repeat (first | (with_reducible first | exact HI615.out | apply IsS53.alloc | apply IsS53.drewN | apply IsS53.drew | apply IsS53.set_1 | apply IsS53.set_2) | exact HI615.out)); (case side2 => repeat (first | (with_reducible first | exact HB.out | apply below_alloc | apply pw_below_drewN | apply below_drew1 | refine below_set ?_ (IsS53.ge HI615.out)) | exact HB.out)); rintro e w52 ⟨rfl, hi, hb, hk⟩; refine ⟨_, rfl, ?_⟩; have n0_ := Aside0.mk (Kd.R_mono (Kd.R_keep (IsS53.apart (show IsS53 w _ g615 t612 x616001_36 x616002_36 from by repeat (first | (with_reducible first | exact HI615.out | apply IsS53.alloc | apply IsS53.drewN | apply IsS53.drew | apply IsS53.set_1 | apply IsS53.set_2) | exact HI615.out)) (by (with_reducible repeat (first | apply Kd.R_alloc | apply Kd.R_drewN | apply Kd.R_drew)); exact HO_5.out) (by decide)) hk (fun _ h => h.2)) (fun _ h => h.1)); have n1_ := Aside0.mk (hb); have n2_ := Aside0.mk (hi); clear HO_5; clear HB; clear HI615; have HO_5 := n0_; have HB := n1_; have HI615 := n2_; clear n0_ n1_ n2_; (try clear hb); (try clear hb2); (try clear hk); (try clear hi)))
                  go_ret2
                  exact ⟨_, by first | rfl | (simp [errW_none, errW_some] <;> rfl) | (simp [*, errW_none, errW_some] <;> rfl), by (with_reducible repeat (first | apply Kd.R_alloc | apply Kd.R_drewN | apply Kd.R_drew)); exact HO_5.out, by repeat (first | (with_reducible first | exact HB.out | apply below_alloc | apply pw_below_drewN | apply below_drew1 | refine below_set ?_ (IsS53.ge HI615.out)) | exact HB.out)⟩
      · rw [if_neg c18] at H
        exact absurd H (by simp)

end Go.Proofs.Ytophpcadfljkgaa.PA
