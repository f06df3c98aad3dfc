-- Printed by a program of this session (wrap.py) out of the translation. Lean checks it.
import Derived.Test.YtophpcadfljkgaaPAx0
import Derived.Test.YtophpcadfljkgaaPAx8
import Derived.Test.YtophpcadfljkgaaPAx10
import Derived.Test.YtophpcadfljkgaaPAx11
import Derived.Test.YtophpcadfljkgaaPAx12
import Derived.Test.YtophpcadfljkgaaPAx16
import Derived.Test.YtophpcadfljkgaaPAx29
import Derived.Test.YtophpcadfljkgaaPAx31
namespace Go.Proofs.Ytophpcadfljkgaa.PA
open Go.RowKit Go.Proofs.YtophpcadfljkgaaW.PrintWords Go.Proofs.YtophpcadfljkgaaW.PrintLast Go.Proofs.YtophpcadfljkgaaW.PrintMore
attribute [local go_sem] max2_int min2_int max_two min_two max_three min_three max_four min_four   -- for this text's walks alone
set_option linter.unusedVariables false
set_option linter.unusedSimpArgs false

/-! ### spec_DrawGetNum: function 38 -/
mutual
def spec_DrawGetNum.j0 : Nat → List Int → Int → List Int → Int → Int → Option (List Int × Int)
  | 0, _, _, _, _, _ => none
  | k + 1, x5, x6, x502000, x502001, x502002 => (spec_l1Once.f x502000 x502001 x502002 6).bind fun bt529 => (if bt529.1 = true then ((spec_l1PickInt.f x502000 bt529.2.1 bt529.2.2 (([(-1), 0, (x5.length : Int), wrap64 ((x5.length : Int) + 1), 4611686018427387904] : List Int))).bind fun bt535 => (spec_DrawGetNum.j1 k x5 bt535.1 x502000 bt535.2.1 bt535.2.2)) else (spec_DrawGetNum.j1 k x5 x6 x502000 bt529.2.1 bt529.2.2))
def spec_DrawGetNum.j1 : Nat → List Int → Int → List Int → Int → Int → Option (List Int × Int)
  | 0, _, _, _, _, _ => none
  | k + 1, x5, x6, x502000, x502001, x502002 => (spec_l1Once.f x502000 x502001 x502002 8).bind fun bt538 => (if bt538.1 = true then (if 0 ≤ (wrap64 ((x5.length : Int) / 2)) then (if (wrap64 ((x5.length : Int) / 2)) ≤ (x5.length : Int) then ((some (x5.take ((wrap64 ((x5.length : Int) / 2)) : Int).toNat : List Int)).bind fun y541 => ((spec_l1Below.f x502000 bt538.2.1 bt538.2.2 20).bind fun bt544 => ((some (([255, 255, 255, 255, (bt544.1) % 256] : List Int) : List Int)).bind fun y547 => (if y541.length + y547.length < 140737488355328 then (some ((y541 ++ y547), x6)) else (none))))) else (none)) else (none)) else (some (x5, x6)))
end
def spec_DrawGetNum.f (k : Nat) (l0 : List Int) : Option (List Int × Int) := (spec_l1New.f k l0).bind fun bt498 => ((spec_l1some.f k bt498.1 bt498.2.1 bt498.2.2 4).bind fun bt502 => ((spec_l1num.f bt498.1 bt502.2.1 bt502.2.2).bind fun bt507 => ((spec_PutNum.f k bt502.1 bt507.1).bind fun t510 => ((spec_l1some.f k bt498.1 bt507.2.1 bt507.2.2 3).bind fun bt513 => (if t510.length + bt513.1.length < 140737488355328 then ((some (t510 ++ bt513.1 : List Int)).bind fun y518 => ((spec_l1Once.f bt498.1 bt513.2.1 bt513.2.2 3).bind fun bt521 => (if bt521.1 = true then ((spec_l1spoil.f bt498.1 bt521.2.1 bt521.2.2 y518).bind fun bt524 => (spec_DrawGetNum.j0 k bt524.1 (bt502.1.length : Int) bt498.1 bt524.2.1 bt524.2.2)) else (spec_DrawGetNum.j0 k y518 (bt502.1.length : Int) bt498.1 bt521.2.1 bt521.2.2)))) else (none))))))
theorem spec_DrawGetNum.mono_l : ∀ k, (∀ y0 y1 y2 y3 y4, LeO (spec_DrawGetNum.j0 k y0 y1 y2 y3 y4) (spec_DrawGetNum.j0 (k + 1) y0 y1 y2 y3 y4)) ∧ (∀ y0 y1 y2 y3 y4, LeO (spec_DrawGetNum.j1 k y0 y1 y2 y3 y4) (spec_DrawGetNum.j1 (k + 1) y0 y1 y2 y3 y4))
  | 0 => ⟨fun _ _ _ _ _ r h => by simp [spec_DrawGetNum.j0] at h, fun _ _ _ _ _ r h => by simp [spec_DrawGetNum.j1] at h⟩
  | k + 1 => by
    obtain ⟨ih0, ih1⟩ := spec_DrawGetNum.mono_l k
    refine ⟨?_, ?_⟩
    · intro y0 y1 y2 y3 y4
      unfold spec_DrawGetNum.j0
      repeat' first
      | (with_reducible exact ih0 _ _ _ _ _)
      | (with_reducible exact ih1 _ _ _ _ _)
      | (with_reducible exact spec_PutNum.mono _ _ _)
      | (with_reducible exact spec_l1New.mono _ _)
      | (with_reducible exact spec_l1some.mono _ _ _ _ _)
      | (with_reducible exact LeO.refl _)
      | (with_reducible exact LeO.none _)
      | (with_reducible refine LeO.ite ?_ ?_)
      | (with_reducible refine LeO.bind ?_ (fun _ => ?_))
      | exact ih0 _ _ _ _ _
      | exact ih1 _ _ _ _ _
      | exact spec_PutNum.mono _ _ _
      | exact spec_l1New.mono _ _
      | exact spec_l1some.mono _ _ _ _ _
      | exact LeO.none _
      | refine LeO.ite ?_ ?_
      | refine LeO.bind ?_ (fun _ => ?_)
    · intro y0 y1 y2 y3 y4
      unfold spec_DrawGetNum.j1
      repeat' first
      | (with_reducible exact ih0 _ _ _ _ _)
      | (with_reducible exact ih1 _ _ _ _ _)
      | (with_reducible exact spec_PutNum.mono _ _ _)
      | (with_reducible exact spec_l1New.mono _ _)
      | (with_reducible exact spec_l1some.mono _ _ _ _ _)
      | (with_reducible exact LeO.refl _)
      | (with_reducible exact LeO.none _)
      | (with_reducible refine LeO.ite ?_ ?_)
      | (with_reducible refine LeO.bind ?_ (fun _ => ?_))
      | exact ih0 _ _ _ _ _
      | exact ih1 _ _ _ _ _
      | exact spec_PutNum.mono _ _ _
      | exact spec_l1New.mono _ _
      | exact spec_l1some.mono _ _ _ _ _
      | exact LeO.none _
      | refine LeO.ite ?_ ?_
      | refine LeO.bind ?_ (fun _ => ?_)
theorem spec_DrawGetNum.mono : ∀ a0 k, LeO (spec_DrawGetNum.f k a0) (spec_DrawGetNum.f (k + 1) a0) := by
  intro a0 k
  obtain ⟨ih0, ih1⟩ := spec_DrawGetNum.mono_l k
  unfold spec_DrawGetNum.f
  repeat' first
      | (with_reducible exact ih0 _ _ _ _ _)
      | (with_reducible exact ih1 _ _ _ _ _)
      | (with_reducible exact spec_PutNum.mono _ _ _)
      | (with_reducible exact spec_l1New.mono _ _)
      | (with_reducible exact spec_l1some.mono _ _ _ _ _)
      | (with_reducible exact LeO.refl _)
      | (with_reducible exact LeO.none _)
      | (with_reducible refine LeO.ite ?_ ?_)
      | (with_reducible refine LeO.bind ?_ (fun _ => ?_))
      | exact ih0 _ _ _ _ _
      | exact ih1 _ _ _ _ _
      | exact spec_PutNum.mono _ _ _
      | exact spec_l1New.mono _ _
      | exact spec_l1some.mono _ _ _ _ _
      | exact LeO.none _
      | refine LeO.ite ?_ ?_
      | refine LeO.bind ?_ (fun _ => ?_)
def spec_DrawGetNum.T10 : Bool × List (List Nat × List Nat) := (true, [([], []), ([], []), ([1], [1]), ([2], [2]), ([0, 3], [0, 3]), ([], []), ([5], [5]), ([6], [6]), ([7], [7]), ([4, 8, 6], [4, 8]), ([9, 9, 0, 1, 2, 3, 4, 5, 6, 7, 8, 9], [0, 1, 9])])
def spec_DrawGetNum.B10 : List Nat := [0, 0, 2, 6, 15, 0, 32, 96, 224, 511, 1023]
theorem spec_DrawGetNum.tab10 : rtab .any (opsOf Try.f38 10) = spec_DrawGetNum.T10 := by kernel_rfl
theorem spec_DrawGetNum.bits10 : waitsOk spec_DrawGetNum.T10.2 spec_DrawGetNum.B10 = true := by kernel_rfl
set_option maxHeartbeats 8000000 in
set_option maxRecDepth 100000 in
theorem spec_DrawGetNum.calls (k : Nat) (A0 : Option Addr) (c0 : Nat) (l0 : List Int) (r1 : List Int) (r2 : Int) (w : World) (hr0 : Kd.C (Kd.int .u8) w A0 l0.length l0) (hc0 : l0.length ≤ c0) (h : spec_DrawGetNum.f k l0 = some (r1, r2)) :
    Calls Try.prog 38 #[.slice A0 l0.length c0] w fun e w' => ∃ v0_ : Value, e = .returned (.tuple #[v0_, .int .i64 r2]) ∧ Kd.R (Kd.int .u8) 5 w' w.heap.size (fun _ => True) v0_ r1 ∧ Below w.heap.size w w' := by
  have HR0 := Aside0.mk hr0
  have HC0 := Aside0.mk hc0
  clear hr0 hc0
  have HB := Aside0.mk (Below.refl w.heap.size w)
  have H : ((spec_l1New.f k l0).bind fun bt498 => ((spec_l1some.f k bt498.1 bt498.2.1 bt498.2.2 4).bind fun bt502 => ((spec_l1num.f bt498.1 bt502.2.1 bt502.2.2).bind fun bt507 => ((spec_PutNum.f k bt502.1 bt507.1).bind fun t510 => ((spec_l1some.f k bt498.1 bt507.2.1 bt507.2.2 3).bind fun bt513 => (if t510.length + bt513.1.length < 140737488355328 then ((some (t510 ++ bt513.1 : List Int)).bind fun y518 => ((spec_l1Once.f bt498.1 bt513.2.1 bt513.2.2 3).bind fun bt521 => (if bt521.1 = true then ((spec_l1spoil.f bt498.1 bt521.2.1 bt521.2.2 y518).bind fun bt524 => (spec_DrawGetNum.j0 k bt524.1 (bt502.1.length : Int) bt498.1 bt524.2.1 bt524.2.2)) else (spec_DrawGetNum.j0 k y518 (bt502.1.length : Int) bt498.1 bt521.2.1 bt521.2.2)))) else (none))))))) = some (r1, r2) := h
  clear h
  replace H := Option.bind_eq_some_iff.mp H
  obtain ⟨⟨t498, t499, t500⟩, A20, H⟩ := H
  replace H : ((spec_l1some.f k t498 t499 t500 4).bind fun bt502 => ((spec_l1num.f t498 bt502.2.1 bt502.2.2).bind fun bt507 => ((spec_PutNum.f k bt502.1 bt507.1).bind fun t510 => ((spec_l1some.f k t498 bt507.2.1 bt507.2.2 3).bind fun bt513 => (if t510.length + bt513.1.length < 140737488355328 then ((some (t510 ++ bt513.1 : List Int)).bind fun y518 => ((spec_l1Once.f t498 bt513.2.1 bt513.2.2 3).bind fun bt521 => (if bt521.1 = true then ((spec_l1spoil.f t498 bt521.2.1 bt521.2.2 y518).bind fun bt524 => (spec_DrawGetNum.j0 k bt524.1 (bt502.1.length : Int) t498 bt524.2.1 bt524.2.2)) else (spec_DrawGetNum.j0 k y518 (bt502.1.length : Int) t498 bt521.2.1 bt521.2.2)))) else (none)))))) = some (r1, r2) := H
  have A2 := Aside0.mk A20
  clear A20
  replace H := Option.bind_eq_some_iff.mp H
  obtain ⟨⟨t502, t505, t506⟩, A30, H⟩ := H
  replace H : ((spec_l1num.f t498 t505 t506).bind fun bt507 => ((spec_PutNum.f k t502 bt507.1).bind fun t510 => ((spec_l1some.f k t498 bt507.2.1 bt507.2.2 3).bind fun bt513 => (if t510.length + bt513.1.length < 140737488355328 then ((some (t510 ++ bt513.1 : List Int)).bind fun y518 => ((spec_l1Once.f t498 bt513.2.1 bt513.2.2 3).bind fun bt521 => (if bt521.1 = true then ((spec_l1spoil.f t498 bt521.2.1 bt521.2.2 y518).bind fun bt524 => (spec_DrawGetNum.j0 k bt524.1 (t502.length : Int) t498 bt524.2.1 bt524.2.2)) else (spec_DrawGetNum.j0 k y518 (t502.length : Int) t498 bt521.2.1 bt521.2.2)))) else (none))))) = some (r1, r2) := H
  have A3 := Aside0.mk A30
  clear A30
  replace H := Option.bind_eq_some_iff.mp H
  obtain ⟨⟨t507, t508, t509⟩, A40, H⟩ := H
  replace H : ((spec_PutNum.f k t502 t507).bind fun t510 => ((spec_l1some.f k t498 t508 t509 3).bind fun bt513 => (if t510.length + bt513.1.length < 140737488355328 then ((some (t510 ++ bt513.1 : List Int)).bind fun y518 => ((spec_l1Once.f t498 bt513.2.1 bt513.2.2 3).bind fun bt521 => (if bt521.1 = true then ((spec_l1spoil.f t498 bt521.2.1 bt521.2.2 y518).bind fun bt524 => (spec_DrawGetNum.j0 k bt524.1 (t502.length : Int) t498 bt524.2.1 bt524.2.2)) else (spec_DrawGetNum.j0 k y518 (t502.length : Int) t498 bt521.2.1 bt521.2.2)))) else (none)))) = some (r1, r2) := H
  have A4 := Aside0.mk A40
  clear A40
  replace H := Option.bind_eq_some_iff.mp H
  obtain ⟨t510, A50, H⟩ := H
  replace H : ((spec_l1some.f k t498 t508 t509 3).bind fun bt513 => (if t510.length + bt513.1.length < 140737488355328 then ((some (t510 ++ bt513.1 : List Int)).bind fun y518 => ((spec_l1Once.f t498 bt513.2.1 bt513.2.2 3).bind fun bt521 => (if bt521.1 = true then ((spec_l1spoil.f t498 bt521.2.1 bt521.2.2 y518).bind fun bt524 => (spec_DrawGetNum.j0 k bt524.1 (t502.length : Int) t498 bt524.2.1 bt524.2.2)) else (spec_DrawGetNum.j0 k y518 (t502.length : Int) t498 bt521.2.1 bt521.2.2)))) else (none))) = some (r1, r2) := H
  have A5 := Aside0.mk A50
  clear A50
  replace H := Option.bind_eq_some_iff.mp H
  obtain ⟨⟨t513, t516, t517⟩, A60, H⟩ := H
  replace H : (if t510.length + t513.length < 140737488355328 then ((some (t510 ++ t513 : List Int)).bind fun y518 => ((spec_l1Once.f t498 t516 t517 3).bind fun bt521 => (if bt521.1 = true then ((spec_l1spoil.f t498 bt521.2.1 bt521.2.2 y518).bind fun bt524 => (spec_DrawGetNum.j0 k bt524.1 (t502.length : Int) t498 bt524.2.1 bt524.2.2)) else (spec_DrawGetNum.j0 k y518 (t502.length : Int) t498 bt521.2.1 bt521.2.2)))) else (none)) = some (r1, r2) := H
  have A6 := Aside0.mk A60
  clear A60
  by_cases c7 : t510.length + t513.length < 140737488355328
  · rw [if_pos c7] at H
    have LMc7 := Aside0.mk c7
    clear c7
    obtain ⟨y518, hy518⟩ : ∃ y_ : List Int, y_ = (t510 ++ t513) := ⟨_, rfl⟩
    replace H : ((spec_l1Once.f t498 t516 t517 3).bind fun bt521 => (if bt521.1 = true then ((spec_l1spoil.f t498 bt521.2.1 bt521.2.2 y518).bind fun bt524 => (spec_DrawGetNum.j0 k bt524.1 (t502.length : Int) t498 bt524.2.1 bt524.2.2)) else (spec_DrawGetNum.j0 k y518 (t502.length : Int) t498 bt521.2.1 bt521.2.2))) = some (r1, r2) := by first | (rw [hy518]; with_reducible exact H) | (have H2_ := (Option.bind_some _ _).symm.trans H; rw [hy518]; with_reducible exact H2_) | (have H2_ := (Option.bind_some _ _).symm.trans H; with_reducible exact H2_) | with_reducible exact H | (rw [hy518]; exact H) | exact H
    have Ny518 := Aside0.mk hy518
    clear hy518
    replace H := Option.bind_eq_some_iff.mp H
    obtain ⟨⟨t521, t522, t523⟩, A80, H⟩ := H
    replace H : (if t521 = true then ((spec_l1spoil.f t498 t522 t523 y518).bind fun bt524 => (spec_DrawGetNum.j0 k bt524.1 (t502.length : Int) t498 bt524.2.1 bt524.2.2)) else (spec_DrawGetNum.j0 k y518 (t502.length : Int) t498 t522 t523)) = some (r1, r2) := H
    have A8 := Aside0.mk A80
    clear A80
    have HC9 := Aside0.mk H
    clear H
    go_enter Try.func38, Try.ntmps38
    go_upto_if 21 with (first | ((with_reducible refine gate_callee (f := 42) rfl ?_); refine goesL_ (some 8) rfl rfl Try.func42 (by kernel_rfl) rfl #[.slice A0 l0.length c0] rfl (by (try simp only [List.map_toArray, List.map_cons, List.map_nil]); first | done | rfl | (simp only [List.length_drop, List.length_take]; rfl)) ?_; (with_reducible refine (spec_l1New.calls k _ _ l0 t498 t499 t500 w _ ?side1 ?side2 ?side3 A2.out).mono ?_); (case side1 => repeat (first | (with_reducible first | exact HB.out | apply below_alloc | apply pw_below_drewN | apply below_drew1) | exact HB.out)); (case side2 => exact HR0.out); (case side3 => exact HC0.out); rintro e w10 ⟨g501, rfl, hi, hb, hb2⟩; refine ⟨_, rfl, ?_⟩; have n0_ := Aside0.mk (hb); have n1_ := Aside0.mk (hi); clear HB; have HB := n0_; have HI501 := n1_; clear n0_ n1_; (try clear hb); (try clear hb2); (try clear hk); (try clear hi)) | ((with_reducible refine gate_callee (f := 48) rfl ?_); refine goesL_ (some 10) rfl rfl Try.func48 (by kernel_rfl) rfl #[.pointer (some ⟨g501, 0, none⟩), .int .i64 4] rfl (by (try simp only [List.map_toArray, List.map_cons, List.map_nil]); first | done | rfl | (simp only [List.length_drop, List.length_take]; rfl)) ?_; (with_reducible refine (spec_l1some.calls k g501 t498 t499 t500 4 t502 t505 t506 w _ ?side1 ?side2 A3.out).mono ?_); (case side1 => repeat (first | (with_reducible first | exact HI501.out | apply IsS53.alloc | apply IsS53.drewN | apply IsS53.drew | apply IsS53.set_1 | apply IsS53.set_2) | exact HI501.out)); (case side2 => repeat (first | (with_reducible first | exact HB.out | apply below_alloc | apply pw_below_drewN | apply below_drew1 | refine below_set ?_ (IsS53.ge HI501.out)) | exact HB.out)); rintro e w11 ⟨v503, rfl, ho0, hi, hb, hk⟩; refine ⟨_, rfl, ?_⟩; have n0_ := Aside0.mk (Kd.R_lower ho0 (below_size (by repeat (first | (with_reducible first | exact HB.out | apply below_alloc | apply pw_below_drewN | apply below_drew1 | refine below_set ?_ (IsS53.ge HI501.out)) | exact HB.out)))); have n1_ := Aside0.mk (hb); have n2_ := Aside0.mk (hi); clear HB; clear HI501; have HO504 := n0_; have HB := n1_; have HI501 := n2_; clear n0_ n1_ n2_; (try clear hb); (try clear hb2); (try clear hk); (try clear hi); (try clear ho0); obtain ⟨Ao12, co12, eo12⟩ := Kd.R_slice HO504.out; subst eo12) | ((with_reducible refine gate_callee (f := 47) rfl ?_); refine goesL_ (some 15) rfl rfl Try.func47 (by kernel_rfl) rfl #[.pointer (some ⟨g501, 0, none⟩)] rfl (by (try simp only [List.map_toArray, List.map_cons, List.map_nil]); first | done | rfl | (simp only [List.length_drop, List.length_take]; rfl)) ?_; (with_reducible refine (spec_l1num.calls g501 t498 t505 t506 t507 t508 t509 w _ ?side1 ?side2 A4.out).mono ?_); (case side1 => repeat (first | (with_reducible first | exact HI501.out | apply IsS53.alloc | apply IsS53.drewN | apply IsS53.drew | apply IsS53.set_1 | apply IsS53.set_2) | exact HI501.out)); (case side2 => repeat (first | (with_reducible first | exact HB.out | apply below_alloc | apply pw_below_drewN | apply below_drew1 | refine below_set ?_ (IsS53.ge HI501.out)) | exact HB.out)); rintro e w13 ⟨rfl, hi, hb, hk⟩; refine ⟨_, rfl, ?_⟩; have n0_ := Aside0.mk (Kd.R_mono (Kd.R_keep (IsS53.apart (show IsS53 w _ g501 t498 t505 t506 from by repeat (first | (with_reducible first | exact HI501.out | apply IsS53.alloc | apply IsS53.drewN | apply IsS53.drew | apply IsS53.set_1 | apply IsS53.set_2) | exact HI501.out)) (by (with_reducible repeat (first | apply Kd.R_alloc | apply Kd.R_drewN | apply Kd.R_drew)); exact HO504.out) (by decide)) hk (fun _ h => h.2)) (fun _ h => h.1)); have n1_ := Aside0.mk (hb); have n2_ := Aside0.mk (hi); clear HO504; clear HB; clear HI501; have HO504 := n0_; have HB := n1_; have HI501 := n2_; clear n0_ n1_ n2_; (try clear hb); (try clear hb2); (try clear hk); (try clear hi)) | ((with_reducible refine gate_callee (f := 27) rfl ?_); refine goesL_ (some 16) rfl rfl Try.func27 (by kernel_rfl) rfl #[.slice Ao12 t502.length co12, .int .i64 t507] rfl (by (try simp only [List.map_toArray, List.map_cons, List.map_nil]); first | done | rfl | (simp only [List.length_drop, List.length_take]; rfl)) ?_; (with_reducible refine (spec_PutNum.calls k _ _ t502 t507 t510 _ ?side1 ?side2 A5.out).mono ?_); (case side1 => repeat (first | exact (Kd.R_reads' HO504.out).2.2 | (with_reducible refine Kd.C_alloc ?_ _) | (with_reducible refine Kd.C_drewN ?_ _) | (with_reducible refine Kd.C_drew ?_))); (case side2 => exact (Kd.R_reads' HO504.out).2.1); rintro e w14 ⟨v511, rfl, ho0, hb⟩; refine ⟨_, rfl, ?_⟩; have n0_ := Aside0.mk (Kd.R_elder' (by (with_reducible repeat (first | apply Kd.R_alloc | apply Kd.R_drewN | apply Kd.R_drew)); exact HO504.out) (Kd.R_base ho0) hb); have n1_ := Aside0.mk (Kd.R_lower (Kd.R_new' ho0 (Kd.R_lt (by (with_reducible repeat (first | apply Kd.R_alloc | apply Kd.R_drewN | apply Kd.R_drew)); exact HO504.out))) (below_size (by repeat (first | (with_reducible first | exact HB.out | apply below_alloc | apply pw_below_drewN | apply below_drew1 | refine below_set ?_ (IsS53.ge HI501.out)) | exact HB.out)))); have n2_ := Aside0.mk (IsS53.below (by repeat (first | (with_reducible first | exact HI501.out | apply IsS53.alloc | apply IsS53.drewN | apply IsS53.drew | apply IsS53.set_1 | apply IsS53.set_2) | exact HI501.out)) hb); have n3_ := Aside0.mk (below_step (by repeat (first | (with_reducible first | exact HB.out | apply below_alloc | apply pw_below_drewN | apply below_drew1 | refine below_set ?_ (IsS53.ge HI501.out)) | exact HB.out)) hb); clear HO504; clear HI501; clear HB; have HO504 := n0_; have HO512 := n1_; have HI501 := n2_; have HB := n3_; clear n0_ n1_ n2_ n3_; (try clear hb); (try clear hb2); (try clear hk); (try clear hi); (try clear ho0)) | ((with_reducible refine gate_callee (f := 48) rfl ?_); refine goesL_ (some 18) rfl rfl Try.func48 (by kernel_rfl) rfl #[.pointer (some ⟨g501, 0, none⟩), .int .i64 3] rfl (by (try simp only [List.map_toArray, List.map_cons, List.map_nil]); first | done | rfl | (simp only [List.length_drop, List.length_take]; rfl)) ?_; (with_reducible refine (spec_l1some.calls k g501 t498 t508 t509 3 t513 t516 t517 w _ ?side1 ?side2 A6.out).mono ?_); (case side1 => repeat (first | (with_reducible first | exact HI501.out | apply IsS53.alloc | apply IsS53.drewN | apply IsS53.drew | apply IsS53.set_1 | apply IsS53.set_2) | exact HI501.out)); (case side2 => repeat (first | (with_reducible first | exact HB.out | apply below_alloc | apply pw_below_drewN | apply below_drew1 | refine below_set ?_ (IsS53.ge HI501.out)) | exact HB.out)); rintro e w15 ⟨v514, rfl, ho0, hi, hb, hk⟩; refine ⟨_, rfl, ?_⟩; have n0_ := Aside0.mk (Kd.R_mono (Kd.R_told (Kd.R_oldK (IsS53.apart (show IsS53 w _ g501 t498 t508 t509 from by repeat (first | (with_reducible first | exact HI501.out | apply IsS53.alloc | apply IsS53.drewN | apply IsS53.drew | apply IsS53.set_1 | apply IsS53.set_2) | exact HI501.out)) (by (with_reducible repeat (first | apply Kd.R_alloc | apply Kd.R_drewN | apply Kd.R_drew)); exact HO504.out) (by decide)) hk) (Kd.R_base ho0)) (fun _ h_ => h_.1)); have n1_ := Aside0.mk (Kd.R_mono (Kd.R_told (Kd.R_oldK (IsS53.apart (show IsS53 w _ g501 t498 t508 t509 from by repeat (first | (with_reducible first | exact HI501.out | apply IsS53.alloc | apply IsS53.drewN | apply IsS53.drew | apply IsS53.set_1 | apply IsS53.set_2) | exact HI501.out)) (by (with_reducible repeat (first | apply Kd.R_alloc | apply Kd.R_drewN | apply Kd.R_drew)); exact HO512.out) (by decide)) hk) (Kd.R_base ho0)) (fun _ h_ => h_.1)); have n2_ := Aside0.mk (Kd.R_lower (Kd.R_new' (Kd.R_new' ho0 (Kd.R_lt (by (with_reducible repeat (first | apply Kd.R_alloc | apply Kd.R_drewN | apply Kd.R_drew)); exact HO504.out))) (Kd.R_lt (by (with_reducible repeat (first | apply Kd.R_alloc | apply Kd.R_drewN | apply Kd.R_drew)); exact HO512.out))) (below_size (by repeat (first | (with_reducible first | exact HB.out | apply below_alloc | apply pw_below_drewN | apply below_drew1 | refine below_set ?_ (IsS53.ge HI501.out)) | exact HB.out)))); have n3_ := Aside0.mk (hb); have n4_ := Aside0.mk (hi); clear HO504; clear HO512; clear HB; clear HI501; have HO504 := n0_; have HO512 := n1_; have HO515 := n2_; have HB := n3_; have HI501 := n4_; clear n0_ n1_ n2_ n3_ n4_; (try clear hb); (try clear hb2); (try clear hk); (try clear hi); (try clear ho0); obtain ⟨Ao17, co17, eo17⟩ := Kd.R_slice HO515.out; subst eo17) | ((with_reducible refine gate_builtin (b := .append) (xs := #[.tmp 16, .tmp 18]) rfl ?_); at_builtin; refine Kd.R_append_rows (Kd.int .u8) (w0 := w) w.heap.size rfl (.tmp 16) (.tmp 18) 25 5 (.int .u8 0) 1 rfl Try.underlying25 info5 rfl (by decide) (by omega) v511 t510 t513 _ _ _ (fun k_ => some k_ ≠ (.slice Ao12 t502.length co12 : Value).ownBlock ∧ some k_ ≠ (.slice Ao17 t513.length co17 : Value).ownBlock) (fun _ => False) rfl rfl ?aO ?aR (fun _ _ h => h) (fun _ h => h.elim) ?aF ?aB ?aS ?aL ?_; (case aR => repeat (first | exact (Kd.R_reads' HO515.out).2.2 | (with_reducible refine Kd.C_alloc ?_ _) | (with_reducible refine Kd.C_drewN ?_ _) | (with_reducible refine Kd.C_drew ?_))); (case aB => exact (by repeat (first | (with_reducible first | exact HB.out | apply below_alloc | apply pw_below_drewN | apply below_drew1 | refine below_set ?_ (IsS53.ge HI501.out)) | exact HB.out))); (case aF => exact (fun k_ hk => ⟨Kd.fresh' (Kd.R_lt (by (with_reducible repeat (first | apply Kd.R_alloc | apply Kd.R_drewN | apply Kd.R_drew)); exact HO504.out)) k_ hk, Kd.fresh' (Kd.R_lt (by (with_reducible repeat (first | apply Kd.R_alloc | apply Kd.R_drewN | apply Kd.R_drew)); exact HO515.out)) k_ hk⟩)); (case aO => exact (by (with_reducible repeat (first | apply Kd.R_alloc | apply Kd.R_drewN | apply Kd.R_drew)); exact Kd.R_mono HO512.out (fun _ hk => ⟨hk.1.2, hk.2⟩))); (case aS => exact (below_size (by repeat (first | (with_reducible first | exact HB.out | apply below_alloc | apply pw_below_drewN | apply below_drew1 | refine below_set ?_ (IsS53.ge HI501.out)) | exact HB.out)))); (case aL => have := LMc7.out; omega); intro v519 w16 ho hb hg hat; (first | (simp only [Int.reduceToNat] at ho; rw [← Ny518.out] at ho) | rw [← Ny518.out] at ho); have n0_ := Aside0.mk (IsS53.grown (by repeat (first | (with_reducible first | exact HI501.out | apply IsS53.alloc | apply IsS53.drewN | apply IsS53.drew | apply IsS53.set_1 | apply IsS53.set_2) | exact HI501.out)) hg (IsS53.own_ne HI501.out HO512.out (by decide))); have n1_ := Aside0.mk (Kd.R_after (ok := (fun k_ => some k_ ≠ (.slice Ao17 t513.length co17 : Value).ownBlock)) (by (with_reducible repeat (first | apply Kd.R_alloc | apply Kd.R_drewN | apply Kd.R_drew)); exact Kd.R_mono HO504.out (fun _ hk => ⟨hk.2, hk.1.2⟩)) hg hat); have n2_ := Aside0.mk (Kd.R_after (ok := (fun k_ => some k_ ≠ (.slice Ao12 t502.length co12 : Value).ownBlock)) (by (with_reducible repeat (first | apply Kd.R_alloc | apply Kd.R_drewN | apply Kd.R_drew)); exact Kd.R_mono HO515.out (fun _ hk => ⟨hk.1.2, hk.2⟩)) hg hat); have n3_ := Aside0.mk (hb); have n4_ := Aside0.mk (ho); clear HI501; clear HO504; clear HO515; clear HB; clear HO512; have HI501 := n0_; have HO504 := n1_; have HO515 := n2_; have HB := n3_; have HO520 := n4_; clear n0_ n1_ n2_ n3_ n4_; clear ho hb hg hat) | ((with_reducible refine gate_callee (f := 43) rfl ?_); refine goesL_ (some 21) rfl rfl Try.func43 (by kernel_rfl) rfl #[.pointer (some ⟨g501, 0, none⟩), .int .i64 3] rfl (by (try simp only [List.map_toArray, List.map_cons, List.map_nil]); first | done | rfl | (simp only [List.length_drop, List.length_take]; rfl)) ?_; (with_reducible refine (spec_l1Once.calls g501 t498 t516 t517 3 t521 t522 t523 w _ ?side1 ?side2 A8.out).mono ?_); (case side1 => repeat (first | (with_reducible first | exact HI501.out | apply IsS53.alloc | apply IsS53.drewN | apply IsS53.drew | apply IsS53.set_1 | apply IsS53.set_2) | exact HI501.out)); (case side2 => repeat (first | (with_reducible first | exact HB.out | apply below_alloc | apply pw_below_drewN | apply below_drew1 | refine below_set ?_ (IsS53.ge HI501.out)) | exact HB.out)); rintro e w18 ⟨rfl, hi, hb, hk⟩; refine ⟨_, rfl, ?_⟩; have n0_ := Aside0.mk (Kd.R_mono (Kd.R_keep (IsS53.apart (show IsS53 w _ g501 t498 t516 t517 from by repeat (first | (with_reducible first | exact HI501.out | apply IsS53.alloc | apply IsS53.drewN | apply IsS53.drew | apply IsS53.set_1 | apply IsS53.set_2) | exact HI501.out)) (by (with_reducible repeat (first | apply Kd.R_alloc | apply Kd.R_drewN | apply Kd.R_drew)); exact HO504.out) (by decide)) hk (fun _ h => h.2)) (fun _ h => h.1)); have n1_ := Aside0.mk (Kd.R_mono (Kd.R_keep (IsS53.apart (show IsS53 w _ g501 t498 t516 t517 from by repeat (first | (with_reducible first | exact HI501.out | apply IsS53.alloc | apply IsS53.drewN | apply IsS53.drew | apply IsS53.set_1 | apply IsS53.set_2) | exact HI501.out)) (by (with_reducible repeat (first | apply Kd.R_alloc | apply Kd.R_drewN | apply Kd.R_drew)); exact HO515.out) (by decide)) hk (fun _ h => h.2)) (fun _ h => h.1)); have n2_ := Aside0.mk (Kd.R_mono (Kd.R_keep (IsS53.apart (show IsS53 w _ g501 t498 t516 t517 from by repeat (first | (with_reducible first | exact HI501.out | apply IsS53.alloc | apply IsS53.drewN | apply IsS53.drew | apply IsS53.set_1 | apply IsS53.set_2) | exact HI501.out)) (by (with_reducible repeat (first | apply Kd.R_alloc | apply Kd.R_drewN | apply Kd.R_drew)); exact HO520.out) (by decide)) hk (fun _ h => h.2)) (fun _ h => h.1)); have n3_ := Aside0.mk (hb); have n4_ := Aside0.mk (hi); clear HO504; clear HO515; clear HO520; clear HB; clear HI501; have HO504 := n0_; have HO515 := n1_; have HO520 := n2_; have HB := n3_; have HI501 := n4_; clear n0_ n1_ n2_ n3_ n4_; (try clear hb); (try clear hb2); (try clear hk); (try clear hi)))
    (try simp only [Act.put, List.setIfInBounds_toArray, List.set_cons_zero, List.set_cons_succ])
    go_cut [5] (fun v5 wc => ∃ (kq : Nat) (x5_8 : List Int) (x502001_8 : Int) (x502002_8 : Int), Aside0 (spec_DrawGetNum.j0 kq x5_8 (t502.length : Int) t498 x502001_8 x502002_8 = some (r1, r2)) ∧ Aside0 (kq ≤ k) ∧ Aside0 (Kd.R (Kd.int .u8) 5 wc w.heap.size (fun _ => True) v5 x5_8) ∧ Aside0 (IsS53 w wc g501 t498 x502001_8 x502002_8) ∧ Aside0 (Below w.heap.size w wc))
    case first =>
      have H := HC9.out
      clear HC9
      by_cases c19 : t521 = true
      · subst c19
        have H1 : ((spec_l1spoil.f t498 t522 t523 y518).bind fun bt524 => (spec_DrawGetNum.j0 k bt524.1 (t502.length : Int) t498 bt524.2.1 bt524.2.2)) = some (r1, r2) := by rw [if_pos rfl] at H; exact H
        clear H
        have H := H1
        clear H1
        replace H := Option.bind_eq_some_iff.mp H
        obtain ⟨⟨t524, t527, t528⟩, A200, H⟩ := H
        replace H : (spec_DrawGetNum.j0 k t524 (t502.length : Int) t498 t527 t528) = some (r1, r2) := H
        have A20 := Aside0.mk A200
        clear A200
        have H' := Aside0.mk H
        clear H
        obtain ⟨Ao21, co21, eo21⟩ := Kd.R_slice HO520.out
        subst eo21
        go_wp2_with (first | ((with_reducible refine gate_callee (f := 49) rfl ?_); refine goesL_ (some 24) rfl rfl Try.func49 (by kernel_rfl) rfl #[.pointer (some ⟨g501, 0, none⟩), .slice Ao21 y518.length co21] rfl (by (try simp only [List.map_toArray, List.map_cons, List.map_nil]); first | done | rfl | (simp only [List.length_drop, List.length_take]; rfl)) ?_; (with_reducible refine (spec_l1spoil.calls g501 t498 t522 t523 _ _ y518 t524 t527 t528 w _ ?side1 ?side2 ?side3 ?side4 ?side5 A20.out).mono ?_); (case side1 => repeat (first | (with_reducible first | exact HI501.out | apply IsS53.alloc | apply IsS53.drewN | apply IsS53.drew | apply IsS53.set_1 | apply IsS53.set_2) | exact HI501.out)); (case side2 => repeat (first | (with_reducible first | exact HB.out | apply below_alloc | apply pw_below_drewN | apply below_drew1 | refine below_set ?_ (IsS53.ge HI501.out)) | exact HB.out)); (case side3 => repeat (first | exact (Kd.R_reads' HO520.out).2.2 | (with_reducible refine Kd.C_alloc ?_ _) | (with_reducible refine Kd.C_drewN ?_ _) | (with_reducible refine Kd.C_drew ?_))); (case side4 => exact (Kd.R_reads' HO520.out).2.1); (case side5 => exact far_slice (IsS53.own_ne HI501.out HO520.out (by decide))); rintro e w22 ⟨v525, rfl, ho0, hi, hb, hk⟩; refine ⟨_, rfl, ?_⟩; have n0_ := Aside0.mk (Kd.R_mono (Kd.R_told (Kd.R_oldK (IsS53.apart (show IsS53 w _ g501 t498 t522 t523 from by repeat (first | (with_reducible first | exact HI501.out | apply IsS53.alloc | apply IsS53.drewN | apply IsS53.drew | apply IsS53.set_1 | apply IsS53.set_2) | exact HI501.out)) (by (with_reducible repeat (first | apply Kd.R_alloc | apply Kd.R_drewN | apply Kd.R_drew)); exact HO504.out) (by decide)) hk) (Kd.R_base ho0)) (fun _ h_ => h_.1)); have n1_ := Aside0.mk (Kd.R_mono (Kd.R_told (Kd.R_oldK (IsS53.apart (show IsS53 w _ g501 t498 t522 t523 from by repeat (first | (with_reducible first | exact HI501.out | apply IsS53.alloc | apply IsS53.drewN | apply IsS53.drew | apply IsS53.set_1 | apply IsS53.set_2) | exact HI501.out)) (by (with_reducible repeat (first | apply Kd.R_alloc | apply Kd.R_drewN | apply Kd.R_drew)); exact HO515.out) (by decide)) hk) (Kd.R_base ho0)) (fun _ h_ => h_.1)); have n2_ := Aside0.mk (Kd.R_mono (Kd.R_told (Kd.R_oldK (IsS53.apart (show IsS53 w _ g501 t498 t522 t523 from by repeat (first | (with_reducible first | exact HI501.out | apply IsS53.alloc | apply IsS53.drewN | apply IsS53.drew | apply IsS53.set_1 | apply IsS53.set_2) | exact HI501.out)) (by (with_reducible repeat (first | apply Kd.R_alloc | apply Kd.R_drewN | apply Kd.R_drew)); exact HO520.out) (by decide)) hk) (Kd.R_base ho0)) (fun _ h_ => h_.1)); have n3_ := Aside0.mk (Kd.R_lower (Kd.R_new' (Kd.R_new' (Kd.R_new' ho0 (Kd.R_lt (by (with_reducible repeat (first | apply Kd.R_alloc | apply Kd.R_drewN | apply Kd.R_drew)); exact HO504.out))) (Kd.R_lt (by (with_reducible repeat (first | apply Kd.R_alloc | apply Kd.R_drewN | apply Kd.R_drew)); exact HO515.out))) (Kd.R_lt (by (with_reducible repeat (first | apply Kd.R_alloc | apply Kd.R_drewN | apply Kd.R_drew)); exact HO520.out))) (below_size (by repeat (first | (with_reducible first | exact HB.out | apply below_alloc | apply pw_below_drewN | apply below_drew1 | refine below_set ?_ (IsS53.ge HI501.out)) | exact HB.out)))); have n4_ := Aside0.mk (hb); have n5_ := Aside0.mk (hi); clear HO504; clear HO515; clear HO520; clear HB; clear HI501; have HO504 := n0_; have HO515 := n1_; have HO520 := n2_; have HO526 := n3_; have HB := n4_; have HI501 := n5_; clear n0_ n1_ n2_ n3_ n4_ n5_; (try clear hb); (try clear hb2); (try clear hk); (try clear hi); (try clear ho0)))
        go_meet
        case rel => exact ⟨_, (t524), (t527), (t528), H', ⟨by first | omega | exact Nat.le_refl _⟩, ⟨by (with_reducible repeat (first | apply Kd.R_alloc | apply Kd.R_drewN | apply Kd.R_drew)); exact Kd.R_mono HO526.out (fun _ hk => trivial)⟩, ⟨by repeat (first | (with_reducible first | exact HI501.out | apply IsS53.alloc | apply IsS53.drewN | apply IsS53.drew | apply IsS53.set_1 | apply IsS53.set_2) | exact HI501.out)⟩, ⟨by repeat (first | (with_reducible first | exact HB.out | apply below_alloc | apply pw_below_drewN | apply below_drew1 | refine below_set ?_ (IsS53.ge HI501.out)) | exact HB.out)⟩⟩
      · replace c19 := Bool.eq_false_iff.mpr c19
        subst c19
        have H1 : (spec_DrawGetNum.j0 k y518 (t502.length : Int) t498 t522 t523) = some (r1, r2) := by rw [if_neg (show ¬ (false = true) by decide)] at H; exact H
        clear H
        have H := H1
        clear H1
        have H' := Aside0.mk H
        clear H
        go_wp2
        go_meet
        case rel => exact ⟨_, (y518), (t522), (t523), H', ⟨by first | omega | exact Nat.le_refl _⟩, ⟨by (with_reducible repeat (first | apply Kd.R_alloc | apply Kd.R_drewN | apply Kd.R_drew)); exact Kd.R_mono HO520.out (fun _ hk => trivial)⟩, ⟨by repeat (first | (with_reducible first | exact HI501.out | apply IsS53.alloc | apply IsS53.drewN | apply IsS53.drew | apply IsS53.set_1 | apply IsS53.set_2) | exact HI501.out)⟩, ⟨by repeat (first | (with_reducible first | exact HB.out | apply below_alloc | apply pw_below_drewN | apply below_drew1 | refine below_set ?_ (IsS53.ge HI501.out)) | exact HB.out)⟩⟩
    case rest =>
      clear HC9
      try clear c1
      try clear c2
      try clear p2
      try clear c3
      try clear c4
      try clear c7
      try clear c19
      obtain ⟨kq, x5_8, x502001_8, x502002_8, HA, HJ8, HO_5, HI501, HB⟩ := hcut
      cases kq with
      | zero => exact absurd HA.out (by simp [spec_DrawGetNum.j0])
      | succ kj8 =>
        have H := HA.out
        clear HA
        simp only [spec_DrawGetNum.j0] at H
        replace H := Option.bind_eq_some_iff.mp H
        obtain ⟨⟨t529, t530, t531⟩, A230, H⟩ := H
        replace H : (if t529 = true then ((spec_l1PickInt.f t498 t530 t531 (([(-1), 0, (x5_8.length : Int), wrap64 ((x5_8.length : Int) + 1), 4611686018427387904] : List Int))).bind fun bt535 => (spec_DrawGetNum.j1 kj8 x5_8 bt535.1 t498 bt535.2.1 bt535.2.2)) else (spec_DrawGetNum.j1 kj8 x5_8 (t502.length : Int) t498 t530 t531)) = some (r1, r2) := H
        have A23 := Aside0.mk A230
        clear A230
        have HC24 := Aside0.mk H
        clear H
        go_upto_if 26 with (first | ((with_reducible refine gate_callee (f := 43) rfl ?_); refine goesL_ (some 26) rfl rfl Try.func43 (by kernel_rfl) rfl #[.pointer (some ⟨g501, 0, none⟩), .int .i64 6] rfl (by (try simp only [List.map_toArray, List.map_cons, List.map_nil]); first | done | rfl | (simp only [List.length_drop, List.length_take]; rfl)) ?_; (with_reducible refine (spec_l1Once.calls g501 t498 x502001_8 x502002_8 6 t529 t530 t531 w _ ?side1 ?side2 A23.out).mono ?_); (case side1 => repeat (first | (with_reducible first | exact HI501.out | apply IsS53.alloc | apply IsS53.drewN | apply IsS53.drew | apply IsS53.set_1 | apply IsS53.set_2) | exact HI501.out)); (case side2 => repeat (first | (with_reducible first | exact HB.out | apply below_alloc | apply pw_below_drewN | apply below_drew1 | refine below_set ?_ (IsS53.ge HI501.out)) | exact HB.out)); rintro e w25 ⟨rfl, hi, hb, hk⟩; refine ⟨_, rfl, ?_⟩; have n0_ := Aside0.mk (Kd.R_mono (Kd.R_keep (IsS53.apart (show IsS53 w _ g501 t498 x502001_8 x502002_8 from by repeat (first | (with_reducible first | exact HI501.out | apply IsS53.alloc | apply IsS53.drewN | apply IsS53.drew | apply IsS53.set_1 | apply IsS53.set_2) | exact HI501.out)) (by (with_reducible repeat (first | apply Kd.R_alloc | apply Kd.R_drewN | apply Kd.R_drew)); exact HO_5.out) (by decide)) hk (fun _ h => h.2)) (fun _ h => h.1)); have n1_ := Aside0.mk (hb); have n2_ := Aside0.mk (hi); clear HO_5; clear HB; clear HI501; have HO_5 := n0_; have HB := n1_; have HI501 := n2_; clear n0_ n1_ n2_; (try clear hb); (try clear hb2); (try clear hk); (try clear hi)))
        (try simp only [Act.put, List.setIfInBounds_toArray, List.set_cons_zero, List.set_cons_succ])
        go_cut [6] (fun v6 wc => ∃ (kq : Nat) (x6_23 : Int) (x502001_23 : Int) (x502002_23 : Int), v6 = .int .i64 x6_23 ∧ Aside0 (spec_DrawGetNum.j1 kq x5_8 x6_23 t498 x502001_23 x502002_23 = some (r1, r2)) ∧ Aside0 (kq ≤ kj8) ∧ Aside0 (Kd.R (Kd.int .u8) 5 wc w.heap.size (fun _ => True) u5 x5_8) ∧ Aside0 (IsS53 w wc g501 t498 x502001_23 x502002_23) ∧ Aside0 (Below w.heap.size w wc))
        case first =>
          have H := HC24.out
          clear HC24
          by_cases c26 : t529 = true
          · subst c26
            have H1 : ((spec_l1PickInt.f t498 t530 t531 (([(-1), 0, (x5_8.length : Int), wrap64 ((x5_8.length : Int) + 1), 4611686018427387904] : List Int))).bind fun bt535 => (spec_DrawGetNum.j1 kj8 x5_8 bt535.1 t498 bt535.2.1 bt535.2.2)) = some (r1, r2) := by rw [if_pos rfl] at H; exact H
            clear H
            have H := H1
            clear H1
            obtain ⟨y532, hy532⟩ : ∃ y_ : List Int, y_ = (([(-1), 0, (x5_8.length : Int), wrap64 ((x5_8.length : Int) + 1), 4611686018427387904] : List Int)) := ⟨_, rfl⟩
            replace H : ((spec_l1PickInt.f t498 t530 t531 y532).bind fun bt535 => (spec_DrawGetNum.j1 kj8 x5_8 bt535.1 t498 bt535.2.1 bt535.2.2)) = some (r1, r2) := by first | (rw [hy532]; with_reducible exact H) | (have H2_ := (Option.bind_some _ _).symm.trans H; rw [hy532]; with_reducible exact H2_) | (have H2_ := (Option.bind_some _ _).symm.trans H; with_reducible exact H2_) | with_reducible exact H | (rw [hy532]; exact H) | exact H
            have Ny532 := Aside0.mk hy532
            clear hy532
            replace H := Option.bind_eq_some_iff.mp H
            obtain ⟨⟨t535, t536, t537⟩, A270, H⟩ := H
            replace H : (spec_DrawGetNum.j1 kj8 x5_8 t535 t498 t536 t537) = some (r1, r2) := H
            have A27 := Aside0.mk A270
            clear A270
            have H' := Aside0.mk H
            clear H
            obtain ⟨Ao28, co28, eo28⟩ := Kd.R_slice HO_5.out
            subst eo28
            go_wp2_with (first | ((with_reducible refine gate_dst (N := 33) rfl ?_); refine Kd.R_lit (Kd.int .i64) _ 3 ?hg (N := 33) ?hd (xs := ([(-1), 0, (x5_8.length : Int), wrap64 ((x5_8.length : Int) + 1), 4611686018427387904] : List Int)) (inner := [.int .i64 (-1), .int .i64 0, .int .i64 (x5_8.length : Int), .int .i64 (wrap64 ((x5_8.length : Int) + 1)), .int .i64 4611686018427387904]) (ok := fun _ => True) (okp := fun _ => True) ?hr ?hp (fun _ hk => hk) trivial (Below.refl _ _) (Nat.le_refl _) (by simp) ?_; (case hd => rfl); (case hg => rfl); (case hr => first | (go_simp; done) | (go_simp; rfl)); (case hp => exact (Reps.one (show Kd.M (Kd.int .i64) _ _ _ (-1) [.int .i64 (-1)] from rfl) (Reps.one (show Kd.M (Kd.int .i64) _ _ _ 0 [.int .i64 0] from rfl) (Reps.one (show Kd.M (Kd.int .i64) _ _ _ (x5_8.length : Int) [.int .i64 (x5_8.length : Int)] from rfl) (Reps.one (show Kd.M (Kd.int .i64) _ _ _ (wrap64 ((x5_8.length : Int) + 1)) [.int .i64 (wrap64 ((x5_8.length : Int) + 1))] from rfl) (Reps.one (show Kd.M (Kd.int .i64) _ _ _ 4611686018427387904 [.int .i64 4611686018427387904] from rfl) (Reps.none _ _))))))); intro v533 w29 ho30 hb hg_ hnew_; clear hg_ hnew_; (first | rw [← Ny532.out] at ho30 | (simp only [Int.reduceToNat] at ho30; rw [← Ny532.out] at ho30)); have n0_ := Aside0.mk (Kd.R_below (by (with_reducible repeat (first | apply Kd.R_alloc | apply Kd.R_drewN | apply Kd.R_drew)); exact HO_5.out) hb); have n1_ := Aside0.mk (Kd.R_lower ho30 (below_size (by repeat (first | (with_reducible first | exact HB.out | apply below_alloc | apply pw_below_drewN | apply below_drew1 | refine below_set ?_ (IsS53.ge HI501.out)) | exact HB.out)))); have n2_ := Aside0.mk (IsS53.below (by repeat (first | (with_reducible first | exact HI501.out | apply IsS53.alloc | apply IsS53.drewN | apply IsS53.drew | apply IsS53.set_1 | apply IsS53.set_2) | exact HI501.out)) hb); have n3_ := Aside0.mk (below_step (by repeat (first | (with_reducible first | exact HB.out | apply below_alloc | apply pw_below_drewN | apply below_drew1 | refine below_set ?_ (IsS53.ge HI501.out)) | exact HB.out)) hb); clear HO_5; clear HI501; clear HB; have HO_5 := n0_; have HO534 := n1_; have HI501 := n2_; have HB := n3_; clear n0_ n1_ n2_ n3_; clear hb ho30; obtain ⟨Ao31, co31, eo31⟩ := Kd.R_slice HO534.out; subst eo31) | ((with_reducible refine gate_callee (f := 50) rfl ?_); refine goesL_ (some 34) rfl rfl Try.func50 (by kernel_rfl) rfl #[.pointer (some ⟨g501, 0, none⟩), .slice Ao31 y532.length co31] rfl (by (try simp only [List.map_toArray, List.map_cons, List.map_nil]); first | done | rfl | (simp only [List.length_drop, List.length_take]; rfl)) ?_; (with_reducible refine (spec_l1PickInt.calls g501 t498 t530 t531 _ _ y532 t535 t536 t537 w _ ?side1 ?side2 ?side3 ?side4 ?side5 A27.out).mono ?_); (case side1 => repeat (first | (with_reducible first | exact HI501.out | apply IsS53.alloc | apply IsS53.drewN | apply IsS53.drew | apply IsS53.set_1 | apply IsS53.set_2) | exact HI501.out)); (case side2 => repeat (first | (with_reducible first | exact HB.out | apply below_alloc | apply pw_below_drewN | apply below_drew1 | refine below_set ?_ (IsS53.ge HI501.out)) | exact HB.out)); (case side3 => repeat (first | exact (Kd.R_reads' HO534.out).2.2 | (with_reducible refine Kd.C_alloc ?_ _) | (with_reducible refine Kd.C_drewN ?_ _) | (with_reducible refine Kd.C_drew ?_))); (case side4 => exact (Kd.R_reads' HO534.out).2.1); (case side5 => exact far_slice (IsS53.own_ne HI501.out HO534.out (by decide))); rintro e w32 ⟨rfl, hi, hb, hk⟩; refine ⟨_, rfl, ?_⟩; have n0_ := Aside0.mk (Kd.R_mono (Kd.R_keep (IsS53.apart (show IsS53 w _ g501 t498 t530 t531 from by repeat (first | (with_reducible first | exact HI501.out | apply IsS53.alloc | apply IsS53.drewN | apply IsS53.drew | apply IsS53.set_1 | apply IsS53.set_2) | exact HI501.out)) (by (with_reducible repeat (first | apply Kd.R_alloc | apply Kd.R_drewN | apply Kd.R_drew)); exact HO_5.out) (by decide)) hk (fun _ h => h.2)) (fun _ h => h.1)); have n1_ := Aside0.mk (Kd.R_mono (Kd.R_keep (IsS53.apart (show IsS53 w _ g501 t498 t530 t531 from by repeat (first | (with_reducible first | exact HI501.out | apply IsS53.alloc | apply IsS53.drewN | apply IsS53.drew | apply IsS53.set_1 | apply IsS53.set_2) | exact HI501.out)) (by (with_reducible repeat (first | apply Kd.R_alloc | apply Kd.R_drewN | apply Kd.R_drew)); exact HO534.out) (by decide)) hk (fun _ h => h.2)) (fun _ h => h.1)); have n2_ := Aside0.mk (hb); have n3_ := Aside0.mk (hi); clear HO_5; clear HO534; clear HB; clear HI501; have HO_5 := n0_; have HO534 := n1_; have HB := n2_; have HI501 := n3_; clear n0_ n1_ n2_ n3_; (try clear hb); (try clear hb2); (try clear hk); (try clear hi)))
            go_meet
            case rel => exact ⟨_, (t535), (t536), (t537), (by first | rfl | (simp; done) | (simp [*]; done) | (simp [bne]; done)), H', ⟨by have := HJ8.out; first | omega | exact Nat.le_refl _⟩, ⟨by (with_reducible repeat (first | apply Kd.R_alloc | apply Kd.R_drewN | apply Kd.R_drew)); exact HO_5.out⟩, ⟨by repeat (first | (with_reducible first | exact HI501.out | apply IsS53.alloc | apply IsS53.drewN | apply IsS53.drew | apply IsS53.set_1 | apply IsS53.set_2) | exact HI501.out)⟩, ⟨by repeat (first | (with_reducible first | exact HB.out | apply below_alloc | apply pw_below_drewN | apply below_drew1 | refine below_set ?_ (IsS53.ge HI501.out)) | exact HB.out)⟩⟩
          · replace c26 := Bool.eq_false_iff.mpr c26
            subst c26
            have H1 : (spec_DrawGetNum.j1 kj8 x5_8 (t502.length : Int) t498 t530 t531) = some (r1, r2) := by rw [if_neg (show ¬ (false = true) by decide)] at H; exact H
            clear H
            have H := H1
            clear H1
            have H' := Aside0.mk H
            clear H
            go_wp2
            go_meet
            case rel => exact ⟨_, ((t502.length : Int)), (t530), (t531), (by first | rfl | (simp; done) | (simp [*]; done) | (simp [bne]; done)), H', ⟨by have := HJ8.out; first | omega | exact Nat.le_refl _⟩, ⟨by (with_reducible repeat (first | apply Kd.R_alloc | apply Kd.R_drewN | apply Kd.R_drew)); exact HO_5.out⟩, ⟨by repeat (first | (with_reducible first | exact HI501.out | apply IsS53.alloc | apply IsS53.drewN | apply IsS53.drew | apply IsS53.set_1 | apply IsS53.set_2) | exact HI501.out)⟩, ⟨by repeat (first | (with_reducible first | exact HB.out | apply below_alloc | apply pw_below_drewN | apply below_drew1 | refine below_set ?_ (IsS53.ge HI501.out)) | exact HB.out)⟩⟩
        case rest =>
          clear HC24
          try clear c1
          try clear c2
          try clear p2
          try clear c3
          try clear c4
          try clear c5
          try clear p6
          try clear c7
          try clear c19
          try clear c26
          try clear c27
          try clear p2
          obtain ⟨kq, x6_23, x502001_23, x502002_23, rfl, HA, HJ23, HO_5, HI501, HB⟩ := hcut
          cases kq with
          | zero => exact absurd HA.out (by simp [spec_DrawGetNum.j1])
          | succ kj23 =>
            have H := HA.out
            clear HA
            simp only [spec_DrawGetNum.j1] at H
            replace H := Option.bind_eq_some_iff.mp H
            obtain ⟨⟨t538, t539, t540⟩, A330, H⟩ := H
            replace H : (if t538 = true then (if 0 ≤ (wrap64 ((x5_8.length : Int) / 2)) then (if (wrap64 ((x5_8.length : Int) / 2)) ≤ (x5_8.length : Int) then ((some (x5_8.take ((wrap64 ((x5_8.length : Int) / 2)) : Int).toNat : List Int)).bind fun y541 => ((spec_l1Below.f t498 t539 t540 20).bind fun bt544 => ((some (([255, 255, 255, 255, (bt544.1) % 256] : List Int) : List Int)).bind fun y547 => (if y541.length + y547.length < 140737488355328 then (some ((y541 ++ y547), x6_23)) else (none))))) else (none)) else (none)) else (some (x5_8, x6_23))) = some (r1, r2) := H
            have A33 := Aside0.mk A330
            clear A330
            by_cases c34 : t538 = true
            · subst c34
              have H1 : (if 0 ≤ (wrap64 ((x5_8.length : Int) / 2)) then (if (wrap64 ((x5_8.length : Int) / 2)) ≤ (x5_8.length : Int) then ((some (x5_8.take ((wrap64 ((x5_8.length : Int) / 2)) : Int).toNat : List Int)).bind fun y541 => ((spec_l1Below.f t498 t539 t540 20).bind fun bt544 => ((some (([255, 255, 255, 255, (bt544.1) % 256] : List Int) : List Int)).bind fun y547 => (if y541.length + y547.length < 140737488355328 then (some ((y541 ++ y547), x6_23)) else (none))))) else (none)) else (none)) = some (r1, r2) := by rw [if_pos rfl] at H; exact H
              clear H
              have H := H1
              clear H1
              obtain ⟨ji35, hji35⟩ : ∃ j_ : Int, (wrap64 ((x5_8.length : Int) / 2)) = j_ := ⟨_, rfl⟩
              replace H : (if 0 ≤ (ji35) then (if (ji35) ≤ (x5_8.length : Int) then ((some (x5_8.take ((ji35) : Int).toNat : List Int)).bind fun y541 => ((spec_l1Below.f t498 t539 t540 20).bind fun bt544 => ((some (([255, 255, 255, 255, (bt544.1) % 256] : List Int) : List Int)).bind fun y547 => (if y541.length + y547.length < 140737488355328 then (some ((y541 ++ y547), x6_23)) else (none))))) else (none)) else (none)) = some (r1, r2) := by first | (rw [hji35] at H; exact H) | (simp only [hji35] at H ⊢; exact H)
              (try rw [hji35] at A33)
              have hji35w : (IntKind.i64.wrap ((x5_8.length : Int) / 2)) = ji35 := (i64_w _).trans hji35
              by_cases c36 : 0 ≤ (ji35)
              · rw [if_pos c36] at H
                have c36b0 := eq_true c36
                have c36b1 : decide (0 ≤ (ji35)) = true := decide_eq_true c36
                clear c36
                by_cases c37 : (ji35) ≤ (x5_8.length : Int)
                · rw [if_pos c37] at H
                  have c37b0 := eq_true c37
                  have c37b1 : decide ((ji35) ≤ (x5_8.length : Int)) = true := decide_eq_true c37
                  clear c37
                  obtain ⟨y541, hy541⟩ : ∃ y_ : List Int, y_ = (x5_8.take ((ji35) : Int).toNat) := ⟨_, rfl⟩
                  replace H : ((spec_l1Below.f t498 t539 t540 20).bind fun bt544 => ((some (([255, 255, 255, 255, (bt544.1) % 256] : List Int) : List Int)).bind fun y547 => (if y541.length + y547.length < 140737488355328 then (some ((y541 ++ y547), x6_23)) else (none)))) = some (r1, r2) := by first | (rw [hy541]; with_reducible exact H) | (have H2_ := (Option.bind_some _ _).symm.trans H; rw [hy541]; with_reducible exact H2_) | (have H2_ := (Option.bind_some _ _).symm.trans H; with_reducible exact H2_) | with_reducible exact H | (rw [hy541]; exact H) | exact H
                  have Ny541 := Aside0.mk hy541
                  clear hy541
                  replace H := Option.bind_eq_some_iff.mp H
                  obtain ⟨⟨t544, t545, t546⟩, A380, H⟩ := H
                  replace H : ((some (([255, 255, 255, 255, (t544) % 256] : List Int) : List Int)).bind fun y547 => (if y541.length + y547.length < 140737488355328 then (some ((y541 ++ y547), x6_23)) else (none))) = some (r1, r2) := H
                  have A38 := Aside0.mk A380
                  clear A380
                  obtain ⟨y547, hy547⟩ : ∃ y_ : List Int, y_ = (([255, 255, 255, 255, (t544) % 256] : List Int)) := ⟨_, rfl⟩
                  replace H : (if y541.length + y547.length < 140737488355328 then (some ((y541 ++ y547), x6_23)) else (none)) = some (r1, r2) := by first | (rw [hy547]; with_reducible exact H) | (have H2_ := (Option.bind_some _ _).symm.trans H; rw [hy547]; with_reducible exact H2_) | (have H2_ := (Option.bind_some _ _).symm.trans H; with_reducible exact H2_) | with_reducible exact H | (rw [hy547]; exact H) | exact H
                  have Ny547 := Aside0.mk hy547
                  clear hy547
                  by_cases c39 : y541.length + y547.length < 140737488355328
                  · rw [if_pos c39] at H
                    have LMc39 := Aside0.mk c39
                    clear c39
                    obtain ⟨y550, hy550⟩ : ∃ y_ : List Int, y_ = (y541 ++ y547) := ⟨_, rfl⟩
                    replace H : (some (y550, x6_23)) = some (r1, r2) := by first | (rw [hy550]; with_reducible exact H) | (have H2_ := (Option.bind_some _ _).symm.trans H; rw [hy550]; with_reducible exact H2_) | (have H2_ := (Option.bind_some _ _).symm.trans H; with_reducible exact H2_) | with_reducible exact H | (rw [hy550]; exact H) | exact H
                    have Ny550 := Aside0.mk hy550
                    clear hy550
                    simp only [Option.some.injEq, Prod.mk.injEq] at H
                    obtain ⟨rfl, rfl⟩ := H
                    try go_wp2_with (first | ((with_reducible refine gate_callee (f := 43) rfl ?_); refine goesL_ (some 36) rfl rfl Try.func43 (by kernel_rfl) rfl #[.pointer (some ⟨g501, 0, none⟩), .int .i64 8] rfl (by (try simp only [List.map_toArray, List.map_cons, List.map_nil]); first | done | rfl | (simp only [List.length_drop, List.length_take]; rfl)) ?_; (with_reducible refine (spec_l1Once.calls g501 t498 x502001_23 x502002_23 8 true t539 t540 w _ ?side1 ?side2 A33.out).mono ?_); (case side1 => repeat (first | (with_reducible first | exact HI501.out | apply IsS53.alloc | apply IsS53.drewN | apply IsS53.drew | apply IsS53.set_1 | apply IsS53.set_2) | exact HI501.out)); (case side2 => repeat (first | (with_reducible first | exact HB.out | apply below_alloc | apply pw_below_drewN | apply below_drew1 | refine below_set ?_ (IsS53.ge HI501.out)) | exact HB.out)); rintro e w40 ⟨rfl, hi, hb, hk⟩; refine ⟨_, rfl, ?_⟩; have n0_ := Aside0.mk (Kd.R_mono (Kd.R_keep (IsS53.apart (show IsS53 w _ g501 t498 x502001_23 x502002_23 from by repeat (first | (with_reducible first | exact HI501.out | apply IsS53.alloc | apply IsS53.drewN | apply IsS53.drew | apply IsS53.set_1 | apply IsS53.set_2) | exact HI501.out)) (by (with_reducible repeat (first | apply Kd.R_alloc | apply Kd.R_drewN | apply Kd.R_drew)); exact HO_5.out) (by decide)) hk (fun _ h => h.2)) (fun _ h => h.1)); have n1_ := Aside0.mk (hb); have n2_ := Aside0.mk (hi); clear HO_5; clear HB; clear HI501; have HO_5 := n0_; have HB := n1_; have HI501 := n2_; clear n0_ n1_ n2_; (try clear hb); (try clear hb2); (try clear hk); (try clear hi)))
                    have n0_ := Aside0.mk (Kd.R_drew HO_5.out)
                    have n1_ := Aside0.mk (IsS53.drew HI501.out)
                    have n2_ := Aside0.mk (below_drew1 HB.out)
                    clear HO_5
                    clear HI501
                    clear HB
                    have HO_5 := n0_
                    have HI501 := n1_
                    have HB := n2_
                    clear n0_ n1_ n2_
                    obtain ⟨Ao42, co42, eo42⟩ := Kd.R_slice HO_5.out
                    (first | subst eo42 | (injection eo42 with f1_ f2_ f3_; have f4_ := f1_.symm; have f5_ := f3_.symm; clear f1_ f2_ f3_; subst f4_; subst f5_))
                    have q43 : ((ji35) : Int) ≤ ((x5_8.length : Int) : Int) := of_decide_eq_true (by first | (with_reducible assumption) | assumption)
                    obtain ⟨i043, hi043, _, hsz43, _⟩ := info_parts info5
                    have hcut43 := cut_to (P := Try.prog) 25 5 .i64 Try.underlying25 hi043 Ao42 x5_8.length co42 (ji35) (of_decide_eq_true (by first | (with_reducible assumption) | assumption)) q43 (Kd.R_reads' HO_5.out).2.1
                    have hr43 := Kd.R_take (m := ((ji35) : Int).toNat) HO_5.out (by omega)
                    have hy43 : y541.length = ((ji35) : Int).toNat := (by rw [Ny541.out, List.length_take]; omega)
                    rw [← Ny541.out] at hr43
                    rw [← hy43] at hr43 hcut43
                    clear hy43 hi043 hsz43 HO_5
                    have HO543 := Aside0.mk hr43
                    clear hr43
                    replace q43 := eq_true q43
                    refine start_ (n := 11) (S := fun w' => True) (ds := []) #[false, false, false, false, false, false, false, false, false, false, false] (by kernel_rfl) rfl rfl trivial (fun hHeld => ?_); refine with_tabW spec_DrawGetNum.tab10 spec_DrawGetNum.bits10 (fun HT_ HW_ => ?_)
                    generalize w40.drew = w41 at HO_5 HI501 HB HO543 hHeld ⊢
                    refine pure_ (i := 0) (N := some 37) (v := ?_) (a' := ?_) #[true, false, false, false, false, false, false, false, false, false, false] rfl rfl (any_of HT_.out (by kernel_rfl)) (fun _ _ _ h => h) (Or.inl ⟨by rfl, ?_⟩) ?_ ?_
                    rotate_left
                    · intro w'
                      go_simp
                      with_reducible rfl
                    rotate_left
                    · simp only [Act.put, List.setIfInBounds_toArray, List.set_cons_zero, List.set_cons_succ, i64_w, i32_w]
                      rfl
                    refine pure_ (i := 1) (N := some 38) (v := ?_) (a' := ?_) #[true, true, false, false, false, false, false, false, false, false, false] rfl rfl (any_of HT_.out (by kernel_rfl)) (fun _ _ _ h => h) (Or.inl ⟨by rfl, ?_⟩) ?_ ?_
                    rotate_left
                    · intro w'
                      go_simp
                      with_reducible rfl
                    rotate_left
                    · simp only [Act.put, List.setIfInBounds_toArray, List.set_cons_zero, List.set_cons_succ, i64_w, i32_w]
                      rfl
                    refine pure_ (i := 2) (N := some 39) (v := ?_) (a' := ?_) #[true, true, true, false, false, false, false, false, false, false, false] rfl rfl (any_of HT_.out (by kernel_rfl)) (fun _ _ _ h => h) (Or.inl ⟨by rfl, ?_⟩) ?_ ?_
                    rotate_left
                    · intro w'
                      go_simp
                      with_reducible rfl
                    rotate_left
                    · simp only [Act.put, List.setIfInBounds_toArray, List.set_cons_zero, List.set_cons_succ, i64_w, i32_w]
                      rfl
                    refine pure_ (i := 3) (N := some 40) (v := ?_) (a' := ?_) #[true, true, true, true, false, false, false, false, false, false, false] rfl rfl (any_of HT_.out (by kernel_rfl)) (fun _ _ _ h => h) (Or.inl ⟨by rfl, ?_⟩) ?_ ?_
                    rotate_left
                    · intro w'
                      go_simp
                      with_reducible rfl
                    rotate_left
                    · simp only [Act.put, List.setIfInBounds_toArray, List.set_cons_zero, List.set_cons_succ, i64_w, i32_w]
                      rfl
                    refine pure_ (i := 4) (N := some 41) (v := ?_) (a' := ?_) #[true, true, true, true, true, false, false, false, false, false, false] rfl rfl (any_of HT_.out (by kernel_rfl)) (fun _ _ _ h => h) (Or.inl ⟨by rfl, ?_⟩) ?_ ?_
                    rotate_left
                    · intro w'
                      go_simp
                      with_reducible rfl
                    rotate_left
                    · simp only [Act.put, List.setIfInBounds_toArray, List.set_cons_zero, List.set_cons_succ, i64_w, i32_w]
                      rfl
                    refine pure_ (i := 5) (N := some 42) (v := ?_) (a' := ?_) #[true, true, true, true, true, true, false, false, false, false, false] rfl rfl (any_of HT_.out (by kernel_rfl)) (fun _ _ _ h => h) (Or.inl ⟨by rfl, ?_⟩) ?_ ?_
                    rotate_left
                    · intro w'
                      go_simp
                      with_reducible rfl
                    rotate_left
                    · simp only [Act.put, List.setIfInBounds_toArray, List.set_cons_zero, List.set_cons_succ, i64_w, i32_w]
                      rfl
                    refine one_ (i := 6) (N := some 43) #[true, true, true, true, true, true, true, false, false, false, false] rfl rfl (one_of HT_.out (by kernel_rfl)) (by decide) (fun K hK => ?_)
                    refine goes_ Try.func45 (by kernel_rfl) rfl #[.pointer (some ⟨g501, 0, none⟩), .int .i64 20] (by rfl) rfl rfl (by (try simp only [List.map_toArray, List.map_cons, List.map_nil]); first | done | rfl | (simp only [List.length_drop, List.length_take]; rfl)) ?_
                    with_reducible refine (spec_l1Below.calls g501 t498 t539 t540 20 t544 t545 t546 w _ ?side1 ?side2 A38.out).mono ?_
                    (case side1 => repeat (first | (with_reducible first | exact HI501.out | apply IsS53.alloc | apply IsS53.drewN | apply IsS53.drew | apply IsS53.set_1 | apply IsS53.set_2) | exact HI501.out))
                    (case side2 => repeat (first | (with_reducible first | exact HB.out | apply below_alloc | apply pw_below_drewN | apply below_drew1 | refine below_set ?_ (IsS53.ge HI501.out)) | exact HB.out))
                    rintro e w44 ⟨rfl, hi, hb, hk⟩
                    refine ⟨_, rfl, ?_⟩
                    have n0_ := Aside0.mk (Kd.R_mono (Kd.R_keep (IsS53.apart (show IsS53 w _ g501 t498 t539 t540 from by repeat (first | (with_reducible first | exact HI501.out | apply IsS53.alloc | apply IsS53.drewN | apply IsS53.drew | apply IsS53.set_1 | apply IsS53.set_2) | exact HI501.out)) (by (with_reducible repeat (first | apply Kd.R_alloc | apply Kd.R_drewN | apply Kd.R_drew)); exact HO543.out) (by decide)) hk (fun _ h => h.2)) (fun _ h => h.1))
                    have n1_ := Aside0.mk (hb)
                    have n2_ := Aside0.mk (hi)
                    clear HO543
                    clear HB
                    clear HI501
                    have HO543 := n0_
                    have HB := n1_
                    have HI501 := n2_
                    clear n0_ n1_ n2_
                    (try clear hb)
                    (try clear hb2)
                    (try clear hk)
                    (try clear hi)
                    refine hK.out _ _ trivial (fun hHeld => ?_)
                    clear hK K
                    refine norm_ (a' := ?_) ?_ ?_
                    rotate_left
                    · show Act.put _ (some 43) _ = _
                      simp only [Act.put, List.setIfInBounds_toArray, List.set_cons_zero, List.set_cons_succ, i64_w, i32_w]
                      rfl
                    refine pure_ (i := 7) (N := some 44) (v := ?_) (a' := ?_) #[true, true, true, true, true, true, true, true, false, false, false] rfl rfl (any_of HT_.out (by kernel_rfl)) (fun _ _ _ h => h) (Or.inl ⟨by rfl, ?_⟩) ?_ ?_
                    rotate_left
                    · intro w'
                      go_simp
                      with_reducible rfl
                    rotate_left
                    · simp only [Act.put, List.setIfInBounds_toArray, List.set_cons_zero, List.set_cons_succ, i64_w, i32_w]
                      rfl
                    refine one_ (i := 8) (N := some 45) #[true, true, true, true, true, true, true, true, true, false, false] rfl rfl (one_of HT_.out (by kernel_rfl)) (by decide) (fun K hK => ?_)
                    refine Kd.R_lit_step (Kd.int .u8) _ 5 ?hg (N := 45) ?hd (xs := ([255, 255, 255, 255, (t544) % 256] : List Int)) (inner := [.int .u8 255, .int .u8 255, .int .u8 255, .int .u8 255, .int .u8 ((t544) % 256)]) (ok := fun _ => True) (okp := fun _ => True) ?hr ?hp (fun _ hk => hk) trivial (Below.refl _ _) (Nat.le_refl _) (by simp) ?_; (case hd => rfl); (case hg => rfl); (case hr => first | (go_simp; done) | (go_simp; rfl)); (case hp => exact (Reps.one (show Kd.M (Kd.int .u8) _ _ _ 255 [.int .u8 255] from rfl) (Reps.one (show Kd.M (Kd.int .u8) _ _ _ 255 [.int .u8 255] from rfl) (Reps.one (show Kd.M (Kd.int .u8) _ _ _ 255 [.int .u8 255] from rfl) (Reps.one (show Kd.M (Kd.int .u8) _ _ _ 255 [.int .u8 255] from rfl) (Reps.one (show Kd.M (Kd.int .u8) _ _ _ ((t544) % 256) [.int .u8 ((t544) % 256)] from rfl) (Reps.none _ _)))))))
                    intro v548 w45 ho46 hb hg_ hnew_
                    clear hg_ hnew_
                    (first | rw [← Ny547.out] at ho46 | (simp only [Int.reduceToNat] at ho46; rw [← Ny547.out] at ho46))
                    have n0_ := Aside0.mk (Kd.R_elder' (by (with_reducible repeat (first | apply Kd.R_alloc | apply Kd.R_drewN | apply Kd.R_drew)); exact HO543.out) (Kd.R_base ho46) hb)
                    have n1_ := Aside0.mk (Kd.R_lower (Kd.R_new' ho46 (Kd.R_lt (by (with_reducible repeat (first | apply Kd.R_alloc | apply Kd.R_drewN | apply Kd.R_drew)); exact HO543.out))) (below_size (by repeat (first | (with_reducible first | exact HB.out | apply below_alloc | apply pw_below_drewN | apply below_drew1 | refine below_set ?_ (IsS53.ge HI501.out)) | exact HB.out))))
                    have n2_ := Aside0.mk (IsS53.below (by repeat (first | (with_reducible first | exact HI501.out | apply IsS53.alloc | apply IsS53.drewN | apply IsS53.drew | apply IsS53.set_1 | apply IsS53.set_2) | exact HI501.out)) hb)
                    have n3_ := Aside0.mk (below_step (by repeat (first | (with_reducible first | exact HB.out | apply below_alloc | apply pw_below_drewN | apply below_drew1 | refine below_set ?_ (IsS53.ge HI501.out)) | exact HB.out)) hb)
                    clear HO543
                    clear HI501
                    clear HB
                    have HO543 := n0_
                    have HO549 := n1_
                    have HI501 := n2_
                    have HB := n3_
                    clear n0_ n1_ n2_ n3_
                    clear hb ho46
                    obtain ⟨Ao48, co48, eo48⟩ := Kd.R_slice HO549.out
                    (first | subst eo48 | (injection eo48 with f1_ f2_ f3_; have f4_ := f1_.symm; have f5_ := f3_.symm; clear f1_ f2_ f3_; subst f4_; subst f5_))
                    refine hK.out _ _ trivial (fun hHeld => ?_)
                    clear hK K
                    refine norm_ (a' := ?_) ?_ ?_
                    rotate_left
                    · show Act.put _ (some 45) _ = _
                      simp only [Act.put, List.setIfInBounds_toArray, List.set_cons_zero, List.set_cons_succ, i64_w, i32_w]
                      rfl
                    refine one_ (i := 9) (N := some 46) #[true, true, true, true, true, true, true, true, true, true, false] rfl rfl (one_of HT_.out (by kernel_rfl)) (by decide) (fun K hK => ?_)
                    refine Kd.R_append_rows_step (Kd.int .u8) (w0 := w) w.heap.size (by rfl) (.tmp 41) (.tmp 45) 25 5 (.int .u8 0) 1 rfl Try.underlying25 info5 rfl (by decide) (by omega) (.slice Ao42 y541.length co42) y541 y547 _ _ _ (fun k_ => some k_ ≠ (.slice Ao48 y547.length co48 : Value).ownBlock) (fun _ => False) rfl rfl ?aO ?aR (fun _ _ h => h) (fun _ h => h.elim) ?aF ?aB ?aS ?aL ?_
                    (case aR => repeat (first | exact (Kd.R_reads' HO549.out).2.2 | (with_reducible refine Kd.C_alloc ?_ _) | (with_reducible refine Kd.C_drewN ?_ _) | (with_reducible refine Kd.C_drew ?_)))
                    (case aB => exact (by repeat (first | (with_reducible first | exact HB.out | apply below_alloc | apply pw_below_drewN | apply below_drew1 | refine below_set ?_ (IsS53.ge HI501.out)) | exact HB.out)))
                    (case aF => exact (fun k_ hk => Kd.fresh' (Kd.R_lt (by (with_reducible repeat (first | apply Kd.R_alloc | apply Kd.R_drewN | apply Kd.R_drew)); exact HO549.out)) k_ hk))
                    (case aO => exact (by (with_reducible repeat (first | apply Kd.R_alloc | apply Kd.R_drewN | apply Kd.R_drew)); exact Kd.R_mono HO543.out (fun _ hk => hk.2)))
                    (case aS => exact (below_size (by repeat (first | (with_reducible first | exact HB.out | apply below_alloc | apply pw_below_drewN | apply below_drew1 | refine below_set ?_ (IsS53.ge HI501.out)) | exact HB.out))))
                    (case aL => have := LMc39.out; omega)
                    intro v551 w47 ho hb hg hat
                    (first | (simp only [Int.reduceToNat] at ho; rw [← Ny550.out] at ho) | rw [← Ny550.out] at ho)
                    have n0_ := Aside0.mk (IsS53.grown (by repeat (first | (with_reducible first | exact HI501.out | apply IsS53.alloc | apply IsS53.drewN | apply IsS53.drew | apply IsS53.set_1 | apply IsS53.set_2) | exact HI501.out)) hg (IsS53.own_ne HI501.out HO543.out (by decide)))
                    have n1_ := Aside0.mk (Kd.R_after (ok := (fun _ => True)) (by (with_reducible repeat (first | apply Kd.R_alloc | apply Kd.R_drewN | apply Kd.R_drew)); exact HO549.out) hg hat)
                    have n2_ := Aside0.mk (hb)
                    have n3_ := Aside0.mk (ho)
                    clear HI501
                    clear HO549
                    clear HB
                    clear HO543
                    have HI501 := n0_
                    have HO549 := n1_
                    have HB := n2_
                    have HO552 := n3_
                    clear n0_ n1_ n2_ n3_
                    clear ho hb hg hat
                    refine hK.out _ _ trivial (fun hHeld => ?_)
                    clear hK K
                    refine norm_ (a' := ?_) ?_ ?_
                    rotate_left
                    · show Act.put _ (some 46) _ = _
                      simp only [Act.put, List.setIfInBounds_toArray, List.set_cons_zero, List.set_cons_succ, i64_w, i32_w]
                      rfl
                    refine pure_ (i := 10) (N := some 5) (v := ?_) (a' := ?_) #[true, true, true, true, true, true, true, true, true, true, true] rfl rfl (any_of HT_.out (by kernel_rfl)) (fun _ _ _ h => h) (Or.inl ⟨by rfl, ?_⟩) ?_ ?_
                    rotate_left
                    · intro w'
                      go_simp
                      with_reducible rfl
                    rotate_left
                    · simp only [Act.put, List.setIfInBounds_toArray, List.set_cons_zero, List.set_cons_succ, i64_w, i32_w]
                      rfl
                    refine done_ (done_of HT_.out (by kernel_rfl)) ?_
                    try go_wp2
                    go_ret2
                    exact ⟨_, by first | rfl | (simp [errW_none, errW_some] <;> rfl) | (simp only [← hji35]; first | rfl | (simp [errW_none, errW_some] <;> rfl)) | (simp [*, errW_none, errW_some] <;> rfl), by (with_reducible repeat (first | apply Kd.R_alloc | apply Kd.R_drewN | apply Kd.R_drew)); exact Kd.R_mono HO552.out (fun _ hk => trivial), by repeat (first | (with_reducible first | exact HB.out | apply below_alloc | apply pw_below_drewN | apply below_drew1 | refine below_set ?_ (IsS53.ge HI501.out)) | exact HB.out)⟩
                  · rw [if_neg c39] at H
                    exact absurd H (by simp)
                · rw [if_neg c37] at H
                  exact absurd H (by simp)
              · rw [if_neg c36] at H
                exact absurd H (by simp)
            · replace c34 := Bool.eq_false_iff.mpr c34
              subst c34
              have H1 : (some (x5_8, x6_23)) = some (r1, r2) := by rw [if_neg (show ¬ (false = true) by decide)] at H; exact H
              clear H
              have H := H1
              clear H1
              simp only [Option.some.injEq, Prod.mk.injEq] at H
              obtain ⟨rfl, rfl⟩ := H
              go_wp2_with (first | ((with_reducible refine gate_callee (f := 43) rfl ?_); refine goesL_ (some 36) rfl rfl Try.func43 (by kernel_rfl) rfl #[.pointer (some ⟨g501, 0, none⟩), .int .i64 8] rfl (by (try simp only [List.map_toArray, List.map_cons, List.map_nil]); first | done | rfl | (simp only [List.length_drop, List.length_take]; rfl)) ?_; (with_reducible refine (spec_l1Once.calls g501 t498 x502001_23 x502002_23 8 false t539 t540 w _ ?side1 ?side2 A33.out).mono ?_); (case side1 => repeat (first | (with_reducible first | exact HI501.out | apply IsS53.alloc | apply IsS53.drewN | apply IsS53.drew | apply IsS53.set_1 | apply IsS53.set_2) | exact HI501.out)); (case side2 => repeat (first | (with_reducible first | exact HB.out | apply below_alloc | apply pw_below_drewN | apply below_drew1 | refine below_set ?_ (IsS53.ge HI501.out)) | exact HB.out)); rintro e w49 ⟨rfl, hi, hb, hk⟩; refine ⟨_, rfl, ?_⟩; have n0_ := Aside0.mk (Kd.R_mono (Kd.R_keep (IsS53.apart (show IsS53 w _ g501 t498 x502001_23 x502002_23 from by repeat (first | (with_reducible first | exact HI501.out | apply IsS53.alloc | apply IsS53.drewN | apply IsS53.drew | apply IsS53.set_1 | apply IsS53.set_2) | exact HI501.out)) (by (with_reducible repeat (first | apply Kd.R_alloc | apply Kd.R_drewN | apply Kd.R_drew)); exact HO_5.out) (by decide)) hk (fun _ h => h.2)) (fun _ h => h.1)); have n1_ := Aside0.mk (hb); have n2_ := Aside0.mk (hi); clear HO_5; clear HB; clear HI501; have HO_5 := n0_; have HB := n1_; have HI501 := n2_; clear n0_ n1_ n2_; (try clear hb); (try clear hb2); (try clear hk); (try clear hi)))
              go_ret2
              exact ⟨_, by first | rfl | (simp [errW_none, errW_some] <;> rfl) | (simp [*, errW_none, errW_some] <;> rfl), by (with_reducible repeat (first | apply Kd.R_alloc | apply Kd.R_drewN | apply Kd.R_drew)); exact HO_5.out, by repeat (first | (with_reducible first | exact HB.out | apply below_alloc | apply pw_below_drewN | apply below_drew1 | refine below_set ?_ (IsS53.ge HI501.out)) | exact HB.out)⟩
  · rw [if_neg c7] at H
    exact absurd H (by simp)

end Go.Proofs.Ytophpcadfljkgaa.PA
