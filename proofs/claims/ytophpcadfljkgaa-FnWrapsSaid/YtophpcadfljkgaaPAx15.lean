-- Printed by a program of this session (wrap.py) out of the translation. Lean checks it.
import Derived.Test.YtophpcadfljkgaaPAx0
import Derived.Test.YtophpcadfljkgaaPAx7
import Derived.Test.YtophpcadfljkgaaPAx14
namespace Go.Proofs.Ytophpcadfljkgaa.PA
open Go.RowKit Go.Proofs.YtophpcadfljkgaaW.PrintWords Go.Proofs.YtophpcadfljkgaaW.PrintLast Go.Proofs.YtophpcadfljkgaaW.PrintMore
attribute [local go_sem] max2_int min2_int max_two min_two max_three min_three max_four min_four   -- for this text's walks alone
set_option linter.unusedVariables false
set_option linter.unusedSimpArgs false

/-! ### laws_FnWraps: function 8 -/
def laws_FnWraps.j0 : Nat → Int → Int → Int → Int → Bool → Option (Bool)
  | 0, _, _, _, _, _ => none
  | k + 1, x3, x4, x5, x6, x30 => if x30 = true then (some false) else ((impl_Wrap.f (wrap64 (x3 + x4))).bind fun t221 => ((impl_Wrap.f (wrap64 (x5 + x6))).bind fun t222 => (if t221 = t222 then ((impl_Wrap.f (wrap64 (x3 * x4))).bind fun t223 => ((impl_Wrap.f (wrap64 (x5 * x6))).bind fun t224 => (if t223 = t224 then ((impl_Wrap.f (wrap64 (x3 - x4))).bind fun t225 => ((impl_Wrap.f (wrap64 (x5 - x6))).bind fun t226 => (if t225 = t226 then (if x5 = x3 then (some true) else (if x3 < (-4611686018427387904) then (some true) else (some (decide (x3 > 4611686018427387903))))) else (some false)))) else (some false)))) else (some false))))
def laws_FnWraps.f (k : Nat) (l0 : List Int) : Option (Bool) := (spec_DrawWrap.f k l0).bind fun t215 => ((spec_DrawFold.f k l0).bind fun t216 => ((impl_Wrap.f t215).bind fun t217 => ((impl_Wrap.f t216).bind fun t218 => ((impl_Wrap.f t217).bind fun t219 => (if t219 = t217 then (if t217 < (-4611686018427387904) then (laws_FnWraps.j0 k t215 t216 t217 t218 true) else (if t217 > 4611686018427387903 then (laws_FnWraps.j0 k t215 t216 t217 t218 true) else ((impl_Wrap.f 4611686018427387904).bind fun t220 => (laws_FnWraps.j0 k t215 t216 t217 t218 (t220 != (-4611686018427387904)))))) else (laws_FnWraps.j0 k t215 t216 t217 t218 true))))))
theorem laws_FnWraps.mono_l : ∀ k, (∀ y0 y1 y2 y3 y4, LeO (laws_FnWraps.j0 k y0 y1 y2 y3 y4) (laws_FnWraps.j0 (k + 1) y0 y1 y2 y3 y4))
  | 0 => fun _ _ _ _ _ r h => by simp [laws_FnWraps.j0] at h
  | k + 1 => by
    have ih0 := laws_FnWraps.mono_l k
    · intro y0 y1 y2 y3 y4
      unfold laws_FnWraps.j0
      repeat' first
      | (with_reducible exact ih0 _ _ _ _ _)
      | (with_reducible exact spec_DrawFold.mono _ _)
      | (with_reducible exact spec_DrawWrap.mono _ _)
      | (with_reducible exact LeO.refl _)
      | (with_reducible exact LeO.none _)
      | (with_reducible refine LeO.ite ?_ ?_)
      | (with_reducible refine LeO.bind ?_ (fun _ => ?_))
      | exact ih0 _ _ _ _ _
      | exact spec_DrawFold.mono _ _
      | exact spec_DrawWrap.mono _ _
      | exact LeO.none _
      | refine LeO.ite ?_ ?_
      | refine LeO.bind ?_ (fun _ => ?_)
theorem laws_FnWraps.mono : ∀ a0 k, LeO (laws_FnWraps.f k a0) (laws_FnWraps.f (k + 1) a0) := by
  intro a0 k
  have ih0 := laws_FnWraps.mono_l k
  unfold laws_FnWraps.f
  repeat' first
      | (with_reducible exact ih0 _ _ _ _ _)
      | (with_reducible exact spec_DrawFold.mono _ _)
      | (with_reducible exact spec_DrawWrap.mono _ _)
      | (with_reducible exact LeO.refl _)
      | (with_reducible exact LeO.none _)
      | (with_reducible refine LeO.ite ?_ ?_)
      | (with_reducible refine LeO.bind ?_ (fun _ => ?_))
      | exact ih0 _ _ _ _ _
      | exact spec_DrawFold.mono _ _
      | exact spec_DrawWrap.mono _ _
      | exact LeO.none _
      | refine LeO.ite ?_ ?_
      | refine LeO.bind ?_ (fun _ => ?_)
set_option maxHeartbeats 8000000 in
set_option maxRecDepth 100000 in
theorem laws_FnWraps.calls (k : Nat) (A0 : Option Addr) (c0 : Nat) (l0 : List Int) (r : Bool) (w : World) (hr0 : Kd.C (Kd.int .u8) w A0 l0.length l0) (hc0 : l0.length ≤ c0) (h : laws_FnWraps.f k l0 = some r) :
    Calls Try.prog 8 #[.slice A0 l0.length c0] w fun e w' => e = .returned (.bool r) ∧ Below w.heap.size w w' := by
  have HR0 := Aside0.mk hr0
  have HC0 := Aside0.mk hc0
  clear hr0 hc0
  have HB := Aside0.mk (Below.refl w.heap.size w)
  have H : ((spec_DrawWrap.f k l0).bind fun t215 => ((spec_DrawFold.f k l0).bind fun t216 => ((impl_Wrap.f t215).bind fun t217 => ((impl_Wrap.f t216).bind fun t218 => ((impl_Wrap.f t217).bind fun t219 => (if t219 = t217 then (if t217 < (-4611686018427387904) then (laws_FnWraps.j0 k t215 t216 t217 t218 true) else (if t217 > 4611686018427387903 then (laws_FnWraps.j0 k t215 t216 t217 t218 true) else ((impl_Wrap.f 4611686018427387904).bind fun t220 => (laws_FnWraps.j0 k t215 t216 t217 t218 (t220 != (-4611686018427387904)))))) else (laws_FnWraps.j0 k t215 t216 t217 t218 true))))))) = some r := h
  clear h
  replace H := Option.bind_eq_some_iff.mp H
  obtain ⟨t215, A20, H⟩ := H
  replace H : ((spec_DrawFold.f k l0).bind fun t216 => ((impl_Wrap.f t215).bind fun t217 => ((impl_Wrap.f t216).bind fun t218 => ((impl_Wrap.f t217).bind fun t219 => (if t219 = t217 then (if t217 < (-4611686018427387904) then (laws_FnWraps.j0 k t215 t216 t217 t218 true) else (if t217 > 4611686018427387903 then (laws_FnWraps.j0 k t215 t216 t217 t218 true) else ((impl_Wrap.f 4611686018427387904).bind fun t220 => (laws_FnWraps.j0 k t215 t216 t217 t218 (t220 != (-4611686018427387904)))))) else (laws_FnWraps.j0 k t215 t216 t217 t218 true)))))) = some r := H
  have A2 := Aside0.mk A20
  clear A20
  replace H := Option.bind_eq_some_iff.mp H
  obtain ⟨t216, A30, H⟩ := H
  replace H : ((impl_Wrap.f t215).bind fun t217 => ((impl_Wrap.f t216).bind fun t218 => ((impl_Wrap.f t217).bind fun t219 => (if t219 = t217 then (if t217 < (-4611686018427387904) then (laws_FnWraps.j0 k t215 t216 t217 t218 true) else (if t217 > 4611686018427387903 then (laws_FnWraps.j0 k t215 t216 t217 t218 true) else ((impl_Wrap.f 4611686018427387904).bind fun t220 => (laws_FnWraps.j0 k t215 t216 t217 t218 (t220 != (-4611686018427387904)))))) else (laws_FnWraps.j0 k t215 t216 t217 t218 true))))) = some r := H
  have A3 := Aside0.mk A30
  clear A30
  replace H := Option.bind_eq_some_iff.mp H
  obtain ⟨t217, A40, H⟩ := H
  replace H : ((impl_Wrap.f t216).bind fun t218 => ((impl_Wrap.f t217).bind fun t219 => (if t219 = t217 then (if t217 < (-4611686018427387904) then (laws_FnWraps.j0 k t215 t216 t217 t218 true) else (if t217 > 4611686018427387903 then (laws_FnWraps.j0 k t215 t216 t217 t218 true) else ((impl_Wrap.f 4611686018427387904).bind fun t220 => (laws_FnWraps.j0 k t215 t216 t217 t218 (t220 != (-4611686018427387904)))))) else (laws_FnWraps.j0 k t215 t216 t217 t218 true)))) = some r := H
  have A4 := Aside0.mk A40
  clear A40
  replace H := Option.bind_eq_some_iff.mp H
  obtain ⟨t218, A50, H⟩ := H
  replace H : ((impl_Wrap.f t217).bind fun t219 => (if t219 = t217 then (if t217 < (-4611686018427387904) then (laws_FnWraps.j0 k t215 t216 t217 t218 true) else (if t217 > 4611686018427387903 then (laws_FnWraps.j0 k t215 t216 t217 t218 true) else ((impl_Wrap.f 4611686018427387904).bind fun t220 => (laws_FnWraps.j0 k t215 t216 t217 t218 (t220 != (-4611686018427387904)))))) else (laws_FnWraps.j0 k t215 t216 t217 t218 true))) = some r := H
  have A5 := Aside0.mk A50
  clear A50
  have HC6 := Aside0.mk H
  clear H
  go_enter Try.func8, Try.ntmps8
  go_upto_region 5 with (first | ((with_reducible refine gate_callee (f := 25) rfl ?_); refine goesL_ (some 8) rfl rfl Try.func25 (by kernel_rfl) rfl #[.slice A0 l0.length c0] rfl (by (try simp only [List.map_toArray, List.map_cons, List.map_nil]); first | done | rfl | (simp only [List.length_drop, List.length_take]; rfl)) ?_; (with_reducible refine (spec_DrawWrap.calls k _ _ l0 t215 _ ?side1 ?side2 A2.out).mono ?_); (case side1 => repeat (first | exact HR0.out | (with_reducible refine Kd.C_alloc ?_ _) | (with_reducible refine Kd.C_drewN ?_ _) | (with_reducible refine Kd.C_drew ?_))); (case side2 => exact HC0.out); rintro e w7 ⟨rfl, hb⟩; refine ⟨_, rfl, ?_⟩; have n0_ := Aside0.mk (below_step (by repeat (first | (with_reducible first | exact HB.out | apply below_alloc | apply pw_below_drewN | apply below_drew1) | exact HB.out)) hb); clear HB; have HB := n0_; clear n0_; (try clear hb); (try clear hb2); (try clear hk); (try clear hi)) | ((with_reducible refine gate_callee (f := 26) rfl ?_); refine goesL_ (some 10) rfl rfl Try.func26 (by kernel_rfl) rfl #[.slice A0 l0.length c0] rfl (by (try simp only [List.map_toArray, List.map_cons, List.map_nil]); first | done | rfl | (simp only [List.length_drop, List.length_take]; rfl)) ?_; (with_reducible refine (spec_DrawFold.calls k _ _ l0 t216 _ ?side1 ?side2 A3.out).mono ?_); (case side1 => repeat (first | exact (Kd.C_below HR0.out HB.out) | (with_reducible refine Kd.C_alloc ?_ _) | (with_reducible refine Kd.C_drewN ?_ _) | (with_reducible refine Kd.C_drew ?_))); (case side2 => exact HC0.out); rintro e w8 ⟨rfl, hb⟩; refine ⟨_, rfl, ?_⟩; have n0_ := Aside0.mk (below_step (by repeat (first | (with_reducible first | exact HB.out | apply below_alloc | apply pw_below_drewN | apply below_drew1) | exact HB.out)) hb); clear HB; have HB := n0_; clear n0_; (try clear hb); (try clear hb2); (try clear hk); (try clear hi)) | ((with_reducible refine gate_callee (f := 16) rfl ?_); refine goesL_ (some 12) rfl rfl Try.func16 (by kernel_rfl) rfl #[.int .i64 t215] rfl (by (try simp only [List.map_toArray, List.map_cons, List.map_nil]); first | done | rfl | (simp only [List.length_drop, List.length_take]; rfl)) ?_; (with_reducible refine (impl_Wrap.calls t215 t217 _ A4.out).mono ?_); rintro e w' ⟨rfl, ⟨nd, rfl⟩⟩; refine ⟨_, rfl, ?_⟩) | ((with_reducible refine gate_callee (f := 16) rfl ?_); refine goesL_ (some 14) rfl rfl Try.func16 (by kernel_rfl) rfl #[.int .i64 t216] rfl (by (try simp only [List.map_toArray, List.map_cons, List.map_nil]); first | done | rfl | (simp only [List.length_drop, List.length_take]; rfl)) ?_; (with_reducible refine (impl_Wrap.calls t216 t218 _ A5.out).mono ?_); rintro e w' ⟨rfl, ⟨nd, rfl⟩⟩; refine ⟨_, rfl, ?_⟩))
  (try simp only [Act.put, List.setIfInBounds_toArray, List.set_cons_zero, List.set_cons_succ])
  go_cut [30] (fun v30 wc => ∃ (kq : Nat) (x30_5 : Bool), v30 = .bool x30_5 ∧ Aside0 (laws_FnWraps.j0 kq t215 t216 t217 t218 x30_5 = some r) ∧ Aside0 (kq ≤ k) ∧ Aside0 (Below w.heap.size w wc))
  case first =>
    have H := HC6.out
    clear HC6
    replace H := Option.bind_eq_some_iff.mp H
    obtain ⟨t219, A90, H⟩ := H
    replace H : (if t219 = t217 then (if t217 < (-4611686018427387904) then (laws_FnWraps.j0 k t215 t216 t217 t218 true) else (if t217 > 4611686018427387903 then (laws_FnWraps.j0 k t215 t216 t217 t218 true) else ((impl_Wrap.f 4611686018427387904).bind fun t220 => (laws_FnWraps.j0 k t215 t216 t217 t218 (t220 != (-4611686018427387904)))))) else (laws_FnWraps.j0 k t215 t216 t217 t218 true)) = some r := H
    have A9 := Aside0.mk A90
    clear A90
    by_cases c10 : t219 = t217
    · rw [if_pos c10] at H
      have c10b0 : (t219 == t217) = true := beq_iff_eq.mpr c10
      have c10b1 : (t219 != t217) = false := bne_eq_false_iff_eq.mpr c10
      clear c10
      (first | rw [c10b0] | (simp only [i64_w, i32_w]; rw [c10b0]) | skip)
      by_cases c11 : t217 < (-4611686018427387904)
      · rw [if_pos c11] at H
        have c11b0 : decide (t217 < (-4611686018427387904)) = true := decide_eq_true c11
        clear c11
        have H' := Aside0.mk H
        clear H
        go_wp2_with (first | ((with_reducible refine gate_callee (f := 16) rfl ?_); refine goesL_ (some 16) rfl rfl Try.func16 (by kernel_rfl) rfl #[.int .i64 t217] rfl (by (try simp only [List.map_toArray, List.map_cons, List.map_nil]); first | done | rfl | (simp only [List.length_drop, List.length_take]; rfl)) ?_; (with_reducible refine (impl_Wrap.calls t217 t219 _ A9.out).mono ?_); rintro e w' ⟨rfl, ⟨nd, rfl⟩⟩; refine ⟨_, rfl, ?_⟩))
        go_meet
        case rel => exact ⟨_, (true), (by first | rfl | (simp; done) | (simp [*]; done)), H', ⟨by first | omega | exact Nat.le_refl _⟩, ⟨by repeat (first | (with_reducible first | exact HB.out | apply below_alloc | apply pw_below_drewN | apply below_drew1) | exact HB.out)⟩⟩
      · rw [if_neg c11] at H
        have c11b0 : decide (t217 < (-4611686018427387904)) = false := decide_eq_false c11
        clear c11
        by_cases c12 : t217 > 4611686018427387903
        · rw [if_pos c12] at H
          have c12b0 : decide (4611686018427387903 < t217) = true := decide_eq_true c12
          clear c12
          have H' := Aside0.mk H
          clear H
          go_wp2_with (first | ((with_reducible refine gate_callee (f := 16) rfl ?_); refine goesL_ (some 16) rfl rfl Try.func16 (by kernel_rfl) rfl #[.int .i64 t217] rfl (by (try simp only [List.map_toArray, List.map_cons, List.map_nil]); first | done | rfl | (simp only [List.length_drop, List.length_take]; rfl)) ?_; (with_reducible refine (impl_Wrap.calls t217 t219 _ A9.out).mono ?_); rintro e w' ⟨rfl, ⟨nd, rfl⟩⟩; refine ⟨_, rfl, ?_⟩))
          go_meet
          case rel => exact ⟨_, (true), (by first | rfl | (simp; done) | (simp [*]; done)), H', ⟨by first | omega | exact Nat.le_refl _⟩, ⟨by repeat (first | (with_reducible first | exact HB.out | apply below_alloc | apply pw_below_drewN | apply below_drew1) | exact HB.out)⟩⟩
        · rw [if_neg c12] at H
          have c12b0 : decide (4611686018427387903 < t217) = false := decide_eq_false c12
          clear c12
          replace H := Option.bind_eq_some_iff.mp H
          obtain ⟨t220, A130, H⟩ := H
          replace H : (laws_FnWraps.j0 k t215 t216 t217 t218 (t220 != (-4611686018427387904))) = some r := H
          have A13 := Aside0.mk A130
          clear A130
          have H' := Aside0.mk H
          clear H
          go_wp2_with (first | ((with_reducible refine gate_callee (f := 16) rfl ?_); refine goesL_ (some 16) rfl rfl Try.func16 (by kernel_rfl) rfl #[.int .i64 t217] rfl (by (try simp only [List.map_toArray, List.map_cons, List.map_nil]); first | done | rfl | (simp only [List.length_drop, List.length_take]; rfl)) ?_; (with_reducible refine (impl_Wrap.calls t217 t219 _ A9.out).mono ?_); rintro e w' ⟨rfl, ⟨nd, rfl⟩⟩; refine ⟨_, rfl, ?_⟩) | (go_at_call 16; (with_reducible refine (impl_Wrap.calls 4611686018427387904 t220 _ A13.out).mono ?_); rintro e w' ⟨rfl, ⟨nd, rfl⟩⟩))
          go_meet
          case rel => exact ⟨_, ((t220 != (-4611686018427387904))), (by first | rfl | (simp; done) | (simp [*]; done)), H', ⟨by first | omega | exact Nat.le_refl _⟩, ⟨by repeat (first | (with_reducible first | exact HB.out | apply below_alloc | apply pw_below_drewN | apply below_drew1) | exact HB.out)⟩⟩
    · rw [if_neg c10] at H
      have c10b0 : (t219 == t217) = false := beq_eq_false_iff_ne.mpr c10
      have c10b1 : (t219 != t217) = true := bne_iff_ne.mpr c10
      (first | rw [c10b0] | (simp only [i64_w, i32_w]; rw [c10b0]) | skip)
      have H' := Aside0.mk H
      clear H
      go_wp2_with (first | ((with_reducible refine gate_callee (f := 16) rfl ?_); refine goesL_ (some 16) rfl rfl Try.func16 (by kernel_rfl) rfl #[.int .i64 t217] rfl (by (try simp only [List.map_toArray, List.map_cons, List.map_nil]); first | done | rfl | (simp only [List.length_drop, List.length_take]; rfl)) ?_; (with_reducible refine (impl_Wrap.calls t217 t219 _ A9.out).mono ?_); rintro e w' ⟨rfl, ⟨nd, rfl⟩⟩; refine ⟨_, rfl, ?_⟩))
      go_meet
      case rel => exact ⟨_, (true), (by first | rfl | (simp; done) | (simp [*]; done)), H', ⟨by first | omega | exact Nat.le_refl _⟩, ⟨by repeat (first | (with_reducible first | exact HB.out | apply below_alloc | apply pw_below_drewN | apply below_drew1) | exact HB.out)⟩⟩
  case rest =>
    clear HC6
    try clear c1
    try clear c2
    try clear p2
    try clear c8
    try clear c10
    try clear c10b0
    try clear c10b1
    try clear c11
    try clear c11b0
    try clear c12
    try clear c12b0
    obtain ⟨kq, x30_5, rfl, HA, HJ5, HB⟩ := hcut
    cases kq with
    | zero => exact absurd HA.out (by simp [laws_FnWraps.j0])
    | succ kj5 =>
      have H := HA.out
      clear HA
      simp only [laws_FnWraps.j0] at H
      by_cases c14 : x30_5 = true
      · subst c14
        have H1 : (some false) = some r := by rw [if_pos rfl] at H; exact H
        clear H
        have H := H1
        clear H1
        obtain rfl := Option.some.inj H
        go_wp2
        go_ret
        exact ⟨by first | rfl | (simp [errW_none, errW_some] <;> rfl) | (simp [*, errW_none, errW_some] <;> rfl), by repeat (first | (with_reducible first | exact HB.out | apply below_alloc | apply pw_below_drewN | apply below_drew1) | exact HB.out)⟩
      · replace c14 := Bool.eq_false_iff.mpr c14
        subst c14
        have H1 : ((impl_Wrap.f (wrap64 (t215 + t216))).bind fun t221 => ((impl_Wrap.f (wrap64 (t217 + t218))).bind fun t222 => (if t221 = t222 then ((impl_Wrap.f (wrap64 (t215 * t216))).bind fun t223 => ((impl_Wrap.f (wrap64 (t217 * t218))).bind fun t224 => (if t223 = t224 then ((impl_Wrap.f (wrap64 (t215 - t216))).bind fun t225 => ((impl_Wrap.f (wrap64 (t217 - t218))).bind fun t226 => (if t225 = t226 then (if t217 = t215 then (some true) else (if t215 < (-4611686018427387904) then (some true) else (some (decide (t215 > 4611686018427387903))))) else (some false)))) else (some false)))) else (some false)))) = some r := by rw [if_neg (show ¬ (false = true) by decide)] at H; exact H
        clear H
        have H := H1
        clear H1
        replace H := Option.bind_eq_some_iff.mp H
        obtain ⟨t221, A150, H⟩ := H
        replace H : ((impl_Wrap.f (wrap64 (t217 + t218))).bind fun t222 => (if t221 = t222 then ((impl_Wrap.f (wrap64 (t215 * t216))).bind fun t223 => ((impl_Wrap.f (wrap64 (t217 * t218))).bind fun t224 => (if t223 = t224 then ((impl_Wrap.f (wrap64 (t215 - t216))).bind fun t225 => ((impl_Wrap.f (wrap64 (t217 - t218))).bind fun t226 => (if t225 = t226 then (if t217 = t215 then (some true) else (if t215 < (-4611686018427387904) then (some true) else (some (decide (t215 > 4611686018427387903))))) else (some false)))) else (some false)))) else (some false))) = some r := H
        have A15 := Aside0.mk A150
        clear A150
        replace H := Option.bind_eq_some_iff.mp H
        obtain ⟨t222, A160, H⟩ := H
        replace H : (if t221 = t222 then ((impl_Wrap.f (wrap64 (t215 * t216))).bind fun t223 => ((impl_Wrap.f (wrap64 (t217 * t218))).bind fun t224 => (if t223 = t224 then ((impl_Wrap.f (wrap64 (t215 - t216))).bind fun t225 => ((impl_Wrap.f (wrap64 (t217 - t218))).bind fun t226 => (if t225 = t226 then (if t217 = t215 then (some true) else (if t215 < (-4611686018427387904) then (some true) else (some (decide (t215 > 4611686018427387903))))) else (some false)))) else (some false)))) else (some false)) = some r := H
        have A16 := Aside0.mk A160
        clear A160
        by_cases c17 : t221 = t222
        · rw [if_pos c17] at H
          have c17b0 : (t221 == t222) = true := beq_iff_eq.mpr c17
          have c17b1 : (t221 != t222) = false := bne_eq_false_iff_eq.mpr c17
          clear c17
          replace H := Option.bind_eq_some_iff.mp H
          obtain ⟨t223, A180, H⟩ := H
          replace H : ((impl_Wrap.f (wrap64 (t217 * t218))).bind fun t224 => (if t223 = t224 then ((impl_Wrap.f (wrap64 (t215 - t216))).bind fun t225 => ((impl_Wrap.f (wrap64 (t217 - t218))).bind fun t226 => (if t225 = t226 then (if t217 = t215 then (some true) else (if t215 < (-4611686018427387904) then (some true) else (some (decide (t215 > 4611686018427387903))))) else (some false)))) else (some false))) = some r := H
          have A18 := Aside0.mk A180
          clear A180
          replace H := Option.bind_eq_some_iff.mp H
          obtain ⟨t224, A190, H⟩ := H
          replace H : (if t223 = t224 then ((impl_Wrap.f (wrap64 (t215 - t216))).bind fun t225 => ((impl_Wrap.f (wrap64 (t217 - t218))).bind fun t226 => (if t225 = t226 then (if t217 = t215 then (some true) else (if t215 < (-4611686018427387904) then (some true) else (some (decide (t215 > 4611686018427387903))))) else (some false)))) else (some false)) = some r := H
          have A19 := Aside0.mk A190
          clear A190
          by_cases c20 : t223 = t224
          · rw [if_pos c20] at H
            have c20b0 : (t223 == t224) = true := beq_iff_eq.mpr c20
            have c20b1 : (t223 != t224) = false := bne_eq_false_iff_eq.mpr c20
            clear c20
            replace H := Option.bind_eq_some_iff.mp H
            obtain ⟨t225, A210, H⟩ := H
            replace H : ((impl_Wrap.f (wrap64 (t217 - t218))).bind fun t226 => (if t225 = t226 then (if t217 = t215 then (some true) else (if t215 < (-4611686018427387904) then (some true) else (some (decide (t215 > 4611686018427387903))))) else (some false))) = some r := H
            have A21 := Aside0.mk A210
            clear A210
            replace H := Option.bind_eq_some_iff.mp H
            obtain ⟨t226, A220, H⟩ := H
            replace H : (if t225 = t226 then (if t217 = t215 then (some true) else (if t215 < (-4611686018427387904) then (some true) else (some (decide (t215 > 4611686018427387903))))) else (some false)) = some r := H
            have A22 := Aside0.mk A220
            clear A220
            by_cases c23 : t225 = t226
            · rw [if_pos c23] at H
              have c23b0 : (t225 == t226) = true := beq_iff_eq.mpr c23
              have c23b1 : (t225 != t226) = false := bne_eq_false_iff_eq.mpr c23
              clear c23
              by_cases c24 : t217 = t215
              · rw [if_pos c24] at H
                have c24b0 : (t217 == t215) = true := beq_iff_eq.mpr c24
                have c24b1 : (t217 != t215) = false := bne_eq_false_iff_eq.mpr c24
                clear c24
                obtain rfl := Option.some.inj H
                go_wp2_with (first | ((with_reducible refine gate_callee (f := 16) rfl ?_); refine goesL_ (some 34) rfl rfl Try.func16 (by kernel_rfl) rfl #[.int .i64 (wrap64 (t215 + t216))] rfl (by (try simp only [List.map_toArray, List.map_cons, List.map_nil]); first | done | rfl | (simp only [List.length_drop, List.length_take]; rfl)) ?_; (with_reducible refine (impl_Wrap.calls (wrap64 (t215 + t216)) t221 _ A15.out).mono ?_); rintro e w' ⟨rfl, ⟨nd, rfl⟩⟩; refine ⟨_, rfl, ?_⟩) | ((with_reducible refine gate_callee (f := 16) rfl ?_); refine goesL_ (some 38) rfl rfl Try.func16 (by kernel_rfl) rfl #[.int .i64 (wrap64 (t217 + t218))] rfl (by (try simp only [List.map_toArray, List.map_cons, List.map_nil]); first | done | rfl | (simp only [List.length_drop, List.length_take]; rfl)) ?_; (with_reducible refine (impl_Wrap.calls (wrap64 (t217 + t218)) t222 _ A16.out).mono ?_); rintro e w' ⟨rfl, ⟨nd, rfl⟩⟩; refine ⟨_, rfl, ?_⟩) | (go_at_call 16; (with_reducible refine (impl_Wrap.calls (wrap64 (t215 * t216)) t223 _ A18.out).mono ?_); rintro e w' ⟨rfl, ⟨nd, rfl⟩⟩) | (go_at_call 16; (with_reducible refine (impl_Wrap.calls (wrap64 (t217 * t218)) t224 _ A19.out).mono ?_); rintro e w' ⟨rfl, ⟨nd, rfl⟩⟩) | (go_at_call 16; (with_reducible refine (impl_Wrap.calls (wrap64 (t215 - t216)) t225 _ A21.out).mono ?_); rintro e w' ⟨rfl, ⟨nd, rfl⟩⟩) | (go_at_call 16; (with_reducible refine (impl_Wrap.calls (wrap64 (t217 - t218)) t226 _ A22.out).mono ?_); rintro e w' ⟨rfl, ⟨nd, rfl⟩⟩))
                go_ret
                exact ⟨by first | rfl | (simp [errW_none, errW_some] <;> rfl) | (simp [*, errW_none, errW_some] <;> rfl), by repeat (first | (with_reducible first | exact HB.out | apply below_alloc | apply pw_below_drewN | apply below_drew1) | exact HB.out)⟩
              · rw [if_neg c24] at H
                have c24b0 : (t217 == t215) = false := beq_eq_false_iff_ne.mpr c24
                have c24b1 : (t217 != t215) = true := bne_iff_ne.mpr c24
                by_cases c25 : t215 < (-4611686018427387904)
                · rw [if_pos c25] at H
                  have c25b0 : decide (t215 < (-4611686018427387904)) = true := decide_eq_true c25
                  clear c25
                  obtain rfl := Option.some.inj H
                  go_wp2_with (first | ((with_reducible refine gate_callee (f := 16) rfl ?_); refine goesL_ (some 34) rfl rfl Try.func16 (by kernel_rfl) rfl #[.int .i64 (wrap64 (t215 + t216))] rfl (by (try simp only [List.map_toArray, List.map_cons, List.map_nil]); first | done | rfl | (simp only [List.length_drop, List.length_take]; rfl)) ?_; (with_reducible refine (impl_Wrap.calls (wrap64 (t215 + t216)) t221 _ A15.out).mono ?_); rintro e w' ⟨rfl, ⟨nd, rfl⟩⟩; refine ⟨_, rfl, ?_⟩) | ((with_reducible refine gate_callee (f := 16) rfl ?_); refine goesL_ (some 38) rfl rfl Try.func16 (by kernel_rfl) rfl #[.int .i64 (wrap64 (t217 + t218))] rfl (by (try simp only [List.map_toArray, List.map_cons, List.map_nil]); first | done | rfl | (simp only [List.length_drop, List.length_take]; rfl)) ?_; (with_reducible refine (impl_Wrap.calls (wrap64 (t217 + t218)) t222 _ A16.out).mono ?_); rintro e w' ⟨rfl, ⟨nd, rfl⟩⟩; refine ⟨_, rfl, ?_⟩) | (go_at_call 16; (with_reducible refine (impl_Wrap.calls (wrap64 (t215 * t216)) t223 _ A18.out).mono ?_); rintro e w' ⟨rfl, ⟨nd, rfl⟩⟩) | (go_at_call 16; (with_reducible refine (impl_Wrap.calls (wrap64 (t217 * t218)) t224 _ A19.out).mono ?_); rintro e w' ⟨rfl, ⟨nd, rfl⟩⟩) | (go_at_call 16; (with_reducible refine (impl_Wrap.calls (wrap64 (t215 - t216)) t225 _ A21.out).mono ?_); rintro e w' ⟨rfl, ⟨nd, rfl⟩⟩) | (go_at_call 16; (with_reducible refine (impl_Wrap.calls (wrap64 (t217 - t218)) t226 _ A22.out).mono ?_); rintro e w' ⟨rfl, ⟨nd, rfl⟩⟩))
                  go_ret
                  exact ⟨by first | rfl | (simp [errW_none, errW_some] <;> rfl) | (simp [*, errW_none, errW_some] <;> rfl), by repeat (first | (with_reducible first | exact HB.out | apply below_alloc | apply pw_below_drewN | apply below_drew1) | exact HB.out)⟩
                · rw [if_neg c25] at H
                  have c25b0 : decide (t215 < (-4611686018427387904)) = false := decide_eq_false c25
                  clear c25
                  obtain rfl := Option.some.inj H
                  go_wp2_with (first | ((with_reducible refine gate_callee (f := 16) rfl ?_); refine goesL_ (some 34) rfl rfl Try.func16 (by kernel_rfl) rfl #[.int .i64 (wrap64 (t215 + t216))] rfl (by (try simp only [List.map_toArray, List.map_cons, List.map_nil]); first | done | rfl | (simp only [List.length_drop, List.length_take]; rfl)) ?_; (with_reducible refine (impl_Wrap.calls (wrap64 (t215 + t216)) t221 _ A15.out).mono ?_); rintro e w' ⟨rfl, ⟨nd, rfl⟩⟩; refine ⟨_, rfl, ?_⟩) | ((with_reducible refine gate_callee (f := 16) rfl ?_); refine goesL_ (some 38) rfl rfl Try.func16 (by kernel_rfl) rfl #[.int .i64 (wrap64 (t217 + t218))] rfl (by (try simp only [List.map_toArray, List.map_cons, List.map_nil]); first | done | rfl | (simp only [List.length_drop, List.length_take]; rfl)) ?_; (with_reducible refine (impl_Wrap.calls (wrap64 (t217 + t218)) t222 _ A16.out).mono ?_); rintro e w' ⟨rfl, ⟨nd, rfl⟩⟩; refine ⟨_, rfl, ?_⟩) | (go_at_call 16; (with_reducible refine (impl_Wrap.calls (wrap64 (t215 * t216)) t223 _ A18.out).mono ?_); rintro e w' ⟨rfl, ⟨nd, rfl⟩⟩) | (go_at_call 16; (with_reducible refine (impl_Wrap.calls (wrap64 (t217 * t218)) t224 _ A19.out).mono ?_); rintro e w' ⟨rfl, ⟨nd, rfl⟩⟩) | (go_at_call 16; (with_reducible refine (impl_Wrap.calls (wrap64 (t215 - t216)) t225 _ A21.out).mono ?_); rintro e w' ⟨rfl, ⟨nd, rfl⟩⟩) | (go_at_call 16; (with_reducible refine (impl_Wrap.calls (wrap64 (t217 - t218)) t226 _ A22.out).mono ?_); rintro e w' ⟨rfl, ⟨nd, rfl⟩⟩))
                  go_ret
                  exact ⟨by first | rfl | (simp [errW_none, errW_some] <;> rfl) | (simp [*, errW_none, errW_some] <;> rfl), by repeat (first | (with_reducible first | exact HB.out | apply below_alloc | apply pw_below_drewN | apply below_drew1) | exact HB.out)⟩
            · rw [if_neg c23] at H
              have c23b0 : (t225 == t226) = false := beq_eq_false_iff_ne.mpr c23
              have c23b1 : (t225 != t226) = true := bne_iff_ne.mpr c23
              obtain rfl := Option.some.inj H
              go_wp2_with (first | ((with_reducible refine gate_callee (f := 16) rfl ?_); refine goesL_ (some 34) rfl rfl Try.func16 (by kernel_rfl) rfl #[.int .i64 (wrap64 (t215 + t216))] rfl (by (try simp only [List.map_toArray, List.map_cons, List.map_nil]); first | done | rfl | (simp only [List.length_drop, List.length_take]; rfl)) ?_; (with_reducible refine (impl_Wrap.calls (wrap64 (t215 + t216)) t221 _ A15.out).mono ?_); rintro e w' ⟨rfl, ⟨nd, rfl⟩⟩; refine ⟨_, rfl, ?_⟩) | ((with_reducible refine gate_callee (f := 16) rfl ?_); refine goesL_ (some 38) rfl rfl Try.func16 (by kernel_rfl) rfl #[.int .i64 (wrap64 (t217 + t218))] rfl (by (try simp only [List.map_toArray, List.map_cons, List.map_nil]); first | done | rfl | (simp only [List.length_drop, List.length_take]; rfl)) ?_; (with_reducible refine (impl_Wrap.calls (wrap64 (t217 + t218)) t222 _ A16.out).mono ?_); rintro e w' ⟨rfl, ⟨nd, rfl⟩⟩; refine ⟨_, rfl, ?_⟩) | (go_at_call 16; (with_reducible refine (impl_Wrap.calls (wrap64 (t215 * t216)) t223 _ A18.out).mono ?_); rintro e w' ⟨rfl, ⟨nd, rfl⟩⟩) | (go_at_call 16; (with_reducible refine (impl_Wrap.calls (wrap64 (t217 * t218)) t224 _ A19.out).mono ?_); rintro e w' ⟨rfl, ⟨nd, rfl⟩⟩) | (go_at_call 16; (with_reducible refine (impl_Wrap.calls (wrap64 (t215 - t216)) t225 _ A21.out).mono ?_); rintro e w' ⟨rfl, ⟨nd, rfl⟩⟩) | (go_at_call 16; (with_reducible refine (impl_Wrap.calls (wrap64 (t217 - t218)) t226 _ A22.out).mono ?_); rintro e w' ⟨rfl, ⟨nd, rfl⟩⟩))
              go_ret
              exact ⟨by first | rfl | (simp [errW_none, errW_some] <;> rfl) | (simp [*, errW_none, errW_some] <;> rfl), by repeat (first | (with_reducible first | exact HB.out | apply below_alloc | apply pw_below_drewN | apply below_drew1) | exact HB.out)⟩
          · rw [if_neg c20] at H
            have c20b0 : (t223 == t224) = false := beq_eq_false_iff_ne.mpr c20
            have c20b1 : (t223 != t224) = true := bne_iff_ne.mpr c20
            obtain rfl := Option.some.inj H
            go_wp2_with (first | ((with_reducible refine gate_callee (f := 16) rfl ?_); refine goesL_ (some 34) rfl rfl Try.func16 (by kernel_rfl) rfl #[.int .i64 (wrap64 (t215 + t216))] rfl (by (try simp only [List.map_toArray, List.map_cons, List.map_nil]); first | done | rfl | (simp only [List.length_drop, List.length_take]; rfl)) ?_; (with_reducible refine (impl_Wrap.calls (wrap64 (t215 + t216)) t221 _ A15.out).mono ?_); rintro e w' ⟨rfl, ⟨nd, rfl⟩⟩; refine ⟨_, rfl, ?_⟩) | ((with_reducible refine gate_callee (f := 16) rfl ?_); refine goesL_ (some 38) rfl rfl Try.func16 (by kernel_rfl) rfl #[.int .i64 (wrap64 (t217 + t218))] rfl (by (try simp only [List.map_toArray, List.map_cons, List.map_nil]); first | done | rfl | (simp only [List.length_drop, List.length_take]; rfl)) ?_; (with_reducible refine (impl_Wrap.calls (wrap64 (t217 + t218)) t222 _ A16.out).mono ?_); rintro e w' ⟨rfl, ⟨nd, rfl⟩⟩; refine ⟨_, rfl, ?_⟩) | (go_at_call 16; (with_reducible refine (impl_Wrap.calls (wrap64 (t215 * t216)) t223 _ A18.out).mono ?_); rintro e w' ⟨rfl, ⟨nd, rfl⟩⟩) | (go_at_call 16; (with_reducible refine (impl_Wrap.calls (wrap64 (t217 * t218)) t224 _ A19.out).mono ?_); rintro e w' ⟨rfl, ⟨nd, rfl⟩⟩))
            go_ret
            exact ⟨by first | rfl | (simp [errW_none, errW_some] <;> rfl) | (simp [*, errW_none, errW_some] <;> rfl), by repeat (first | (with_reducible first | exact HB.out | apply below_alloc | apply pw_below_drewN | apply below_drew1) | exact HB.out)⟩
        · rw [if_neg c17] at H
          have c17b0 : (t221 == t222) = false := beq_eq_false_iff_ne.mpr c17
          have c17b1 : (t221 != t222) = true := bne_iff_ne.mpr c17
          obtain rfl := Option.some.inj H
          go_wp2_with (first | ((with_reducible refine gate_callee (f := 16) rfl ?_); refine goesL_ (some 34) rfl rfl Try.func16 (by kernel_rfl) rfl #[.int .i64 (wrap64 (t215 + t216))] rfl (by (try simp only [List.map_toArray, List.map_cons, List.map_nil]); first | done | rfl | (simp only [List.length_drop, List.length_take]; rfl)) ?_; (with_reducible refine (impl_Wrap.calls (wrap64 (t215 + t216)) t221 _ A15.out).mono ?_); rintro e w' ⟨rfl, ⟨nd, rfl⟩⟩; refine ⟨_, rfl, ?_⟩) | ((with_reducible refine gate_callee (f := 16) rfl ?_); refine goesL_ (some 38) rfl rfl Try.func16 (by kernel_rfl) rfl #[.int .i64 (wrap64 (t217 + t218))] rfl (by (try simp only [List.map_toArray, List.map_cons, List.map_nil]); first | done | rfl | (simp only [List.length_drop, List.length_take]; rfl)) ?_; (with_reducible refine (impl_Wrap.calls (wrap64 (t217 + t218)) t222 _ A16.out).mono ?_); rintro e w' ⟨rfl, ⟨nd, rfl⟩⟩; refine ⟨_, rfl, ?_⟩))
          go_ret
          exact ⟨by first | rfl | (simp [errW_none, errW_some] <;> rfl) | (simp [*, errW_none, errW_some] <;> rfl), by repeat (first | (with_reducible first | exact HB.out | apply below_alloc | apply pw_below_drewN | apply below_drew1) | exact HB.out)⟩

/-- THE ONE PURE STATEMENT of laws_FnWraps: yours. -/
def laws_FnWraps.Pure : Prop := ∀ (l0 : List Int), l0.length ≤ maxLen → l0.length * 1 ≤ 140737488351232 → (∀ x ∈ l0, (Lit.int .u8 x).wf = true) → ∃ k, laws_FnWraps.f k l0 = some true
theorem laws_FnWraps.walk (P : laws_FnWraps.Pure) (a0 : Option Addr) (len0 cap0 : Nat) (z0 : List Int) (w : World) (w0 : (a0 = none ∧ len0 = 0 ∧ cap0 = 0 ∧ z0 = []) ∨ ∃ x, a0 = some x ∧ len0 ≤ cap0 ∧ cap0 ≤ maxLen ∧ z0.length = cap0 ∧ (∀ i, i < z0.length → w.cell? (x.add i) = some (.int .u8 (z0.getD i 0))) ∧ ∀ n ∈ z0, (Lit.int .u8 n).wf = true) (y0 : len0 * 1 ≤ 140737488351232) :
    Calls Try.prog 8 #[.slice a0 len0 cap0] w fun e w' => e = .returned (.bool true) ∧ Below w.heap.size w w' := by
  obtain ⟨l0, rfl, hr0, hm0, hw0, hc0⟩ := ReadsInt.ofRowC w0
  obtain ⟨k, h⟩ := P l0 hm0 y0 hw0
  refine (laws_FnWraps.calls k _ _ l0 true w (Kd.C_of_reads (d := (0 : Int)) (h1 := fun _ => rfl) hr0) hc0 h).mono ?_
  rintro e w' ⟨rfl, hd⟩
  exact ⟨rfl, hd⟩

end Go.Proofs.Ytophpcadfljkgaa.PA
