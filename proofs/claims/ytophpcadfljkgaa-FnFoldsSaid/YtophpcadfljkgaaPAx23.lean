-- Printed by a program of this session (wrap.py) out of the translation. Lean checks it.
import Derived.Test.YtophpcadfljkgaaPAx0
import Derived.Test.YtophpcadfljkgaaPAx14
import Derived.Test.YtophpcadfljkgaaPAx22
namespace Go.Proofs.Ytophpcadfljkgaa.PA
open Go.RowKit Go.Proofs.YtophpcadfljkgaaW.PrintWords Go.Proofs.YtophpcadfljkgaaW.PrintLast Go.Proofs.YtophpcadfljkgaaW.PrintMore
attribute [local go_sem] max2_int min2_int max_two min_two max_three min_three max_four min_four   -- for this text's walks alone
set_option linter.unusedVariables false
set_option linter.unusedSimpArgs false

/-! ### laws_FnFolds: function 10 -/
mutual
def laws_FnFolds.j0 : Nat → Int → Int → Int → Bool → Option (Bool)
  | 0, _, _, _, _ => none
  | k + 1, x3, x4, x5, x19 => if x19 = true then (some false) else (if x4 ≥ 0 then (if x4 ≤ 2147483647 then ((impl_Unfold.f x4).bind fun t302 => ((impl_Fold.f t302).bind fun t303 => (laws_FnFolds.j1 k x3 x5 (t303 != x4)))) else (laws_FnFolds.j1 k x3 x5 false)) else (laws_FnFolds.j1 k x3 x5 false))
def laws_FnFolds.j1 : Nat → Int → Int → Bool → Option (Bool)
  | 0, _, _, _ => none
  | k + 1, x3, x5, x32 => if x32 = true then (some false) else (if x3 ≥ (-1073741824) then (if ((decide (x5 ≥ 0)) == (decide (x3 ≤ 1073741823))) = true then ((impl_Fold.f (-1)).bind fun t304 => (if t304 = 1 then ((impl_Unfold.f 2).bind fun t305 => (some (t305 == 1))) else (some false))) else (some false)) else (if ((decide (x5 ≥ 0)) == false) = true then ((impl_Fold.f (-1)).bind fun t306 => (if t306 = 1 then ((impl_Unfold.f 2).bind fun t307 => (some (t307 == 1))) else (some false))) else (some false)))
end
def laws_FnFolds.f (k : Nat) (l0 : List Int) : Option (Bool) := (spec_DrawFold.f k l0).bind fun t298 => ((spec_DrawUnfold.f k l0).bind fun t299 => ((impl_Fold.f t298).bind fun t300 => (if t300 ≥ 0 then ((impl_Unfold.f t300).bind fun t301 => (laws_FnFolds.j0 k t298 t299 t300 (t301 != t298))) else (laws_FnFolds.j0 k t298 t299 t300 false))))
theorem laws_FnFolds.mono_l : ∀ k, (∀ y0 y1 y2 y3, LeO (laws_FnFolds.j0 k y0 y1 y2 y3) (laws_FnFolds.j0 (k + 1) y0 y1 y2 y3)) ∧ (∀ y0 y1 y2, LeO (laws_FnFolds.j1 k y0 y1 y2) (laws_FnFolds.j1 (k + 1) y0 y1 y2))
  | 0 => ⟨fun _ _ _ _ r h => by simp [laws_FnFolds.j0] at h, fun _ _ _ r h => by simp [laws_FnFolds.j1] at h⟩
  | k + 1 => by
    obtain ⟨ih0, ih1⟩ := laws_FnFolds.mono_l k
    refine ⟨?_, ?_⟩
    · intro y0 y1 y2 y3
      unfold laws_FnFolds.j0
      repeat' first
      | (with_reducible exact ih0 _ _ _ _)
      | (with_reducible exact ih1 _ _ _)
      | (with_reducible exact spec_DrawFold.mono _ _)
      | (with_reducible exact spec_DrawUnfold.mono _ _)
      | (with_reducible exact LeO.refl _)
      | (with_reducible exact LeO.none _)
      | (with_reducible refine LeO.ite ?_ ?_)
      | (with_reducible refine LeO.bind ?_ (fun _ => ?_))
      | exact ih0 _ _ _ _
      | exact ih1 _ _ _
      | exact spec_DrawFold.mono _ _
      | exact spec_DrawUnfold.mono _ _
      | exact LeO.none _
      | refine LeO.ite ?_ ?_
      | refine LeO.bind ?_ (fun _ => ?_)
    · intro y0 y1 y2
      unfold laws_FnFolds.j1
      repeat' first
      | (with_reducible exact ih0 _ _ _ _)
      | (with_reducible exact ih1 _ _ _)
      | (with_reducible exact spec_DrawFold.mono _ _)
      | (with_reducible exact spec_DrawUnfold.mono _ _)
      | (with_reducible exact LeO.refl _)
      | (with_reducible exact LeO.none _)
      | (with_reducible refine LeO.ite ?_ ?_)
      | (with_reducible refine LeO.bind ?_ (fun _ => ?_))
      | exact ih0 _ _ _ _
      | exact ih1 _ _ _
      | exact spec_DrawFold.mono _ _
      | exact spec_DrawUnfold.mono _ _
      | exact LeO.none _
      | refine LeO.ite ?_ ?_
      | refine LeO.bind ?_ (fun _ => ?_)
theorem laws_FnFolds.mono : ∀ a0 k, LeO (laws_FnFolds.f k a0) (laws_FnFolds.f (k + 1) a0) := by
  intro a0 k
  obtain ⟨ih0, ih1⟩ := laws_FnFolds.mono_l k
  unfold laws_FnFolds.f
  repeat' first
      | (with_reducible exact ih0 _ _ _ _)
      | (with_reducible exact ih1 _ _ _)
      | (with_reducible exact spec_DrawFold.mono _ _)
      | (with_reducible exact spec_DrawUnfold.mono _ _)
      | (with_reducible exact LeO.refl _)
      | (with_reducible exact LeO.none _)
      | (with_reducible refine LeO.ite ?_ ?_)
      | (with_reducible refine LeO.bind ?_ (fun _ => ?_))
      | exact ih0 _ _ _ _
      | exact ih1 _ _ _
      | exact spec_DrawFold.mono _ _
      | exact spec_DrawUnfold.mono _ _
      | exact LeO.none _
      | refine LeO.ite ?_ ?_
      | refine LeO.bind ?_ (fun _ => ?_)
set_option maxHeartbeats 8000000 in
set_option maxRecDepth 100000 in
theorem laws_FnFolds.calls (k : Nat) (A0 : Option Addr) (c0 : Nat) (l0 : List Int) (r : Bool) (w : World) (hr0 : Kd.C (Kd.int .u8) w A0 l0.length l0) (hc0 : l0.length ≤ c0) (h : laws_FnFolds.f k l0 = some r) :
    Calls Try.prog 10 #[.slice A0 l0.length c0] w fun e w' => e = .returned (.bool r) ∧ Below w.heap.size w w' := by
  have HR0 := Aside0.mk hr0
  have HC0 := Aside0.mk hc0
  clear hr0 hc0
  have HB := Aside0.mk (Below.refl w.heap.size w)
  have H : ((spec_DrawFold.f k l0).bind fun t298 => ((spec_DrawUnfold.f k l0).bind fun t299 => ((impl_Fold.f t298).bind fun t300 => (if t300 ≥ 0 then ((impl_Unfold.f t300).bind fun t301 => (laws_FnFolds.j0 k t298 t299 t300 (t301 != t298))) else (laws_FnFolds.j0 k t298 t299 t300 false))))) = some r := h
  clear h
  replace H := Option.bind_eq_some_iff.mp H
  obtain ⟨t298, A20, H⟩ := H
  replace H : ((spec_DrawUnfold.f k l0).bind fun t299 => ((impl_Fold.f t298).bind fun t300 => (if t300 ≥ 0 then ((impl_Unfold.f t300).bind fun t301 => (laws_FnFolds.j0 k t298 t299 t300 (t301 != t298))) else (laws_FnFolds.j0 k t298 t299 t300 false)))) = some r := H
  have A2 := Aside0.mk A20
  clear A20
  replace H := Option.bind_eq_some_iff.mp H
  obtain ⟨t299, A30, H⟩ := H
  replace H : ((impl_Fold.f t298).bind fun t300 => (if t300 ≥ 0 then ((impl_Unfold.f t300).bind fun t301 => (laws_FnFolds.j0 k t298 t299 t300 (t301 != t298))) else (laws_FnFolds.j0 k t298 t299 t300 false))) = some r := H
  have A3 := Aside0.mk A30
  clear A30
  replace H := Option.bind_eq_some_iff.mp H
  obtain ⟨t300, A40, H⟩ := H
  replace H : (if t300 ≥ 0 then ((impl_Unfold.f t300).bind fun t301 => (laws_FnFolds.j0 k t298 t299 t300 (t301 != t298))) else (laws_FnFolds.j0 k t298 t299 t300 false)) = some r := H
  have A4 := Aside0.mk A40
  clear A40
  have HC5 := Aside0.mk H
  clear H
  go_enter Try.func10, Try.ntmps10
  go_upto_region 4 with (first | ((with_reducible refine gate_callee (f := 26) rfl ?_); refine goesL_ (some 7) rfl rfl Try.func26 (by kernel_rfl) rfl #[.slice A0 l0.length c0] rfl (by (try simp only [List.map_toArray, List.map_cons, List.map_nil]); first | done | rfl | (simp only [List.length_drop, List.length_take]; rfl)) ?_; (with_reducible refine (spec_DrawFold.calls k _ _ l0 t298 _ ?side1 ?side2 A2.out).mono ?_); (case side1 => repeat (first | exact HR0.out | (with_reducible refine Kd.C_alloc ?_ _) | (with_reducible refine Kd.C_drewN ?_ _) | (with_reducible refine Kd.C_drew ?_))); (case side2 => exact HC0.out); rintro e w6 ⟨rfl, hb⟩; refine ⟨_, rfl, ?_⟩; have n0_ := Aside0.mk (below_step (by repeat (first | (with_reducible first | exact HB.out | apply below_alloc | apply pw_below_drewN | apply below_drew1) | exact HB.out)) hb); clear HB; have HB := n0_; clear n0_; (try clear hb); (try clear hb2); (try clear hk); (try clear hi)) | ((with_reducible refine gate_callee (f := 31) rfl ?_); refine goesL_ (some 9) rfl rfl Try.func31 (by kernel_rfl) rfl #[.slice A0 l0.length c0] rfl (by (try simp only [List.map_toArray, List.map_cons, List.map_nil]); first | done | rfl | (simp only [List.length_drop, List.length_take]; rfl)) ?_; (with_reducible refine (spec_DrawUnfold.calls k _ _ l0 t299 _ ?side1 ?side2 A3.out).mono ?_); (case side1 => repeat (first | exact (Kd.C_below HR0.out HB.out) | (with_reducible refine Kd.C_alloc ?_ _) | (with_reducible refine Kd.C_drewN ?_ _) | (with_reducible refine Kd.C_drew ?_))); (case side2 => exact HC0.out); rintro e w7 ⟨rfl, hb⟩; refine ⟨_, rfl, ?_⟩; have n0_ := Aside0.mk (below_step (by repeat (first | (with_reducible first | exact HB.out | apply below_alloc | apply pw_below_drewN | apply below_drew1) | exact HB.out)) hb); clear HB; have HB := n0_; clear n0_; (try clear hb); (try clear hb2); (try clear hk); (try clear hi)) | ((with_reducible refine gate_callee (f := 18) rfl ?_); refine goesL_ (some 11) rfl rfl Try.func18 (by kernel_rfl) rfl #[.int .i64 t298] rfl (by (try simp only [List.map_toArray, List.map_cons, List.map_nil]); first | done | rfl | (simp only [List.length_drop, List.length_take]; rfl)) ?_; (with_reducible refine (impl_Fold.calls t298 t300 _ A4.out).mono ?_); rintro e w' ⟨rfl, ⟨nd, rfl⟩⟩; refine ⟨_, rfl, ?_⟩))
  (try simp only [Act.put, List.setIfInBounds_toArray, List.set_cons_zero, List.set_cons_succ])
  go_cut [19] (fun v19 wc => ∃ (kq : Nat) (x19_4 : Bool), v19 = .bool x19_4 ∧ Aside0 (laws_FnFolds.j0 kq t298 t299 t300 x19_4 = some r) ∧ Aside0 (kq ≤ k) ∧ Aside0 (Below w.heap.size w wc))
  case first =>
    have H := HC5.out
    clear HC5
    by_cases c8 : t300 ≥ 0
    · rw [if_pos c8] at H
      have c8b0 : decide (0 ≤ t300) = true := decide_eq_true c8
      clear c8
      (first | rw [c8b0] | (simp only [i64_w, i32_w]; rw [c8b0]) | skip)
      replace H := Option.bind_eq_some_iff.mp H
      obtain ⟨t301, A90, H⟩ := H
      replace H : (laws_FnFolds.j0 k t298 t299 t300 (t301 != t298)) = some r := H
      have A9 := Aside0.mk A90
      clear A90
      have H' := Aside0.mk H
      clear H
      go_wp2_with (first | (go_at_call 20; (with_reducible refine (impl_Unfold.calls t300 t301 _ A9.out).mono ?_); rintro e w' ⟨rfl, ⟨nd, rfl⟩⟩))
      go_meet
      case rel => exact ⟨_, ((t301 != t298)), (by first | rfl | (simp; done) | (simp [*]; done)), H', ⟨by first | omega | exact Nat.le_refl _⟩, ⟨by repeat (first | (with_reducible first | exact HB.out | apply below_alloc | apply pw_below_drewN | apply below_drew1) | exact HB.out)⟩⟩
    · rw [if_neg c8] at H
      have c8b0 : decide (0 ≤ t300) = false := decide_eq_false c8
      clear c8
      (first | rw [c8b0] | (simp only [i64_w, i32_w]; rw [c8b0]) | skip)
      have H' := Aside0.mk H
      clear H
      go_wp2
      go_meet
      case rel => exact ⟨_, (false), (by first | rfl | (simp; done) | (simp [*]; done)), H', ⟨by first | omega | exact Nat.le_refl _⟩, ⟨by repeat (first | (with_reducible first | exact HB.out | apply below_alloc | apply pw_below_drewN | apply below_drew1) | exact HB.out)⟩⟩
  case rest =>
    clear HC5
    try clear c1
    try clear c2
    try clear p2
    try clear c3
    try clear c8
    try clear c8b0
    obtain ⟨kq, x19_4, rfl, HA, HJ4, HB⟩ := hcut
    cases kq with
    | zero => exact absurd HA.out (by simp [laws_FnFolds.j0])
    | succ kj4 =>
      have H := HA.out
      clear HA
      simp only [laws_FnFolds.j0] at H
      by_cases c10 : x19_4 = true
      · subst c10
        have H1 : (some false) = some r := by rw [if_pos rfl] at H; exact H
        clear H
        have H := H1
        clear H1
        obtain rfl := Option.some.inj H
        go_wp2
        go_ret
        exact ⟨by first | rfl | (simp [errW_none, errW_some] <;> rfl) | (simp [*, errW_none, errW_some] <;> rfl), by repeat (first | (with_reducible first | exact HB.out | apply below_alloc | apply pw_below_drewN | apply below_drew1) | exact HB.out)⟩
      · replace c10 := Bool.eq_false_iff.mpr c10
        subst c10
        have H1 : (if t299 ≥ 0 then (if t299 ≤ 2147483647 then ((impl_Unfold.f t299).bind fun t302 => ((impl_Fold.f t302).bind fun t303 => (laws_FnFolds.j1 kj4 t298 t300 (t303 != t299)))) else (laws_FnFolds.j1 kj4 t298 t300 false)) else (laws_FnFolds.j1 kj4 t298 t300 false)) = some r := by rw [if_neg (show ¬ (false = true) by decide)] at H; exact H
        clear H
        have H := H1
        clear H1
        have HC11 := Aside0.mk H
        clear H
        go_upto_region 6 with (fail)
        go_cut [32] (fun v32 wc => ∃ (kq : Nat) (x32_10 : Bool), v32 = .bool x32_10 ∧ Aside0 (laws_FnFolds.j1 kq t298 t300 x32_10 = some r) ∧ Aside0 (kq ≤ kj4) ∧ Aside0 (Below w.heap.size w wc))
        case first =>
          have H := HC11.out
          clear HC11
          by_cases c12 : t299 ≥ 0
          · rw [if_pos c12] at H
            have c12b0 : decide (0 ≤ t299) = true := decide_eq_true c12
            clear c12
            (first | rw [c12b0] | (simp only [i64_w, i32_w]; rw [c12b0]) | skip)
            by_cases c13 : t299 ≤ 2147483647
            · rw [if_pos c13] at H
              have c13b0 : decide (t299 ≤ 2147483647) = true := decide_eq_true c13
              clear c13
              replace H := Option.bind_eq_some_iff.mp H
              obtain ⟨t302, A140, H⟩ := H
              replace H : ((impl_Fold.f t302).bind fun t303 => (laws_FnFolds.j1 kj4 t298 t300 (t303 != t299))) = some r := H
              have A14 := Aside0.mk A140
              clear A140
              replace H := Option.bind_eq_some_iff.mp H
              obtain ⟨t303, A150, H⟩ := H
              replace H : (laws_FnFolds.j1 kj4 t298 t300 (t303 != t299)) = some r := H
              have A15 := Aside0.mk A150
              clear A150
              have H' := Aside0.mk H
              clear H
              go_wp2_with (first | (go_at_call 20; (with_reducible refine (impl_Unfold.calls t299 t302 _ A14.out).mono ?_); rintro e w' ⟨rfl, ⟨nd, rfl⟩⟩) | (go_at_call 18; (with_reducible refine (impl_Fold.calls t302 t303 _ A15.out).mono ?_); rintro e w' ⟨rfl, ⟨nd, rfl⟩⟩))
              go_meet
              case rel => exact ⟨_, ((t303 != t299)), (by first | rfl | (simp; done) | (simp [*]; done)), H', ⟨by have := HJ4.out; first | omega | exact Nat.le_refl _⟩, ⟨by repeat (first | (with_reducible first | exact HB.out | apply below_alloc | apply pw_below_drewN | apply below_drew1) | exact HB.out)⟩⟩
            · rw [if_neg c13] at H
              have c13b0 : decide (t299 ≤ 2147483647) = false := decide_eq_false c13
              clear c13
              have H' := Aside0.mk H
              clear H
              go_wp2
              go_meet
              case rel => exact ⟨_, (false), (by first | rfl | (simp; done) | (simp [*]; done)), H', ⟨by have := HJ4.out; first | omega | exact Nat.le_refl _⟩, ⟨by repeat (first | (with_reducible first | exact HB.out | apply below_alloc | apply pw_below_drewN | apply below_drew1) | exact HB.out)⟩⟩
          · rw [if_neg c12] at H
            have c12b0 : decide (0 ≤ t299) = false := decide_eq_false c12
            clear c12
            (first | rw [c12b0] | (simp only [i64_w, i32_w]; rw [c12b0]) | skip)
            have H' := Aside0.mk H
            clear H
            go_wp2
            go_meet
            case rel => exact ⟨_, (false), (by first | rfl | (simp; done) | (simp [*]; done)), H', ⟨by have := HJ4.out; first | omega | exact Nat.le_refl _⟩, ⟨by repeat (first | (with_reducible first | exact HB.out | apply below_alloc | apply pw_below_drewN | apply below_drew1) | exact HB.out)⟩⟩
        case rest =>
          clear HC11
          try clear c1
          try clear c2
          try clear p2
          try clear c3
          try clear c8
          try clear c8b0
          try clear c10
          try clear c12
          try clear c12b0
          try clear c13
          try clear c13b0
          try clear p2
          obtain ⟨kq, x32_10, rfl, HA, HJ10, HB⟩ := hcut
          cases kq with
          | zero => exact absurd HA.out (by simp [laws_FnFolds.j1])
          | succ kj10 =>
            have H := HA.out
            clear HA
            simp only [laws_FnFolds.j1] at H
            by_cases c16 : x32_10 = true
            · subst c16
              have H1 : (some false) = some r := by rw [if_pos rfl] at H; exact H
              clear H
              have H := H1
              clear H1
              obtain rfl := Option.some.inj H
              go_wp2
              go_ret
              exact ⟨by first | rfl | (simp [errW_none, errW_some] <;> rfl) | (simp [*, errW_none, errW_some] <;> rfl), by repeat (first | (with_reducible first | exact HB.out | apply below_alloc | apply pw_below_drewN | apply below_drew1) | exact HB.out)⟩
            · replace c16 := Bool.eq_false_iff.mpr c16
              subst c16
              have H1 : (if t298 ≥ (-1073741824) then (if ((decide (t300 ≥ 0)) == (decide (t298 ≤ 1073741823))) = true then ((impl_Fold.f (-1)).bind fun t304 => (if t304 = 1 then ((impl_Unfold.f 2).bind fun t305 => (some (t305 == 1))) else (some false))) else (some false)) else (if ((decide (t300 ≥ 0)) == false) = true then ((impl_Fold.f (-1)).bind fun t306 => (if t306 = 1 then ((impl_Unfold.f 2).bind fun t307 => (some (t307 == 1))) else (some false))) else (some false))) = some r := by rw [if_neg (show ¬ (false = true) by decide)] at H; exact H
              clear H
              have H := H1
              clear H1
              by_cases c17 : t298 ≥ (-1073741824)
              · rw [if_pos c17] at H
                have c17b0 : decide ((-1073741824) ≤ t298) = true := decide_eq_true c17
                clear c17
                by_cases c18 : ((decide (t300 ≥ 0)) == (decide (t298 ≤ 1073741823))) = true
                · rw [if_pos c18] at H
                  have c18b0 : ((decide (t300 ≥ 0)) == (decide (t298 ≤ 1073741823))) = true := c18
                  (try (have c18b1 : decide ((decide (t300 ≥ 0)) = (decide (t298 ≤ 1073741823))) = true := by simpa using c18))
                  (try (have c18b2 : ((decide (t300 ≥ 0)) == (decide (t298 ≤ 1073741823))) = true := by simpa using c18))
                  clear c18
                  replace H := Option.bind_eq_some_iff.mp H
                  obtain ⟨t304, A190, H⟩ := H
                  replace H : (if t304 = 1 then ((impl_Unfold.f 2).bind fun t305 => (some (t305 == 1))) else (some false)) = some r := H
                  have A19 := Aside0.mk A190
                  clear A190
                  by_cases c20 : t304 = 1
                  · rw [if_pos c20] at H
                    have c20b0 : (t304 == 1) = true := beq_iff_eq.mpr c20
                    have c20b1 : (t304 != 1) = false := bne_eq_false_iff_eq.mpr c20
                    clear c20
                    replace H := Option.bind_eq_some_iff.mp H
                    obtain ⟨t305, A210, H⟩ := H
                    replace H : (some (t305 == 1)) = some r := H
                    have A21 := Aside0.mk A210
                    clear A210
                    obtain rfl := Option.some.inj H
                    go_wp2_with (first | (go_at_call 18; (with_reducible refine (impl_Fold.calls (-1) t304 _ A19.out).mono ?_); rintro e w' ⟨rfl, ⟨nd, rfl⟩⟩) | (go_at_call 20; (with_reducible refine (impl_Unfold.calls 2 t305 _ A21.out).mono ?_); rintro e w' ⟨rfl, ⟨nd, rfl⟩⟩))
                    go_ret
                    exact ⟨by first | rfl | (simp [errW_none, errW_some] <;> rfl) | (simp [*, errW_none, errW_some] <;> rfl), by repeat (first | (with_reducible first | exact HB.out | apply below_alloc | apply pw_below_drewN | apply below_drew1) | exact HB.out)⟩
                  · rw [if_neg c20] at H
                    have c20b0 : (t304 == 1) = false := beq_eq_false_iff_ne.mpr c20
                    have c20b1 : (t304 != 1) = true := bne_iff_ne.mpr c20
                    obtain rfl := Option.some.inj H
                    go_wp2_with (first | (go_at_call 18; (with_reducible refine (impl_Fold.calls (-1) t304 _ A19.out).mono ?_); rintro e w' ⟨rfl, ⟨nd, rfl⟩⟩))
                    go_ret
                    exact ⟨by first | rfl | (simp [errW_none, errW_some] <;> rfl) | (simp [*, errW_none, errW_some] <;> rfl), by repeat (first | (with_reducible first | exact HB.out | apply below_alloc | apply pw_below_drewN | apply below_drew1) | exact HB.out)⟩
                · rw [if_neg c18] at H
                  have c18b0 : ((decide (t300 ≥ 0)) == (decide (t298 ≤ 1073741823))) = false := by simpa using c18
                  (try (have c18b1 : decide ((decide (t300 ≥ 0)) = (decide (t298 ≤ 1073741823))) = false := by simpa using c18))
                  (try (have c18b2 : ((decide (t300 ≥ 0)) == (decide (t298 ≤ 1073741823))) = false := by simpa using c18))
                  (try (have c18b3 : ¬ ((decide (t300 ≥ 0)) = (decide (t298 ≤ 1073741823))) := by simpa using c18))
                  clear c18
                  obtain rfl := Option.some.inj H
                  go_wp2
                  go_ret
                  exact ⟨by first | rfl | (simp [errW_none, errW_some] <;> rfl) | (simp [*, errW_none, errW_some] <;> rfl), by repeat (first | (with_reducible first | exact HB.out | apply below_alloc | apply pw_below_drewN | apply below_drew1) | exact HB.out)⟩
              · rw [if_neg c17] at H
                have c17b0 : decide ((-1073741824) ≤ t298) = false := decide_eq_false c17
                clear c17
                by_cases c22 : ((decide (t300 ≥ 0)) == false) = true
                · rw [if_pos c22] at H
                  have c22b0 : ((decide (t300 ≥ 0)) == false) = true := c22
                  (try (have c22b1 : decide ((decide (t300 ≥ 0)) = false) = true := by simpa using c22))
                  (try (have c22b2 : ((decide (t300 ≥ 0)) == false) = true := by simpa using c22))
                  clear c22
                  replace H := Option.bind_eq_some_iff.mp H
                  obtain ⟨t306, A230, H⟩ := H
                  replace H : (if t306 = 1 then ((impl_Unfold.f 2).bind fun t307 => (some (t307 == 1))) else (some false)) = some r := H
                  have A23 := Aside0.mk A230
                  clear A230
                  by_cases c24 : t306 = 1
                  · rw [if_pos c24] at H
                    have c24b0 : (t306 == 1) = true := beq_iff_eq.mpr c24
                    have c24b1 : (t306 != 1) = false := bne_eq_false_iff_eq.mpr c24
                    clear c24
                    replace H := Option.bind_eq_some_iff.mp H
                    obtain ⟨t307, A250, H⟩ := H
                    replace H : (some (t307 == 1)) = some r := H
                    have A25 := Aside0.mk A250
                    clear A250
                    obtain rfl := Option.some.inj H
                    go_wp2_with (first | (go_at_call 18; (with_reducible refine (impl_Fold.calls (-1) t306 _ A23.out).mono ?_); rintro e w' ⟨rfl, ⟨nd, rfl⟩⟩) | (go_at_call 20; (with_reducible refine (impl_Unfold.calls 2 t307 _ A25.out).mono ?_); rintro e w' ⟨rfl, ⟨nd, rfl⟩⟩))
                    go_ret
                    exact ⟨by first | rfl | (simp [errW_none, errW_some] <;> rfl) | (simp [*, errW_none, errW_some] <;> rfl), by repeat (first | (with_reducible first | exact HB.out | apply below_alloc | apply pw_below_drewN | apply below_drew1) | exact HB.out)⟩
                  · rw [if_neg c24] at H
                    have c24b0 : (t306 == 1) = false := beq_eq_false_iff_ne.mpr c24
                    have c24b1 : (t306 != 1) = true := bne_iff_ne.mpr c24
                    obtain rfl := Option.some.inj H
                    go_wp2_with (first | (go_at_call 18; (with_reducible refine (impl_Fold.calls (-1) t306 _ A23.out).mono ?_); rintro e w' ⟨rfl, ⟨nd, rfl⟩⟩))
                    go_ret
                    exact ⟨by first | rfl | (simp [errW_none, errW_some] <;> rfl) | (simp [*, errW_none, errW_some] <;> rfl), by repeat (first | (with_reducible first | exact HB.out | apply below_alloc | apply pw_below_drewN | apply below_drew1) | exact HB.out)⟩
                · rw [if_neg c22] at H
                  have c22b0 : ((decide (t300 ≥ 0)) == false) = false := by simpa using c22
                  (try (have c22b1 : decide ((decide (t300 ≥ 0)) = false) = false := by simpa using c22))
                  (try (have c22b2 : ((decide (t300 ≥ 0)) == false) = false := by simpa using c22))
                  (try (have c22b3 : ¬ ((decide (t300 ≥ 0)) = false) := by simpa using c22))
                  clear c22
                  obtain rfl := Option.some.inj H
                  go_wp2
                  go_ret
                  exact ⟨by first | rfl | (simp [errW_none, errW_some] <;> rfl) | (simp [*, errW_none, errW_some] <;> rfl), by repeat (first | (with_reducible first | exact HB.out | apply below_alloc | apply pw_below_drewN | apply below_drew1) | exact HB.out)⟩

/-- THE ONE PURE STATEMENT of laws_FnFolds: yours. -/
def laws_FnFolds.Pure : Prop := ∀ (l0 : List Int), l0.length ≤ maxLen → l0.length * 1 ≤ 140737488351232 → (∀ x ∈ l0, (Lit.int .u8 x).wf = true) → ∃ k, laws_FnFolds.f k l0 = some true
theorem laws_FnFolds.walk (P : laws_FnFolds.Pure) (a0 : Option Addr) (len0 cap0 : Nat) (z0 : List Int) (w : World) (w0 : (a0 = none ∧ len0 = 0 ∧ cap0 = 0 ∧ z0 = []) ∨ ∃ x, a0 = some x ∧ len0 ≤ cap0 ∧ cap0 ≤ maxLen ∧ z0.length = cap0 ∧ (∀ i, i < z0.length → w.cell? (x.add i) = some (.int .u8 (z0.getD i 0))) ∧ ∀ n ∈ z0, (Lit.int .u8 n).wf = true) (y0 : len0 * 1 ≤ 140737488351232) :
    Calls Try.prog 10 #[.slice a0 len0 cap0] w fun e w' => e = .returned (.bool true) ∧ Below w.heap.size w w' := by
  obtain ⟨l0, rfl, hr0, hm0, hw0, hc0⟩ := ReadsInt.ofRowC w0
  obtain ⟨k, h⟩ := P l0 hm0 y0 hw0
  refine (laws_FnFolds.calls k _ _ l0 true w (Kd.C_of_reads (d := (0 : Int)) (h1 := fun _ => rfl) hr0) hc0 h).mono ?_
  rintro e w' ⟨rfl, hd⟩
  exact ⟨rfl, hd⟩

end Go.Proofs.Ytophpcadfljkgaa.PA
