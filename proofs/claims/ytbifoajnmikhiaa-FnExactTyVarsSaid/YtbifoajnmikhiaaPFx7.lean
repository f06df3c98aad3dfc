-- Printed by a program of this session (wrap.py) out of the translation. Lean checks it.
import Derived.Test.YtbifoajnmikhiaaPFx0
namespace Go.Proofs.Ytbifoajnmikhiaa.PF
open Go.RowKit Go.Proofs.YtbifoajnmikhiaaW.PrintWords Go.Proofs.YtbifoajnmikhiaaW.PrintLast Go.Proofs.YtbifoajnmikhiaaW.PrintMore
attribute [local go_sem] max2_int min2_int max_two min_two max_three min_three max_four min_four   -- for this text's walks alone
set_option linter.unusedVariables false
set_option linter.unusedSimpArgs false

/-! ### laws_heldTyS: function 60 -/
mutual
def laws_heldTyS.l0 : Nat → List (S29) → Int → Int → Option (Int)
  | 0, _, _, _ => none
  | k + 1, x0, x1, x5 => if x5 < (x0.length : Int) then (if 0 ≤ x5 then (if ((rd_T29 x0 x5).f0) = x1 then (if ((rd_T29 x0 x5).f1) = (wrap64 (x1 + 1)) then ((laws_heldTyS.f k ((rd_T29 x0 x5).f2) (wrap64 ((wrap64 (x1 + 1)) + 1))).bind fun t130 => (if t130 < 0 then (some (-1)) else (laws_heldTyS.l0 k x0 t130 (wrap64 (x5 + 1))))) else (some (-1))) else (some (-1))) else (none)) else (some x1)
def laws_heldTyS.f : Nat → List (S29) → Int → Option (Int)
  | 0, _, _ => none
  | k + 1, l0, a1 => laws_heldTyS.l0 k l0 a1 0
end
theorem laws_heldTyS.mono_l : ∀ k, (∀ y0 y1, LeO (laws_heldTyS.f k y0 y1) (laws_heldTyS.f (k + 1) y0 y1)) ∧ (∀ y0 y1 y2, LeO (laws_heldTyS.l0 k y0 y1 y2) (laws_heldTyS.l0 (k + 1) y0 y1 y2))
  | 0 => ⟨fun _ _ r h => by simp [laws_heldTyS.f] at h, fun _ _ _ r h => by simp [laws_heldTyS.l0] at h⟩
  | k + 1 => by
    obtain ⟨ih0, ih1⟩ := laws_heldTyS.mono_l k
    refine ⟨?_, ?_⟩
    · intro y0 y1
      unfold laws_heldTyS.f
      repeat' first
      | (with_reducible exact ih0 _ _)
      | (with_reducible exact ih1 _ _ _)
      | (with_reducible exact LeO.refl _)
      | (with_reducible exact LeO.none _)
      | (with_reducible refine LeO.ite ?_ ?_)
      | (with_reducible refine LeO.bind ?_ (fun _ => ?_))
      | exact ih0 _ _
      | exact ih1 _ _ _
      | exact LeO.none _
      | refine LeO.ite ?_ ?_
      | refine LeO.bind ?_ (fun _ => ?_)
    · intro y0 y1 y2
      unfold laws_heldTyS.l0
      repeat' first
      | (with_reducible exact ih0 _ _)
      | (with_reducible exact ih1 _ _ _)
      | (with_reducible exact LeO.refl _)
      | (with_reducible exact LeO.none _)
      | (with_reducible refine LeO.ite ?_ ?_)
      | (with_reducible refine LeO.bind ?_ (fun _ => ?_))
      | exact ih0 _ _
      | exact ih1 _ _ _
      | exact LeO.none _
      | refine LeO.ite ?_ ?_
      | refine LeO.bind ?_ (fun _ => ?_)
theorem laws_heldTyS.mono : ∀ a0 a1 k, LeO (laws_heldTyS.f k a0 a1) (laws_heldTyS.f (k + 1) a0 a1) := by
  intro a0 a1 k
  obtain ⟨ih0, ih1⟩ := laws_heldTyS.mono_l k
  exact ih0 a0 a1
set_option maxHeartbeats 8000000 in
set_option maxRecDepth 100000 in
theorem laws_heldTyS.calls (k : Nat) : ∀ (A0 : Option Addr) (c0 : Nat) (l0 : List (S29)) (a1 : Int) (r : Int) (w : World) (hr0 : Kd.C k29 w A0 l0.length l0) (hc0 : l0.length ≤ c0) (h : laws_heldTyS.f k l0 a1 = some r),
    Calls Try.prog 60 #[.slice A0 l0.length c0, .int .i64 a1] w fun e w' => e = .returned (.int .i64 r) ∧ Drawn0 w w' := by
  induction k using Nat.strongRecOn with
  | _ k ih =>
  intro A0 c0 l0 a1 r w hr0 hc0 h
  cases k with
  | zero => exact absurd h (by simp [laws_heldTyS.f])
  | succ k =>
  simp only [laws_heldTyS.f] at h
  have HR0 := Aside0.mk hr0
  have HC0 := Aside0.mk hc0
  clear hr0 hc0
  have H : (laws_heldTyS.l0 k l0 a1 0) = some r := h
  clear h
  have H' := Aside0.mk H
  clear H
  go_enter Try.func60, Try.ntmps60
  go_wp2
  go_loopg [1, 5] k (fun kq v1 v5 w' => ∃ (x1_1 : Int) (x5_1 : Int), v1 = .int .i64 x1_1 ∧ v5 = .int .i64 x5_1 ∧ Aside0 (laws_heldTyS.l0 kq l0 x1_1 x5_1 = some r) ∧ Aside0 (kq ≤ k) ∧ Drawn0 w w')
  case atStart => exact ⟨(a1), (0), (by first | rfl | (simp; done) | (simp [*]; done) | (simp [bne]; done)), (by first | rfl | (simp; done) | (simp [*]; done) | (simp [bne]; done)), H', ⟨Nat.le_refl _⟩, by repeat (first | exact Drawn0.refl _ | apply Drawn0.step)⟩
  case round =>
    clear H'
    try clear p2
    obtain ⟨x1_1, x5_1, rfl, rfl, HA, HK1, ⟨m1, rfl⟩⟩ := hrel
    cases gk with
    | zero => exact absurd HA.out (by simp [laws_heldTyS.l0])
    | succ k1 =>
      have H := HA.out
      clear HA
      simp only [laws_heldTyS.l0] at H
      by_cases c3 : x5_1 < (l0.length : Int)
      · rw [if_pos c3] at H
        have c3b0 : decide (x5_1 < (l0.length : Int)) = true := decide_eq_true c3
        clear c3
        by_cases c4 : 0 ≤ x5_1
        · rw [if_pos c4] at H
          have c4b0 : decide (0 ≤ x5_1) = true := decide_eq_true c4
          clear c4
          by_cases c5 : ((rd_T29 l0 x5_1).f0) = x1_1
          · rw [if_pos c5] at H
            have c5b0 : (((rd_T29 l0 x5_1).f0) == x1_1) = true := beq_iff_eq.mpr c5
            have c5b1 : (((rd_T29 l0 x5_1).f0) != x1_1) = false := bne_eq_false_iff_eq.mpr c5
            clear c5
            by_cases c6 : ((rd_T29 l0 x5_1).f1) = (wrap64 (x1_1 + 1))
            · rw [if_pos c6] at H
              have c6b0 : (((rd_T29 l0 x5_1).f1) == (wrap64 (x1_1 + 1))) = true := beq_iff_eq.mpr c6
              have c6b1 : (((rd_T29 l0 x5_1).f1) != (wrap64 (x1_1 + 1))) = false := bne_eq_false_iff_eq.mpr c6
              clear c6
              replace H := Option.bind_eq_some_iff.mp H
              obtain ⟨t130, A70, H⟩ := H
              replace H : (if t130 < 0 then (some (-1)) else (laws_heldTyS.l0 k1 l0 t130 (wrap64 (x5_1 + 1)))) = some r := H
              have A7 := Aside0.mk A70
              clear A70
              by_cases c8 : t130 < 0
              · rw [if_pos c8] at H
                have c8b0 : decide (t130 < 0) = true := decide_eq_true c8
                clear c8
                obtain rfl := Option.some.inj H
                have p127 : 0 ≤ (x5_1 : Int) := of_decide_eq_true (by first | (with_reducible assumption) | assumption)
                have q127 : x5_1 < (l0.length : Int) := of_decide_eq_true (by first | (with_reducible assumption) | assumption)
                obtain ⟨ad127, A127_2, c127_2, e127, hx127_0, hx127_1, hx127_2, hl127_2, hi127_2⟩ := at_T29 HR0.out x5_1 p127 q127
                cases e127
                have HR127_2 := Aside0.mk hi127_2
                have HC127_2 := Aside0.mk hl127_2
                clear hi127_2 hl127_2
                replace p127 := eq_true p127
                replace q127 := eq_true q127
                have p128 : 0 ≤ (x5_1 : Int) := of_decide_eq_true (by first | (with_reducible assumption) | assumption)
                have q128 : x5_1 < (l0.length : Int) := of_decide_eq_true (by first | (with_reducible assumption) | assumption)
                obtain ⟨ad128, A128_2, c128_2, e128, hx128_0, hx128_1, hx128_2, hl128_2, hi128_2⟩ := at_T29 HR0.out x5_1 p128 q128
                obtain rfl : ad127 = ad128 := (by injection e128)
                have HR128_2 := Aside0.mk hi128_2
                have HC128_2 := Aside0.mk hl128_2
                clear hi128_2 hl128_2
                replace p128 := eq_true p128
                replace q128 := eq_true q128
                have ea_ := Option.some.inj (hx127_2.symm.trans hx128_2)
                injection ea_ with ea_ en_ ec_
                subst ea_
                subst ec_
                clear en_
                have p129 : 0 ≤ (x5_1 : Int) := of_decide_eq_true (by first | (with_reducible assumption) | assumption)
                have q129 : x5_1 < (l0.length : Int) := of_decide_eq_true (by first | (with_reducible assumption) | assumption)
                obtain ⟨ad129, A129_2, c129_2, e129, hx129_0, hx129_1, hx129_2, hl129_2, hi129_2⟩ := at_T29 HR0.out x5_1 p129 q129
                obtain rfl : ad127 = ad129 := (by injection e129)
                have HR129_2 := Aside0.mk hi129_2
                have HC129_2 := Aside0.mk hl129_2
                clear hi129_2 hl129_2
                replace p129 := eq_true p129
                replace q129 := eq_true q129
                have ea_ := Option.some.inj (hx127_2.symm.trans hx129_2)
                injection ea_ with ea_ en_ ec_
                subst ea_
                subst ec_
                clear en_
                go_wp2_with (first | ((with_reducible refine gate_callee (f := 60) rfl ?_); refine goesL_ (some 36) rfl rfl Try.func60 (by kernel_rfl) rfl #[.slice A127_2 ((rd_T29 l0 x5_1).f2).length c127_2, .int .i64 (wrap64 ((wrap64 (x1_1 + 1)) + 1))] rfl (by (try simp only [List.map_toArray, List.map_cons, List.map_nil]); first | done | rfl | (simp only [List.length_drop, List.length_take]; rfl)) ?_; (with_reducible refine (ih k1 (by have := HK1.out; omega) _ _ ((rd_T29 l0 x5_1).f2) (wrap64 ((wrap64 (x1_1 + 1)) + 1)) t130 _ ?side1 ?side2 A7.out).mono ?_); (case side1 => repeat (first | exact HR129_2.out | (with_reducible refine Kd.C_alloc ?_ _) | (with_reducible refine Kd.C_drewN ?_ _) | (with_reducible refine Kd.C_drew ?_))); (case side2 => exact HC129_2.out); rintro e w' ⟨rfl, ⟨nd, rfl⟩⟩; refine ⟨_, rfl, ?_⟩))
                go_ret
                exact ⟨by first | rfl | (simp; done) | (simp [*]; done) | (simp [bne]; done), by repeat (first | exact Drawn0.refl _ | apply Drawn0.step)⟩
              · rw [if_neg c8] at H
                have c8b0 : decide (t130 < 0) = false := decide_eq_false c8
                clear c8
                have H' := Aside0.mk H
                clear H
                have p127 : 0 ≤ (x5_1 : Int) := of_decide_eq_true (by first | (with_reducible assumption) | assumption)
                have q127 : x5_1 < (l0.length : Int) := of_decide_eq_true (by first | (with_reducible assumption) | assumption)
                obtain ⟨ad127, A127_2, c127_2, e127, hx127_0, hx127_1, hx127_2, hl127_2, hi127_2⟩ := at_T29 HR0.out x5_1 p127 q127
                cases e127
                have HR127_2 := Aside0.mk hi127_2
                have HC127_2 := Aside0.mk hl127_2
                clear hi127_2 hl127_2
                replace p127 := eq_true p127
                replace q127 := eq_true q127
                have p128 : 0 ≤ (x5_1 : Int) := of_decide_eq_true (by first | (with_reducible assumption) | assumption)
                have q128 : x5_1 < (l0.length : Int) := of_decide_eq_true (by first | (with_reducible assumption) | assumption)
                obtain ⟨ad128, A128_2, c128_2, e128, hx128_0, hx128_1, hx128_2, hl128_2, hi128_2⟩ := at_T29 HR0.out x5_1 p128 q128
                obtain rfl : ad127 = ad128 := (by injection e128)
                have HR128_2 := Aside0.mk hi128_2
                have HC128_2 := Aside0.mk hl128_2
                clear hi128_2 hl128_2
                replace p128 := eq_true p128
                replace q128 := eq_true q128
                have ea_ := Option.some.inj (hx127_2.symm.trans hx128_2)
                injection ea_ with ea_ en_ ec_
                subst ea_
                subst ec_
                clear en_
                have p129 : 0 ≤ (x5_1 : Int) := of_decide_eq_true (by first | (with_reducible assumption) | assumption)
                have q129 : x5_1 < (l0.length : Int) := of_decide_eq_true (by first | (with_reducible assumption) | assumption)
                obtain ⟨ad129, A129_2, c129_2, e129, hx129_0, hx129_1, hx129_2, hl129_2, hi129_2⟩ := at_T29 HR0.out x5_1 p129 q129
                obtain rfl : ad127 = ad129 := (by injection e129)
                have HR129_2 := Aside0.mk hi129_2
                have HC129_2 := Aside0.mk hl129_2
                clear hi129_2 hl129_2
                replace p129 := eq_true p129
                replace q129 := eq_true q129
                have ea_ := Option.some.inj (hx127_2.symm.trans hx129_2)
                injection ea_ with ea_ en_ ec_
                subst ea_
                subst ec_
                clear en_
                go_wp2_with (first | ((with_reducible refine gate_callee (f := 60) rfl ?_); refine goesL_ (some 36) rfl rfl Try.func60 (by kernel_rfl) rfl #[.slice A127_2 ((rd_T29 l0 x5_1).f2).length c127_2, .int .i64 (wrap64 ((wrap64 (x1_1 + 1)) + 1))] rfl (by (try simp only [List.map_toArray, List.map_cons, List.map_nil]); first | done | rfl | (simp only [List.length_drop, List.length_take]; rfl)) ?_; (with_reducible refine (ih k1 (by have := HK1.out; omega) _ _ ((rd_T29 l0 x5_1).f2) (wrap64 ((wrap64 (x1_1 + 1)) + 1)) t130 _ ?side1 ?side2 A7.out).mono ?_); (case side1 => repeat (first | exact HR129_2.out | (with_reducible refine Kd.C_alloc ?_ _) | (with_reducible refine Kd.C_drewN ?_ _) | (with_reducible refine Kd.C_drew ?_))); (case side2 => exact HC129_2.out); rintro e w' ⟨rfl, ⟨nd, rfl⟩⟩; refine ⟨_, rfl, ?_⟩))
                go_roundg k1
                case measure => have := HK1.out; omega
                case rel => exact ⟨(t130), (wrap64 (x5_1 + 1)), (by first | rfl | (simp; done) | (simp [*]; done) | (simp [bne]; done)), (by first | rfl | (simp; done) | (simp [*]; done) | (simp [bne]; done)), H', ⟨by have := HK1.out; omega⟩, by repeat (first | exact Drawn0.refl _ | apply Drawn0.step)⟩
            · rw [if_neg c6] at H
              have c6b0 : (((rd_T29 l0 x5_1).f1) == (wrap64 (x1_1 + 1))) = false := beq_eq_false_iff_ne.mpr c6
              have c6b1 : (((rd_T29 l0 x5_1).f1) != (wrap64 (x1_1 + 1))) = true := bne_iff_ne.mpr c6
              obtain rfl := Option.some.inj H
              have p127 : 0 ≤ (x5_1 : Int) := of_decide_eq_true (by first | (with_reducible assumption) | assumption)
              have q127 : x5_1 < (l0.length : Int) := of_decide_eq_true (by first | (with_reducible assumption) | assumption)
              obtain ⟨ad127, A127_2, c127_2, e127, hx127_0, hx127_1, hx127_2, hl127_2, hi127_2⟩ := at_T29 HR0.out x5_1 p127 q127
              cases e127
              have HR127_2 := Aside0.mk hi127_2
              have HC127_2 := Aside0.mk hl127_2
              clear hi127_2 hl127_2
              replace p127 := eq_true p127
              replace q127 := eq_true q127
              have p128 : 0 ≤ (x5_1 : Int) := of_decide_eq_true (by first | (with_reducible assumption) | assumption)
              have q128 : x5_1 < (l0.length : Int) := of_decide_eq_true (by first | (with_reducible assumption) | assumption)
              obtain ⟨ad128, A128_2, c128_2, e128, hx128_0, hx128_1, hx128_2, hl128_2, hi128_2⟩ := at_T29 HR0.out x5_1 p128 q128
              obtain rfl : ad127 = ad128 := (by injection e128)
              have HR128_2 := Aside0.mk hi128_2
              have HC128_2 := Aside0.mk hl128_2
              clear hi128_2 hl128_2
              replace p128 := eq_true p128
              replace q128 := eq_true q128
              have ea_ := Option.some.inj (hx127_2.symm.trans hx128_2)
              injection ea_ with ea_ en_ ec_
              subst ea_
              subst ec_
              clear en_
              go_wp2
              go_ret
              exact ⟨by first | rfl | (simp; done) | (simp [*]; done) | (simp [bne]; done), by repeat (first | exact Drawn0.refl _ | apply Drawn0.step)⟩
          · rw [if_neg c5] at H
            have c5b0 : (((rd_T29 l0 x5_1).f0) == x1_1) = false := beq_eq_false_iff_ne.mpr c5
            have c5b1 : (((rd_T29 l0 x5_1).f0) != x1_1) = true := bne_iff_ne.mpr c5
            obtain rfl := Option.some.inj H
            have p127 : 0 ≤ (x5_1 : Int) := of_decide_eq_true (by first | (with_reducible assumption) | assumption)
            have q127 : x5_1 < (l0.length : Int) := of_decide_eq_true (by first | (with_reducible assumption) | assumption)
            obtain ⟨ad127, A127_2, c127_2, e127, hx127_0, hx127_1, hx127_2, hl127_2, hi127_2⟩ := at_T29 HR0.out x5_1 p127 q127
            cases e127
            have HR127_2 := Aside0.mk hi127_2
            have HC127_2 := Aside0.mk hl127_2
            clear hi127_2 hl127_2
            replace p127 := eq_true p127
            replace q127 := eq_true q127
            go_wp2
            go_ret
            exact ⟨by first | rfl | (simp; done) | (simp [*]; done) | (simp [bne]; done), by repeat (first | exact Drawn0.refl _ | apply Drawn0.step)⟩
        · rw [if_neg c4] at H
          exact absurd H (by simp)
      · rw [if_neg c3] at H
        have c3b0 : decide (x5_1 < (l0.length : Int)) = false := decide_eq_false c3
        clear c3
        obtain rfl := Option.some.inj H
        go_wp2
        go_ret
        exact ⟨by first | rfl | (simp; done) | (simp [*]; done) | (simp [bne]; done), by repeat (first | exact Drawn0.refl _ | apply Drawn0.step)⟩

end Go.Proofs.Ytbifoajnmikhiaa.PF
