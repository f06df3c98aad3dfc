-- Printed by a program of this session (wrap.py) out of the translation. Lean checks it.
import Derived.Test.YtbifoajnmikhiaaPDx0
namespace Go.Proofs.Ytbifoajnmikhiaa.PD
open Go.RowKit Go.Proofs.YtbifoajnmikhiaaW.PrintWords Go.Proofs.YtbifoajnmikhiaaW.PrintLast Go.Proofs.YtbifoajnmikhiaaW.PrintMore
attribute [local go_sem] max2_int min2_int max_two min_two max_three min_three max_four min_four   -- for this text's walks alone
set_option linter.unusedVariables false
set_option linter.unusedSimpArgs false

/-! ### spec_GetNum: function 80 -/
mutual
def spec_GetNum.l0 : Nat → List Int → Int → Int → Int → Int → Option (Int × Int)
  | 0, _, _, _, _, _ => none
  | k + 1, x0, x1, x6, x7, x8 => if x8 < 5 then (spec_GetNum.j1 k x0 x1 x6 x7 x8 (decide ((wrap64 (x1 + x8)) < (x0.length : Int)))) else (spec_GetNum.j1 k x0 x1 x6 x7 x8 false)
def spec_GetNum.j1 : Nat → List Int → Int → Int → Int → Int → Bool → Option (Int × Int)
  | 0, _, _, _, _, _, _ => none
  | k + 1, x0, x1, x6, x7, x8, x21 => if x21 = true then (if 0 ≤ (wrap64 (x1 + x8)) then (if (wrap64 (x1 + x8)) < (x0.length : Int) then (if (wrap64 (rd x0 (wrap64 (x1 + x8)))) > 127 then (spec_GetNum.l0 k x0 x1 (wrap64 (x6 + (wrap64 ((Go.bits .and .i64 (wrap64 (rd x0 (wrap64 (x1 + x8)))) 127) * x7)))) (wrap64 (x7 * 128)) (wrap64 (x8 + 1))) else (if (wrap64 (rd x0 (wrap64 (x1 + x8)))) = 0 then (if x8 > 0 then (some (0, (-1))) else (if (wrap64 (x6 + (wrap64 ((Go.bits .and .i64 (wrap64 (rd x0 (wrap64 (x1 + x8)))) 127) * x7)))) > 2147483647 then (some (0, (-1))) else (some (wrap64 (x6 + (wrap64 ((Go.bits .and .i64 (wrap64 (rd x0 (wrap64 (x1 + x8)))) 127) * x7))), wrap64 ((wrap64 (x1 + x8)) + 1))))) else (if (wrap64 (x6 + (wrap64 ((Go.bits .and .i64 (wrap64 (rd x0 (wrap64 (x1 + x8)))) 127) * x7)))) > 2147483647 then (some (0, (-1))) else (some (wrap64 (x6 + (wrap64 ((Go.bits .and .i64 (wrap64 (rd x0 (wrap64 (x1 + x8)))) 127) * x7))), wrap64 ((wrap64 (x1 + x8)) + 1)))))) else (none)) else (none)) else (some (0, (-1)))
end
def spec_GetNum.f (k : Nat) (l0 : List Int) (a1 : Int) : Option (Int × Int) := if a1 < 0 then (some (0, (-1))) else (spec_GetNum.l0 k l0 a1 0 1 0)
theorem spec_GetNum.mono_l : ∀ k, (∀ y0 y1 y2 y3 y4, LeO (spec_GetNum.l0 k y0 y1 y2 y3 y4) (spec_GetNum.l0 (k + 1) y0 y1 y2 y3 y4)) ∧ (∀ y0 y1 y2 y3 y4 y5, LeO (spec_GetNum.j1 k y0 y1 y2 y3 y4 y5) (spec_GetNum.j1 (k + 1) y0 y1 y2 y3 y4 y5))
  | 0 => ⟨fun _ _ _ _ _ r h => by simp [spec_GetNum.l0] at h, fun _ _ _ _ _ _ r h => by simp [spec_GetNum.j1] at h⟩
  | k + 1 => by
    obtain ⟨ih0, ih1⟩ := spec_GetNum.mono_l k
    refine ⟨?_, ?_⟩
    · intro y0 y1 y2 y3 y4
      unfold spec_GetNum.l0
      repeat' first
      | (with_reducible exact ih0 _ _ _ _ _)
      | (with_reducible exact ih1 _ _ _ _ _ _)
      | (with_reducible exact LeO.refl _)
      | (with_reducible exact LeO.none _)
      | (with_reducible refine LeO.ite ?_ ?_)
      | (with_reducible refine LeO.bind ?_ (fun _ => ?_))
      | exact ih0 _ _ _ _ _
      | exact ih1 _ _ _ _ _ _
      | exact LeO.none _
      | refine LeO.ite ?_ ?_
      | refine LeO.bind ?_ (fun _ => ?_)
    · intro y0 y1 y2 y3 y4 y5
      unfold spec_GetNum.j1
      repeat' first
      | (with_reducible exact ih0 _ _ _ _ _)
      | (with_reducible exact ih1 _ _ _ _ _ _)
      | (with_reducible exact LeO.refl _)
      | (with_reducible exact LeO.none _)
      | (with_reducible refine LeO.ite ?_ ?_)
      | (with_reducible refine LeO.bind ?_ (fun _ => ?_))
      | exact ih0 _ _ _ _ _
      | exact ih1 _ _ _ _ _ _
      | exact LeO.none _
      | refine LeO.ite ?_ ?_
      | refine LeO.bind ?_ (fun _ => ?_)
theorem spec_GetNum.mono : ∀ a0 a1 k, LeO (spec_GetNum.f k a0 a1) (spec_GetNum.f (k + 1) a0 a1) := by
  intro a0 a1 k
  obtain ⟨ih0, ih1⟩ := spec_GetNum.mono_l k
  unfold spec_GetNum.f
  repeat' first
      | (with_reducible exact ih0 _ _ _ _ _)
      | (with_reducible exact ih1 _ _ _ _ _ _)
      | (with_reducible exact LeO.refl _)
      | (with_reducible exact LeO.none _)
      | (with_reducible refine LeO.ite ?_ ?_)
      | (with_reducible refine LeO.bind ?_ (fun _ => ?_))
      | exact ih0 _ _ _ _ _
      | exact ih1 _ _ _ _ _ _
      | exact LeO.none _
      | refine LeO.ite ?_ ?_
      | refine LeO.bind ?_ (fun _ => ?_)
set_option maxHeartbeats 8000000 in
set_option maxRecDepth 100000 in
theorem spec_GetNum.calls (k : Nat) (A0 : Option Addr) (c0 : Nat) (l0 : List Int) (a1 : Int) (r1 : Int) (r2 : Int) (w : World) (hr0 : Kd.C (Kd.int .u8) w A0 l0.length l0) (hc0 : l0.length ≤ c0) (h : spec_GetNum.f k l0 a1 = some (r1, r2)) :
    Calls Try.prog 80 #[.slice A0 l0.length c0, .int .i64 a1] w fun e w' => e = .returned (.tuple #[.int .i64 r1, .int .i64 r2]) ∧ Drawn0 w w' := by
  have HR0 := Aside0.mk hr0
  have HC0 := Aside0.mk hc0
  clear hr0 hc0
  have H : (if a1 < 0 then (some (0, (-1))) else (spec_GetNum.l0 k l0 a1 0 1 0)) = some (r1, r2) := h
  clear h
  by_cases c3 : a1 < 0
  · rw [if_pos c3] at H
    have c3b0 : decide (a1 < 0) = true := decide_eq_true c3
    clear c3
    simp only [Option.some.injEq, Prod.mk.injEq] at H
    obtain ⟨rfl, rfl⟩ := H
    go_enter Try.func80, Try.ntmps80
    go_wp2
    go_ret2
    exact ⟨by first | rfl | (simp; done) | (simp [*]; done) | (simp [bne]; done), by repeat (first | exact Drawn0.refl _ | apply Drawn0.step)⟩
  · rw [if_neg c3] at H
    have c3b0 : decide (a1 < 0) = false := decide_eq_false c3
    clear c3
    have H' := Aside0.mk H
    clear H
    go_enter Try.func80, Try.ntmps80
    go_wp2
    go_loopg [6, 7, 8] k (fun kq v6 v7 v8 w' => ∃ (x6_1 : Int) (x7_1 : Int) (x8_1 : Int), v6 = .int .i64 x6_1 ∧ v7 = .int .i64 x7_1 ∧ v8 = .int .i64 x8_1 ∧ Aside0 (spec_GetNum.l0 kq l0 a1 x6_1 x7_1 x8_1 = some (r1, r2)) ∧ Aside0 (kq ≤ k) ∧ Drawn0 w w')
    case atStart => exact ⟨(0), (1), (0), (by first | rfl | (simp; done) | (simp [*]; done) | (simp [bne]; done)), (by first | rfl | (simp; done) | (simp [*]; done) | (simp [bne]; done)), (by first | rfl | (simp; done) | (simp [*]; done) | (simp [bne]; done)), H', ⟨Nat.le_refl _⟩, by repeat (first | exact Drawn0.refl _ | apply Drawn0.step)⟩
    case round =>
      clear H'
      try clear p2
      try clear c3
      try clear c3b0
      obtain ⟨x6_1, x7_1, x8_1, rfl, rfl, rfl, HA, HK1, ⟨m1, rfl⟩⟩ := hrel
      cases gk with
      | zero => exact absurd HA.out (by simp [spec_GetNum.l0])
      | succ k1 =>
        have H := HA.out
        clear HA
        simp only [spec_GetNum.l0] at H
        have HC4 := Aside0.mk H
        clear H
        go_upto_region 5 with (fail)
        go_cut [21] (fun v21 wc => ∃ (kq : Nat) (x21_3 : Bool), v21 = .bool x21_3 ∧ Aside0 (spec_GetNum.j1 kq l0 a1 x6_1 x7_1 x8_1 x21_3 = some (r1, r2)) ∧ Aside0 (kq ≤ k1) ∧ Drawn0 w wc)
        case first =>
          have H := HC4.out
          clear HC4
          by_cases c5 : x8_1 < 5
          · rw [if_pos c5] at H
            have c5b0 : decide (x8_1 < 5) = true := decide_eq_true c5
            clear c5
            (first | rw [c5b0] | (simp only [i64_w, i32_w]; rw [c5b0]) | skip)
            have H' := Aside0.mk H
            clear H
            go_wp2
            go_meet
            case rel => exact ⟨_, (decide ((wrap64 (a1 + x8_1)) < (l0.length : Int))), (by first | rfl | (simp; done) | (simp [*]; done) | (simp [bne]; done)), H', ⟨by have := HK1.out; first | omega | exact Nat.le_refl _⟩, by repeat (first | exact Drawn0.refl _ | apply Drawn0.step)⟩
          · rw [if_neg c5] at H
            have c5b0 : decide (x8_1 < 5) = false := decide_eq_false c5
            clear c5
            (first | rw [c5b0] | (simp only [i64_w, i32_w]; rw [c5b0]) | skip)
            have H' := Aside0.mk H
            clear H
            go_wp2
            go_meet
            case rel => exact ⟨_, (false), (by first | rfl | (simp; done) | (simp [*]; done) | (simp [bne]; done)), H', ⟨by have := HK1.out; first | omega | exact Nat.le_refl _⟩, by repeat (first | exact Drawn0.refl _ | apply Drawn0.step)⟩
        case rest =>
          clear HC4
          try clear p2
          try clear c3
          try clear c3b0
          try clear c5
          try clear c5b0
          try clear p2
          obtain ⟨kq, x21_3, rfl, HA, HJ3, ⟨mc3, rfl⟩⟩ := hcut
          cases kq with
          | zero => exact absurd HA.out (by simp [spec_GetNum.j1])
          | succ kj3 =>
            have H := HA.out
            clear HA
            simp only [spec_GetNum.j1] at H
            by_cases c6 : x21_3 = true
            · subst c6
              have H1 : (if 0 ≤ (wrap64 (a1 + x8_1)) then (if (wrap64 (a1 + x8_1)) < (l0.length : Int) then (if (wrap64 (rd l0 (wrap64 (a1 + x8_1)))) > 127 then (spec_GetNum.l0 kj3 l0 a1 (wrap64 (x6_1 + (wrap64 ((Go.bits .and .i64 (wrap64 (rd l0 (wrap64 (a1 + x8_1)))) 127) * x7_1)))) (wrap64 (x7_1 * 128)) (wrap64 (x8_1 + 1))) else (if (wrap64 (rd l0 (wrap64 (a1 + x8_1)))) = 0 then (if x8_1 > 0 then (some (0, (-1))) else (if (wrap64 (x6_1 + (wrap64 ((Go.bits .and .i64 (wrap64 (rd l0 (wrap64 (a1 + x8_1)))) 127) * x7_1)))) > 2147483647 then (some (0, (-1))) else (some (wrap64 (x6_1 + (wrap64 ((Go.bits .and .i64 (wrap64 (rd l0 (wrap64 (a1 + x8_1)))) 127) * x7_1))), wrap64 ((wrap64 (a1 + x8_1)) + 1))))) else (if (wrap64 (x6_1 + (wrap64 ((Go.bits .and .i64 (wrap64 (rd l0 (wrap64 (a1 + x8_1)))) 127) * x7_1)))) > 2147483647 then (some (0, (-1))) else (some (wrap64 (x6_1 + (wrap64 ((Go.bits .and .i64 (wrap64 (rd l0 (wrap64 (a1 + x8_1)))) 127) * x7_1))), wrap64 ((wrap64 (a1 + x8_1)) + 1)))))) else (none)) else (none)) = some (r1, r2) := by rw [if_pos rfl] at H; exact H
              clear H
              have H := H1
              clear H1
              obtain ⟨ji7, hji7⟩ : ∃ j_ : Int, (wrap64 (a1 + x8_1)) = j_ := ⟨_, rfl⟩
              replace H : (if 0 ≤ (ji7) then (if (ji7) < (l0.length : Int) then (if (wrap64 (rd l0 (ji7))) > 127 then (spec_GetNum.l0 kj3 l0 a1 (wrap64 (x6_1 + (wrap64 ((Go.bits .and .i64 (wrap64 (rd l0 (ji7))) 127) * x7_1)))) (wrap64 (x7_1 * 128)) (wrap64 (x8_1 + 1))) else (if (wrap64 (rd l0 (ji7))) = 0 then (if x8_1 > 0 then (some (0, (-1))) else (if (wrap64 (x6_1 + (wrap64 ((Go.bits .and .i64 (wrap64 (rd l0 (ji7))) 127) * x7_1)))) > 2147483647 then (some (0, (-1))) else (some (wrap64 (x6_1 + (wrap64 ((Go.bits .and .i64 (wrap64 (rd l0 (ji7))) 127) * x7_1))), wrap64 ((ji7) + 1))))) else (if (wrap64 (x6_1 + (wrap64 ((Go.bits .and .i64 (wrap64 (rd l0 (ji7))) 127) * x7_1)))) > 2147483647 then (some (0, (-1))) else (some (wrap64 (x6_1 + (wrap64 ((Go.bits .and .i64 (wrap64 (rd l0 (ji7))) 127) * x7_1))), wrap64 ((ji7) + 1)))))) else (none)) else (none)) = some (r1, r2) := by first | (rw [hji7] at H; exact H) | (simp only [hji7] at H ⊢; exact H)
              have hji7w : (IntKind.i64.wrap (a1 + x8_1)) = ji7 := (i64_w _).trans hji7
              by_cases c8 : 0 ≤ (ji7)
              · rw [if_pos c8] at H
                have c8b0 : decide (0 ≤ (ji7)) = true := decide_eq_true c8
                clear c8
                by_cases c9 : (ji7) < (l0.length : Int)
                · rw [if_pos c9] at H
                  have c9b0 : decide ((ji7) < (l0.length : Int)) = true := decide_eq_true c9
                  clear c9
                  by_cases c10 : (wrap64 (rd l0 (ji7))) > 127
                  · rw [if_pos c10] at H
                    have c10b0 : decide (127 < (wrap64 (rd l0 (ji7)))) = true := decide_eq_true c10
                    clear c10
                    have H' := Aside0.mk H
                    clear H
                    have p127 : 0 ≤ ((ji7) : Int) := of_decide_eq_true (by first | (with_reducible assumption) | assumption)
                    have q127 : (ji7) < (l0.length : Int) := of_decide_eq_true (by first | (with_reducible assumption) | assumption)
                    obtain ⟨ad127, e127, hx127_0⟩ := Kd.at_int HR0.out (ji7) p127 q127
                    cases e127
                    replace p127 := eq_true p127
                    replace q127 := eq_true q127
                    go_wp2
                    go_roundg kj3
                    case measure => have := HK1.out; have := HJ3.out; omega
                    case rel => exact ⟨(wrap64 (x6_1 + (wrap64 ((Go.bits .and .i64 (wrap64 (rd l0 (ji7))) 127) * x7_1)))), (wrap64 (x7_1 * 128)), (wrap64 (x8_1 + 1)), (by first | rfl | (simp; done) | (simp only [← hji7] <;> (first | rfl | simp)) | (simp [*]; done) | (simp [bne]; done)), (by first | rfl | (simp; done) | (simp [*]; done) | (simp [bne]; done)), (by first | rfl | (simp; done) | (simp [*]; done) | (simp [bne]; done)), H', ⟨by have := HK1.out; have := HJ3.out; omega⟩, by repeat (first | exact Drawn0.refl _ | apply Drawn0.step)⟩
                  · rw [if_neg c10] at H
                    have c10b0 : decide (127 < (wrap64 (rd l0 (ji7)))) = false := decide_eq_false c10
                    clear c10
                    by_cases c11 : (wrap64 (rd l0 (ji7))) = 0
                    · rw [if_pos c11] at H
                      have c11b0 : ((wrap64 (rd l0 (ji7))) == 0) = true := beq_iff_eq.mpr c11
                      have c11b1 : ((wrap64 (rd l0 (ji7))) != 0) = false := bne_eq_false_iff_eq.mpr c11
                      clear c11
                      by_cases c12 : x8_1 > 0
                      · rw [if_pos c12] at H
                        have c12b0 : decide (0 < x8_1) = true := decide_eq_true c12
                        clear c12
                        simp only [Option.some.injEq, Prod.mk.injEq] at H
                        obtain ⟨rfl, rfl⟩ := H
                        have p127 : 0 ≤ ((ji7) : Int) := of_decide_eq_true (by first | (with_reducible assumption) | assumption)
                        have q127 : (ji7) < (l0.length : Int) := of_decide_eq_true (by first | (with_reducible assumption) | assumption)
                        obtain ⟨ad127, e127, hx127_0⟩ := Kd.at_int HR0.out (ji7) p127 q127
                        cases e127
                        replace p127 := eq_true p127
                        replace q127 := eq_true q127
                        go_wp2
                        go_ret2
                        exact ⟨by first | rfl | (simp; done) | (simp only [← hji7] <;> (first | rfl | simp)) | (simp [*]; done) | (simp [bne]; done), by repeat (first | exact Drawn0.refl _ | apply Drawn0.step)⟩
                      · rw [if_neg c12] at H
                        have c12b0 : decide (0 < x8_1) = false := decide_eq_false c12
                        clear c12
                        by_cases c13 : (wrap64 (x6_1 + (wrap64 ((Go.bits .and .i64 (wrap64 (rd l0 (ji7))) 127) * x7_1)))) > 2147483647
                        · rw [if_pos c13] at H
                          have c13b0 : decide (2147483647 < (wrap64 (x6_1 + (wrap64 ((Go.bits .and .i64 (wrap64 (rd l0 (ji7))) 127) * x7_1))))) = true := decide_eq_true c13
                          clear c13
                          simp only [Option.some.injEq, Prod.mk.injEq] at H
                          obtain ⟨rfl, rfl⟩ := H
                          have p127 : 0 ≤ ((ji7) : Int) := of_decide_eq_true (by first | (with_reducible assumption) | assumption)
                          have q127 : (ji7) < (l0.length : Int) := of_decide_eq_true (by first | (with_reducible assumption) | assumption)
                          obtain ⟨ad127, e127, hx127_0⟩ := Kd.at_int HR0.out (ji7) p127 q127
                          cases e127
                          replace p127 := eq_true p127
                          replace q127 := eq_true q127
                          go_wp2
                          go_ret2
                          exact ⟨by first | rfl | (simp; done) | (simp only [← hji7] <;> (first | rfl | simp)) | (simp [*]; done) | (simp [bne]; done), by repeat (first | exact Drawn0.refl _ | apply Drawn0.step)⟩
                        · rw [if_neg c13] at H
                          have c13b0 : decide (2147483647 < (wrap64 (x6_1 + (wrap64 ((Go.bits .and .i64 (wrap64 (rd l0 (ji7))) 127) * x7_1))))) = false := decide_eq_false c13
                          clear c13
                          simp only [Option.some.injEq, Prod.mk.injEq] at H
                          obtain ⟨rfl, rfl⟩ := H
                          have p127 : 0 ≤ ((ji7) : Int) := of_decide_eq_true (by first | (with_reducible assumption) | assumption)
                          have q127 : (ji7) < (l0.length : Int) := of_decide_eq_true (by first | (with_reducible assumption) | assumption)
                          obtain ⟨ad127, e127, hx127_0⟩ := Kd.at_int HR0.out (ji7) p127 q127
                          cases e127
                          replace p127 := eq_true p127
                          replace q127 := eq_true q127
                          go_wp2
                          go_ret2
                          exact ⟨by first | rfl | (simp; done) | (simp only [← hji7] <;> (first | rfl | simp)) | (simp [*]; done) | (simp [bne]; done), by repeat (first | exact Drawn0.refl _ | apply Drawn0.step)⟩
                    · rw [if_neg c11] at H
                      have c11b0 : ((wrap64 (rd l0 (ji7))) == 0) = false := beq_eq_false_iff_ne.mpr c11
                      have c11b1 : ((wrap64 (rd l0 (ji7))) != 0) = true := bne_iff_ne.mpr c11
                      by_cases c14 : (wrap64 (x6_1 + (wrap64 ((Go.bits .and .i64 (wrap64 (rd l0 (ji7))) 127) * x7_1)))) > 2147483647
                      · rw [if_pos c14] at H
                        have c14b0 : decide (2147483647 < (wrap64 (x6_1 + (wrap64 ((Go.bits .and .i64 (wrap64 (rd l0 (ji7))) 127) * x7_1))))) = true := decide_eq_true c14
                        clear c14
                        simp only [Option.some.injEq, Prod.mk.injEq] at H
                        obtain ⟨rfl, rfl⟩ := H
                        have p127 : 0 ≤ ((ji7) : Int) := of_decide_eq_true (by first | (with_reducible assumption) | assumption)
                        have q127 : (ji7) < (l0.length : Int) := of_decide_eq_true (by first | (with_reducible assumption) | assumption)
                        obtain ⟨ad127, e127, hx127_0⟩ := Kd.at_int HR0.out (ji7) p127 q127
                        cases e127
                        replace p127 := eq_true p127
                        replace q127 := eq_true q127
                        go_wp2
                        go_ret2
                        exact ⟨by first | rfl | (simp; done) | (simp only [← hji7] <;> (first | rfl | simp)) | (simp [*]; done) | (simp [bne]; done), by repeat (first | exact Drawn0.refl _ | apply Drawn0.step)⟩
                      · rw [if_neg c14] at H
                        have c14b0 : decide (2147483647 < (wrap64 (x6_1 + (wrap64 ((Go.bits .and .i64 (wrap64 (rd l0 (ji7))) 127) * x7_1))))) = false := decide_eq_false c14
                        clear c14
                        simp only [Option.some.injEq, Prod.mk.injEq] at H
                        obtain ⟨rfl, rfl⟩ := H
                        have p127 : 0 ≤ ((ji7) : Int) := of_decide_eq_true (by first | (with_reducible assumption) | assumption)
                        have q127 : (ji7) < (l0.length : Int) := of_decide_eq_true (by first | (with_reducible assumption) | assumption)
                        obtain ⟨ad127, e127, hx127_0⟩ := Kd.at_int HR0.out (ji7) p127 q127
                        cases e127
                        replace p127 := eq_true p127
                        replace q127 := eq_true q127
                        go_wp2
                        go_ret2
                        exact ⟨by first | rfl | (simp; done) | (simp only [← hji7] <;> (first | rfl | simp)) | (simp [*]; done) | (simp [bne]; done), by repeat (first | exact Drawn0.refl _ | apply Drawn0.step)⟩
                · rw [if_neg c9] at H
                  exact absurd H (by simp)
              · rw [if_neg c8] at H
                exact absurd H (by simp)
            · replace c6 := Bool.eq_false_iff.mpr c6
              subst c6
              have H1 : (some (0, (-1))) = some (r1, r2) := by rw [if_neg (show ¬ (false = true) by decide)] at H; exact H
              clear H
              have H := H1
              clear H1
              simp only [Option.some.injEq, Prod.mk.injEq] at H
              obtain ⟨rfl, rfl⟩ := H
              go_wp2
              go_ret2
              exact ⟨by first | rfl | (simp; done) | (simp [*]; done) | (simp [bne]; done), by repeat (first | exact Drawn0.refl _ | apply Drawn0.step)⟩

end Go.Proofs.Ytbifoajnmikhiaa.PD
