-- Printed by a program of this session (wrap.py) out of the translation. Lean checks it.
import Derived.Test.YtbifoajnmikhiaaPDx0
namespace Go.Proofs.Ytbifoajnmikhiaa.PD
open Go.RowKit Go.Proofs.YtbifoajnmikhiaaW.PrintWords Go.Proofs.YtbifoajnmikhiaaW.PrintLast Go.Proofs.YtbifoajnmikhiaaW.PrintMore
attribute [local go_sem] max2_int min2_int max_two min_two max_three min_three max_four min_four   -- for this text's walks alone
set_option linter.unusedVariables false
set_option linter.unusedSimpArgs false

/-! ### impl_GetNum: function 83 -/
mutual
def impl_GetNum.l0 : Nat → List Int → Int → Int → Int → Option (Int × Int)
  | 0, _, _, _, _ => none
  | k + 1, x0, x1, x6, x7 => if x7 < 5 then (impl_GetNum.j1 k x0 x1 x6 x7 (decide (x7 < (wrap64 ((x0.length : Int) - x1))))) else (impl_GetNum.j1 k x0 x1 x6 x7 false)
def impl_GetNum.j1 : Nat → List Int → Int → Int → Int → Bool → Option (Int × Int)
  | 0, _, _, _, _, _ => none
  | k + 1, x0, x1, x6, x7, x20 => if x20 = true then (if 0 ≤ (wrap64 (x1 + x7)) then (if (wrap64 (x1 + x7)) < (x0.length : Int) then (if 0 ≤ (wrap64 (7 * x7)) then (if (wrap64 (rd x0 (wrap64 (x1 + x7)))) ≥ 128 then (impl_GetNum.l0 k x0 x1 (wrap64 (x6 + (shl .i64 (Int.tmod (wrap64 (rd x0 (wrap64 (x1 + x7)))) 128) (wrap64 (7 * x7))))) (wrap64 (x7 + 1))) else (if x7 > 0 then (if (wrap64 (rd x0 (wrap64 (x1 + x7)))) = 0 then (some (0, (-1))) else (if (wrap64 (x6 + (shl .i64 (Int.tmod (wrap64 (rd x0 (wrap64 (x1 + x7)))) 128) (wrap64 (7 * x7))))) > 2147483647 then (some (0, (-1))) else (some (wrap64 (x6 + (shl .i64 (Int.tmod (wrap64 (rd x0 (wrap64 (x1 + x7)))) 128) (wrap64 (7 * x7)))), wrap64 ((wrap64 (x1 + x7)) + 1))))) else (if (wrap64 (x6 + (shl .i64 (Int.tmod (wrap64 (rd x0 (wrap64 (x1 + x7)))) 128) (wrap64 (7 * x7))))) > 2147483647 then (some (0, (-1))) else (some (wrap64 (x6 + (shl .i64 (Int.tmod (wrap64 (rd x0 (wrap64 (x1 + x7)))) 128) (wrap64 (7 * x7)))), wrap64 ((wrap64 (x1 + x7)) + 1)))))) else (none)) else (none)) else (none)) else (some (0, (-1)))
end
def impl_GetNum.f (k : Nat) (l0 : List Int) (a1 : Int) : Option (Int × Int) := if a1 < 0 then (some (0, (-1))) else (impl_GetNum.l0 k l0 a1 0 0)
theorem impl_GetNum.mono_l : ∀ k, (∀ y0 y1 y2 y3, LeO (impl_GetNum.l0 k y0 y1 y2 y3) (impl_GetNum.l0 (k + 1) y0 y1 y2 y3)) ∧ (∀ y0 y1 y2 y3 y4, LeO (impl_GetNum.j1 k y0 y1 y2 y3 y4) (impl_GetNum.j1 (k + 1) y0 y1 y2 y3 y4))
  | 0 => ⟨fun _ _ _ _ r h => by simp [impl_GetNum.l0] at h, fun _ _ _ _ _ r h => by simp [impl_GetNum.j1] at h⟩
  | k + 1 => by
    obtain ⟨ih0, ih1⟩ := impl_GetNum.mono_l k
    refine ⟨?_, ?_⟩
    · intro y0 y1 y2 y3
      unfold impl_GetNum.l0
      repeat' first
      | (with_reducible exact ih0 _ _ _ _)
      | (with_reducible exact ih1 _ _ _ _ _)
      | (with_reducible exact LeO.refl _)
      | (with_reducible exact LeO.none _)
      | (with_reducible refine LeO.ite ?_ ?_)
      | (with_reducible refine LeO.bind ?_ (fun _ => ?_))
      | exact ih0 _ _ _ _
      | exact ih1 _ _ _ _ _
      | exact LeO.none _
      | refine LeO.ite ?_ ?_
      | refine LeO.bind ?_ (fun _ => ?_)
    · intro y0 y1 y2 y3 y4
      unfold impl_GetNum.j1
      repeat' first
      | (with_reducible exact ih0 _ _ _ _)
      | (with_reducible exact ih1 _ _ _ _ _)
      | (with_reducible exact LeO.refl _)
      | (with_reducible exact LeO.none _)
      | (with_reducible refine LeO.ite ?_ ?_)
      | (with_reducible refine LeO.bind ?_ (fun _ => ?_))
      | exact ih0 _ _ _ _
      | exact ih1 _ _ _ _ _
      | exact LeO.none _
      | refine LeO.ite ?_ ?_
      | refine LeO.bind ?_ (fun _ => ?_)
theorem impl_GetNum.mono : ∀ a0 a1 k, LeO (impl_GetNum.f k a0 a1) (impl_GetNum.f (k + 1) a0 a1) := by
  intro a0 a1 k
  obtain ⟨ih0, ih1⟩ := impl_GetNum.mono_l k
  unfold impl_GetNum.f
  repeat' first
      | (with_reducible exact ih0 _ _ _ _)
      | (with_reducible exact ih1 _ _ _ _ _)
      | (with_reducible exact LeO.refl _)
      | (with_reducible exact LeO.none _)
      | (with_reducible refine LeO.ite ?_ ?_)
      | (with_reducible refine LeO.bind ?_ (fun _ => ?_))
      | exact ih0 _ _ _ _
      | exact ih1 _ _ _ _ _
      | exact LeO.none _
      | refine LeO.ite ?_ ?_
      | refine LeO.bind ?_ (fun _ => ?_)
set_option maxHeartbeats 8000000 in
set_option maxRecDepth 100000 in
theorem impl_GetNum.calls (k : Nat) (A0 : Option Addr) (c0 : Nat) (l0 : List Int) (a1 : Int) (r1 : Int) (r2 : Int) (w : World) (hr0 : Kd.C (Kd.int .u8) w A0 l0.length l0) (hc0 : l0.length ≤ c0) (h : impl_GetNum.f k l0 a1 = some (r1, r2)) :
    Calls Try.prog 83 #[.slice A0 l0.length c0, .int .i64 a1] w fun e w' => e = .returned (.tuple #[.int .i64 r1, .int .i64 r2]) ∧ Drawn0 w w' := by
  have HR0 := Aside0.mk hr0
  have HC0 := Aside0.mk hc0
  clear hr0 hc0
  have H : (if a1 < 0 then (some (0, (-1))) else (impl_GetNum.l0 k l0 a1 0 0)) = some (r1, r2) := h
  clear h
  by_cases c3 : a1 < 0
  · rw [if_pos c3] at H
    have c3b0 : decide (a1 < 0) = true := decide_eq_true c3
    clear c3
    simp only [Option.some.injEq, Prod.mk.injEq] at H
    obtain ⟨rfl, rfl⟩ := H
    go_enter Try.func83, Try.ntmps83
    go_wp2
    go_ret2
    exact ⟨by first | rfl | (simp; done) | (simp [*]; done) | (simp [bne]; done), by repeat (first | exact Drawn0.refl _ | apply Drawn0.step)⟩
  · rw [if_neg c3] at H
    have c3b0 : decide (a1 < 0) = false := decide_eq_false c3
    clear c3
    have H' := Aside0.mk H
    clear H
    go_enter Try.func83, Try.ntmps83
    go_wp2
    go_loopg [6, 7] k (fun kq v6 v7 w' => ∃ (x6_1 : Int) (x7_1 : Int), v6 = .int .i64 x6_1 ∧ v7 = .int .i64 x7_1 ∧ Aside0 (impl_GetNum.l0 kq l0 a1 x6_1 x7_1 = some (r1, r2)) ∧ Aside0 (kq ≤ k) ∧ Drawn0 w w')
    case atStart => exact ⟨(0), (0), (by first | rfl | (simp; done) | (simp [*]; done) | (simp [bne]; done)), (by first | rfl | (simp; done) | (simp [*]; done) | (simp [bne]; done)), H', ⟨Nat.le_refl _⟩, by repeat (first | exact Drawn0.refl _ | apply Drawn0.step)⟩
    case round =>
      clear H'
      try clear p2
      try clear c3
      try clear c3b0
      obtain ⟨x6_1, x7_1, rfl, rfl, HA, HK1, ⟨m1, rfl⟩⟩ := hrel
      cases gk with
      | zero => exact absurd HA.out (by simp [impl_GetNum.l0])
      | succ k1 =>
        have H := HA.out
        clear HA
        simp only [impl_GetNum.l0] at H
        have HC4 := Aside0.mk H
        clear H
        go_upto_region 5 with (fail)
        go_cut [20] (fun v20 wc => ∃ (kq : Nat) (x20_3 : Bool), v20 = .bool x20_3 ∧ Aside0 (impl_GetNum.j1 kq l0 a1 x6_1 x7_1 x20_3 = some (r1, r2)) ∧ Aside0 (kq ≤ k1) ∧ Drawn0 w wc)
        case first =>
          have H := HC4.out
          clear HC4
          by_cases c5 : x7_1 < 5
          · rw [if_pos c5] at H
            have c5b0 : decide (x7_1 < 5) = true := decide_eq_true c5
            clear c5
            (first | rw [c5b0] | (simp only [i64_w, i32_w]; rw [c5b0]) | skip)
            have H' := Aside0.mk H
            clear H
            go_wp2
            go_meet
            case rel => exact ⟨_, (decide (x7_1 < (wrap64 ((l0.length : Int) - a1)))), (by first | rfl | (simp; done) | (simp [*]; done) | (simp [bne]; done)), H', ⟨by have := HK1.out; first | omega | exact Nat.le_refl _⟩, by repeat (first | exact Drawn0.refl _ | apply Drawn0.step)⟩
          · rw [if_neg c5] at H
            have c5b0 : decide (x7_1 < 5) = false := decide_eq_false c5
            clear c5
            (first | rw [c5b0] | (simp only [i64_w, i32_w]; rw [c5b0]) | skip)
            have H' := Aside0.mk H
            clear H
            go_wp2
            go_meet
            case rel => exact ⟨_, (false), (by first | rfl | (simp; done) | (simp [*]; done) | (simp [bne]; done)), H', ⟨by have := HK1.out; first | omega | exact Nat.le_refl _⟩, by repeat (first | exact Drawn0.refl _ | apply Drawn0.step)⟩
        case rest =>
          clear HC4
          try clear p2
          try clear c3
          try clear c3b0
          try clear c5
          try clear c5b0
          try clear p2
          obtain ⟨kq, x20_3, rfl, HA, HJ3, ⟨mc3, rfl⟩⟩ := hcut
          cases kq with
          | zero => exact absurd HA.out (by simp [impl_GetNum.j1])
          | succ kj3 =>
            have H := HA.out
            clear HA
            simp only [impl_GetNum.j1] at H
            by_cases c6 : x20_3 = true
            · subst c6
              have H1 : (if 0 ≤ (wrap64 (a1 + x7_1)) then (if (wrap64 (a1 + x7_1)) < (l0.length : Int) then (if 0 ≤ (wrap64 (7 * x7_1)) then (if (wrap64 (rd l0 (wrap64 (a1 + x7_1)))) ≥ 128 then (impl_GetNum.l0 kj3 l0 a1 (wrap64 (x6_1 + (shl .i64 (Int.tmod (wrap64 (rd l0 (wrap64 (a1 + x7_1)))) 128) (wrap64 (7 * x7_1))))) (wrap64 (x7_1 + 1))) else (if x7_1 > 0 then (if (wrap64 (rd l0 (wrap64 (a1 + x7_1)))) = 0 then (some (0, (-1))) else (if (wrap64 (x6_1 + (shl .i64 (Int.tmod (wrap64 (rd l0 (wrap64 (a1 + x7_1)))) 128) (wrap64 (7 * x7_1))))) > 2147483647 then (some (0, (-1))) else (some (wrap64 (x6_1 + (shl .i64 (Int.tmod (wrap64 (rd l0 (wrap64 (a1 + x7_1)))) 128) (wrap64 (7 * x7_1)))), wrap64 ((wrap64 (a1 + x7_1)) + 1))))) else (if (wrap64 (x6_1 + (shl .i64 (Int.tmod (wrap64 (rd l0 (wrap64 (a1 + x7_1)))) 128) (wrap64 (7 * x7_1))))) > 2147483647 then (some (0, (-1))) else (some (wrap64 (x6_1 + (shl .i64 (Int.tmod (wrap64 (rd l0 (wrap64 (a1 + x7_1)))) 128) (wrap64 (7 * x7_1)))), wrap64 ((wrap64 (a1 + x7_1)) + 1)))))) else (none)) else (none)) else (none)) = some (r1, r2) := by rw [if_pos rfl] at H; exact H
              clear H
              have H := H1
              clear H1
              obtain ⟨ji7, hji7⟩ : ∃ j_ : Int, (wrap64 (a1 + x7_1)) = j_ := ⟨_, rfl⟩
              replace H : (if 0 ≤ (ji7) then (if (ji7) < (l0.length : Int) then (if 0 ≤ (wrap64 (7 * x7_1)) then (if (wrap64 (rd l0 (ji7))) ≥ 128 then (impl_GetNum.l0 kj3 l0 a1 (wrap64 (x6_1 + (shl .i64 (Int.tmod (wrap64 (rd l0 (ji7))) 128) (wrap64 (7 * x7_1))))) (wrap64 (x7_1 + 1))) else (if x7_1 > 0 then (if (wrap64 (rd l0 (ji7))) = 0 then (some (0, (-1))) else (if (wrap64 (x6_1 + (shl .i64 (Int.tmod (wrap64 (rd l0 (ji7))) 128) (wrap64 (7 * x7_1))))) > 2147483647 then (some (0, (-1))) else (some (wrap64 (x6_1 + (shl .i64 (Int.tmod (wrap64 (rd l0 (ji7))) 128) (wrap64 (7 * x7_1)))), wrap64 ((ji7) + 1))))) else (if (wrap64 (x6_1 + (shl .i64 (Int.tmod (wrap64 (rd l0 (ji7))) 128) (wrap64 (7 * x7_1))))) > 2147483647 then (some (0, (-1))) else (some (wrap64 (x6_1 + (shl .i64 (Int.tmod (wrap64 (rd l0 (ji7))) 128) (wrap64 (7 * x7_1)))), wrap64 ((ji7) + 1)))))) else (none)) else (none)) else (none)) = some (r1, r2) := by first | (rw [hji7] at H; exact H) | (simp only [hji7] at H ⊢; exact H)
              have hji7w : (IntKind.i64.wrap (a1 + x7_1)) = ji7 := (i64_w _).trans hji7
              by_cases c8 : 0 ≤ (ji7)
              · rw [if_pos c8] at H
                have c8b0 : decide (0 ≤ (ji7)) = true := decide_eq_true c8
                clear c8
                by_cases c9 : (ji7) < (l0.length : Int)
                · rw [if_pos c9] at H
                  have c9b0 : decide ((ji7) < (l0.length : Int)) = true := decide_eq_true c9
                  clear c9
                  obtain ⟨ji10, hji10⟩ : ∃ j_ : Int, (wrap64 (7 * x7_1)) = j_ := ⟨_, rfl⟩
                  replace H : (if 0 ≤ (ji10) then (if (wrap64 (rd l0 (ji7))) ≥ 128 then (impl_GetNum.l0 kj3 l0 a1 (wrap64 (x6_1 + (shl .i64 (Int.tmod (wrap64 (rd l0 (ji7))) 128) (ji10)))) (wrap64 (x7_1 + 1))) else (if x7_1 > 0 then (if (wrap64 (rd l0 (ji7))) = 0 then (some (0, (-1))) else (if (wrap64 (x6_1 + (shl .i64 (Int.tmod (wrap64 (rd l0 (ji7))) 128) (ji10)))) > 2147483647 then (some (0, (-1))) else (some (wrap64 (x6_1 + (shl .i64 (Int.tmod (wrap64 (rd l0 (ji7))) 128) (ji10))), wrap64 ((ji7) + 1))))) else (if (wrap64 (x6_1 + (shl .i64 (Int.tmod (wrap64 (rd l0 (ji7))) 128) (ji10)))) > 2147483647 then (some (0, (-1))) else (some (wrap64 (x6_1 + (shl .i64 (Int.tmod (wrap64 (rd l0 (ji7))) 128) (ji10))), wrap64 ((ji7) + 1)))))) else (none)) = some (r1, r2) := by first | (rw [hji10] at H; exact H) | (simp only [hji10] at H ⊢; exact H)
                  have hji10w : (IntKind.i64.wrap (7 * x7_1)) = ji10 := (i64_w _).trans hji10
                  by_cases c11 : 0 ≤ (ji10)
                  · rw [if_pos c11] at H
                    have c11b0 := eq_true c11
                    have c11b1 : decide (0 ≤ (ji10)) = true := decide_eq_true c11
                    clear c11
                    obtain ⟨ji12, hji12⟩ : ∃ j_ : Int, (shl .i64 (Int.tmod (wrap64 (rd l0 (ji7))) 128) (ji10)) = j_ := ⟨_, rfl⟩
                    replace H : (if (wrap64 (rd l0 (ji7))) ≥ 128 then (impl_GetNum.l0 kj3 l0 a1 (wrap64 (x6_1 + (ji12))) (wrap64 (x7_1 + 1))) else (if x7_1 > 0 then (if (wrap64 (rd l0 (ji7))) = 0 then (some (0, (-1))) else (if (wrap64 (x6_1 + (ji12))) > 2147483647 then (some (0, (-1))) else (some (wrap64 (x6_1 + (ji12)), wrap64 ((ji7) + 1))))) else (if (wrap64 (x6_1 + (ji12))) > 2147483647 then (some (0, (-1))) else (some (wrap64 (x6_1 + (ji12)), wrap64 ((ji7) + 1)))))) = some (r1, r2) := by first | (rw [hji12] at H; exact H) | (simp only [hji12] at H ⊢; exact H)
                    have hji12_ : (IntKind.i64.wrap ((Int.tmod (wrap64 (rd l0 (ji7))) 128) * 2 ^ min (ji10).toNat 64)) = ji12 := hji12
                    have hji12z : (ji10) ≤ 64 → (IntKind.i64.wrap ((Int.tmod (wrap64 (rd l0 (ji7))) 128) * 2 ^ (ji10).toNat)) = ji12 := shl_small hji12
                    have hji12y : (wrap64 ((Int.tmod (wrap64 (rd l0 (ji7))) 128) * 2 ^ min (ji10).toNat 64)) = ji12 := (i64_w _).symm.trans hji12_
                    have hji12x : (ji10) ≤ 64 → (wrap64 ((Int.tmod (wrap64 (rd l0 (ji7))) 128) * 2 ^ (ji10).toNat)) = ji12 := fun h_ => (i64_w _).symm.trans (hji12z h_)
                    by_cases c13 : (wrap64 (rd l0 (ji7))) ≥ 128
                    · rw [if_pos c13] at H
                      have c13b0 : decide (128 ≤ (wrap64 (rd l0 (ji7)))) = true := decide_eq_true c13
                      clear c13
                      have H' := Aside0.mk H
                      clear H
                      have p170 : 0 ≤ ((ji7) : Int) := of_decide_eq_true (by first | (with_reducible assumption) | assumption)
                      have q170 : (ji7) < (l0.length : Int) := of_decide_eq_true (by first | (with_reducible assumption) | assumption)
                      obtain ⟨ad170, e170, hx170_0⟩ := Kd.at_int HR0.out (ji7) p170 q170
                      cases e170
                      replace p170 := eq_true p170
                      replace q170 := eq_true q170
                      go_wp2
                      go_roundg kj3
                      case measure => have := HK1.out; have := HJ3.out; omega
                      case rel => exact ⟨(wrap64 (x6_1 + (ji12))), (wrap64 (x7_1 + 1)), (by first | rfl | (simp; done) | (simp only [← hji12] <;> (first | rfl | simp)) | (simp [*]; done) | (simp [bne]; done)), (by first | rfl | (simp; done) | (simp [*]; done) | (simp [bne]; done)), H', ⟨by have := HK1.out; have := HJ3.out; omega⟩, by repeat (first | exact Drawn0.refl _ | apply Drawn0.step)⟩
                    · rw [if_neg c13] at H
                      have c13b0 : decide (128 ≤ (wrap64 (rd l0 (ji7)))) = false := decide_eq_false c13
                      clear c13
                      by_cases c14 : x7_1 > 0
                      · rw [if_pos c14] at H
                        have c14b0 : decide (0 < x7_1) = true := decide_eq_true c14
                        clear c14
                        by_cases c15 : (wrap64 (rd l0 (ji7))) = 0
                        · rw [if_pos c15] at H
                          have c15b0 : ((wrap64 (rd l0 (ji7))) == 0) = true := beq_iff_eq.mpr c15
                          have c15b1 : ((wrap64 (rd l0 (ji7))) != 0) = false := bne_eq_false_iff_eq.mpr c15
                          clear c15
                          simp only [Option.some.injEq, Prod.mk.injEq] at H
                          obtain ⟨rfl, rfl⟩ := H
                          have p170 : 0 ≤ ((ji7) : Int) := of_decide_eq_true (by first | (with_reducible assumption) | assumption)
                          have q170 : (ji7) < (l0.length : Int) := of_decide_eq_true (by first | (with_reducible assumption) | assumption)
                          obtain ⟨ad170, e170, hx170_0⟩ := Kd.at_int HR0.out (ji7) p170 q170
                          cases e170
                          replace p170 := eq_true p170
                          replace q170 := eq_true q170
                          go_wp2
                          go_ret2
                          exact ⟨by first | rfl | (simp; done) | (simp only [← hji7, ← hji10, ← hji12] <;> (first | rfl | simp)) | (simp [*]; done) | (simp [bne]; done), by repeat (first | exact Drawn0.refl _ | apply Drawn0.step)⟩
                        · rw [if_neg c15] at H
                          have c15b0 : ((wrap64 (rd l0 (ji7))) == 0) = false := beq_eq_false_iff_ne.mpr c15
                          have c15b1 : ((wrap64 (rd l0 (ji7))) != 0) = true := bne_iff_ne.mpr c15
                          by_cases c16 : (wrap64 (x6_1 + (ji12))) > 2147483647
                          · rw [if_pos c16] at H
                            have c16b0 : decide (2147483647 < (wrap64 (x6_1 + (ji12)))) = true := decide_eq_true c16
                            clear c16
                            simp only [Option.some.injEq, Prod.mk.injEq] at H
                            obtain ⟨rfl, rfl⟩ := H
                            have p170 : 0 ≤ ((ji7) : Int) := of_decide_eq_true (by first | (with_reducible assumption) | assumption)
                            have q170 : (ji7) < (l0.length : Int) := of_decide_eq_true (by first | (with_reducible assumption) | assumption)
                            obtain ⟨ad170, e170, hx170_0⟩ := Kd.at_int HR0.out (ji7) p170 q170
                            cases e170
                            replace p170 := eq_true p170
                            replace q170 := eq_true q170
                            go_wp2
                            go_ret2
                            exact ⟨by first | rfl | (simp; done) | (simp only [← hji7, ← hji10, ← hji12] <;> (first | rfl | simp)) | (simp [*]; done) | (simp [bne]; done), by repeat (first | exact Drawn0.refl _ | apply Drawn0.step)⟩
                          · rw [if_neg c16] at H
                            have c16b0 : decide (2147483647 < (wrap64 (x6_1 + (ji12)))) = false := decide_eq_false c16
                            clear c16
                            simp only [Option.some.injEq, Prod.mk.injEq] at H
                            obtain ⟨rfl, rfl⟩ := H
                            have p170 : 0 ≤ ((ji7) : Int) := of_decide_eq_true (by first | (with_reducible assumption) | assumption)
                            have q170 : (ji7) < (l0.length : Int) := of_decide_eq_true (by first | (with_reducible assumption) | assumption)
                            obtain ⟨ad170, e170, hx170_0⟩ := Kd.at_int HR0.out (ji7) p170 q170
                            cases e170
                            replace p170 := eq_true p170
                            replace q170 := eq_true q170
                            go_wp2
                            go_ret2
                            exact ⟨by first | rfl | (simp; done) | (simp only [← hji7, ← hji10, ← hji12] <;> (first | rfl | simp)) | (simp [*]; done) | (simp [bne]; done), by repeat (first | exact Drawn0.refl _ | apply Drawn0.step)⟩
                      · rw [if_neg c14] at H
                        have c14b0 : decide (0 < x7_1) = false := decide_eq_false c14
                        clear c14
                        by_cases c17 : (wrap64 (x6_1 + (ji12))) > 2147483647
                        · rw [if_pos c17] at H
                          have c17b0 : decide (2147483647 < (wrap64 (x6_1 + (ji12)))) = true := decide_eq_true c17
                          clear c17
                          simp only [Option.some.injEq, Prod.mk.injEq] at H
                          obtain ⟨rfl, rfl⟩ := H
                          have p170 : 0 ≤ ((ji7) : Int) := of_decide_eq_true (by first | (with_reducible assumption) | assumption)
                          have q170 : (ji7) < (l0.length : Int) := of_decide_eq_true (by first | (with_reducible assumption) | assumption)
                          obtain ⟨ad170, e170, hx170_0⟩ := Kd.at_int HR0.out (ji7) p170 q170
                          cases e170
                          replace p170 := eq_true p170
                          replace q170 := eq_true q170
                          go_wp2
                          go_ret2
                          exact ⟨by first | rfl | (simp; done) | (simp only [← hji7, ← hji10, ← hji12] <;> (first | rfl | simp)) | (simp [*]; done) | (simp [bne]; done), by repeat (first | exact Drawn0.refl _ | apply Drawn0.step)⟩
                        · rw [if_neg c17] at H
                          have c17b0 : decide (2147483647 < (wrap64 (x6_1 + (ji12)))) = false := decide_eq_false c17
                          clear c17
                          simp only [Option.some.injEq, Prod.mk.injEq] at H
                          obtain ⟨rfl, rfl⟩ := H
                          have p170 : 0 ≤ ((ji7) : Int) := of_decide_eq_true (by first | (with_reducible assumption) | assumption)
                          have q170 : (ji7) < (l0.length : Int) := of_decide_eq_true (by first | (with_reducible assumption) | assumption)
                          obtain ⟨ad170, e170, hx170_0⟩ := Kd.at_int HR0.out (ji7) p170 q170
                          cases e170
                          replace p170 := eq_true p170
                          replace q170 := eq_true q170
                          go_wp2
                          go_ret2
                          exact ⟨by first | rfl | (simp; done) | (simp only [← hji7, ← hji10, ← hji12] <;> (first | rfl | simp)) | (simp [*]; done) | (simp [bne]; done), by repeat (first | exact Drawn0.refl _ | apply Drawn0.step)⟩
                  · rw [if_neg c11] at H
                    exact absurd H (by simp)
                · rw [if_neg c9] at H
                  exact absurd H (by simp)
              · rw [if_neg c8] at H
                exact absurd H (by simp)
            · replace c6 := Bool.eq_false_iff.mpr c6
              subst c6
              have H1 : (some (0, (-1))) = some (r1, r2) := by rw [if_neg (show ¬ (false = true) by decide)] at H; exact H
              clear H
              have H := H1
              clear H1
              simp only [Option.some.injEq, Prod.mk.injEq] at H
              obtain ⟨rfl, rfl⟩ := H
              go_wp2
              go_ret2
              exact ⟨by first | rfl | (simp; done) | (simp [*]; done) | (simp [bne]; done), by repeat (first | exact Drawn0.refl _ | apply Drawn0.step)⟩

end Go.Proofs.Ytbifoajnmikhiaa.PD
