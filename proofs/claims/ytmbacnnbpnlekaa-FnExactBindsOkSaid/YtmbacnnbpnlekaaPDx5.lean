-- Printed by a program of this session (wrap.py) out of the translation. Lean checks it.
import Derived.Test.YtmbacnnbpnlekaaPDx0
namespace Go.Proofs.Ytmbacnnbpnlekaa.PD
open Go.RowKit Go.Proofs.YtmbacnnbpnlekaaW.PrintWords Go.Proofs.YtmbacnnbpnlekaaW.PrintLast Go.Proofs.YtmbacnnbpnlekaaW.PrintMore
attribute [local go_sem] max2_int min2_int max_two min_two max_three min_three max_four min_four   -- for this text's walks alone
set_option linter.unusedVariables false
set_option linter.unusedSimpArgs false

/-! ### spec_l3insert: function 124 -/
def spec_l3insert.l0 : Nat → List Int → Int → Int → Option (List Int)
  | 0, _, _, _ => none
  | k + 1, x0, x1, x5 => if x5 < (x0.length : Int) then (if 0 ≤ x5 then (if (rd x0 x5) < x1 then (spec_l3insert.l0 k x0 x1 (wrap64 (x5 + 1))) else (if (rd x0 x5) = x1 then (some x0) else (if x5 ≤ (x0.length : Int) then ((some (x0.take (x5 : Int).toNat : List Int)).bind fun y117 => (if ([] : List Int).length + y117.length < 17592186044416 then ((some (([] : List Int) ++ y117 : List Int)).bind fun y121 => (if y121.length < 17592186044416 then ((some (y121 ++ [x1] : List Int)).bind fun y124 => ((some (x0.drop (x5 : Int).toNat : List Int)).bind fun y127 => (if y124.length + y127.length < 17592186044416 then (some (y124 ++ y127)) else (none)))) else (none))) else (none))) else (none)))) else (none)) else (if 0 ≤ x5 then (if x5 ≤ (x0.length : Int) then ((some (x0.take (x5 : Int).toNat : List Int)).bind fun y134 => (if ([] : List Int).length + y134.length < 17592186044416 then ((some (([] : List Int) ++ y134 : List Int)).bind fun y138 => (if y138.length < 17592186044416 then ((some (y138 ++ [x1] : List Int)).bind fun y141 => ((some (x0.drop (x5 : Int).toNat : List Int)).bind fun y144 => (if y141.length + y144.length < 17592186044416 then (some (y141 ++ y144)) else (none)))) else (none))) else (none))) else (none)) else (none))
def spec_l3insert.f (k : Nat) (l0 : List Int) (a1 : Int) : Option (List Int) := spec_l3insert.l0 k l0 a1 0
theorem spec_l3insert.mono_l : ∀ k, (∀ y0 y1 y2, LeO (spec_l3insert.l0 k y0 y1 y2) (spec_l3insert.l0 (k + 1) y0 y1 y2))
  | 0 => fun _ _ _ r h => by simp [spec_l3insert.l0] at h
  | k + 1 => by
    have ih0 := spec_l3insert.mono_l k
    · intro y0 y1 y2
      unfold spec_l3insert.l0
      repeat' first
      | (with_reducible exact ih0 _ _ _)
      | (with_reducible exact LeO.refl _)
      | (with_reducible exact LeO.none _)
      | (with_reducible refine LeO.ite ?_ ?_)
      | (with_reducible refine LeO.bind ?_ (fun _ => ?_))
      | exact ih0 _ _ _
      | exact LeO.none _
      | refine LeO.ite ?_ ?_
      | refine LeO.bind ?_ (fun _ => ?_)
theorem spec_l3insert.mono : ∀ a0 a1 k, LeO (spec_l3insert.f k a0 a1) (spec_l3insert.f (k + 1) a0 a1) := by
  intro a0 a1 k
  have ih0 := spec_l3insert.mono_l k
  unfold spec_l3insert.f
  repeat' first
      | (with_reducible exact ih0 _ _ _)
      | (with_reducible exact LeO.refl _)
      | (with_reducible exact LeO.none _)
      | (with_reducible refine LeO.ite ?_ ?_)
      | (with_reducible refine LeO.bind ?_ (fun _ => ?_))
      | exact ih0 _ _ _
      | exact LeO.none _
      | refine LeO.ite ?_ ?_
      | refine LeO.bind ?_ (fun _ => ?_)
set_option maxHeartbeats 8000000 in
set_option maxRecDepth 100000 in
theorem spec_l3insert.calls (k : Nat) (P0_ : Nat → Prop) (u9000_ : Value) (l0 : List Int) (a1 : Int) (r : List Int) (w0 w : World) (hB : Below w0.heap.size w0 w) (ho0 : Kd.R (Kd.int .i64) 3 w w0.heap.size P0_ u9000_ l0) (h : spec_l3insert.f k l0 a1 = some r) :
    Calls Try.prog 124 #[u9000_, .int .i64 a1] w fun e w' => ∃ v0_ : Value, e = .returned (v0_) ∧ Kd.R (Kd.int .i64) 3 w' w0.heap.size (fun k_ => (P0_ k_ ∨ w.heap.size ≤ k_)) v0_ r ∧ Below w0.heap.size w0 w' ∧ Kept w w' (fun k_ => P0_ k_) := by
  have HO0 := Aside0.mk (show Kd.R (Kd.int .i64) 3 w w0.heap.size (fun k_ => (P0_ k_ ∨ w.heap.size ≤ k_)) u9000_ l0 from Kd.R_mono ho0 (fun k_ hk => (.inl hk)))
  have HK := Aside0.mk (Kept.refl w (fun k_ => P0_ k_))
  have HW0 := Aside0.mk hB.size
  have HB := Aside0.mk hB
  clear hB
  have H : (spec_l3insert.l0 k l0 a1 0) = some r := h
  clear h
  have H' := Aside0.mk H
  clear H
  go_enter Try.func124, Try.ntmps124
  go_wp2
  go_loopg [5] k (fun kq v5 w' => ∃ (x5_1 : Int), v5 = .int .i64 x5_1 ∧ Aside0 (spec_l3insert.l0 kq l0 a1 x5_1 = some r) ∧ Aside0 (kq ≤ k) ∧ Aside0 (Kd.R (Kd.int .i64) 3 w' w0.heap.size (fun k_ => (P0_ k_ ∨ w.heap.size ≤ k_)) u9000_ l0) ∧ Aside0 (Kept w w' (fun k_ => P0_ k_)) ∧ Aside0 (Below w0.heap.size w0 w'))
  case atStart => exact ⟨(0), (by first | rfl | (simp; done) | (simp [*]; done) | (simp [bne]; done)), H', ⟨Nat.le_refl _⟩, ⟨by (with_reducible repeat (first | apply Kd.R_alloc | apply Kd.R_drewN | apply Kd.R_drew)); exact HO0.out⟩, ⟨by repeat (first | (with_reducible first | exact HK.out | apply Kept.alloc | apply Kept.drewN | apply Kept.drew) | exact HK.out)⟩, ⟨by repeat (first | (with_reducible first | exact HB.out | apply below_alloc | apply pw_below_drewN | apply below_drew1) | exact HB.out)⟩⟩
  case round =>
    clear H'
    try clear c1
    try clear p2
    obtain ⟨x5_1, rfl, HA, HK1, HO_0, HK, HB⟩ := hrel
    cases gk with
    | zero => exact absurd HA.out (by simp [spec_l3insert.l0])
    | succ k1 =>
      have H := HA.out
      clear HA
      simp only [spec_l3insert.l0] at H
      by_cases c3 : x5_1 < (l0.length : Int)
      · rw [if_pos c3] at H
        have c3b0 : decide (x5_1 < (l0.length : Int)) = true := decide_eq_true c3
        clear c3
        by_cases c4 : 0 ≤ x5_1
        · rw [if_pos c4] at H
          have c4b0 : decide (0 ≤ x5_1) = true := decide_eq_true c4
          clear c4
          by_cases c5 : (rd l0 x5_1) < a1
          · rw [if_pos c5] at H
            have c5b0 : decide ((rd l0 x5_1) < a1) = true := decide_eq_true c5
            clear c5
            have H' := Aside0.mk H
            clear H
            obtain ⟨Ao6, co6, eo6⟩ := Kd.R_slice HO_0.out
            subst eo6
            have p115 : 0 ≤ (x5_1 : Int) := of_decide_eq_true (by first | (with_reducible assumption) | assumption)
            have q115 : x5_1 < (l0.length : Int) := of_decide_eq_true (by first | (with_reducible assumption) | assumption)
            obtain ⟨ad115, e115, hx115_0⟩ := Kd.at_int (Kd.R_reads' HO_0.out).2.2 x5_1 p115 q115
            cases e115
            replace p115 := eq_true p115
            replace q115 := eq_true q115
            go_wp2
            go_roundg k1
            case measure => have := HK1.out; omega
            case rel => exact ⟨(wrap64 (x5_1 + 1)), (by first | rfl | (simp; done) | (simp [*]; done) | (simp [bne]; done)), H', ⟨by have := HK1.out; omega⟩, ⟨by (with_reducible repeat (first | apply Kd.R_alloc | apply Kd.R_drewN | apply Kd.R_drew)); exact HO_0.out⟩, ⟨by repeat (first | (with_reducible first | exact HK.out | apply Kept.alloc | apply Kept.drewN | apply Kept.drew) | exact HK.out)⟩, ⟨by repeat (first | (with_reducible first | exact HB.out | apply below_alloc | apply pw_below_drewN | apply below_drew1) | exact HB.out)⟩⟩
          · rw [if_neg c5] at H
            have c5b0 : decide ((rd l0 x5_1) < a1) = false := decide_eq_false c5
            clear c5
            by_cases c7 : (rd l0 x5_1) = a1
            · rw [if_pos c7] at H
              have c7b0 : ((rd l0 x5_1) == a1) = true := beq_iff_eq.mpr c7
              have c7b1 : ((rd l0 x5_1) != a1) = false := bne_eq_false_iff_eq.mpr c7
              clear c7
              obtain rfl := Option.some.inj H
              obtain ⟨Ao8, co8, eo8⟩ := Kd.R_slice HO_0.out
              subst eo8
              have p115 : 0 ≤ (x5_1 : Int) := of_decide_eq_true (by first | (with_reducible assumption) | assumption)
              have q115 : x5_1 < (l0.length : Int) := of_decide_eq_true (by first | (with_reducible assumption) | assumption)
              obtain ⟨ad115, e115, hx115_0⟩ := Kd.at_int (Kd.R_reads' HO_0.out).2.2 x5_1 p115 q115
              cases e115
              replace p115 := eq_true p115
              replace q115 := eq_true q115
              have p116 : 0 ≤ (x5_1 : Int) := of_decide_eq_true (by first | (with_reducible assumption) | assumption)
              have q116 : x5_1 < (l0.length : Int) := of_decide_eq_true (by first | (with_reducible assumption) | assumption)
              obtain ⟨ad116, e116, hx116_0⟩ := Kd.at_int (Kd.R_reads' HO_0.out).2.2 x5_1 p116 q116
              obtain rfl : ad115 = ad116 := (by injection e116)
              replace p116 := eq_true p116
              replace q116 := eq_true q116
              go_wp2
              go_ret
              exact ⟨_, by first | rfl | (simp [errW_none, errW_some] <;> rfl) | (simp [*, errW_none, errW_some] <;> rfl), by (with_reducible repeat (first | apply Kd.R_alloc | apply Kd.R_drewN | apply Kd.R_drew)); exact HO_0.out, by repeat (first | (with_reducible first | exact HB.out | apply below_alloc | apply pw_below_drewN | apply below_drew1) | exact HB.out), by repeat (first | (with_reducible first | exact HK.out | apply Kept.alloc | apply Kept.drewN | apply Kept.drew) | exact HK.out)⟩
            · rw [if_neg c7] at H
              have c7b0 : ((rd l0 x5_1) == a1) = false := beq_eq_false_iff_ne.mpr c7
              have c7b1 : ((rd l0 x5_1) != a1) = true := bne_iff_ne.mpr c7
              have c9b0 := eq_true (of_decide_eq_true (by first | (with_reducible assumption) | assumption) : 0 ≤ x5_1)
              by_cases c10 : x5_1 ≤ (l0.length : Int)
              · rw [if_pos c10] at H
                have c10b0 := eq_true c10
                have c10b1 : decide (x5_1 ≤ (l0.length : Int)) = true := decide_eq_true c10
                clear c10
                obtain ⟨y117, hy117⟩ : ∃ y_ : List Int, y_ = (l0.take (x5_1 : Int).toNat) := ⟨_, rfl⟩
                replace H : (if ([] : List Int).length + y117.length < 17592186044416 then ((some (([] : List Int) ++ y117 : List Int)).bind fun y121 => (if y121.length < 17592186044416 then ((some (y121 ++ [a1] : List Int)).bind fun y124 => ((some (l0.drop (x5_1 : Int).toNat : List Int)).bind fun y127 => (if y124.length + y127.length < 17592186044416 then (some (y124 ++ y127)) else (none)))) else (none))) else (none)) = some r := by first | (rw [hy117]; with_reducible exact H) | (have H2_ := (Option.bind_some _ _).symm.trans H; rw [hy117]; with_reducible exact H2_) | (have H2_ := (Option.bind_some _ _).symm.trans H; with_reducible exact H2_) | with_reducible exact H | (rw [hy117]; exact H) | exact H
                have Ny117 := Aside0.mk hy117
                clear hy117
                by_cases c11 : ([] : List Int).length + y117.length < 17592186044416
                · rw [if_pos c11] at H
                  have LMc11 := Aside0.mk c11
                  clear c11
                  obtain ⟨y121, hy121⟩ : ∃ y_ : List Int, y_ = (([] : List Int) ++ y117) := ⟨_, rfl⟩
                  replace H : (if y121.length < 17592186044416 then ((some (y121 ++ [a1] : List Int)).bind fun y124 => ((some (l0.drop (x5_1 : Int).toNat : List Int)).bind fun y127 => (if y124.length + y127.length < 17592186044416 then (some (y124 ++ y127)) else (none)))) else (none)) = some r := by first | (rw [hy121]; with_reducible exact H) | (have H2_ := (Option.bind_some _ _).symm.trans H; rw [hy121]; with_reducible exact H2_) | (have H2_ := (Option.bind_some _ _).symm.trans H; with_reducible exact H2_) | with_reducible exact H | (rw [hy121]; exact H) | exact H
                  have Ny121 := Aside0.mk hy121
                  clear hy121
                  by_cases c12 : y121.length < 17592186044416
                  · rw [if_pos c12] at H
                    have LMc12 := Aside0.mk c12
                    clear c12
                    obtain ⟨y124, hy124⟩ : ∃ y_ : List Int, y_ = (y121 ++ [a1]) := ⟨_, rfl⟩
                    replace H : ((some (l0.drop (x5_1 : Int).toNat : List Int)).bind fun y127 => (if y124.length + y127.length < 17592186044416 then (some (y124 ++ y127)) else (none))) = some r := by first | (rw [hy124]; with_reducible exact H) | (have H2_ := (Option.bind_some _ _).symm.trans H; rw [hy124]; with_reducible exact H2_) | (have H2_ := (Option.bind_some _ _).symm.trans H; with_reducible exact H2_) | with_reducible exact H | (rw [hy124]; exact H) | exact H
                    have Ny124 := Aside0.mk hy124
                    clear hy124
                    have c13b0 := eq_true (of_decide_eq_true (by first | (with_reducible assumption) | assumption) : 0 ≤ x5_1)
                    have c14b0 := eq_true (of_decide_eq_true (by first | (with_reducible assumption) | assumption) : x5_1 ≤ (l0.length : Int))
                    obtain ⟨y127, hy127⟩ : ∃ y_ : List Int, y_ = (l0.drop (x5_1 : Int).toNat) := ⟨_, rfl⟩
                    replace H : (if y124.length + y127.length < 17592186044416 then (some (y124 ++ y127)) else (none)) = some r := by first | (rw [hy127]; with_reducible exact H) | (have H2_ := (Option.bind_some _ _).symm.trans H; rw [hy127]; with_reducible exact H2_) | (have H2_ := (Option.bind_some _ _).symm.trans H; with_reducible exact H2_) | with_reducible exact H | (rw [hy127]; exact H) | exact H
                    have Ny127 := Aside0.mk hy127
                    clear hy127
                    by_cases c15 : y124.length + y127.length < 17592186044416
                    · rw [if_pos c15] at H
                      have LMc15 := Aside0.mk c15
                      clear c15
                      obtain ⟨y131, hy131⟩ : ∃ y_ : List Int, y_ = (y124 ++ y127) := ⟨_, rfl⟩
                      replace H : (some y131) = some r := by first | (rw [hy131]; with_reducible exact H) | (have H2_ := (Option.bind_some _ _).symm.trans H; rw [hy131]; with_reducible exact H2_) | (have H2_ := (Option.bind_some _ _).symm.trans H; with_reducible exact H2_) | with_reducible exact H | (rw [hy131]; exact H) | exact H
                      have Ny131 := Aside0.mk hy131
                      clear hy131
                      obtain rfl := Option.some.inj H
                      obtain ⟨Ao16, co16, eo16⟩ := Kd.R_slice HO_0.out
                      subst eo16
                      have p115 : 0 ≤ (x5_1 : Int) := of_decide_eq_true (by first | (with_reducible assumption) | assumption)
                      have q115 : x5_1 < (l0.length : Int) := of_decide_eq_true (by first | (with_reducible assumption) | assumption)
                      obtain ⟨ad115, e115, hx115_0⟩ := Kd.at_int (Kd.R_reads' HO_0.out).2.2 x5_1 p115 q115
                      cases e115
                      replace p115 := eq_true p115
                      replace q115 := eq_true q115
                      have p116 : 0 ≤ (x5_1 : Int) := of_decide_eq_true (by first | (with_reducible assumption) | assumption)
                      have q116 : x5_1 < (l0.length : Int) := of_decide_eq_true (by first | (with_reducible assumption) | assumption)
                      obtain ⟨ad116, e116, hx116_0⟩ := Kd.at_int (Kd.R_reads' HO_0.out).2.2 x5_1 p116 q116
                      obtain rfl : ad115 = ad116 := (by injection e116)
                      replace p116 := eq_true p116
                      replace q116 := eq_true q116
                      have q17 : (x5_1 : Int) ≤ ((l0.length : Int) : Int) := of_decide_eq_true (by first | (with_reducible assumption) | assumption)
                      obtain ⟨i017, hi017, _, hsz17, _⟩ := info_parts info3
                      have hroom17 : l0.length ≤ co16 := (Kd.R_reads' HO_0.out).2.1
                      have hC17 : Kd.C (Kd.int .i64) _ (some ad115) l0.length l0 := (Kd.R_reads' HO_0.out).2.2
                      have hcut17 := cut_to (P := Try.prog) 23 3 .i64 Try.underlying23 hi017 (some ad115) l0.length co16 x5_1 (of_decide_eq_true (by first | (with_reducible assumption) | assumption)) q17 hroom17
                      have hr17 := Kd.C_take (m := (x5_1 : Int).toNat) hC17 (by omega)
                      have hy17 : y117.length = (x5_1 : Int).toNat := (by rw [Ny117.out, List.length_take]; omega)
                      rw [← Ny117.out] at hr17
                      rw [← hy17] at hcut17
                      have HR120 := Aside0.mk hr17
                      have HC120 := Aside0.mk (show y117.length ≤ co16 from by omega)
                      clear hr17 hC17 hroom17 hi017 hsz17
                      have KY17 := Aside0.mk hy17
                      clear hy17
                      have KL17 := Aside0.mk (show (x5_1 : Int).toNat ≤ l0.length from by omega)
                      replace q17 := eq_true q17
                      go_wp2_with (first | ((with_reducible refine gate_builtin (b := .append) (xs := #[.tmp 34, .tmp 37]) rfl ?_); at_builtin; refine Kd.R_append_rows (Kd.int .i64) (w0 := w0) w0.heap.size rfl (.tmp 34) (.tmp 37) 23 3 (.int .i64 0) 8 rfl Try.underlying23 info3 rfl (by decide) (by omega) (.slice none 0 0) ([] : List Int) y117 _ _ _ (fun k_ => (P0_ k_ ∨ w.heap.size ≤ k_) ∧ some k_ ≠ (.slice (some ad115) l0.length co16 : Value).ownBlock) (fun _ => False) rfl rfl ?aO ?aR (fun _ _ h => h) (fun _ h => h.elim) ?aF ?aB ?aS ?aL ?_; (case aR => repeat (first | exact (by repeat (first | (with_reducible exact HR120.out) | (with_reducible refine Kd.C_alloc ?_ _) | (with_reducible refine Kd.C_drewN ?_ _) | (with_reducible refine Kd.C_drew ?_) | exact HR120.out)) | (with_reducible refine Kd.C_alloc ?_ _) | (with_reducible refine Kd.C_drewN ?_ _) | (with_reducible refine Kd.C_drew ?_))); (case aB => exact (by repeat (first | (with_reducible first | exact HB.out | apply below_alloc | apply pw_below_drewN | apply below_drew1) | exact HB.out))); (case aF => exact (fun k_ hk => ⟨(.inr (Nat.le_trans (by first | exact HK.out.1 | exact (show Kept w _ (fun k_ => P0_ k_) from by repeat (first | (with_reducible first | exact HK.out | apply Kept.alloc | apply Kept.drewN | apply Kept.drew) | exact HK.out)).1) hk)), Kd.fresh' (Kd.R_lt (by (with_reducible repeat (first | apply Kd.R_alloc | apply Kd.R_drewN | apply Kd.R_drew)); exact HO_0.out)) k_ hk⟩)); (case aO => exact ((Kd.R_nil _ _ _ _ (fun k_ => (P0_ k_ ∨ w.heap.size ≤ k_) ∧ some k_ ≠ (.slice (some ad115) l0.length co16 : Value).ownBlock)))); (case aS => exact (below_size (by repeat (first | (with_reducible first | exact HB.out | apply below_alloc | apply pw_below_drewN | apply below_drew1) | exact HB.out)))); (case aL => have := LMc11.out; omega); intro v122 w18 ho hb hg hat; (first | (simp only [Int.reduceToNat] at ho; rw [← Ny121.out] at ho) | rw [← Ny121.out] at ho); have n0_ := Aside0.mk (Kd.R_after (Kd.R_apart_nil (by (with_reducible repeat (first | apply Kd.R_alloc | apply Kd.R_drewN | apply Kd.R_drew)); exact HO_0.out)) hg hat); have n1_ := Aside0.mk (hb); have n2_ := Aside0.mk (Kept.of_grown (S := (fun k_ => P0_ k_)) hg (by repeat (first | (with_reducible first | exact HK.out | apply Kept.alloc | apply Kept.drewN | apply Kept.drew) | exact HK.out)) (fun k_ e_ => by simp [Value.ownBlock] at e_)); have n3_ := Aside0.mk ((show Kd.C (Kd.int .i64) w18 (some ad115) y117.length y117 from by rw [Ny117.out]; exact Kd.C_take (m := (x5_1 : Int).toNat) ((Kd.R_reads' (Kd.R_after (Kd.R_apart_nil (by (with_reducible repeat (first | apply Kd.R_alloc | apply Kd.R_drewN | apply Kd.R_drew)); exact HO_0.out)) hg hat)).2.2) KL17.out)); have n4_ := Aside0.mk (ho); clear HO_0; clear HB; clear HK; clear HR120; have HO_0 := n0_; have HB := n1_; have HK := n2_; have HR120 := n3_; have HO123 := n4_; clear n0_ n1_ n2_ n3_ n4_; clear ho hb hg hat) | ((with_reducible refine gate_builtin (b := .append) (xs := #[.tmp 39, .tmp 41]) rfl ?_); at_builtin; refine Kd.R_append (Kd.int .i64) (w0 := w0) w0.heap.size rfl (.tmp 39) (.tmp 41) 23 3 (.int .i64 0) 8 rfl Try.underlying23 info3 rfl (by decide) (by omega) v122 y121 a1 [.int .i64 a1] (fun k_ => (P0_ k_ ∨ w.heap.size ≤ k_) ∧ some k_ ≠ (.slice (some ad115) l0.length co16 : Value).ownBlock) (fun _ => False) rfl rfl ?aP (fun _ hk => hk.elim) ?aF ?aO ?aB ?aS ?aL ?_; (case aP => exact rfl); (case aB => exact (by repeat (first | (with_reducible first | exact HB.out | apply below_alloc | apply pw_below_drewN | apply below_drew1) | exact HB.out))); (case aF => exact (fun k_ hk => ⟨(.inr (Nat.le_trans (by first | exact HK.out.1 | exact (show Kept w _ (fun k_ => P0_ k_) from by repeat (first | (with_reducible first | exact HK.out | apply Kept.alloc | apply Kept.drewN | apply Kept.drew) | exact HK.out)).1) hk)), Kd.fresh' (Kd.R_lt (by (with_reducible repeat (first | apply Kd.R_alloc | apply Kd.R_drewN | apply Kd.R_drew)); exact HO_0.out)) k_ hk⟩)); (case aO => exact (by (with_reducible repeat (first | apply Kd.R_alloc | apply Kd.R_drewN | apply Kd.R_drew)); exact HO123.out)); (case aS => exact (below_size (by repeat (first | (with_reducible first | exact HB.out | apply below_alloc | apply pw_below_drewN | apply below_drew1) | exact HB.out)))); (case aL => have := LMc12.out; omega); intro v125 w19 ho hb hg hat; (first | (simp only [Int.reduceToNat] at ho; rw [← Ny124.out] at ho) | rw [← Ny124.out] at ho); have n0_ := Aside0.mk (Kd.R_after (ok := (fun k_ => (P0_ k_ ∨ w.heap.size ≤ k_))) (by (with_reducible repeat (first | apply Kd.R_alloc | apply Kd.R_drewN | apply Kd.R_drew)); exact HO_0.out) hg hat); have n1_ := Aside0.mk (hb); have n2_ := Aside0.mk (Kept.of_grown (S := (fun k_ => P0_ k_)) hg (by repeat (first | (with_reducible first | exact HK.out | apply Kept.alloc | apply Kept.drewN | apply Kept.drew) | exact HK.out)) (fun k_ e_ => (HO123.out.1 k_ e_).1)); have n3_ := Aside0.mk ((show Kd.C (Kd.int .i64) w19 (some ad115) y117.length y117 from by rw [Ny117.out]; exact Kd.C_take (m := (x5_1 : Int).toNat) ((Kd.R_reads' (Kd.R_after (ok := (fun k_ => (P0_ k_ ∨ w.heap.size ≤ k_))) (by (with_reducible repeat (first | apply Kd.R_alloc | apply Kd.R_drewN | apply Kd.R_drew)); exact HO_0.out) hg hat)).2.2) KL17.out)); have n4_ := Aside0.mk (ho); clear HO_0; clear HB; clear HK; clear HR120; clear HO123; have HO_0 := n0_; have HB := n1_; have HK := n2_; have HR120 := n3_; have HO126 := n4_; clear n0_ n1_ n2_ n3_ n4_; clear ho hb hg hat; have q20 : (x5_1 : Int) ≤ ((l0.length : Int) : Int) := of_decide_eq_true (by first | (with_reducible assumption) | assumption); obtain ⟨i020, hi020, _, hsz20, _⟩ := info_parts info3; have hroom20 : l0.length ≤ co16 := (Kd.R_reads' HO_0.out).2.1; have hC20 : Kd.C (Kd.int .i64) _ (some ad115) l0.length l0 := (Kd.R_reads' HO_0.out).2.2; have q020 : (0 : Int) ≤ (x5_1 : Int) := of_decide_eq_true (by first | (with_reducible assumption) | assumption); have hcut20 := cut_from (P := Try.prog) 23 3 .i64 Try.underlying23 hi020 1 hsz20 (some ad115) l0.length co16 x5_1 q020 q20; have hr20 := Kd.C_drop (m := (x5_1 : Int).toNat) (c := co16) hC20 (by omega) hroom20; obtain ⟨A20, hA20⟩ : ∃ A1, A1 = (if co16 = (x5_1 : Int).toNat then (some ad115) else ((some ad115) : Option Addr).map (·.add ((x5_1 : Int).toNat * 1))) := ⟨_, rfl⟩; obtain ⟨c20, hc20⟩ : ∃ c1, c1 = co16 - (x5_1 : Int).toNat := ⟨_, rfl⟩; have hy20 : y127.length = l0.length - (x5_1 : Int).toNat := (by rw [Ny127.out, List.length_drop] <;> omega); rw [show (l0).drop (x5_1 : Int).toNat = y127 from Ny127.out.symm] at hr20; replace hr20 : Kd.C (Kd.int .i64) _ A20 y127.length y127 := (by rw [hA20]; exact hr20); rw [← hy20, ← hA20, ← hc20] at hcut20; have HR130 := Aside0.mk hr20; have HC130 := Aside0.mk (show y127.length ≤ c20 from by rw [hy20, hc20]; exact Nat.sub_le_sub_right hroom20 _); clear hr20 hC20 hroom20 hi020 hsz20 hc20; have KY20 := Aside0.mk hy20; have KA20 := Aside0.mk hA20; clear hy20 hA20; have KL20 := Aside0.mk (show (x5_1 : Int).toNat ≤ l0.length from by omega); replace q20 := eq_true q20) | ((with_reducible refine gate_builtin (b := .append) (xs := #[.tmp 43, .tmp 46]) rfl ?_); at_builtin; refine Kd.R_append_rows (Kd.int .i64) (w0 := w0) w0.heap.size rfl (.tmp 43) (.tmp 46) 23 3 (.int .i64 0) 8 rfl Try.underlying23 info3 rfl (by decide) (by omega) v125 y124 y127 _ _ _ (fun k_ => (P0_ k_ ∨ w.heap.size ≤ k_) ∧ some k_ ≠ (.slice (some ad115) l0.length co16 : Value).ownBlock) (fun _ => False) rfl rfl ?aO ?aR (fun _ _ h => h) (fun _ h => h.elim) ?aF ?aB ?aS ?aL ?_; (case aR => repeat (first | exact (by repeat (first | (with_reducible exact HR130.out) | (with_reducible refine Kd.C_alloc ?_ _) | (with_reducible refine Kd.C_drewN ?_ _) | (with_reducible refine Kd.C_drew ?_) | exact HR130.out)) | (with_reducible refine Kd.C_alloc ?_ _) | (with_reducible refine Kd.C_drewN ?_ _) | (with_reducible refine Kd.C_drew ?_))); (case aB => exact (by repeat (first | (with_reducible first | exact HB.out | apply below_alloc | apply pw_below_drewN | apply below_drew1) | exact HB.out))); (case aF => exact (fun k_ hk => ⟨(.inr (Nat.le_trans (by first | exact HK.out.1 | exact (show Kept w _ (fun k_ => P0_ k_) from by repeat (first | (with_reducible first | exact HK.out | apply Kept.alloc | apply Kept.drewN | apply Kept.drew) | exact HK.out)).1) hk)), Kd.fresh' (Kd.R_lt (by (with_reducible repeat (first | apply Kd.R_alloc | apply Kd.R_drewN | apply Kd.R_drew)); exact HO_0.out)) k_ hk⟩)); (case aO => exact (by (with_reducible repeat (first | apply Kd.R_alloc | apply Kd.R_drewN | apply Kd.R_drew)); exact HO126.out)); (case aS => exact (below_size (by repeat (first | (with_reducible first | exact HB.out | apply below_alloc | apply pw_below_drewN | apply below_drew1) | exact HB.out)))); (case aL => have := LMc15.out; omega); intro v132 w21 ho hb hg hat; (first | (simp only [Int.reduceToNat] at ho; rw [← Ny131.out] at ho) | rw [← Ny131.out] at ho); have n0_ := Aside0.mk (Kd.R_after (ok := (fun k_ => (P0_ k_ ∨ w.heap.size ≤ k_))) (by (with_reducible repeat (first | apply Kd.R_alloc | apply Kd.R_drewN | apply Kd.R_drew)); exact HO_0.out) hg hat); have n1_ := Aside0.mk (hb); have n2_ := Aside0.mk (Kept.of_grown (S := (fun k_ => P0_ k_)) hg (by repeat (first | (with_reducible first | exact HK.out | apply Kept.alloc | apply Kept.drewN | apply Kept.drew) | exact HK.out)) (fun k_ e_ => (HO126.out.1 k_ e_).1)); have n3_ := Aside0.mk ((show Kd.C (Kd.int .i64) w21 (some ad115) y117.length y117 from by rw [Ny117.out]; exact Kd.C_take (m := (x5_1 : Int).toNat) ((Kd.R_reads' (Kd.R_after (ok := (fun k_ => (P0_ k_ ∨ w.heap.size ≤ k_))) (by (with_reducible repeat (first | apply Kd.R_alloc | apply Kd.R_drewN | apply Kd.R_drew)); exact HO_0.out) hg hat)).2.2) KL17.out)); have n4_ := Aside0.mk ((show Kd.C (Kd.int .i64) w21 A20 y127.length y127 from by rw [Ny127.out, KA20.out]; exact Kd.C_drop (m := (x5_1 : Int).toNat) (c := co16) ((Kd.R_reads' (Kd.R_after (ok := (fun k_ => (P0_ k_ ∨ w.heap.size ≤ k_))) (by (with_reducible repeat (first | apply Kd.R_alloc | apply Kd.R_drewN | apply Kd.R_drew)); exact HO_0.out) hg hat)).2.2) KL20.out ((Kd.R_reads' (Kd.R_after (ok := (fun k_ => (P0_ k_ ∨ w.heap.size ≤ k_))) (by (with_reducible repeat (first | apply Kd.R_alloc | apply Kd.R_drewN | apply Kd.R_drew)); exact HO_0.out) hg hat)).2.1))); have n5_ := Aside0.mk (ho); clear HO_0; clear HB; clear HK; clear HR120; clear HR130; clear HO126; have HO_0 := n0_; have HB := n1_; have HK := n2_; have HR120 := n3_; have HR130 := n4_; have HO133 := n5_; clear n0_ n1_ n2_ n3_ n4_ n5_; clear ho hb hg hat))
                      go_ret
                      exact ⟨_, by first | rfl | (simp [errW_none, errW_some] <;> rfl) | (simp [*, errW_none, errW_some] <;> rfl), by (with_reducible repeat (first | apply Kd.R_alloc | apply Kd.R_drewN | apply Kd.R_drew)); exact Kd.R_mono HO133.out (fun _ hk => hk.1), by repeat (first | (with_reducible first | exact HB.out | apply below_alloc | apply pw_below_drewN | apply below_drew1) | exact HB.out), by repeat (first | (with_reducible first | exact HK.out | apply Kept.alloc | apply Kept.drewN | apply Kept.drew) | exact HK.out)⟩
                    · rw [if_neg c15] at H
                      exact absurd H (by simp)
                  · rw [if_neg c12] at H
                    exact absurd H (by simp)
                · rw [if_neg c11] at H
                  exact absurd H (by simp)
              · rw [if_neg c10] at H
                exact absurd H (by simp)
        · rw [if_neg c4] at H
          exact absurd H (by simp)
      · rw [if_neg c3] at H
        have c3b0 : decide (x5_1 < (l0.length : Int)) = false := decide_eq_false c3
        clear c3
        by_cases c22 : 0 ≤ x5_1
        · rw [if_pos c22] at H
          have c22b0 := eq_true c22
          have c22b1 : decide (0 ≤ x5_1) = true := decide_eq_true c22
          clear c22
          by_cases c23 : x5_1 ≤ (l0.length : Int)
          · rw [if_pos c23] at H
            have c23b0 := eq_true c23
            have c23b1 : decide (x5_1 ≤ (l0.length : Int)) = true := decide_eq_true c23
            clear c23
            obtain ⟨y134, hy134⟩ : ∃ y_ : List Int, y_ = (l0.take (x5_1 : Int).toNat) := ⟨_, rfl⟩
            replace H : (if ([] : List Int).length + y134.length < 17592186044416 then ((some (([] : List Int) ++ y134 : List Int)).bind fun y138 => (if y138.length < 17592186044416 then ((some (y138 ++ [a1] : List Int)).bind fun y141 => ((some (l0.drop (x5_1 : Int).toNat : List Int)).bind fun y144 => (if y141.length + y144.length < 17592186044416 then (some (y141 ++ y144)) else (none)))) else (none))) else (none)) = some r := by first | (rw [hy134]; with_reducible exact H) | (have H2_ := (Option.bind_some _ _).symm.trans H; rw [hy134]; with_reducible exact H2_) | (have H2_ := (Option.bind_some _ _).symm.trans H; with_reducible exact H2_) | with_reducible exact H | (rw [hy134]; exact H) | exact H
            have Ny134 := Aside0.mk hy134
            clear hy134
            by_cases c24 : ([] : List Int).length + y134.length < 17592186044416
            · rw [if_pos c24] at H
              have LMc24 := Aside0.mk c24
              clear c24
              obtain ⟨y138, hy138⟩ : ∃ y_ : List Int, y_ = (([] : List Int) ++ y134) := ⟨_, rfl⟩
              replace H : (if y138.length < 17592186044416 then ((some (y138 ++ [a1] : List Int)).bind fun y141 => ((some (l0.drop (x5_1 : Int).toNat : List Int)).bind fun y144 => (if y141.length + y144.length < 17592186044416 then (some (y141 ++ y144)) else (none)))) else (none)) = some r := by first | (rw [hy138]; with_reducible exact H) | (have H2_ := (Option.bind_some _ _).symm.trans H; rw [hy138]; with_reducible exact H2_) | (have H2_ := (Option.bind_some _ _).symm.trans H; with_reducible exact H2_) | with_reducible exact H | (rw [hy138]; exact H) | exact H
              have Ny138 := Aside0.mk hy138
              clear hy138
              by_cases c25 : y138.length < 17592186044416
              · rw [if_pos c25] at H
                have LMc25 := Aside0.mk c25
                clear c25
                obtain ⟨y141, hy141⟩ : ∃ y_ : List Int, y_ = (y138 ++ [a1]) := ⟨_, rfl⟩
                replace H : ((some (l0.drop (x5_1 : Int).toNat : List Int)).bind fun y144 => (if y141.length + y144.length < 17592186044416 then (some (y141 ++ y144)) else (none))) = some r := by first | (rw [hy141]; with_reducible exact H) | (have H2_ := (Option.bind_some _ _).symm.trans H; rw [hy141]; with_reducible exact H2_) | (have H2_ := (Option.bind_some _ _).symm.trans H; with_reducible exact H2_) | with_reducible exact H | (rw [hy141]; exact H) | exact H
                have Ny141 := Aside0.mk hy141
                clear hy141
                have c26b0 := eq_true (of_decide_eq_true (by first | (with_reducible assumption) | assumption) : 0 ≤ x5_1)
                have c27b0 := eq_true (of_decide_eq_true (by first | (with_reducible assumption) | assumption) : x5_1 ≤ (l0.length : Int))
                obtain ⟨y144, hy144⟩ : ∃ y_ : List Int, y_ = (l0.drop (x5_1 : Int).toNat) := ⟨_, rfl⟩
                replace H : (if y141.length + y144.length < 17592186044416 then (some (y141 ++ y144)) else (none)) = some r := by first | (rw [hy144]; with_reducible exact H) | (have H2_ := (Option.bind_some _ _).symm.trans H; rw [hy144]; with_reducible exact H2_) | (have H2_ := (Option.bind_some _ _).symm.trans H; with_reducible exact H2_) | with_reducible exact H | (rw [hy144]; exact H) | exact H
                have Ny144 := Aside0.mk hy144
                clear hy144
                by_cases c28 : y141.length + y144.length < 17592186044416
                · rw [if_pos c28] at H
                  have LMc28 := Aside0.mk c28
                  clear c28
                  obtain ⟨y148, hy148⟩ : ∃ y_ : List Int, y_ = (y141 ++ y144) := ⟨_, rfl⟩
                  replace H : (some y148) = some r := by first | (rw [hy148]; with_reducible exact H) | (have H2_ := (Option.bind_some _ _).symm.trans H; rw [hy148]; with_reducible exact H2_) | (have H2_ := (Option.bind_some _ _).symm.trans H; with_reducible exact H2_) | with_reducible exact H | (rw [hy148]; exact H) | exact H
                  have Ny148 := Aside0.mk hy148
                  clear hy148
                  obtain rfl := Option.some.inj H
                  obtain ⟨Ao29, co29, eo29⟩ := Kd.R_slice HO_0.out
                  subst eo29
                  have q30 : (x5_1 : Int) ≤ ((l0.length : Int) : Int) := of_decide_eq_true (by first | (with_reducible assumption) | assumption)
                  obtain ⟨i030, hi030, _, hsz30, _⟩ := info_parts info3
                  have hroom30 : l0.length ≤ co29 := (Kd.R_reads' HO_0.out).2.1
                  have hC30 : Kd.C (Kd.int .i64) _ Ao29 l0.length l0 := (Kd.R_reads' HO_0.out).2.2
                  have hcut30 := cut_to (P := Try.prog) 23 3 .i64 Try.underlying23 hi030 Ao29 l0.length co29 x5_1 (of_decide_eq_true (by first | (with_reducible assumption) | assumption)) q30 hroom30
                  have hr30 := Kd.C_take (m := (x5_1 : Int).toNat) hC30 (by omega)
                  have hy30 : y134.length = (x5_1 : Int).toNat := (by rw [Ny134.out, List.length_take]; omega)
                  rw [← Ny134.out] at hr30
                  rw [← hy30] at hcut30
                  have HR137 := Aside0.mk hr30
                  have HC137 := Aside0.mk (show y134.length ≤ co29 from by omega)
                  clear hr30 hC30 hroom30 hi030 hsz30
                  have KY30 := Aside0.mk hy30
                  clear hy30
                  have KL30 := Aside0.mk (show (x5_1 : Int).toNat ≤ l0.length from by omega)
                  replace q30 := eq_true q30
                  go_wp2_with (first | ((with_reducible refine gate_builtin (b := .append) (xs := #[.tmp 34, .tmp 37]) rfl ?_); at_builtin; refine Kd.R_append_rows (Kd.int .i64) (w0 := w0) w0.heap.size rfl (.tmp 34) (.tmp 37) 23 3 (.int .i64 0) 8 rfl Try.underlying23 info3 rfl (by decide) (by omega) (.slice none 0 0) ([] : List Int) y134 _ _ _ (fun k_ => (P0_ k_ ∨ w.heap.size ≤ k_) ∧ some k_ ≠ (.slice Ao29 l0.length co29 : Value).ownBlock) (fun _ => False) rfl rfl ?aO ?aR (fun _ _ h => h) (fun _ h => h.elim) ?aF ?aB ?aS ?aL ?_; (case aR => repeat (first | exact (by repeat (first | (with_reducible exact HR137.out) | (with_reducible refine Kd.C_alloc ?_ _) | (with_reducible refine Kd.C_drewN ?_ _) | (with_reducible refine Kd.C_drew ?_) | exact HR137.out)) | (with_reducible refine Kd.C_alloc ?_ _) | (with_reducible refine Kd.C_drewN ?_ _) | (with_reducible refine Kd.C_drew ?_))); (case aB => exact (by repeat (first | (with_reducible first | exact HB.out | apply below_alloc | apply pw_below_drewN | apply below_drew1) | exact HB.out))); (case aF => exact (fun k_ hk => ⟨(.inr (Nat.le_trans (by first | exact HK.out.1 | exact (show Kept w _ (fun k_ => P0_ k_) from by repeat (first | (with_reducible first | exact HK.out | apply Kept.alloc | apply Kept.drewN | apply Kept.drew) | exact HK.out)).1) hk)), Kd.fresh' (Kd.R_lt (by (with_reducible repeat (first | apply Kd.R_alloc | apply Kd.R_drewN | apply Kd.R_drew)); exact HO_0.out)) k_ hk⟩)); (case aO => exact ((Kd.R_nil _ _ _ _ (fun k_ => (P0_ k_ ∨ w.heap.size ≤ k_) ∧ some k_ ≠ (.slice Ao29 l0.length co29 : Value).ownBlock)))); (case aS => exact (below_size (by repeat (first | (with_reducible first | exact HB.out | apply below_alloc | apply pw_below_drewN | apply below_drew1) | exact HB.out)))); (case aL => have := LMc24.out; omega); intro v139 w31 ho hb hg hat; (first | (simp only [Int.reduceToNat] at ho; rw [← Ny138.out] at ho) | rw [← Ny138.out] at ho); have n0_ := Aside0.mk (Kd.R_after (Kd.R_apart_nil (by (with_reducible repeat (first | apply Kd.R_alloc | apply Kd.R_drewN | apply Kd.R_drew)); exact HO_0.out)) hg hat); have n1_ := Aside0.mk (hb); have n2_ := Aside0.mk (Kept.of_grown (S := (fun k_ => P0_ k_)) hg (by repeat (first | (with_reducible first | exact HK.out | apply Kept.alloc | apply Kept.drewN | apply Kept.drew) | exact HK.out)) (fun k_ e_ => by simp [Value.ownBlock] at e_)); have n3_ := Aside0.mk ((show Kd.C (Kd.int .i64) w31 Ao29 y134.length y134 from by rw [Ny134.out]; exact Kd.C_take (m := (x5_1 : Int).toNat) ((Kd.R_reads' (Kd.R_after (Kd.R_apart_nil (by (with_reducible repeat (first | apply Kd.R_alloc | apply Kd.R_drewN | apply Kd.R_drew)); exact HO_0.out)) hg hat)).2.2) KL30.out)); have n4_ := Aside0.mk (ho); clear HO_0; clear HB; clear HK; clear HR137; have HO_0 := n0_; have HB := n1_; have HK := n2_; have HR137 := n3_; have HO140 := n4_; clear n0_ n1_ n2_ n3_ n4_; clear ho hb hg hat) | ((with_reducible refine gate_builtin (b := .append) (xs := #[.tmp 39, .tmp 41]) rfl ?_); at_builtin; refine Kd.R_append (Kd.int .i64) (w0 := w0) w0.heap.size rfl (.tmp 39) (.tmp 41) 23 3 (.int .i64 0) 8 rfl Try.underlying23 info3 rfl (by decide) (by omega) v139 y138 a1 [.int .i64 a1] (fun k_ => (P0_ k_ ∨ w.heap.size ≤ k_) ∧ some k_ ≠ (.slice Ao29 l0.length co29 : Value).ownBlock) (fun _ => False) rfl rfl ?aP (fun _ hk => hk.elim) ?aF ?aO ?aB ?aS ?aL ?_; (case aP => exact rfl); (case aB => exact (by repeat (first | (with_reducible first | exact HB.out | apply below_alloc | apply pw_below_drewN | apply below_drew1) | exact HB.out))); (case aF => exact (fun k_ hk => ⟨(.inr (Nat.le_trans (by first | exact HK.out.1 | exact (show Kept w _ (fun k_ => P0_ k_) from by repeat (first | (with_reducible first | exact HK.out | apply Kept.alloc | apply Kept.drewN | apply Kept.drew) | exact HK.out)).1) hk)), Kd.fresh' (Kd.R_lt (by (with_reducible repeat (first | apply Kd.R_alloc | apply Kd.R_drewN | apply Kd.R_drew)); exact HO_0.out)) k_ hk⟩)); (case aO => exact (by (with_reducible repeat (first | apply Kd.R_alloc | apply Kd.R_drewN | apply Kd.R_drew)); exact HO140.out)); (case aS => exact (below_size (by repeat (first | (with_reducible first | exact HB.out | apply below_alloc | apply pw_below_drewN | apply below_drew1) | exact HB.out)))); (case aL => have := LMc25.out; omega); intro v142 w32 ho hb hg hat; (first | (simp only [Int.reduceToNat] at ho; rw [← Ny141.out] at ho) | rw [← Ny141.out] at ho); have n0_ := Aside0.mk (Kd.R_after (ok := (fun k_ => (P0_ k_ ∨ w.heap.size ≤ k_))) (by (with_reducible repeat (first | apply Kd.R_alloc | apply Kd.R_drewN | apply Kd.R_drew)); exact HO_0.out) hg hat); have n1_ := Aside0.mk (hb); have n2_ := Aside0.mk (Kept.of_grown (S := (fun k_ => P0_ k_)) hg (by repeat (first | (with_reducible first | exact HK.out | apply Kept.alloc | apply Kept.drewN | apply Kept.drew) | exact HK.out)) (fun k_ e_ => (HO140.out.1 k_ e_).1)); have n3_ := Aside0.mk ((show Kd.C (Kd.int .i64) w32 Ao29 y134.length y134 from by rw [Ny134.out]; exact Kd.C_take (m := (x5_1 : Int).toNat) ((Kd.R_reads' (Kd.R_after (ok := (fun k_ => (P0_ k_ ∨ w.heap.size ≤ k_))) (by (with_reducible repeat (first | apply Kd.R_alloc | apply Kd.R_drewN | apply Kd.R_drew)); exact HO_0.out) hg hat)).2.2) KL30.out)); have n4_ := Aside0.mk (ho); clear HO_0; clear HB; clear HK; clear HR137; clear HO140; have HO_0 := n0_; have HB := n1_; have HK := n2_; have HR137 := n3_; have HO143 := n4_; clear n0_ n1_ n2_ n3_ n4_; clear ho hb hg hat; have q33 : (x5_1 : Int) ≤ ((l0.length : Int) : Int) := of_decide_eq_true (by first | (with_reducible assumption) | assumption); obtain ⟨i033, hi033, _, hsz33, _⟩ := info_parts info3; have hroom33 : l0.length ≤ co29 := (Kd.R_reads' HO_0.out).2.1; have hC33 : Kd.C (Kd.int .i64) _ Ao29 l0.length l0 := (Kd.R_reads' HO_0.out).2.2; have q033 : (0 : Int) ≤ (x5_1 : Int) := of_decide_eq_true (by first | (with_reducible assumption) | assumption); have hcut33 := cut_from (P := Try.prog) 23 3 .i64 Try.underlying23 hi033 1 hsz33 Ao29 l0.length co29 x5_1 q033 q33; have hr33 := Kd.C_drop (m := (x5_1 : Int).toNat) (c := co29) hC33 (by omega) hroom33; obtain ⟨A33, hA33⟩ : ∃ A1, A1 = (if co29 = (x5_1 : Int).toNat then Ao29 else (Ao29 : Option Addr).map (·.add ((x5_1 : Int).toNat * 1))) := ⟨_, rfl⟩; obtain ⟨c33, hc33⟩ : ∃ c1, c1 = co29 - (x5_1 : Int).toNat := ⟨_, rfl⟩; have hy33 : y144.length = l0.length - (x5_1 : Int).toNat := (by rw [Ny144.out, List.length_drop] <;> omega); rw [show (l0).drop (x5_1 : Int).toNat = y144 from Ny144.out.symm] at hr33; replace hr33 : Kd.C (Kd.int .i64) _ A33 y144.length y144 := (by rw [hA33]; exact hr33); rw [← hy33, ← hA33, ← hc33] at hcut33; have HR147 := Aside0.mk hr33; have HC147 := Aside0.mk (show y144.length ≤ c33 from by rw [hy33, hc33]; exact Nat.sub_le_sub_right hroom33 _); clear hr33 hC33 hroom33 hi033 hsz33 hc33; have KY33 := Aside0.mk hy33; have KA33 := Aside0.mk hA33; clear hy33 hA33; have KL33 := Aside0.mk (show (x5_1 : Int).toNat ≤ l0.length from by omega); replace q33 := eq_true q33) | ((with_reducible refine gate_builtin (b := .append) (xs := #[.tmp 43, .tmp 46]) rfl ?_); at_builtin; refine Kd.R_append_rows (Kd.int .i64) (w0 := w0) w0.heap.size rfl (.tmp 43) (.tmp 46) 23 3 (.int .i64 0) 8 rfl Try.underlying23 info3 rfl (by decide) (by omega) v142 y141 y144 _ _ _ (fun k_ => (P0_ k_ ∨ w.heap.size ≤ k_) ∧ some k_ ≠ (.slice Ao29 l0.length co29 : Value).ownBlock) (fun _ => False) rfl rfl ?aO ?aR (fun _ _ h => h) (fun _ h => h.elim) ?aF ?aB ?aS ?aL ?_; (case aR => repeat (first | exact (by repeat (first | (with_reducible exact HR147.out) | (with_reducible refine Kd.C_alloc ?_ _) | (with_reducible refine Kd.C_drewN ?_ _) | (with_reducible refine Kd.C_drew ?_) | exact HR147.out)) | (with_reducible refine Kd.C_alloc ?_ _) | (with_reducible refine Kd.C_drewN ?_ _) | (with_reducible refine Kd.C_drew ?_))); (case aB => exact (by repeat (first | (with_reducible first | exact HB.out | apply below_alloc | apply pw_below_drewN | apply below_drew1) | exact HB.out))); (case aF => exact (fun k_ hk => ⟨(.inr (Nat.le_trans (by first | exact HK.out.1 | exact (show Kept w _ (fun k_ => P0_ k_) from by repeat (first | (with_reducible first | exact HK.out | apply Kept.alloc | apply Kept.drewN | apply Kept.drew) | exact HK.out)).1) hk)), Kd.fresh' (Kd.R_lt (by (with_reducible repeat (first | apply Kd.R_alloc | apply Kd.R_drewN | apply Kd.R_drew)); exact HO_0.out)) k_ hk⟩)); (case aO => exact (by (with_reducible repeat (first | apply Kd.R_alloc | apply Kd.R_drewN | apply Kd.R_drew)); exact HO143.out)); (case aS => exact (below_size (by repeat (first | (with_reducible first | exact HB.out | apply below_alloc | apply pw_below_drewN | apply below_drew1) | exact HB.out)))); (case aL => have := LMc28.out; omega); intro v149 w34 ho hb hg hat; (first | (simp only [Int.reduceToNat] at ho; rw [← Ny148.out] at ho) | rw [← Ny148.out] at ho); have n0_ := Aside0.mk (Kd.R_after (ok := (fun k_ => (P0_ k_ ∨ w.heap.size ≤ k_))) (by (with_reducible repeat (first | apply Kd.R_alloc | apply Kd.R_drewN | apply Kd.R_drew)); exact HO_0.out) hg hat); have n1_ := Aside0.mk (hb); have n2_ := Aside0.mk (Kept.of_grown (S := (fun k_ => P0_ k_)) hg (by repeat (first | (with_reducible first | exact HK.out | apply Kept.alloc | apply Kept.drewN | apply Kept.drew) | exact HK.out)) (fun k_ e_ => (HO143.out.1 k_ e_).1)); have n3_ := Aside0.mk ((show Kd.C (Kd.int .i64) w34 Ao29 y134.length y134 from by rw [Ny134.out]; exact Kd.C_take (m := (x5_1 : Int).toNat) ((Kd.R_reads' (Kd.R_after (ok := (fun k_ => (P0_ k_ ∨ w.heap.size ≤ k_))) (by (with_reducible repeat (first | apply Kd.R_alloc | apply Kd.R_drewN | apply Kd.R_drew)); exact HO_0.out) hg hat)).2.2) KL30.out)); have n4_ := Aside0.mk ((show Kd.C (Kd.int .i64) w34 A33 y144.length y144 from by rw [Ny144.out, KA33.out]; exact Kd.C_drop (m := (x5_1 : Int).toNat) (c := co29) ((Kd.R_reads' (Kd.R_after (ok := (fun k_ => (P0_ k_ ∨ w.heap.size ≤ k_))) (by (with_reducible repeat (first | apply Kd.R_alloc | apply Kd.R_drewN | apply Kd.R_drew)); exact HO_0.out) hg hat)).2.2) KL33.out ((Kd.R_reads' (Kd.R_after (ok := (fun k_ => (P0_ k_ ∨ w.heap.size ≤ k_))) (by (with_reducible repeat (first | apply Kd.R_alloc | apply Kd.R_drewN | apply Kd.R_drew)); exact HO_0.out) hg hat)).2.1))); have n5_ := Aside0.mk (ho); clear HO_0; clear HB; clear HK; clear HR137; clear HR147; clear HO143; have HO_0 := n0_; have HB := n1_; have HK := n2_; have HR137 := n3_; have HR147 := n4_; have HO150 := n5_; clear n0_ n1_ n2_ n3_ n4_ n5_; clear ho hb hg hat))
                  go_ret
                  exact ⟨_, by first | rfl | (simp [errW_none, errW_some] <;> rfl) | (simp [*, errW_none, errW_some] <;> rfl), by (with_reducible repeat (first | apply Kd.R_alloc | apply Kd.R_drewN | apply Kd.R_drew)); exact Kd.R_mono HO150.out (fun _ hk => hk.1), by repeat (first | (with_reducible first | exact HB.out | apply below_alloc | apply pw_below_drewN | apply below_drew1) | exact HB.out), by repeat (first | (with_reducible first | exact HK.out | apply Kept.alloc | apply Kept.drewN | apply Kept.drew) | exact HK.out)⟩
                · rw [if_neg c28] at H
                  exact absurd H (by simp)
              · rw [if_neg c25] at H
                exact absurd H (by simp)
            · rw [if_neg c24] at H
              exact absurd H (by simp)
          · rw [if_neg c23] at H
            exact absurd H (by simp)
        · rw [if_neg c22] at H
          exact absurd H (by simp)

end Go.Proofs.Ytmbacnnbpnlekaa.PD
