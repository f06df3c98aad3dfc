-- Printed by a program of this session (wrap.py) out of the translation. Lean checks it.
import Derived.Test.YtmbacnnbpnlekaaPDx0
import Derived.Test.YtmbacnnbpnlekaaPDx5
namespace Go.Proofs.Ytmbacnnbpnlekaa.PD
open Go.RowKit Go.Proofs.YtmbacnnbpnlekaaW.PrintWords Go.Proofs.YtmbacnnbpnlekaaW.PrintLast Go.Proofs.YtmbacnnbpnlekaaW.PrintMore
attribute [local go_sem] max2_int min2_int max_two min_two max_three min_three max_four min_four   -- for this text's walks alone
set_option linter.unusedVariables false
set_option linter.unusedSimpArgs false

/-! ### spec_l3vars_ap: function 75 -/
mutual
def spec_l3vars_ap.l0 : Nat → List (S63) → Int → List Int → Option (List Int)
  | 0, _, _, _ => none
  | k + 1, x0, x1, x2 => if x1 < (x0.length : Int) then (if 0 ≤ x1 then ((spec_l3vars_ap.f k x2 (rd_T63 x0 x1).f0 (rd_T63 x0 x1).f1 (rd_T63 x0 x1).f2).bind fun t => spec_l3vars_ap.l0 k x0 (wrap64 (x1 + 1)) t) else none) else some x2
def spec_l3vars_ap.f : Nat → List Int → Int → Int → List (S63) → Option (List Int)
  | 0, _, _, _, _ => none
  | k + 1, b, x, y, l => if x = 7 then spec_l3insert.f k b y else spec_l3vars_ap.l0 k l 0 b
end
set_option maxHeartbeats 8000000 in
set_option maxRecDepth 100000 in
theorem spec_l3vars_ap.calls (k : Nat) : ∀ (P0_ : Nat → Prop) (u9000_ : Value) (l0 : List Int) (a1_0 a1_1 : Int) (A1_2 : Option Addr) (c1_2 : Nat) (l1_2 : List (S63)) (r : List Int) (E w : World) (hB : Below E.heap.size E w) (ho0 : Kd.R (Kd.int .i64) 3 w E.heap.size P0_ u9000_ l0) (hr : Kd.C k63 E A1_2 l1_2.length l1_2) (hc : l1_2.length ≤ c1_2) (h : spec_l3vars_ap.f k l0 a1_0 a1_1 l1_2 = some r),
    Calls Try.prog 75 #[.agg #[.int .i64 a1_0, .int .i64 a1_1, .slice A1_2 l1_2.length c1_2], u9000_] w fun e w' => ∃ v0_ : Value, e = .returned (v0_) ∧ Kd.R (Kd.int .i64) 3 w' E.heap.size (fun k_ => P0_ k_ ∨ w.heap.size ≤ k_) v0_ r ∧ Below E.heap.size E w' ∧ Kept w w' (fun k_ => P0_ k_) := by
  induction k using Nat.strongRecOn with
  | _ k ih =>
  intro P0_ u9000_ l0 a1_0 a1_1 A1_2 c1_2 l1_2 r E w hB ho0 hr hc h
  cases k with
  | zero => exact absurd h (by simp [spec_l3vars_ap.f])
  | succ k =>
  rw [spec_l3vars_ap.f] at h
  have hu63 := Try.underlying63
  have HO := Aside0.mk ho0
  have HB := Aside0.mk hB
  have HR := Aside0.mk hr
  have HC := Aside0.mk hc
  have HK := Aside0.mk (Kept.refl w (fun k_ => P0_ k_))
  clear ho0 hB hr hc
  by_cases c7 : a1_0 = 7
  · rw [if_pos c7] at h
    have c7b : decide (a1_0 = 7) = true := decide_eq_true c7
    have c7e := eq_true c7
    have c7q : (a1_0 == 7) = true := by rw [c7]; rfl
    clear c7
    have AP := Aside0.mk h
    clear h
    go_enter Try.func75, Try.ntmps75
    go_wp2_with (first | ((with_reducible refine gate_dst (N := 2) rfl ?_); refine box_event ?hg (N := 2) ?hd (cs := #[.int .i64 a1_0, .int .i64 a1_1, .slice A1_2 l1_2.length c1_2]) (t := 63) ?hr ?_; (case hd => rfl); (case hg => rfl); (case hr => first | (go_simp; done) | (go_simp; rfl)); intro gb2 hg w3 hbox hb; have hle : w.heap.size ≤ gb2 := (by rw [hg]; exact (show Kept w _ (fun k_ => P0_ k_) from (by repeat (first | (with_reducible first | exact HK.out | apply Kept.alloc | apply Kept.drewN | apply Kept.drew) | exact HK.out))).1); have GW2 := Aside0.mk hle; have n0_ := Aside0.mk (Kd.R_mono (ok' := (fun k_ => (P0_ k_ ∨ w.heap.size ≤ k_) ∧ k_ ≠ gb2)) (Kd.R_below (show Kd.R (Kd.int .i64) 3 _ E.heap.size (fun k_ => P0_ k_ ∧ k_ < w.heap.size) (u9000_) (l0) from (by (with_reducible repeat (first | apply Kd.R_alloc | apply Kd.R_drewN | apply Kd.R_drew)); exact Kd.R_mono (Kd.R_bound HO.out) (fun _ hk => ⟨hk.1, hk.2.2.1⟩))) hb) (fun k_ hk => ⟨.inl hk.1, fun e_ => by have := hk.2; omega⟩)); have n1_ := Aside0.mk (Kept.below (by repeat (first | (with_reducible first | exact HK.out | apply Kept.alloc | apply Kept.drewN | apply Kept.drew) | exact HK.out)) hb); have n2_ := Aside0.mk (below_step (by repeat (first | (with_reducible first | exact HB.out | apply below_alloc | apply pw_below_drewN | apply below_drew1) | exact HB.out)) hb); have n3_ := Aside0.mk (hbox); (try clear HO); (try clear HK); (try clear HB); (try clear BK2); have HO := n0_; have HK := n1_; have HB := n2_; have BK2 := n3_; (try clear n0_); (try clear n1_); (try clear n2_); (try clear n3_); clear hb hbox hg hle; (try clear hc2_0 hc2_1 hc2_2 hf2_0 hf2_1 hf2_2); have hc2_0 : w3.cell? ⟨gb2, 0, none⟩ = some (.int .i64 a1_0) := (blk_cell BK2.out 0).trans rfl; have hc2_1 : w3.cell? ⟨gb2, 1, none⟩ = some (.int .i64 a1_1) := (blk_cell BK2.out 1).trans rfl; have hc2_2 : w3.cell? ⟨gb2, 2, none⟩ = some (.slice A1_2 l1_2.length c1_2) := (blk_cell BK2.out 2).trans rfl; have hf2_0 := blk_frozen BK2.out 0; have hf2_1 := blk_frozen BK2.out 1; have hf2_2 := blk_frozen BK2.out 2) | ((with_reducible refine gate_callee (f := 124) rfl ?_); refine goesL_ (some 12) rfl rfl Try.func124 (by kernel_rfl) rfl #[u9000_, .int .i64 a1_1] rfl (by (try simp only [List.map_toArray, List.map_cons, List.map_nil]); first | done | rfl) ?_; (with_reducible refine (spec_l3insert.calls k (fun k_ => (P0_ k_ ∨ w.heap.size ≤ k_) ∧ k_ ≠ gb2) u9000_ l0 a1_1 r E _ ?side1 ?side2 AP.out).mono ?_); (case side1 => exact (by repeat (first | (with_reducible first | exact HB.out | apply below_alloc | apply pw_below_drewN | apply below_drew1) | exact HB.out))); (case side2 => exact (show Kd.R (Kd.int .i64) 3 _ E.heap.size (fun k_ => (P0_ k_ ∨ w.heap.size ≤ k_) ∧ k_ ≠ gb2) (u9000_) (l0) from (by (with_reducible repeat (first | apply Kd.R_alloc | apply Kd.R_drewN | apply Kd.R_drew)); exact HO.out))); rintro e w7 ⟨v7, rfl, ho, hb, hk⟩; refine ⟨_, rfl, ?_⟩; obtain ⟨W9, hW9⟩ := kept_src hk; have hsz_ : w.heap.size ≤ W9.heap.size := (by rw [hW9]; exact (show Kept w _ (fun k_ => P0_ k_) from (by repeat (first | (with_reducible first | exact HK.out | apply Kept.alloc | apply Kept.drewN | apply Kept.drew) | exact HK.out))).1); have n0_ := Aside0.mk (Kd.R_mono (ok' := (fun k_ => P0_ k_ ∨ w.heap.size ≤ k_)) ho (fun k_ hk' => hk'.elim (fun h_ => h_.1) (fun h_ => (by rw [← hW9] at h_; exact .inr (Nat.le_trans hsz_ h_))))); have n1_ := Aside0.mk (Kept.then_ (show Kept w _ (fun k_ => P0_ k_) from (by repeat (first | (with_reducible first | exact HK.out | apply Kept.alloc | apply Kept.drewN | apply Kept.drew) | exact HK.out))) hk (fun k_ hk' => hk'.1)); have n2_ := Aside0.mk (hb); (try clear HO); (try clear HK); (try clear HB); have HO := n0_; have HK := n1_; have HB := n2_; (try clear n0_); (try clear n1_); (try clear n2_); clear ho hb hk hsz_ hW9; (try clear BK2)))
    go_ret
    exact ⟨_, by first | rfl | (simp; done), by (with_reducible repeat (first | apply Kd.R_alloc | apply Kd.R_drewN | apply Kd.R_drew)); exact HO.out, by repeat (first | (with_reducible first | exact HB.out | apply below_alloc | apply pw_below_drewN | apply below_drew1) | exact HB.out), by repeat (first | (with_reducible first | exact HK.out | apply Kept.alloc | apply Kept.drewN | apply Kept.drew) | exact HK.out)⟩
  · rw [if_neg c7] at h
    have c7b : decide (a1_0 = 7) = false := decide_eq_false c7
    have c7e := eq_false c7
    have c7q : (a1_0 == 7) = false := beq_eq_false_iff_ne.2 c7
    clear c7
    go_enter Try.func75, Try.ntmps75
    go_wp2_with (first | ((with_reducible refine gate_dst (N := 2) rfl ?_); refine box_event ?hg (N := 2) ?hd (cs := #[.int .i64 a1_0, .int .i64 a1_1, .slice A1_2 l1_2.length c1_2]) (t := 63) ?hr ?_; (case hd => rfl); (case hg => rfl); (case hr => first | (go_simp; done) | (go_simp; rfl)); intro gb2 hg w3 hbox hb; have hle : w.heap.size ≤ gb2 := (by rw [hg]; exact (show Kept w _ (fun k_ => P0_ k_) from (by repeat (first | (with_reducible first | exact HK.out | apply Kept.alloc | apply Kept.drewN | apply Kept.drew) | exact HK.out))).1); have GW2 := Aside0.mk hle; have n0_ := Aside0.mk (Kd.R_mono (ok' := (fun k_ => (P0_ k_ ∨ w.heap.size ≤ k_) ∧ k_ ≠ gb2)) (Kd.R_below (show Kd.R (Kd.int .i64) 3 _ E.heap.size (fun k_ => P0_ k_ ∧ k_ < w.heap.size) (u9000_) (l0) from (by (with_reducible repeat (first | apply Kd.R_alloc | apply Kd.R_drewN | apply Kd.R_drew)); exact Kd.R_mono (Kd.R_bound HO.out) (fun _ hk => ⟨hk.1, hk.2.2.1⟩))) hb) (fun k_ hk => ⟨.inl hk.1, fun e_ => by have := hk.2; omega⟩)); have n1_ := Aside0.mk (Kept.below (by repeat (first | (with_reducible first | exact HK.out | apply Kept.alloc | apply Kept.drewN | apply Kept.drew) | exact HK.out)) hb); have n2_ := Aside0.mk (below_step (by repeat (first | (with_reducible first | exact HB.out | apply below_alloc | apply pw_below_drewN | apply below_drew1) | exact HB.out)) hb); have n3_ := Aside0.mk (hbox); (try clear HO); (try clear HK); (try clear HB); (try clear BK2); have HO := n0_; have HK := n1_; have HB := n2_; have BK2 := n3_; (try clear n0_); (try clear n1_); (try clear n2_); (try clear n3_); clear hb hbox hg hle; (try clear hc2_0 hc2_1 hc2_2 hf2_0 hf2_1 hf2_2); have hc2_0 : w3.cell? ⟨gb2, 0, none⟩ = some (.int .i64 a1_0) := (blk_cell BK2.out 0).trans rfl; have hc2_1 : w3.cell? ⟨gb2, 1, none⟩ = some (.int .i64 a1_1) := (blk_cell BK2.out 1).trans rfl; have hc2_2 : w3.cell? ⟨gb2, 2, none⟩ = some (.slice A1_2 l1_2.length c1_2) := (blk_cell BK2.out 2).trans rfl; have hf2_0 := blk_frozen BK2.out 0; have hf2_1 := blk_frozen BK2.out 1; have hf2_2 := blk_frozen BK2.out 2))
    go_loopg [1, 5] k (fun kq v1 vi w' => ∃ (x : List Int) (i : Int), vi = .int .i64 i ∧ Aside0 (spec_l3vars_ap.l0 kq l1_2 i x = some r) ∧ Aside0 (kq ≤ k) ∧ Aside0 (Kd.R (Kd.int .i64) 3 w' E.heap.size (fun k_ => (P0_ k_ ∨ w.heap.size ≤ k_) ∧ k_ ≠ gb2) (v1) (x)) ∧ Aside0 (Kept w w' (fun k_ => P0_ k_)) ∧ Aside0 (w'.heap[gb2]? = some (.cells #[.int .i64 a1_0, .int .i64 a1_1, .slice A1_2 l1_2.length c1_2] 63 (0, 0))) ∧ Aside0 (Below E.heap.size E w'))
    case atStart => exact ⟨l0, 0, (by first | rfl | (simp; done)), ⟨h⟩, ⟨Nat.le_refl _⟩, ⟨by (with_reducible repeat (first | apply Kd.R_alloc | apply Kd.R_drewN | apply Kd.R_drew)); exact HO.out⟩, ⟨by repeat (first | (with_reducible first | exact HK.out | apply Kept.alloc | apply Kept.drewN | apply Kept.drew) | exact HK.out)⟩, ⟨by (with_reducible repeat (first | refine blk_drewN ?_ _ | refine blk_drew ?_ | refine blk_alloc ?_ _)); exact BK2.out⟩, ⟨by repeat (first | (with_reducible first | exact HB.out | apply below_alloc | apply pw_below_drewN | apply below_drew1) | exact HB.out)⟩⟩
    case round =>
      clear HO HK BK2 HB
      (try clear hc2_0 hc2_1 hc2_2 hf2_0 hf2_1 hf2_2)
      obtain ⟨x, i, rfl, HA, HK1, HO, HK, BK2, HB⟩ := hrel
      cases gk with
      | zero => exact absurd HA.out (by simp [spec_l3vars_ap.l0])
      | succ k1 =>
        have H := HA.out
        clear HA
        simp only [spec_l3vars_ap.l0] at H
        have hc2_0 : wr.cell? ⟨gb2, 0, none⟩ = some (.int .i64 a1_0) := (blk_cell BK2.out 0).trans rfl
        have hc2_1 : wr.cell? ⟨gb2, 1, none⟩ = some (.int .i64 a1_1) := (blk_cell BK2.out 1).trans rfl
        have hc2_2 : wr.cell? ⟨gb2, 2, none⟩ = some (.slice A1_2 l1_2.length c1_2) := (blk_cell BK2.out 2).trans rfl
        have hf2_0 := blk_frozen BK2.out 0
        have hf2_1 := blk_frozen BK2.out 1
        have hf2_2 := blk_frozen BK2.out 2
        by_cases ci : i < (l1_2.length : Int)
        · rw [if_pos ci] at H
          have cib : decide (i < (l1_2.length : Int)) = true := decide_eq_true ci
          by_cases c0 : 0 ≤ i
          · rw [if_pos c0] at H
            obtain ⟨t, A70, H⟩ := Option.bind_eq_some_iff.mp H
            have A7 := Aside0.mk A70
            have H' := Aside0.mk H
            clear A70 H
            obtain ⟨ad, A2, c2, e1_, hx0, hx1, hx2, hl, hi⟩ := at_T63 HR.out i c0 ci
            cases e1_
            replace hx0 := (HB.out.cell (World.block_lt_of_cell? E _ hx0)).trans hx0
            replace hx1 := (HB.out.cell (World.block_lt_of_cell? E _ hx1)).trans hx1
            replace hx2 := (HB.out.cell (World.block_lt_of_cell? E _ hx2)).trans hx2
            have HRI := Aside0.mk hi
            have HCI := Aside0.mk hl
            clear hi hl
            have c0b := eq_true c0
            have cic := eq_true ci
            go_wp2_with (first | ((with_reducible refine gate_callee (f := 75) rfl ?_); refine goesL_ (some 26) rfl rfl Try.func75 (by kernel_rfl) rfl #[.agg #[.int .i64 ((rd_T63 l1_2 i).f0), .int .i64 ((rd_T63 l1_2 i).f1), .slice A2 ((rd_T63 l1_2 i).f2).length c2], u1] rfl (by (try simp only [List.map_toArray, List.map_cons, List.map_nil]); first | done | rfl) ?_; (with_reducible refine (ih k1 (by have := HK1.out; omega) (fun k_ => (P0_ k_ ∨ w.heap.size ≤ k_) ∧ k_ ≠ gb2) u1 x ((rd_T63 l1_2 i).f0) ((rd_T63 l1_2 i).f1) A2 c2 ((rd_T63 l1_2 i).f2) t E _ ?side1 ?side2 HRI.out HCI.out A7.out).mono ?_); (case side1 => exact (by repeat (first | (with_reducible first | exact HB.out | apply below_alloc | apply pw_below_drewN | apply below_drew1) | exact HB.out))); (case side2 => exact (show Kd.R (Kd.int .i64) 3 _ E.heap.size (fun k_ => (P0_ k_ ∨ w.heap.size ≤ k_) ∧ k_ ≠ gb2) (u1) (x) from (by (with_reducible repeat (first | apply Kd.R_alloc | apply Kd.R_drewN | apply Kd.R_drew)); exact HO.out))); rintro e w7 ⟨v7, rfl, ho, hb, hk⟩; refine ⟨_, rfl, ?_⟩; obtain ⟨W9, hW9⟩ := kept_src hk; have hsz_ : w.heap.size ≤ W9.heap.size := (by rw [hW9]; exact (show Kept w _ (fun k_ => P0_ k_) from (by repeat (first | (with_reducible first | exact HK.out | apply Kept.alloc | apply Kept.drewN | apply Kept.drew) | exact HK.out))).1); have hlt_ : gb2 < W9.heap.size := (by rw [hW9]; exact blk_lt (o := .cells #[.int .i64 a1_0, .int .i64 a1_1, .slice (some ad) l1_2.length c1_2] 63 (0, 0)) (show (World.heap _)[gb2]? = some (.cells #[.int .i64 a1_0, .int .i64 a1_1, .slice (some ad) l1_2.length c1_2] 63 (0, 0)) from (by (with_reducible repeat (first | refine blk_drewN ?_ _ | refine blk_drew ?_ | refine blk_alloc ?_ _)); exact BK2.out))); have n0_ := Aside0.mk (Kd.R_mono (ok' := (fun k_ => (P0_ k_ ∨ w.heap.size ≤ k_) ∧ k_ ≠ gb2)) ho (fun k_ hk' => hk'.elim (fun h_ => h_) (fun h_ => (by rw [← hW9] at h_; exact ⟨.inr (Nat.le_trans hsz_ h_), fun e_ => by omega⟩)))); have n1_ := Aside0.mk (Kept.then_ (show Kept w _ (fun k_ => P0_ k_) from (by repeat (first | (with_reducible first | exact HK.out | apply Kept.alloc | apply Kept.drewN | apply Kept.drew) | exact HK.out))) hk (fun k_ hk' => hk'.1)); have n2_ := Aside0.mk (blk_kept (g := gb2) (o := .cells #[.int .i64 a1_0, .int .i64 a1_1, .slice (some ad) l1_2.length c1_2] 63 (0, 0)) (show (World.heap _)[gb2]? = some (.cells #[.int .i64 a1_0, .int .i64 a1_1, .slice (some ad) l1_2.length c1_2] 63 (0, 0)) from (by (with_reducible repeat (first | refine blk_drewN ?_ _ | refine blk_drew ?_ | refine blk_alloc ?_ _)); exact BK2.out)) hk (fun h_ => h_.2 rfl)); have n3_ := Aside0.mk (hb); (try clear HO); (try clear HK); (try clear BK2); (try clear HB); have HO := n0_; have HK := n1_; have BK2 := n2_; have HB := n3_; (try clear n0_); (try clear n1_); (try clear n2_); (try clear n3_); clear ho hb hk hsz_ hlt_ hW9))
            go_roundg k1
            case measure => have := HK1.out; omega
            case rel => exact ⟨t, (wrap64 (i + 1)), (by first | rfl | (simp; done) | (simp [*]; done)), H', ⟨by have := HK1.out; omega⟩, ⟨by (with_reducible repeat (first | apply Kd.R_alloc | apply Kd.R_drewN | apply Kd.R_drew)); exact HO.out⟩, ⟨by repeat (first | (with_reducible first | exact HK.out | apply Kept.alloc | apply Kept.drewN | apply Kept.drew) | exact HK.out)⟩, ⟨by (with_reducible repeat (first | refine blk_drewN ?_ _ | refine blk_drew ?_ | refine blk_alloc ?_ _)); exact BK2.out⟩, ⟨by repeat (first | (with_reducible first | exact HB.out | apply below_alloc | apply pw_below_drewN | apply below_drew1) | exact HB.out)⟩⟩
          · rw [if_neg c0] at H
            exact absurd H (by simp)
        · rw [if_neg ci] at H
          have cib : decide (i < (l1_2.length : Int)) = false := decide_eq_false ci
          obtain rfl := Option.some.inj H
          go_wp2
          go_ret
          exact ⟨_, by first | rfl | (simp; done), by (with_reducible repeat (first | apply Kd.R_alloc | apply Kd.R_drewN | apply Kd.R_drew)); exact Kd.R_mono HO.out (fun _ hk => hk.1), by repeat (first | (with_reducible first | exact HB.out | apply below_alloc | apply pw_below_drewN | apply below_drew1) | exact HB.out), by repeat (first | (with_reducible first | exact HK.out | apply Kept.alloc | apply Kept.drewN | apply Kept.drew) | exact HK.out)⟩

def spec_l3vars.f (k : Nat) (a0_0 a0_1 : Int) (l0_2 : List (S63)) (l1 : List Int) : Option (List Int) := if l1 = [] then spec_l3vars_ap.f k [] a0_0 a0_1 l0_2 else none
theorem spec_l3vars_ap.mono_l : ∀ k, (∀ x0 x1 x2, LeO (spec_l3vars_ap.l0 k x0 x1 x2) (spec_l3vars_ap.l0 (k + 1) x0 x1 x2)) ∧ (∀ b x y l, LeO (spec_l3vars_ap.f k b x y l) (spec_l3vars_ap.f (k + 1) b x y l))
  | 0 => ⟨fun _ _ _ r h => by simp [spec_l3vars_ap.l0] at h, fun _ _ _ _ r h => by simp [spec_l3vars_ap.f] at h⟩
  | k + 1 => by
    have ih := spec_l3vars_ap.mono_l k
    refine ⟨?_, ?_⟩
    · intro x0 x1 x2
      unfold spec_l3vars_ap.l0
      repeat' first
        | exact ih.1 _ _ _
        | exact ih.2 _ _ _ _
        | exact LeO.refl _
        | exact LeO.none _
        | refine LeO.ite ?_ ?_
        | refine LeO.bind ?_ (fun _ => ?_)
    · intro b x y l
      unfold spec_l3vars_ap.f
      repeat' first
        | exact spec_l3insert.mono _ _ _
        | exact ih.1 _ _ _
        | exact LeO.refl _
        | refine LeO.ite ?_ ?_
theorem spec_l3vars.mono : ∀ a0 a1 a2 a3 k, LeO (spec_l3vars.f k a0 a1 a2 a3) (spec_l3vars.f (k + 1) a0 a1 a2 a3) := by
  intro a0 a1 a2 a3 k
  unfold spec_l3vars.f
  by_cases h : a3 = []
  · rw [if_pos h, if_pos h]
    exact (spec_l3vars_ap.mono_l k).2 _ _ _ _
  · rw [if_neg h, if_neg h]
    exact LeO.none _
theorem spec_l3vars.calls (k : Nat) (a0_0 a0_1 : Int) (A0_2 : Option Addr) (c0_2 : Nat) (l0_2 : List (S63)) (A1 : Option Addr) (c1 : Nat) (l1 : List Int) (r : List Int) (w : World) (hr0_2 : Kd.C k63 w A0_2 l0_2.length l0_2) (hc0_2 : l0_2.length ≤ c0_2) (hA1 : A1 = none) (hc1 : c1 = 0) (h : spec_l3vars.f k a0_0 a0_1 l0_2 l1 = some r) :
    Calls Try.prog 75 #[.agg #[.int .i64 a0_0, .int .i64 a0_1, .slice A0_2 l0_2.length c0_2], .slice A1 l1.length c1] w fun e w' => ∃ v0_ : Value, e = .returned (v0_) ∧ Kd.R (Kd.int .i64) 3 w' w.heap.size (fun _ => True) v0_ r ∧ Below w.heap.size w w' := by
  unfold spec_l3vars.f at h
  by_cases hl : l1 = []
  · rw [if_pos hl] at h
    subst hl hA1 hc1
    refine (spec_l3vars_ap.calls k (fun _ => False) (.slice none 0 0) [] a0_0 a0_1 _ _ l0_2 r w w (Below.refl _ _) (Kd.R_nil _ _ _ _ _) hr0_2 hc0_2 h).mono ?_
    rintro e w' ⟨v, rfl, hv, hb, _⟩
    exact ⟨v, rfl, Kd.R_mono hv (fun _ _ => trivial), hb⟩
  · rw [if_neg hl] at h
    cases h

end Go.Proofs.Ytmbacnnbpnlekaa.PD
