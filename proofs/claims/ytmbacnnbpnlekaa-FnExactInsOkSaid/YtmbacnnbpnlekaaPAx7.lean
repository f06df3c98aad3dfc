-- Printed by a program of this session (wrap.py) out of the translation. Lean checks it.
import Derived.Test.YtmbacnnbpnlekaaPAx0
import Derived.Test.YtmbacnnbpnlekaaPAx4
import Derived.Test.YtmbacnnbpnlekaaPAx5
import Derived.Test.YtmbacnnbpnlekaaPAx6
namespace Go.Proofs.Ytmbacnnbpnlekaa.PA
open Go.RowKit Go.Proofs.YtmbacnnbpnlekaaW.PrintWords Go.Proofs.YtmbacnnbpnlekaaW.PrintLast Go.Proofs.YtmbacnnbpnlekaaW.PrintMore
attribute [local go_sem] max2_int min2_int max_two min_two max_three min_three max_four min_four   -- for this text's walks alone
set_option linter.unusedVariables false
set_option linter.unusedSimpArgs false

/-! ### spec_InsOk: function 12 -/
mutual
def spec_InsOk.j0 : Nat → Bool → Int → Int → Int → List Int → List Int → Option (Bool)
  | 0, _, _, _, _, _, _ => none
  | k + 1, x12, x109000, x109001, x109002, x109003, x109004 => if x12 = true then (some false) else ((spec_l8parts.f k x109000).bind fun t109 => (if x109000 = 1 then ((spec_l5intOk.f x109001).bind fun t110 => (if t110 = true then (spec_InsOk.j1 k t109 x109000 x109001 x109002 x109003 x109004) else (some false))) else (if x109001 < 0 then (some false) else (if x109001 > 2147483647 then (some false) else (if x109001 = 0 then (spec_InsOk.j1 k t109 x109000 x109001 x109002 x109003 x109004) else (if t109 = 0 then (some false) else (if t109 = 4 then (some false) else (spec_InsOk.j1 k t109 x109000 x109001 x109002 x109003 x109004))))))))
def spec_InsOk.j1 : Nat → Int → Int → Int → Int → List Int → List Int → Option (Bool)
  | 0, _, _, _, _, _, _ => none
  | k + 1, x3, x109000, x109001, x109002, x109003, x109004 => if x109002 < 0 then (spec_InsOk.j2 k true x109000 x109001 x109002 x109003 x109004) else (if x109002 > 2147483647 then (spec_InsOk.j2 k true x109000 x109001 x109002 x109003 x109004) else (if x109002 = 0 then (if (x109003.length : Int) > 0 then (if x3 = 4 then (if (x109003.length : Int) > 20 then (spec_InsOk.j2 k true x109000 x109001 x109002 x109003 x109004) else (if (x109004.length : Int) > 5 then (spec_InsOk.j2 k true x109000 x109001 x109002 x109003 x109004) else (spec_InsOk.j2 k ((decide ((x109004.length : Int) > 0)) != (x3 == 3)) x109000 x109001 x109002 x109003 x109004))) else (spec_InsOk.j2 k true x109000 x109001 x109002 x109003 x109004)) else (if (x109003.length : Int) > 20 then (spec_InsOk.j2 k true x109000 x109001 x109002 x109003 x109004) else (if (x109004.length : Int) > 5 then (spec_InsOk.j2 k true x109000 x109001 x109002 x109003 x109004) else (spec_InsOk.j2 k ((decide ((x109004.length : Int) > 0)) != (x3 == 3)) x109000 x109001 x109002 x109003 x109004)))) else (if x3 = 2 then (if (x109003.length : Int) > 0 then (if x3 = 4 then (if (x109003.length : Int) > 20 then (spec_InsOk.j2 k true x109000 x109001 x109002 x109003 x109004) else (if (x109004.length : Int) > 5 then (spec_InsOk.j2 k true x109000 x109001 x109002 x109003 x109004) else (spec_InsOk.j2 k ((decide ((x109004.length : Int) > 0)) != (x3 == 3)) x109000 x109001 x109002 x109003 x109004))) else (spec_InsOk.j2 k true x109000 x109001 x109002 x109003 x109004)) else (if (x109003.length : Int) > 20 then (spec_InsOk.j2 k true x109000 x109001 x109002 x109003 x109004) else (if (x109004.length : Int) > 5 then (spec_InsOk.j2 k true x109000 x109001 x109002 x109003 x109004) else (spec_InsOk.j2 k ((decide ((x109004.length : Int) > 0)) != (x3 == 3)) x109000 x109001 x109002 x109003 x109004)))) else (spec_InsOk.j2 k true x109000 x109001 x109002 x109003 x109004))))
def spec_InsOk.j2 : Nat → Bool → Int → Int → Int → List Int → List Int → Option (Bool)
  | 0, _, _, _, _, _, _ => none
  | k + 1, x91, x109000, x109001, x109002, x109003, x109004 => if x91 = true then (some false) else (spec_InsOk.l0 k 0 x109000 x109001 x109002 x109003 x109004)
def spec_InsOk.l0 : Nat → Int → Int → Int → Int → List Int → List Int → Option (Bool)
  | 0, _, _, _, _, _, _ => none
  | k + 1, x4, x109000, x109001, x109002, x109003, x109004 => if x4 < (x109004.length : Int) then (if 0 ≤ x4 then (if (rd x109004 x4) < 0 then (some false) else (if (rd x109004 x4) > 2147483647 then (some false) else (spec_InsOk.l0 k (wrap64 (x4 + 1)) x109000 x109001 x109002 x109003 x109004))) else (none)) else ((spec_l5lit.f k x109003).bind fun t113 => (some t113))
end
def spec_InsOk.f (k : Nat) (a0_0 : Int) (a0_1 : Int) (a0_2 : Int) (l0_3 : List Int) (l0_4 : List Int) : Option (Bool) := if a0_0 < 0 then (spec_InsOk.j0 k true a0_0 a0_1 a0_2 l0_3 l0_4) else (spec_InsOk.j0 k (decide (a0_0 > 31)) a0_0 a0_1 a0_2 l0_3 l0_4)
theorem spec_InsOk.mono_l : ∀ k, (∀ y0 y1 y2 y3 y4 y5, LeO (spec_InsOk.j0 k y0 y1 y2 y3 y4 y5) (spec_InsOk.j0 (k + 1) y0 y1 y2 y3 y4 y5)) ∧ (∀ y0 y1 y2 y3 y4 y5, LeO (spec_InsOk.j1 k y0 y1 y2 y3 y4 y5) (spec_InsOk.j1 (k + 1) y0 y1 y2 y3 y4 y5)) ∧ (∀ y0 y1 y2 y3 y4 y5, LeO (spec_InsOk.j2 k y0 y1 y2 y3 y4 y5) (spec_InsOk.j2 (k + 1) y0 y1 y2 y3 y4 y5)) ∧ (∀ y0 y1 y2 y3 y4 y5, LeO (spec_InsOk.l0 k y0 y1 y2 y3 y4 y5) (spec_InsOk.l0 (k + 1) y0 y1 y2 y3 y4 y5))
  | 0 => ⟨fun _ _ _ _ _ _ r h => by simp [spec_InsOk.j0] at h, fun _ _ _ _ _ _ r h => by simp [spec_InsOk.j1] at h, fun _ _ _ _ _ _ r h => by simp [spec_InsOk.j2] at h, fun _ _ _ _ _ _ r h => by simp [spec_InsOk.l0] at h⟩
  | k + 1 => by
    obtain ⟨ih0, ih1, ih2, ih3⟩ := spec_InsOk.mono_l k
    refine ⟨?_, ?_, ?_, ?_⟩
    · intro y0 y1 y2 y3 y4 y5
      unfold spec_InsOk.j0
      repeat' first
      | (with_reducible exact ih0 _ _ _ _ _ _)
      | (with_reducible exact ih1 _ _ _ _ _ _)
      | (with_reducible exact ih2 _ _ _ _ _ _)
      | (with_reducible exact ih3 _ _ _ _ _ _)
      | (with_reducible exact spec_l5lit.mono _ _)
      | (with_reducible exact spec_l8parts.mono _ _)
      | (with_reducible exact LeO.refl _)
      | (with_reducible exact LeO.none _)
      | (with_reducible refine LeO.ite ?_ ?_)
      | (with_reducible refine LeO.bind ?_ (fun _ => ?_))
      | exact ih0 _ _ _ _ _ _
      | exact ih1 _ _ _ _ _ _
      | exact ih2 _ _ _ _ _ _
      | exact ih3 _ _ _ _ _ _
      | exact spec_l5lit.mono _ _
      | exact spec_l8parts.mono _ _
      | exact LeO.none _
      | refine LeO.ite ?_ ?_
      | refine LeO.bind ?_ (fun _ => ?_)
    · intro y0 y1 y2 y3 y4 y5
      unfold spec_InsOk.j1
      repeat' first
      | (with_reducible exact ih0 _ _ _ _ _ _)
      | (with_reducible exact ih1 _ _ _ _ _ _)
      | (with_reducible exact ih2 _ _ _ _ _ _)
      | (with_reducible exact ih3 _ _ _ _ _ _)
      | (with_reducible exact spec_l5lit.mono _ _)
      | (with_reducible exact spec_l8parts.mono _ _)
      | (with_reducible exact LeO.refl _)
      | (with_reducible exact LeO.none _)
      | (with_reducible refine LeO.ite ?_ ?_)
      | (with_reducible refine LeO.bind ?_ (fun _ => ?_))
      | exact ih0 _ _ _ _ _ _
      | exact ih1 _ _ _ _ _ _
      | exact ih2 _ _ _ _ _ _
      | exact ih3 _ _ _ _ _ _
      | exact spec_l5lit.mono _ _
      | exact spec_l8parts.mono _ _
      | exact LeO.none _
      | refine LeO.ite ?_ ?_
      | refine LeO.bind ?_ (fun _ => ?_)
    · intro y0 y1 y2 y3 y4 y5
      unfold spec_InsOk.j2
      repeat' first
      | (with_reducible exact ih0 _ _ _ _ _ _)
      | (with_reducible exact ih1 _ _ _ _ _ _)
      | (with_reducible exact ih2 _ _ _ _ _ _)
      | (with_reducible exact ih3 _ _ _ _ _ _)
      | (with_reducible exact spec_l5lit.mono _ _)
      | (with_reducible exact spec_l8parts.mono _ _)
      | (with_reducible exact LeO.refl _)
      | (with_reducible exact LeO.none _)
      | (with_reducible refine LeO.ite ?_ ?_)
      | (with_reducible refine LeO.bind ?_ (fun _ => ?_))
      | exact ih0 _ _ _ _ _ _
      | exact ih1 _ _ _ _ _ _
      | exact ih2 _ _ _ _ _ _
      | exact ih3 _ _ _ _ _ _
      | exact spec_l5lit.mono _ _
      | exact spec_l8parts.mono _ _
      | exact LeO.none _
      | refine LeO.ite ?_ ?_
      | refine LeO.bind ?_ (fun _ => ?_)
    · intro y0 y1 y2 y3 y4 y5
      unfold spec_InsOk.l0
      repeat' first
      | (with_reducible exact ih0 _ _ _ _ _ _)
      | (with_reducible exact ih1 _ _ _ _ _ _)
      | (with_reducible exact ih2 _ _ _ _ _ _)
      | (with_reducible exact ih3 _ _ _ _ _ _)
      | (with_reducible exact spec_l5lit.mono _ _)
      | (with_reducible exact spec_l8parts.mono _ _)
      | (with_reducible exact LeO.refl _)
      | (with_reducible exact LeO.none _)
      | (with_reducible refine LeO.ite ?_ ?_)
      | (with_reducible refine LeO.bind ?_ (fun _ => ?_))
      | exact ih0 _ _ _ _ _ _
      | exact ih1 _ _ _ _ _ _
      | exact ih2 _ _ _ _ _ _
      | exact ih3 _ _ _ _ _ _
      | exact spec_l5lit.mono _ _
      | exact spec_l8parts.mono _ _
      | exact LeO.none _
      | refine LeO.ite ?_ ?_
      | refine LeO.bind ?_ (fun _ => ?_)
theorem spec_InsOk.mono : ∀ a0 a1 a2 a3 a4 k, LeO (spec_InsOk.f k a0 a1 a2 a3 a4) (spec_InsOk.f (k + 1) a0 a1 a2 a3 a4) := by
  intro a0 a1 a2 a3 a4 k
  obtain ⟨ih0, ih1, ih2, ih3⟩ := spec_InsOk.mono_l k
  unfold spec_InsOk.f
  repeat' first
      | (with_reducible exact ih0 _ _ _ _ _ _)
      | (with_reducible exact ih1 _ _ _ _ _ _)
      | (with_reducible exact ih2 _ _ _ _ _ _)
      | (with_reducible exact ih3 _ _ _ _ _ _)
      | (with_reducible exact spec_l5lit.mono _ _)
      | (with_reducible exact spec_l8parts.mono _ _)
      | (with_reducible exact LeO.refl _)
      | (with_reducible exact LeO.none _)
      | (with_reducible refine LeO.ite ?_ ?_)
      | (with_reducible refine LeO.bind ?_ (fun _ => ?_))
      | exact ih0 _ _ _ _ _ _
      | exact ih1 _ _ _ _ _ _
      | exact ih2 _ _ _ _ _ _
      | exact ih3 _ _ _ _ _ _
      | exact spec_l5lit.mono _ _
      | exact spec_l8parts.mono _ _
      | exact LeO.none _
      | refine LeO.ite ?_ ?_
      | refine LeO.bind ?_ (fun _ => ?_)
set_option maxHeartbeats 8000000 in
set_option maxRecDepth 100000 in
theorem spec_InsOk.calls (k : Nat) (a0_0 : Int) (a0_1 : Int) (a0_2 : Int) (A0_3 : Option Addr) (c0_3 : Nat) (l0_3 : List Int) (A0_4 : Option Addr) (c0_4 : Nat) (l0_4 : List Int) (r : Bool) (w : World) (hr0_3 : Kd.C (Kd.int .u8) w A0_3 l0_3.length l0_3) (hc0_3 : l0_3.length ≤ c0_3) (hr0_4 : Kd.C (Kd.int .i64) w A0_4 l0_4.length l0_4) (hc0_4 : l0_4.length ≤ c0_4) (h : spec_InsOk.f k a0_0 a0_1 a0_2 l0_3 l0_4 = some r) :
    Calls Try.prog 12 #[.agg #[.int .i64 a0_0, .int .i64 a0_1, .int .i64 a0_2, .slice A0_3 l0_3.length c0_3, .slice A0_4 l0_4.length c0_4]] w fun e w' => e = .returned (.bool r) ∧ Below w.heap.size w w' := by
  have hu28 := Try.underlying28
  have HR0_3 := Aside0.mk hr0_3
  have HC0_3 := Aside0.mk hc0_3
  clear hr0_3 hc0_3
  have HR0_4 := Aside0.mk hr0_4
  have HC0_4 := Aside0.mk hc0_4
  clear hr0_4 hc0_4
  have HB := Aside0.mk (Below.refl w.heap.size w)
  have H : (if a0_0 < 0 then (spec_InsOk.j0 k true a0_0 a0_1 a0_2 l0_3 l0_4) else (spec_InsOk.j0 k (decide (a0_0 > 31)) a0_0 a0_1 a0_2 l0_3 l0_4)) = some r := h
  clear h
  have HC2 := Aside0.mk H
  clear H
  go_enter Try.func12, Try.ntmps12
  go_upto_region 1 with (first | ((with_reducible refine gate_dst (N := 1) rfl ?_); (try (refine gate_guard (by rfl) ?_; dsimp only)); refine box_event ?hg (N := 1) ?hd (cs := #[.int .i64 a0_0, .int .i64 a0_1, .int .i64 a0_2, .slice A0_3 l0_3.length c0_3, .slice A0_4 l0_4.length c0_4]) (t := 28) ?hr ?_; (case hd => rfl); (case hg => rfl); (case hr => first | (go_simp; done) | (go_simp; rfl)); intro gb108 hg w3 hbox hb; have n0_ := Aside0.mk (below_step (by repeat (first | (with_reducible first | exact HB.out | apply below_alloc | apply pw_below_drewN | apply below_drew1) | exact HB.out)) hb); have n1_ := Aside0.mk (hbox); have n2_ := Aside0.mk ((by rw [hg]; exact (below_size (by repeat (first | (with_reducible first | exact HB.out | apply below_alloc | apply pw_below_drewN | apply below_drew1) | exact HB.out))) : w.heap.size ≤ gb108)); have n3_ := Aside0.mk ((by rw [hg]; exact (below_size (by repeat (first | (with_reducible first | exact HB.out | apply below_alloc | apply pw_below_drewN | apply below_drew1) | exact HB.out))) : w.heap.size ≤ gb108)); clear HB; have HB := n0_; have BK108 := n1_; have GW108 := n2_; have GE108 := n3_; clear n0_ n1_ n2_ n3_; clear hb hbox hg))
  (try simp only [Act.put, List.setIfInBounds_toArray, List.set_cons_zero, List.set_cons_succ])
  go_cut [12] (fun v12 wc => ∃ (kq : Nat) (x12_1 : Bool), v12 = .bool x12_1 ∧ Aside0 (spec_InsOk.j0 kq x12_1 a0_0 a0_1 a0_2 l0_3 l0_4 = some r) ∧ Aside0 (kq ≤ k) ∧ Aside0 (wc.heap[gb108]? = some (.cells #[.int .i64 a0_0, .int .i64 a0_1, .int .i64 a0_2, (.slice A0_3 l0_3.length c0_3), (.slice A0_4 l0_4.length c0_4)] 28 (0, 0))) ∧ Aside0 (Below w.heap.size w wc))
  case first =>
    have H := HC2.out
    clear HC2
    by_cases c4 : a0_0 < 0
    · rw [if_pos c4] at H
      have c4b0 : decide (a0_0 < 0) = true := decide_eq_true c4
      clear c4
      (first | rw [c4b0] | (simp only [i64_w, i32_w]; rw [c4b0]) | skip)
      have H' := Aside0.mk H
      clear H
      have hcz5_0 : w3.cell? ⟨gb108, 0, none⟩ = some (.int .i64 a0_0) := (blk_cell BK108.out 0).trans rfl
      have hcz5_1 : w3.cell? ⟨gb108, 1, none⟩ = some (.int .i64 a0_1) := (blk_cell BK108.out 1).trans rfl
      have hcz5_2 : w3.cell? ⟨gb108, 2, none⟩ = some (.int .i64 a0_2) := (blk_cell BK108.out 2).trans rfl
      have hcz5_3 : w3.cell? ⟨gb108, 3, none⟩ = some (.slice A0_3 l0_3.length c0_3) := (blk_cell BK108.out 3).trans rfl
      have hcz5_4 : w3.cell? ⟨gb108, 4, none⟩ = some (.slice A0_4 l0_4.length c0_4) := (blk_cell BK108.out 4).trans rfl
      have hfz5_0 := blk_frozen BK108.out 0
      have hfz5_1 := blk_frozen BK108.out 1
      have hfz5_2 := blk_frozen BK108.out 2
      have hfz5_3 := blk_frozen BK108.out 3
      have hfz5_4 := blk_frozen BK108.out 4
      go_wp2
      go_meet
      case rel => exact ⟨_, (true), (by first | rfl | (simp; done) | (simp [*]; done) | (simp [bne]; done)), H', ⟨by first | omega | exact Nat.le_refl _⟩, ⟨by (with_reducible repeat (first | refine blk_drewN ?_ _ | refine blk_drew ?_ | refine blk_alloc ?_ _)); exact BK108.out⟩, ⟨by repeat (first | (with_reducible first | exact HB.out | apply below_alloc | apply pw_below_drewN | apply below_drew1 | refine below_set ?_ GE108.out) | exact HB.out)⟩⟩
    · rw [if_neg c4] at H
      have c4b0 : decide (a0_0 < 0) = false := decide_eq_false c4
      clear c4
      (first | rw [c4b0] | (simp only [i64_w, i32_w]; rw [c4b0]) | skip)
      have H' := Aside0.mk H
      clear H
      have hcz6_0 : w3.cell? ⟨gb108, 0, none⟩ = some (.int .i64 a0_0) := (blk_cell BK108.out 0).trans rfl
      have hcz6_1 : w3.cell? ⟨gb108, 1, none⟩ = some (.int .i64 a0_1) := (blk_cell BK108.out 1).trans rfl
      have hcz6_2 : w3.cell? ⟨gb108, 2, none⟩ = some (.int .i64 a0_2) := (blk_cell BK108.out 2).trans rfl
      have hcz6_3 : w3.cell? ⟨gb108, 3, none⟩ = some (.slice A0_3 l0_3.length c0_3) := (blk_cell BK108.out 3).trans rfl
      have hcz6_4 : w3.cell? ⟨gb108, 4, none⟩ = some (.slice A0_4 l0_4.length c0_4) := (blk_cell BK108.out 4).trans rfl
      have hfz6_0 := blk_frozen BK108.out 0
      have hfz6_1 := blk_frozen BK108.out 1
      have hfz6_2 := blk_frozen BK108.out 2
      have hfz6_3 := blk_frozen BK108.out 3
      have hfz6_4 := blk_frozen BK108.out 4
      go_wp2
      go_meet
      case rel => exact ⟨_, (decide (a0_0 > 31)), (by first | rfl | (simp; done) | (simp [*]; done) | (simp [bne]; done)), H', ⟨by first | omega | exact Nat.le_refl _⟩, ⟨by (with_reducible repeat (first | refine blk_drewN ?_ _ | refine blk_drew ?_ | refine blk_alloc ?_ _)); exact BK108.out⟩, ⟨by repeat (first | (with_reducible first | exact HB.out | apply below_alloc | apply pw_below_drewN | apply below_drew1 | refine below_set ?_ GE108.out) | exact HB.out)⟩⟩
  case rest =>
    clear HC2
    try clear c1
    try clear p2
    try clear c4
    try clear c4b0
    try clear hcz5_0
    try clear hcz5_1
    try clear hcz5_2
    try clear hcz5_3
    try clear hcz5_4
    try clear hcz6_0
    try clear hcz6_1
    try clear hcz6_2
    try clear hcz6_3
    try clear hcz6_4
    try clear hfz5_0
    try clear hfz5_1
    try clear hfz5_2
    try clear hfz5_3
    try clear hfz5_4
    try clear hfz6_0
    try clear hfz6_1
    try clear hfz6_2
    try clear hfz6_3
    try clear hfz6_4
    obtain ⟨kq, x12_1, rfl, HA, HJ1, BK108, HB⟩ := hcut
    cases kq with
    | zero => exact absurd HA.out (by simp [spec_InsOk.j0])
    | succ kj1 =>
      have H := HA.out
      clear HA
      simp only [spec_InsOk.j0] at H
      by_cases c7 : x12_1 = true
      · subst c7
        have H1 : (some false) = some r := by rw [if_pos rfl] at H; exact H
        clear H
        have H := H1
        clear H1
        obtain rfl := Option.some.inj H
        go_wp2
        go_ret
        exact ⟨by first | rfl | (simp [errW_none, errW_some] <;> rfl) | (simp [*, errW_none, errW_some] <;> rfl), by repeat (first | (with_reducible first | exact HB.out | apply below_alloc | apply pw_below_drewN | apply below_drew1 | refine below_set ?_ GE108.out) | exact HB.out)⟩
      · replace c7 := Bool.eq_false_iff.mpr c7
        subst c7
        have H1 : ((spec_l8parts.f kj1 a0_0).bind fun t109 => (if a0_0 = 1 then ((spec_l5intOk.f a0_1).bind fun t110 => (if t110 = true then (spec_InsOk.j1 kj1 t109 a0_0 a0_1 a0_2 l0_3 l0_4) else (some false))) else (if a0_1 < 0 then (some false) else (if a0_1 > 2147483647 then (some false) else (if a0_1 = 0 then (spec_InsOk.j1 kj1 t109 a0_0 a0_1 a0_2 l0_3 l0_4) else (if t109 = 0 then (some false) else (if t109 = 4 then (some false) else (spec_InsOk.j1 kj1 t109 a0_0 a0_1 a0_2 l0_3 l0_4)))))))) = some r := by rw [if_neg (show ¬ (false = true) by decide)] at H; exact H
        clear H
        have H := H1
        clear H1
        replace H := Option.bind_eq_some_iff.mp H
        obtain ⟨t109, A80, H⟩ := H
        replace H : (if a0_0 = 1 then ((spec_l5intOk.f a0_1).bind fun t110 => (if t110 = true then (spec_InsOk.j1 kj1 t109 a0_0 a0_1 a0_2 l0_3 l0_4) else (some false))) else (if a0_1 < 0 then (some false) else (if a0_1 > 2147483647 then (some false) else (if a0_1 = 0 then (spec_InsOk.j1 kj1 t109 a0_0 a0_1 a0_2 l0_3 l0_4) else (if t109 = 0 then (some false) else (if t109 = 4 then (some false) else (spec_InsOk.j1 kj1 t109 a0_0 a0_1 a0_2 l0_3 l0_4))))))) = some r := H
        have A8 := Aside0.mk A80
        clear A80
        have HC9 := Aside0.mk H
        clear H
        have hcz10_0 : wc.cell? ⟨gb108, 0, none⟩ = some (.int .i64 a0_0) := (blk_cell BK108.out 0).trans rfl
        have hcz10_1 : wc.cell? ⟨gb108, 1, none⟩ = some (.int .i64 a0_1) := (blk_cell BK108.out 1).trans rfl
        have hcz10_2 : wc.cell? ⟨gb108, 2, none⟩ = some (.int .i64 a0_2) := (blk_cell BK108.out 2).trans rfl
        have hcz10_3 : wc.cell? ⟨gb108, 3, none⟩ = some (.slice A0_3 l0_3.length c0_3) := (blk_cell BK108.out 3).trans rfl
        have hcz10_4 : wc.cell? ⟨gb108, 4, none⟩ = some (.slice A0_4 l0_4.length c0_4) := (blk_cell BK108.out 4).trans rfl
        have hfz10_0 := blk_frozen BK108.out 0
        have hfz10_1 := blk_frozen BK108.out 1
        have hfz10_2 := blk_frozen BK108.out 2
        have hfz10_3 := blk_frozen BK108.out 3
        have hfz10_4 := blk_frozen BK108.out 4
        go_upto_if 18 with (first | ((with_reducible refine gate_callee (f := 51) rfl ?_); refine goesL_ (some 15) rfl rfl Try.func51 (by kernel_rfl) rfl #[.int .i64 a0_0] rfl (by (try simp only [List.map_toArray, List.map_cons, List.map_nil]); first | done | rfl | (simp only [List.length_drop, List.length_take]; rfl)) ?_; (with_reducible refine (spec_l8parts.calls kj1 a0_0 t109 _ A8.out).mono ?_); rintro e w' ⟨rfl, ⟨nd, rfl⟩⟩; refine ⟨_, rfl, ?_⟩))
        (try simp only [Act.put, List.setIfInBounds_toArray, List.set_cons_zero, List.set_cons_succ])
        go_cut [] (fun wc => ∃ (kq : Nat), Aside0 (spec_InsOk.j1 kq t109 a0_0 a0_1 a0_2 l0_3 l0_4 = some r) ∧ Aside0 (kq ≤ kj1) ∧ Aside0 (wc.heap[gb108]? = some (.cells #[.int .i64 a0_0, .int .i64 a0_1, .int .i64 a0_2, (.slice A0_3 l0_3.length c0_3), (.slice A0_4 l0_4.length c0_4)] 28 (0, 0))) ∧ Aside0 (Below w.heap.size w wc))
        case first =>
          have H := HC9.out
          clear HC9
          by_cases c11 : a0_0 = 1
          · rw [if_pos c11] at H
            have c11b0 : (a0_0 == 1) = true := beq_iff_eq.mpr c11
            have c11b1 : (a0_0 != 1) = false := bne_eq_false_iff_eq.mpr c11
            clear c11
            (first | rw [c11b0] | (simp only [i64_w, i32_w]; rw [c11b0]) | skip)
            replace H := Option.bind_eq_some_iff.mp H
            obtain ⟨t110, A120, H⟩ := H
            replace H : (if t110 = true then (spec_InsOk.j1 kj1 t109 a0_0 a0_1 a0_2 l0_3 l0_4) else (some false)) = some r := H
            have A12 := Aside0.mk A120
            clear A120
            by_cases c13 : t110 = true
            · subst c13
              have H1 : (spec_InsOk.j1 kj1 t109 a0_0 a0_1 a0_2 l0_3 l0_4) = some r := by rw [if_pos rfl] at H; exact H
              clear H
              have H := H1
              clear H1
              have H' := Aside0.mk H
              clear H
              have hcz14_0 : wc.cell? ⟨gb108, 0, none⟩ = some (.int .i64 a0_0) := (blk_cell BK108.out 0).trans rfl
              have hcz14_1 : wc.cell? ⟨gb108, 1, none⟩ = some (.int .i64 a0_1) := (blk_cell BK108.out 1).trans rfl
              have hcz14_2 : wc.cell? ⟨gb108, 2, none⟩ = some (.int .i64 a0_2) := (blk_cell BK108.out 2).trans rfl
              have hcz14_3 : wc.cell? ⟨gb108, 3, none⟩ = some (.slice A0_3 l0_3.length c0_3) := (blk_cell BK108.out 3).trans rfl
              have hcz14_4 : wc.cell? ⟨gb108, 4, none⟩ = some (.slice A0_4 l0_4.length c0_4) := (blk_cell BK108.out 4).trans rfl
              have hfz14_0 := blk_frozen BK108.out 0
              have hfz14_1 := blk_frozen BK108.out 1
              have hfz14_2 := blk_frozen BK108.out 2
              have hfz14_3 := blk_frozen BK108.out 3
              have hfz14_4 := blk_frozen BK108.out 4
              go_wp2_with (first | ((with_reducible refine gate_callee (f := 52) rfl ?_); refine goesL_ (some 21) rfl rfl Try.func52 (by kernel_rfl) rfl #[.int .i64 a0_1] rfl (by (try simp only [List.map_toArray, List.map_cons, List.map_nil]); first | done | rfl | (simp only [List.length_drop, List.length_take]; rfl)) ?_; (with_reducible refine (spec_l5intOk.calls a0_1 true _ A12.out).mono ?_); rintro e w' ⟨rfl, ⟨nd, rfl⟩⟩; refine ⟨_, rfl, ?_⟩))
              go_meet
              case rel => exact ⟨_, H', ⟨by have := HJ1.out; first | omega | exact Nat.le_refl _⟩, ⟨by (with_reducible repeat (first | refine blk_drewN ?_ _ | refine blk_drew ?_ | refine blk_alloc ?_ _)); exact BK108.out⟩, ⟨by repeat (first | (with_reducible first | exact HB.out | apply below_alloc | apply pw_below_drewN | apply below_drew1 | refine below_set ?_ GE108.out) | exact HB.out)⟩⟩
            · replace c13 := Bool.eq_false_iff.mpr c13
              subst c13
              have H1 : (some false) = some r := by rw [if_neg (show ¬ (false = true) by decide)] at H; exact H
              clear H
              have H := H1
              clear H1
              obtain rfl := Option.some.inj H
              have hcz15_0 : wc.cell? ⟨gb108, 0, none⟩ = some (.int .i64 a0_0) := (blk_cell BK108.out 0).trans rfl
              have hcz15_1 : wc.cell? ⟨gb108, 1, none⟩ = some (.int .i64 a0_1) := (blk_cell BK108.out 1).trans rfl
              have hcz15_2 : wc.cell? ⟨gb108, 2, none⟩ = some (.int .i64 a0_2) := (blk_cell BK108.out 2).trans rfl
              have hcz15_3 : wc.cell? ⟨gb108, 3, none⟩ = some (.slice A0_3 l0_3.length c0_3) := (blk_cell BK108.out 3).trans rfl
              have hcz15_4 : wc.cell? ⟨gb108, 4, none⟩ = some (.slice A0_4 l0_4.length c0_4) := (blk_cell BK108.out 4).trans rfl
              have hfz15_0 := blk_frozen BK108.out 0
              have hfz15_1 := blk_frozen BK108.out 1
              have hfz15_2 := blk_frozen BK108.out 2
              have hfz15_3 := blk_frozen BK108.out 3
              have hfz15_4 := blk_frozen BK108.out 4
              go_wp2_with (first | ((with_reducible refine gate_callee (f := 52) rfl ?_); refine goesL_ (some 21) rfl rfl Try.func52 (by kernel_rfl) rfl #[.int .i64 a0_1] rfl (by (try simp only [List.map_toArray, List.map_cons, List.map_nil]); first | done | rfl | (simp only [List.length_drop, List.length_take]; rfl)) ?_; (with_reducible refine (spec_l5intOk.calls a0_1 false _ A12.out).mono ?_); rintro e w' ⟨rfl, ⟨nd, rfl⟩⟩; refine ⟨_, rfl, ?_⟩))
              go_ret
              exact ⟨by first | rfl | (simp [errW_none, errW_some] <;> rfl) | (simp [*, errW_none, errW_some] <;> rfl), by repeat (first | (with_reducible first | exact HB.out | apply below_alloc | apply pw_below_drewN | apply below_drew1 | refine below_set ?_ GE108.out) | exact HB.out)⟩
          · rw [if_neg c11] at H
            have c11b0 : (a0_0 == 1) = false := beq_eq_false_iff_ne.mpr c11
            have c11b1 : (a0_0 != 1) = true := bne_iff_ne.mpr c11
            (first | rw [c11b0] | (simp only [i64_w, i32_w]; rw [c11b0]) | skip)
            by_cases c16 : a0_1 < 0
            · rw [if_pos c16] at H
              have c16b0 : decide (a0_1 < 0) = true := decide_eq_true c16
              clear c16
              obtain rfl := Option.some.inj H
              have hcz17_0 : wc.cell? ⟨gb108, 0, none⟩ = some (.int .i64 a0_0) := (blk_cell BK108.out 0).trans rfl
              have hcz17_1 : wc.cell? ⟨gb108, 1, none⟩ = some (.int .i64 a0_1) := (blk_cell BK108.out 1).trans rfl
              have hcz17_2 : wc.cell? ⟨gb108, 2, none⟩ = some (.int .i64 a0_2) := (blk_cell BK108.out 2).trans rfl
              have hcz17_3 : wc.cell? ⟨gb108, 3, none⟩ = some (.slice A0_3 l0_3.length c0_3) := (blk_cell BK108.out 3).trans rfl
              have hcz17_4 : wc.cell? ⟨gb108, 4, none⟩ = some (.slice A0_4 l0_4.length c0_4) := (blk_cell BK108.out 4).trans rfl
              have hfz17_0 := blk_frozen BK108.out 0
              have hfz17_1 := blk_frozen BK108.out 1
              have hfz17_2 := blk_frozen BK108.out 2
              have hfz17_3 := blk_frozen BK108.out 3
              have hfz17_4 := blk_frozen BK108.out 4
              go_wp2
              go_ret
              exact ⟨by first | rfl | (simp [errW_none, errW_some] <;> rfl) | (simp [*, errW_none, errW_some] <;> rfl), by repeat (first | (with_reducible first | exact HB.out | apply below_alloc | apply pw_below_drewN | apply below_drew1 | refine below_set ?_ GE108.out) | exact HB.out)⟩
            · rw [if_neg c16] at H
              have c16b0 : decide (a0_1 < 0) = false := decide_eq_false c16
              clear c16
              by_cases c18 : a0_1 > 2147483647
              · rw [if_pos c18] at H
                have c18b0 : decide (2147483647 < a0_1) = true := decide_eq_true c18
                clear c18
                obtain rfl := Option.some.inj H
                have hcz19_0 : wc.cell? ⟨gb108, 0, none⟩ = some (.int .i64 a0_0) := (blk_cell BK108.out 0).trans rfl
                have hcz19_1 : wc.cell? ⟨gb108, 1, none⟩ = some (.int .i64 a0_1) := (blk_cell BK108.out 1).trans rfl
                have hcz19_2 : wc.cell? ⟨gb108, 2, none⟩ = some (.int .i64 a0_2) := (blk_cell BK108.out 2).trans rfl
                have hcz19_3 : wc.cell? ⟨gb108, 3, none⟩ = some (.slice A0_3 l0_3.length c0_3) := (blk_cell BK108.out 3).trans rfl
                have hcz19_4 : wc.cell? ⟨gb108, 4, none⟩ = some (.slice A0_4 l0_4.length c0_4) := (blk_cell BK108.out 4).trans rfl
                have hfz19_0 := blk_frozen BK108.out 0
                have hfz19_1 := blk_frozen BK108.out 1
                have hfz19_2 := blk_frozen BK108.out 2
                have hfz19_3 := blk_frozen BK108.out 3
                have hfz19_4 := blk_frozen BK108.out 4
                go_wp2
                go_ret
                exact ⟨by first | rfl | (simp [errW_none, errW_some] <;> rfl) | (simp [*, errW_none, errW_some] <;> rfl), by repeat (first | (with_reducible first | exact HB.out | apply below_alloc | apply pw_below_drewN | apply below_drew1 | refine below_set ?_ GE108.out) | exact HB.out)⟩
              · rw [if_neg c18] at H
                have c18b0 : decide (2147483647 < a0_1) = false := decide_eq_false c18
                clear c18
                by_cases c20 : a0_1 = 0
                · rw [if_pos c20] at H
                  have c20b0 : (a0_1 == 0) = true := beq_iff_eq.mpr c20
                  have c20b1 : (a0_1 != 0) = false := bne_eq_false_iff_eq.mpr c20
                  clear c20
                  have H' := Aside0.mk H
                  clear H
                  have hcz21_0 : wc.cell? ⟨gb108, 0, none⟩ = some (.int .i64 a0_0) := (blk_cell BK108.out 0).trans rfl
                  have hcz21_1 : wc.cell? ⟨gb108, 1, none⟩ = some (.int .i64 a0_1) := (blk_cell BK108.out 1).trans rfl
                  have hcz21_2 : wc.cell? ⟨gb108, 2, none⟩ = some (.int .i64 a0_2) := (blk_cell BK108.out 2).trans rfl
                  have hcz21_3 : wc.cell? ⟨gb108, 3, none⟩ = some (.slice A0_3 l0_3.length c0_3) := (blk_cell BK108.out 3).trans rfl
                  have hcz21_4 : wc.cell? ⟨gb108, 4, none⟩ = some (.slice A0_4 l0_4.length c0_4) := (blk_cell BK108.out 4).trans rfl
                  have hfz21_0 := blk_frozen BK108.out 0
                  have hfz21_1 := blk_frozen BK108.out 1
                  have hfz21_2 := blk_frozen BK108.out 2
                  have hfz21_3 := blk_frozen BK108.out 3
                  have hfz21_4 := blk_frozen BK108.out 4
                  go_wp2
                  go_meet
                  case rel => exact ⟨_, H', ⟨by have := HJ1.out; first | omega | exact Nat.le_refl _⟩, ⟨by (with_reducible repeat (first | refine blk_drewN ?_ _ | refine blk_drew ?_ | refine blk_alloc ?_ _)); exact BK108.out⟩, ⟨by repeat (first | (with_reducible first | exact HB.out | apply below_alloc | apply pw_below_drewN | apply below_drew1 | refine below_set ?_ GE108.out) | exact HB.out)⟩⟩
                · rw [if_neg c20] at H
                  have c20b0 : (a0_1 == 0) = false := beq_eq_false_iff_ne.mpr c20
                  have c20b1 : (a0_1 != 0) = true := bne_iff_ne.mpr c20
                  by_cases c22 : t109 = 0
                  · rw [if_pos c22] at H
                    have c22b0 : (t109 == 0) = true := beq_iff_eq.mpr c22
                    have c22b1 : (t109 != 0) = false := bne_eq_false_iff_eq.mpr c22
                    clear c22
                    obtain rfl := Option.some.inj H
                    have hcz23_0 : wc.cell? ⟨gb108, 0, none⟩ = some (.int .i64 a0_0) := (blk_cell BK108.out 0).trans rfl
                    have hcz23_1 : wc.cell? ⟨gb108, 1, none⟩ = some (.int .i64 a0_1) := (blk_cell BK108.out 1).trans rfl
                    have hcz23_2 : wc.cell? ⟨gb108, 2, none⟩ = some (.int .i64 a0_2) := (blk_cell BK108.out 2).trans rfl
                    have hcz23_3 : wc.cell? ⟨gb108, 3, none⟩ = some (.slice A0_3 l0_3.length c0_3) := (blk_cell BK108.out 3).trans rfl
                    have hcz23_4 : wc.cell? ⟨gb108, 4, none⟩ = some (.slice A0_4 l0_4.length c0_4) := (blk_cell BK108.out 4).trans rfl
                    have hfz23_0 := blk_frozen BK108.out 0
                    have hfz23_1 := blk_frozen BK108.out 1
                    have hfz23_2 := blk_frozen BK108.out 2
                    have hfz23_3 := blk_frozen BK108.out 3
                    have hfz23_4 := blk_frozen BK108.out 4
                    go_wp2
                    go_ret
                    exact ⟨by first | rfl | (simp [errW_none, errW_some] <;> rfl) | (simp [*, errW_none, errW_some] <;> rfl), by repeat (first | (with_reducible first | exact HB.out | apply below_alloc | apply pw_below_drewN | apply below_drew1 | refine below_set ?_ GE108.out) | exact HB.out)⟩
                  · rw [if_neg c22] at H
                    have c22b0 : (t109 == 0) = false := beq_eq_false_iff_ne.mpr c22
                    have c22b1 : (t109 != 0) = true := bne_iff_ne.mpr c22
                    by_cases c24 : t109 = 4
                    · rw [if_pos c24] at H
                      have c24b0 : (t109 == 4) = true := beq_iff_eq.mpr c24
                      have c24b1 : (t109 != 4) = false := bne_eq_false_iff_eq.mpr c24
                      clear c24
                      obtain rfl := Option.some.inj H
                      have hcz25_0 : wc.cell? ⟨gb108, 0, none⟩ = some (.int .i64 a0_0) := (blk_cell BK108.out 0).trans rfl
                      have hcz25_1 : wc.cell? ⟨gb108, 1, none⟩ = some (.int .i64 a0_1) := (blk_cell BK108.out 1).trans rfl
                      have hcz25_2 : wc.cell? ⟨gb108, 2, none⟩ = some (.int .i64 a0_2) := (blk_cell BK108.out 2).trans rfl
                      have hcz25_3 : wc.cell? ⟨gb108, 3, none⟩ = some (.slice A0_3 l0_3.length c0_3) := (blk_cell BK108.out 3).trans rfl
                      have hcz25_4 : wc.cell? ⟨gb108, 4, none⟩ = some (.slice A0_4 l0_4.length c0_4) := (blk_cell BK108.out 4).trans rfl
                      have hfz25_0 := blk_frozen BK108.out 0
                      have hfz25_1 := blk_frozen BK108.out 1
                      have hfz25_2 := blk_frozen BK108.out 2
                      have hfz25_3 := blk_frozen BK108.out 3
                      have hfz25_4 := blk_frozen BK108.out 4
                      go_wp2
                      go_ret
                      exact ⟨by first | rfl | (simp [errW_none, errW_some] <;> rfl) | (simp [*, errW_none, errW_some] <;> rfl), by repeat (first | (with_reducible first | exact HB.out | apply below_alloc | apply pw_below_drewN | apply below_drew1 | refine below_set ?_ GE108.out) | exact HB.out)⟩
                    · rw [if_neg c24] at H
                      have c24b0 : (t109 == 4) = false := beq_eq_false_iff_ne.mpr c24
                      have c24b1 : (t109 != 4) = true := bne_iff_ne.mpr c24
                      have H' := Aside0.mk H
                      clear H
                      have hcz26_0 : wc.cell? ⟨gb108, 0, none⟩ = some (.int .i64 a0_0) := (blk_cell BK108.out 0).trans rfl
                      have hcz26_1 : wc.cell? ⟨gb108, 1, none⟩ = some (.int .i64 a0_1) := (blk_cell BK108.out 1).trans rfl
                      have hcz26_2 : wc.cell? ⟨gb108, 2, none⟩ = some (.int .i64 a0_2) := (blk_cell BK108.out 2).trans rfl
                      have hcz26_3 : wc.cell? ⟨gb108, 3, none⟩ = some (.slice A0_3 l0_3.length c0_3) := (blk_cell BK108.out 3).trans rfl
                      have hcz26_4 : wc.cell? ⟨gb108, 4, none⟩ = some (.slice A0_4 l0_4.length c0_4) := (blk_cell BK108.out 4).trans rfl
                      have hfz26_0 := blk_frozen BK108.out 0
                      have hfz26_1 := blk_frozen BK108.out 1
                      have hfz26_2 := blk_frozen BK108.out 2
                      have hfz26_3 := blk_frozen BK108.out 3
                      have hfz26_4 := blk_frozen BK108.out 4
                      go_wp2
                      go_meet
                      case rel => exact ⟨_, H', ⟨by have := HJ1.out; first | omega | exact Nat.le_refl _⟩, ⟨by (with_reducible repeat (first | refine blk_drewN ?_ _ | refine blk_drew ?_ | refine blk_alloc ?_ _)); exact BK108.out⟩, ⟨by repeat (first | (with_reducible first | exact HB.out | apply below_alloc | apply pw_below_drewN | apply below_drew1 | refine below_set ?_ GE108.out) | exact HB.out)⟩⟩
        case rest =>
          clear HC9
          try clear c1
          try clear c2
          try clear p2
          try clear c4
          try clear c4b0
          try clear c5
          try clear c7
          try clear c11
          try clear c11b0
          try clear c11b1
          try clear c12
          try clear c13
          try clear c16
          try clear c16b0
          try clear c18
          try clear c18b0
          try clear c20
          try clear c20b0
          try clear c20b1
          try clear c22
          try clear c22b0
          try clear c22b1
          try clear c24
          try clear c24b0
          try clear c24b1
          try clear hcz10_0
          try clear hcz10_1
          try clear hcz10_2
          try clear hcz10_3
          try clear hcz10_4
          try clear hcz14_0
          try clear hcz14_1
          try clear hcz14_2
          try clear hcz14_3
          try clear hcz14_4
          try clear hcz15_0
          try clear hcz15_1
          try clear hcz15_2
          try clear hcz15_3
          try clear hcz15_4
          try clear hcz17_0
          try clear hcz17_1
          try clear hcz17_2
          try clear hcz17_3
          try clear hcz17_4
          try clear hcz19_0
          try clear hcz19_1
          try clear hcz19_2
          try clear hcz19_3
          try clear hcz19_4
          try clear hcz21_0
          try clear hcz21_1
          try clear hcz21_2
          try clear hcz21_3
          try clear hcz21_4
          try clear hcz23_0
          try clear hcz23_1
          try clear hcz23_2
          try clear hcz23_3
          try clear hcz23_4
          try clear hcz25_0
          try clear hcz25_1
          try clear hcz25_2
          try clear hcz25_3
          try clear hcz25_4
          try clear hcz26_0
          try clear hcz26_1
          try clear hcz26_2
          try clear hcz26_3
          try clear hcz26_4
          try clear hcz5_0
          try clear hcz5_1
          try clear hcz5_2
          try clear hcz5_3
          try clear hcz5_4
          try clear hcz6_0
          try clear hcz6_1
          try clear hcz6_2
          try clear hcz6_3
          try clear hcz6_4
          try clear hfz10_0
          try clear hfz10_1
          try clear hfz10_2
          try clear hfz10_3
          try clear hfz10_4
          try clear hfz14_0
          try clear hfz14_1
          try clear hfz14_2
          try clear hfz14_3
          try clear hfz14_4
          try clear hfz15_0
          try clear hfz15_1
          try clear hfz15_2
          try clear hfz15_3
          try clear hfz15_4
          try clear hfz17_0
          try clear hfz17_1
          try clear hfz17_2
          try clear hfz17_3
          try clear hfz17_4
          try clear hfz19_0
          try clear hfz19_1
          try clear hfz19_2
          try clear hfz19_3
          try clear hfz19_4
          try clear hfz21_0
          try clear hfz21_1
          try clear hfz21_2
          try clear hfz21_3
          try clear hfz21_4
          try clear hfz23_0
          try clear hfz23_1
          try clear hfz23_2
          try clear hfz23_3
          try clear hfz23_4
          try clear hfz25_0
          try clear hfz25_1
          try clear hfz25_2
          try clear hfz25_3
          try clear hfz25_4
          try clear hfz26_0
          try clear hfz26_1
          try clear hfz26_2
          try clear hfz26_3
          try clear hfz26_4
          try clear hfz5_0
          try clear hfz5_1
          try clear hfz5_2
          try clear hfz5_3
          try clear hfz5_4
          try clear hfz6_0
          try clear hfz6_1
          try clear hfz6_2
          try clear hfz6_3
          try clear hfz6_4
          try clear p2
          obtain ⟨kq, HA, HJ8, BK108, HB⟩ := hcut
          cases kq with
          | zero => exact absurd HA.out (by simp [spec_InsOk.j1])
          | succ kj8 =>
            have H := HA.out
            clear HA
            simp only [spec_InsOk.j1] at H
            have HC27 := Aside0.mk H
            clear H
            go_upto_region 9 with (fail)
            go_cut [91] (fun v91 wc => ∃ (kq : Nat) (x91_26 : Bool), v91 = .bool x91_26 ∧ Aside0 (spec_InsOk.j2 kq x91_26 a0_0 a0_1 a0_2 l0_3 l0_4 = some r) ∧ Aside0 (kq ≤ kj8) ∧ Aside0 (wc.heap[gb108]? = some (.cells #[.int .i64 a0_0, .int .i64 a0_1, .int .i64 a0_2, (.slice A0_3 l0_3.length c0_3), (.slice A0_4 l0_4.length c0_4)] 28 (0, 0))) ∧ Aside0 (Below w.heap.size w wc))
            case first =>
              have H := HC27.out
              clear HC27
              by_cases c28 : a0_2 < 0
              · rw [if_pos c28] at H
                have c28b0 : decide (a0_2 < 0) = true := decide_eq_true c28
                clear c28
                (first | rw [c28b0] | (simp only [i64_w, i32_w]; rw [c28b0]) | skip)
                have H' := Aside0.mk H
                clear H
                have hcz29_0 : wc.cell? ⟨gb108, 0, none⟩ = some (.int .i64 a0_0) := (blk_cell BK108.out 0).trans rfl
                have hcz29_1 : wc.cell? ⟨gb108, 1, none⟩ = some (.int .i64 a0_1) := (blk_cell BK108.out 1).trans rfl
                have hcz29_2 : wc.cell? ⟨gb108, 2, none⟩ = some (.int .i64 a0_2) := (blk_cell BK108.out 2).trans rfl
                have hcz29_3 : wc.cell? ⟨gb108, 3, none⟩ = some (.slice A0_3 l0_3.length c0_3) := (blk_cell BK108.out 3).trans rfl
                have hcz29_4 : wc.cell? ⟨gb108, 4, none⟩ = some (.slice A0_4 l0_4.length c0_4) := (blk_cell BK108.out 4).trans rfl
                have hfz29_0 := blk_frozen BK108.out 0
                have hfz29_1 := blk_frozen BK108.out 1
                have hfz29_2 := blk_frozen BK108.out 2
                have hfz29_3 := blk_frozen BK108.out 3
                have hfz29_4 := blk_frozen BK108.out 4
                go_wp2
                go_meet
                case rel => exact ⟨_, (true), (by first | rfl | (simp; done) | (simp [*]; done) | (simp [bne]; done)), H', ⟨by have := HJ1.out; have := HJ8.out; first | omega | exact Nat.le_refl _⟩, ⟨by (with_reducible repeat (first | refine blk_drewN ?_ _ | refine blk_drew ?_ | refine blk_alloc ?_ _)); exact BK108.out⟩, ⟨by repeat (first | (with_reducible first | exact HB.out | apply below_alloc | apply pw_below_drewN | apply below_drew1 | refine below_set ?_ GE108.out) | exact HB.out)⟩⟩
              · rw [if_neg c28] at H
                have c28b0 : decide (a0_2 < 0) = false := decide_eq_false c28
                clear c28
                (first | rw [c28b0] | (simp only [i64_w, i32_w]; rw [c28b0]) | skip)
                by_cases c30 : a0_2 > 2147483647
                · rw [if_pos c30] at H
                  have c30b0 : decide (2147483647 < a0_2) = true := decide_eq_true c30
                  clear c30
                  have H' := Aside0.mk H
                  clear H
                  have hcz31_0 : wc.cell? ⟨gb108, 0, none⟩ = some (.int .i64 a0_0) := (blk_cell BK108.out 0).trans rfl
                  have hcz31_1 : wc.cell? ⟨gb108, 1, none⟩ = some (.int .i64 a0_1) := (blk_cell BK108.out 1).trans rfl
                  have hcz31_2 : wc.cell? ⟨gb108, 2, none⟩ = some (.int .i64 a0_2) := (blk_cell BK108.out 2).trans rfl
                  have hcz31_3 : wc.cell? ⟨gb108, 3, none⟩ = some (.slice A0_3 l0_3.length c0_3) := (blk_cell BK108.out 3).trans rfl
                  have hcz31_4 : wc.cell? ⟨gb108, 4, none⟩ = some (.slice A0_4 l0_4.length c0_4) := (blk_cell BK108.out 4).trans rfl
                  have hfz31_0 := blk_frozen BK108.out 0
                  have hfz31_1 := blk_frozen BK108.out 1
                  have hfz31_2 := blk_frozen BK108.out 2
                  have hfz31_3 := blk_frozen BK108.out 3
                  have hfz31_4 := blk_frozen BK108.out 4
                  go_wp2
                  go_meet
                  case rel => exact ⟨_, (true), (by first | rfl | (simp; done) | (simp [*]; done) | (simp [bne]; done)), H', ⟨by have := HJ1.out; have := HJ8.out; first | omega | exact Nat.le_refl _⟩, ⟨by (with_reducible repeat (first | refine blk_drewN ?_ _ | refine blk_drew ?_ | refine blk_alloc ?_ _)); exact BK108.out⟩, ⟨by repeat (first | (with_reducible first | exact HB.out | apply below_alloc | apply pw_below_drewN | apply below_drew1 | refine below_set ?_ GE108.out) | exact HB.out)⟩⟩
                · rw [if_neg c30] at H
                  have c30b0 : decide (2147483647 < a0_2) = false := decide_eq_false c30
                  clear c30
                  by_cases c32 : a0_2 = 0
                  · rw [if_pos c32] at H
                    have c32b0 : (a0_2 == 0) = true := beq_iff_eq.mpr c32
                    have c32b1 : (a0_2 != 0) = false := bne_eq_false_iff_eq.mpr c32
                    clear c32
                    by_cases c33 : (l0_3.length : Int) > 0
                    · rw [if_pos c33] at H
                      have c33b0 : decide (0 < (l0_3.length : Int)) = true := decide_eq_true c33
                      have c33b1 : decide (0 < l0_3.length) = true := decide_eq_true (by omega)
                      clear c33
                      by_cases c34 : t109 = 4
                      · rw [if_pos c34] at H
                        have c34b0 : (t109 == 4) = true := beq_iff_eq.mpr c34
                        have c34b1 : (t109 != 4) = false := bne_eq_false_iff_eq.mpr c34
                        clear c34
                        by_cases c35 : (l0_3.length : Int) > 20
                        · rw [if_pos c35] at H
                          have c35b0 : decide (20 < (l0_3.length : Int)) = true := decide_eq_true c35
                          have c35b1 : decide (20 < l0_3.length) = true := decide_eq_true (by omega)
                          clear c35
                          have H' := Aside0.mk H
                          clear H
                          have hcz36_0 : wc.cell? ⟨gb108, 0, none⟩ = some (.int .i64 a0_0) := (blk_cell BK108.out 0).trans rfl
                          have hcz36_1 : wc.cell? ⟨gb108, 1, none⟩ = some (.int .i64 a0_1) := (blk_cell BK108.out 1).trans rfl
                          have hcz36_2 : wc.cell? ⟨gb108, 2, none⟩ = some (.int .i64 a0_2) := (blk_cell BK108.out 2).trans rfl
                          have hcz36_3 : wc.cell? ⟨gb108, 3, none⟩ = some (.slice A0_3 l0_3.length c0_3) := (blk_cell BK108.out 3).trans rfl
                          have hcz36_4 : wc.cell? ⟨gb108, 4, none⟩ = some (.slice A0_4 l0_4.length c0_4) := (blk_cell BK108.out 4).trans rfl
                          have hfz36_0 := blk_frozen BK108.out 0
                          have hfz36_1 := blk_frozen BK108.out 1
                          have hfz36_2 := blk_frozen BK108.out 2
                          have hfz36_3 := blk_frozen BK108.out 3
                          have hfz36_4 := blk_frozen BK108.out 4
                          go_wp2
                          go_meet
                          case rel => exact ⟨_, (true), (by first | rfl | (simp; done) | (simp [*]; done) | (simp [bne]; done)), H', ⟨by have := HJ1.out; have := HJ8.out; first | omega | exact Nat.le_refl _⟩, ⟨by (with_reducible repeat (first | refine blk_drewN ?_ _ | refine blk_drew ?_ | refine blk_alloc ?_ _)); exact BK108.out⟩, ⟨by repeat (first | (with_reducible first | exact HB.out | apply below_alloc | apply pw_below_drewN | apply below_drew1 | refine below_set ?_ GE108.out) | exact HB.out)⟩⟩
                        · rw [if_neg c35] at H
                          have c35b0 : decide (20 < (l0_3.length : Int)) = false := decide_eq_false c35
                          have c35b1 : decide (20 < l0_3.length) = false := decide_eq_false (by omega)
                          clear c35
                          by_cases c37 : (l0_4.length : Int) > 5
                          · rw [if_pos c37] at H
                            have c37b0 : decide (5 < (l0_4.length : Int)) = true := decide_eq_true c37
                            have c37b1 : decide (5 < l0_4.length) = true := decide_eq_true (by omega)
                            clear c37
                            have H' := Aside0.mk H
                            clear H
                            have hcz38_0 : wc.cell? ⟨gb108, 0, none⟩ = some (.int .i64 a0_0) := (blk_cell BK108.out 0).trans rfl
                            have hcz38_1 : wc.cell? ⟨gb108, 1, none⟩ = some (.int .i64 a0_1) := (blk_cell BK108.out 1).trans rfl
                            have hcz38_2 : wc.cell? ⟨gb108, 2, none⟩ = some (.int .i64 a0_2) := (blk_cell BK108.out 2).trans rfl
                            have hcz38_3 : wc.cell? ⟨gb108, 3, none⟩ = some (.slice A0_3 l0_3.length c0_3) := (blk_cell BK108.out 3).trans rfl
                            have hcz38_4 : wc.cell? ⟨gb108, 4, none⟩ = some (.slice A0_4 l0_4.length c0_4) := (blk_cell BK108.out 4).trans rfl
                            have hfz38_0 := blk_frozen BK108.out 0
                            have hfz38_1 := blk_frozen BK108.out 1
                            have hfz38_2 := blk_frozen BK108.out 2
                            have hfz38_3 := blk_frozen BK108.out 3
                            have hfz38_4 := blk_frozen BK108.out 4
                            go_wp2
                            go_meet
                            case rel => exact ⟨_, (true), (by first | rfl | (simp; done) | (simp [*]; done) | (simp [bne]; done)), H', ⟨by have := HJ1.out; have := HJ8.out; first | omega | exact Nat.le_refl _⟩, ⟨by (with_reducible repeat (first | refine blk_drewN ?_ _ | refine blk_drew ?_ | refine blk_alloc ?_ _)); exact BK108.out⟩, ⟨by repeat (first | (with_reducible first | exact HB.out | apply below_alloc | apply pw_below_drewN | apply below_drew1 | refine below_set ?_ GE108.out) | exact HB.out)⟩⟩
                          · rw [if_neg c37] at H
                            have c37b0 : decide (5 < (l0_4.length : Int)) = false := decide_eq_false c37
                            have c37b1 : decide (5 < l0_4.length) = false := decide_eq_false (by omega)
                            clear c37
                            have H' := Aside0.mk H
                            clear H
                            have hcz39_0 : wc.cell? ⟨gb108, 0, none⟩ = some (.int .i64 a0_0) := (blk_cell BK108.out 0).trans rfl
                            have hcz39_1 : wc.cell? ⟨gb108, 1, none⟩ = some (.int .i64 a0_1) := (blk_cell BK108.out 1).trans rfl
                            have hcz39_2 : wc.cell? ⟨gb108, 2, none⟩ = some (.int .i64 a0_2) := (blk_cell BK108.out 2).trans rfl
                            have hcz39_3 : wc.cell? ⟨gb108, 3, none⟩ = some (.slice A0_3 l0_3.length c0_3) := (blk_cell BK108.out 3).trans rfl
                            have hcz39_4 : wc.cell? ⟨gb108, 4, none⟩ = some (.slice A0_4 l0_4.length c0_4) := (blk_cell BK108.out 4).trans rfl
                            have hfz39_0 := blk_frozen BK108.out 0
                            have hfz39_1 := blk_frozen BK108.out 1
                            have hfz39_2 := blk_frozen BK108.out 2
                            have hfz39_3 := blk_frozen BK108.out 3
                            have hfz39_4 := blk_frozen BK108.out 4
                            go_wp2
                            go_meet
                            case rel => exact ⟨_, (((decide ((l0_4.length : Int) > 0)) != (t109 == 3))), (by first | rfl | (simp; done) | (simp [*]; done) | (simp [bne]; done)), H', ⟨by have := HJ1.out; have := HJ8.out; first | omega | exact Nat.le_refl _⟩, ⟨by (with_reducible repeat (first | refine blk_drewN ?_ _ | refine blk_drew ?_ | refine blk_alloc ?_ _)); exact BK108.out⟩, ⟨by repeat (first | (with_reducible first | exact HB.out | apply below_alloc | apply pw_below_drewN | apply below_drew1 | refine below_set ?_ GE108.out) | exact HB.out)⟩⟩
                      · rw [if_neg c34] at H
                        have c34b0 : (t109 == 4) = false := beq_eq_false_iff_ne.mpr c34
                        have c34b1 : (t109 != 4) = true := bne_iff_ne.mpr c34
                        have H' := Aside0.mk H
                        clear H
                        have hcz40_0 : wc.cell? ⟨gb108, 0, none⟩ = some (.int .i64 a0_0) := (blk_cell BK108.out 0).trans rfl
                        have hcz40_1 : wc.cell? ⟨gb108, 1, none⟩ = some (.int .i64 a0_1) := (blk_cell BK108.out 1).trans rfl
                        have hcz40_2 : wc.cell? ⟨gb108, 2, none⟩ = some (.int .i64 a0_2) := (blk_cell BK108.out 2).trans rfl
                        have hcz40_3 : wc.cell? ⟨gb108, 3, none⟩ = some (.slice A0_3 l0_3.length c0_3) := (blk_cell BK108.out 3).trans rfl
                        have hcz40_4 : wc.cell? ⟨gb108, 4, none⟩ = some (.slice A0_4 l0_4.length c0_4) := (blk_cell BK108.out 4).trans rfl
                        have hfz40_0 := blk_frozen BK108.out 0
                        have hfz40_1 := blk_frozen BK108.out 1
                        have hfz40_2 := blk_frozen BK108.out 2
                        have hfz40_3 := blk_frozen BK108.out 3
                        have hfz40_4 := blk_frozen BK108.out 4
                        go_wp2
                        go_meet
                        case rel => exact ⟨_, (true), (by first | rfl | (simp; done) | (simp [*]; done) | (simp [bne]; done)), H', ⟨by have := HJ1.out; have := HJ8.out; first | omega | exact Nat.le_refl _⟩, ⟨by (with_reducible repeat (first | refine blk_drewN ?_ _ | refine blk_drew ?_ | refine blk_alloc ?_ _)); exact BK108.out⟩, ⟨by repeat (first | (with_reducible first | exact HB.out | apply below_alloc | apply pw_below_drewN | apply below_drew1 | refine below_set ?_ GE108.out) | exact HB.out)⟩⟩
                    · rw [if_neg c33] at H
                      have c33b0 : decide (0 < (l0_3.length : Int)) = false := decide_eq_false c33
                      have c33b1 : decide (0 < l0_3.length) = false := decide_eq_false (by omega)
                      clear c33
                      by_cases c41 : (l0_3.length : Int) > 20
                      · rw [if_pos c41] at H
                        have c41b0 : decide (20 < (l0_3.length : Int)) = true := decide_eq_true c41
                        have c41b1 : decide (20 < l0_3.length) = true := decide_eq_true (by omega)
                        clear c41
                        have H' := Aside0.mk H
                        clear H
                        have hcz42_0 : wc.cell? ⟨gb108, 0, none⟩ = some (.int .i64 a0_0) := (blk_cell BK108.out 0).trans rfl
                        have hcz42_1 : wc.cell? ⟨gb108, 1, none⟩ = some (.int .i64 a0_1) := (blk_cell BK108.out 1).trans rfl
                        have hcz42_2 : wc.cell? ⟨gb108, 2, none⟩ = some (.int .i64 a0_2) := (blk_cell BK108.out 2).trans rfl
                        have hcz42_3 : wc.cell? ⟨gb108, 3, none⟩ = some (.slice A0_3 l0_3.length c0_3) := (blk_cell BK108.out 3).trans rfl
                        have hcz42_4 : wc.cell? ⟨gb108, 4, none⟩ = some (.slice A0_4 l0_4.length c0_4) := (blk_cell BK108.out 4).trans rfl
                        have hfz42_0 := blk_frozen BK108.out 0
                        have hfz42_1 := blk_frozen BK108.out 1
                        have hfz42_2 := blk_frozen BK108.out 2
                        have hfz42_3 := blk_frozen BK108.out 3
                        have hfz42_4 := blk_frozen BK108.out 4
                        go_wp2
                        go_meet
                        case rel => exact ⟨_, (true), (by first | rfl | (simp; done) | (simp [*]; done) | (simp [bne]; done)), H', ⟨by have := HJ1.out; have := HJ8.out; first | omega | exact Nat.le_refl _⟩, ⟨by (with_reducible repeat (first | refine blk_drewN ?_ _ | refine blk_drew ?_ | refine blk_alloc ?_ _)); exact BK108.out⟩, ⟨by repeat (first | (with_reducible first | exact HB.out | apply below_alloc | apply pw_below_drewN | apply below_drew1 | refine below_set ?_ GE108.out) | exact HB.out)⟩⟩
                      · rw [if_neg c41] at H
                        have c41b0 : decide (20 < (l0_3.length : Int)) = false := decide_eq_false c41
                        have c41b1 : decide (20 < l0_3.length) = false := decide_eq_false (by omega)
                        clear c41
                        by_cases c43 : (l0_4.length : Int) > 5
                        · rw [if_pos c43] at H
                          have c43b0 : decide (5 < (l0_4.length : Int)) = true := decide_eq_true c43
                          have c43b1 : decide (5 < l0_4.length) = true := decide_eq_true (by omega)
                          clear c43
                          have H' := Aside0.mk H
                          clear H
                          have hcz44_0 : wc.cell? ⟨gb108, 0, none⟩ = some (.int .i64 a0_0) := (blk_cell BK108.out 0).trans rfl
                          have hcz44_1 : wc.cell? ⟨gb108, 1, none⟩ = some (.int .i64 a0_1) := (blk_cell BK108.out 1).trans rfl
                          have hcz44_2 : wc.cell? ⟨gb108, 2, none⟩ = some (.int .i64 a0_2) := (blk_cell BK108.out 2).trans rfl
                          have hcz44_3 : wc.cell? ⟨gb108, 3, none⟩ = some (.slice A0_3 l0_3.length c0_3) := (blk_cell BK108.out 3).trans rfl
                          have hcz44_4 : wc.cell? ⟨gb108, 4, none⟩ = some (.slice A0_4 l0_4.length c0_4) := (blk_cell BK108.out 4).trans rfl
                          have hfz44_0 := blk_frozen BK108.out 0
                          have hfz44_1 := blk_frozen BK108.out 1
                          have hfz44_2 := blk_frozen BK108.out 2
                          have hfz44_3 := blk_frozen BK108.out 3
                          have hfz44_4 := blk_frozen BK108.out 4
                          go_wp2
                          go_meet
                          case rel => exact ⟨_, (true), (by first | rfl | (simp; done) | (simp [*]; done) | (simp [bne]; done)), H', ⟨by have := HJ1.out; have := HJ8.out; first | omega | exact Nat.le_refl _⟩, ⟨by (with_reducible repeat (first | refine blk_drewN ?_ _ | refine blk_drew ?_ | refine blk_alloc ?_ _)); exact BK108.out⟩, ⟨by repeat (first | (with_reducible first | exact HB.out | apply below_alloc | apply pw_below_drewN | apply below_drew1 | refine below_set ?_ GE108.out) | exact HB.out)⟩⟩
                        · rw [if_neg c43] at H
                          have c43b0 : decide (5 < (l0_4.length : Int)) = false := decide_eq_false c43
                          have c43b1 : decide (5 < l0_4.length) = false := decide_eq_false (by omega)
                          clear c43
                          have H' := Aside0.mk H
                          clear H
                          have hcz45_0 : wc.cell? ⟨gb108, 0, none⟩ = some (.int .i64 a0_0) := (blk_cell BK108.out 0).trans rfl
                          have hcz45_1 : wc.cell? ⟨gb108, 1, none⟩ = some (.int .i64 a0_1) := (blk_cell BK108.out 1).trans rfl
                          have hcz45_2 : wc.cell? ⟨gb108, 2, none⟩ = some (.int .i64 a0_2) := (blk_cell BK108.out 2).trans rfl
                          have hcz45_3 : wc.cell? ⟨gb108, 3, none⟩ = some (.slice A0_3 l0_3.length c0_3) := (blk_cell BK108.out 3).trans rfl
                          have hcz45_4 : wc.cell? ⟨gb108, 4, none⟩ = some (.slice A0_4 l0_4.length c0_4) := (blk_cell BK108.out 4).trans rfl
                          have hfz45_0 := blk_frozen BK108.out 0
                          have hfz45_1 := blk_frozen BK108.out 1
                          have hfz45_2 := blk_frozen BK108.out 2
                          have hfz45_3 := blk_frozen BK108.out 3
                          have hfz45_4 := blk_frozen BK108.out 4
                          go_wp2
                          go_meet
                          case rel => exact ⟨_, (((decide ((l0_4.length : Int) > 0)) != (t109 == 3))), (by first | rfl | (simp; done) | (simp [*]; done) | (simp [bne]; done)), H', ⟨by have := HJ1.out; have := HJ8.out; first | omega | exact Nat.le_refl _⟩, ⟨by (with_reducible repeat (first | refine blk_drewN ?_ _ | refine blk_drew ?_ | refine blk_alloc ?_ _)); exact BK108.out⟩, ⟨by repeat (first | (with_reducible first | exact HB.out | apply below_alloc | apply pw_below_drewN | apply below_drew1 | refine below_set ?_ GE108.out) | exact HB.out)⟩⟩
                  · rw [if_neg c32] at H
                    have c32b0 : (a0_2 == 0) = false := beq_eq_false_iff_ne.mpr c32
                    have c32b1 : (a0_2 != 0) = true := bne_iff_ne.mpr c32
                    by_cases c46 : t109 = 2
                    · rw [if_pos c46] at H
                      have c46b0 : (t109 == 2) = true := beq_iff_eq.mpr c46
                      have c46b1 : (t109 != 2) = false := bne_eq_false_iff_eq.mpr c46
                      clear c46
                      by_cases c47 : (l0_3.length : Int) > 0
                      · rw [if_pos c47] at H
                        have c47b0 : decide (0 < (l0_3.length : Int)) = true := decide_eq_true c47
                        have c47b1 : decide (0 < l0_3.length) = true := decide_eq_true (by omega)
                        clear c47
                        by_cases c48 : t109 = 4
                        · rw [if_pos c48] at H
                          have c48b0 : (t109 == 4) = true := beq_iff_eq.mpr c48
                          have c48b1 : (t109 != 4) = false := bne_eq_false_iff_eq.mpr c48
                          clear c48
                          by_cases c49 : (l0_3.length : Int) > 20
                          · rw [if_pos c49] at H
                            have c49b0 : decide (20 < (l0_3.length : Int)) = true := decide_eq_true c49
                            have c49b1 : decide (20 < l0_3.length) = true := decide_eq_true (by omega)
                            clear c49
                            have H' := Aside0.mk H
                            clear H
                            have hcz50_0 : wc.cell? ⟨gb108, 0, none⟩ = some (.int .i64 a0_0) := (blk_cell BK108.out 0).trans rfl
                            have hcz50_1 : wc.cell? ⟨gb108, 1, none⟩ = some (.int .i64 a0_1) := (blk_cell BK108.out 1).trans rfl
                            have hcz50_2 : wc.cell? ⟨gb108, 2, none⟩ = some (.int .i64 a0_2) := (blk_cell BK108.out 2).trans rfl
                            have hcz50_3 : wc.cell? ⟨gb108, 3, none⟩ = some (.slice A0_3 l0_3.length c0_3) := (blk_cell BK108.out 3).trans rfl
                            have hcz50_4 : wc.cell? ⟨gb108, 4, none⟩ = some (.slice A0_4 l0_4.length c0_4) := (blk_cell BK108.out 4).trans rfl
                            have hfz50_0 := blk_frozen BK108.out 0
                            have hfz50_1 := blk_frozen BK108.out 1
                            have hfz50_2 := blk_frozen BK108.out 2
                            have hfz50_3 := blk_frozen BK108.out 3
                            have hfz50_4 := blk_frozen BK108.out 4
                            go_wp2
                            go_meet
                            case rel => exact ⟨_, (true), (by first | rfl | (simp; done) | (simp [*]; done) | (simp [bne]; done)), H', ⟨by have := HJ1.out; have := HJ8.out; first | omega | exact Nat.le_refl _⟩, ⟨by (with_reducible repeat (first | refine blk_drewN ?_ _ | refine blk_drew ?_ | refine blk_alloc ?_ _)); exact BK108.out⟩, ⟨by repeat (first | (with_reducible first | exact HB.out | apply below_alloc | apply pw_below_drewN | apply below_drew1 | refine below_set ?_ GE108.out) | exact HB.out)⟩⟩
                          · rw [if_neg c49] at H
                            have c49b0 : decide (20 < (l0_3.length : Int)) = false := decide_eq_false c49
                            have c49b1 : decide (20 < l0_3.length) = false := decide_eq_false (by omega)
                            clear c49
                            by_cases c51 : (l0_4.length : Int) > 5
                            · rw [if_pos c51] at H
                              have c51b0 : decide (5 < (l0_4.length : Int)) = true := decide_eq_true c51
                              have c51b1 : decide (5 < l0_4.length) = true := decide_eq_true (by omega)
                              clear c51
                              have H' := Aside0.mk H
                              clear H
                              have hcz52_0 : wc.cell? ⟨gb108, 0, none⟩ = some (.int .i64 a0_0) := (blk_cell BK108.out 0).trans rfl
                              have hcz52_1 : wc.cell? ⟨gb108, 1, none⟩ = some (.int .i64 a0_1) := (blk_cell BK108.out 1).trans rfl
                              have hcz52_2 : wc.cell? ⟨gb108, 2, none⟩ = some (.int .i64 a0_2) := (blk_cell BK108.out 2).trans rfl
                              have hcz52_3 : wc.cell? ⟨gb108, 3, none⟩ = some (.slice A0_3 l0_3.length c0_3) := (blk_cell BK108.out 3).trans rfl
                              have hcz52_4 : wc.cell? ⟨gb108, 4, none⟩ = some (.slice A0_4 l0_4.length c0_4) := (blk_cell BK108.out 4).trans rfl
                              have hfz52_0 := blk_frozen BK108.out 0
                              have hfz52_1 := blk_frozen BK108.out 1
                              have hfz52_2 := blk_frozen BK108.out 2
                              have hfz52_3 := blk_frozen BK108.out 3
                              have hfz52_4 := blk_frozen BK108.out 4
                              go_wp2
                              go_meet
                              case rel => exact ⟨_, (true), (by first | rfl | (simp; done) | (simp [*]; done) | (simp [bne]; done)), H', ⟨by have := HJ1.out; have := HJ8.out; first | omega | exact Nat.le_refl _⟩, ⟨by (with_reducible repeat (first | refine blk_drewN ?_ _ | refine blk_drew ?_ | refine blk_alloc ?_ _)); exact BK108.out⟩, ⟨by repeat (first | (with_reducible first | exact HB.out | apply below_alloc | apply pw_below_drewN | apply below_drew1 | refine below_set ?_ GE108.out) | exact HB.out)⟩⟩
                            · rw [if_neg c51] at H
                              have c51b0 : decide (5 < (l0_4.length : Int)) = false := decide_eq_false c51
                              have c51b1 : decide (5 < l0_4.length) = false := decide_eq_false (by omega)
                              clear c51
                              have H' := Aside0.mk H
                              clear H
                              have hcz53_0 : wc.cell? ⟨gb108, 0, none⟩ = some (.int .i64 a0_0) := (blk_cell BK108.out 0).trans rfl
                              have hcz53_1 : wc.cell? ⟨gb108, 1, none⟩ = some (.int .i64 a0_1) := (blk_cell BK108.out 1).trans rfl
                              have hcz53_2 : wc.cell? ⟨gb108, 2, none⟩ = some (.int .i64 a0_2) := (blk_cell BK108.out 2).trans rfl
                              have hcz53_3 : wc.cell? ⟨gb108, 3, none⟩ = some (.slice A0_3 l0_3.length c0_3) := (blk_cell BK108.out 3).trans rfl
                              have hcz53_4 : wc.cell? ⟨gb108, 4, none⟩ = some (.slice A0_4 l0_4.length c0_4) := (blk_cell BK108.out 4).trans rfl
                              have hfz53_0 := blk_frozen BK108.out 0
                              have hfz53_1 := blk_frozen BK108.out 1
                              have hfz53_2 := blk_frozen BK108.out 2
                              have hfz53_3 := blk_frozen BK108.out 3
                              have hfz53_4 := blk_frozen BK108.out 4
                              go_wp2
                              go_meet
                              case rel => exact ⟨_, (((decide ((l0_4.length : Int) > 0)) != (t109 == 3))), (by first | rfl | (simp; done) | (simp [*]; done) | (simp [bne]; done)), H', ⟨by have := HJ1.out; have := HJ8.out; first | omega | exact Nat.le_refl _⟩, ⟨by (with_reducible repeat (first | refine blk_drewN ?_ _ | refine blk_drew ?_ | refine blk_alloc ?_ _)); exact BK108.out⟩, ⟨by repeat (first | (with_reducible first | exact HB.out | apply below_alloc | apply pw_below_drewN | apply below_drew1 | refine below_set ?_ GE108.out) | exact HB.out)⟩⟩
                        · rw [if_neg c48] at H
                          have c48b0 : (t109 == 4) = false := beq_eq_false_iff_ne.mpr c48
                          have c48b1 : (t109 != 4) = true := bne_iff_ne.mpr c48
                          have H' := Aside0.mk H
                          clear H
                          have hcz54_0 : wc.cell? ⟨gb108, 0, none⟩ = some (.int .i64 a0_0) := (blk_cell BK108.out 0).trans rfl
                          have hcz54_1 : wc.cell? ⟨gb108, 1, none⟩ = some (.int .i64 a0_1) := (blk_cell BK108.out 1).trans rfl
                          have hcz54_2 : wc.cell? ⟨gb108, 2, none⟩ = some (.int .i64 a0_2) := (blk_cell BK108.out 2).trans rfl
                          have hcz54_3 : wc.cell? ⟨gb108, 3, none⟩ = some (.slice A0_3 l0_3.length c0_3) := (blk_cell BK108.out 3).trans rfl
                          have hcz54_4 : wc.cell? ⟨gb108, 4, none⟩ = some (.slice A0_4 l0_4.length c0_4) := (blk_cell BK108.out 4).trans rfl
                          have hfz54_0 := blk_frozen BK108.out 0
                          have hfz54_1 := blk_frozen BK108.out 1
                          have hfz54_2 := blk_frozen BK108.out 2
                          have hfz54_3 := blk_frozen BK108.out 3
                          have hfz54_4 := blk_frozen BK108.out 4
                          go_wp2
                          go_meet
                          case rel => exact ⟨_, (true), (by first | rfl | (simp; done) | (simp [*]; done) | (simp [bne]; done)), H', ⟨by have := HJ1.out; have := HJ8.out; first | omega | exact Nat.le_refl _⟩, ⟨by (with_reducible repeat (first | refine blk_drewN ?_ _ | refine blk_drew ?_ | refine blk_alloc ?_ _)); exact BK108.out⟩, ⟨by repeat (first | (with_reducible first | exact HB.out | apply below_alloc | apply pw_below_drewN | apply below_drew1 | refine below_set ?_ GE108.out) | exact HB.out)⟩⟩
                      · rw [if_neg c47] at H
                        have c47b0 : decide (0 < (l0_3.length : Int)) = false := decide_eq_false c47
                        have c47b1 : decide (0 < l0_3.length) = false := decide_eq_false (by omega)
                        clear c47
                        by_cases c55 : (l0_3.length : Int) > 20
                        · rw [if_pos c55] at H
                          have c55b0 : decide (20 < (l0_3.length : Int)) = true := decide_eq_true c55
                          have c55b1 : decide (20 < l0_3.length) = true := decide_eq_true (by omega)
                          clear c55
                          have H' := Aside0.mk H
                          clear H
                          have hcz56_0 : wc.cell? ⟨gb108, 0, none⟩ = some (.int .i64 a0_0) := (blk_cell BK108.out 0).trans rfl
                          have hcz56_1 : wc.cell? ⟨gb108, 1, none⟩ = some (.int .i64 a0_1) := (blk_cell BK108.out 1).trans rfl
                          have hcz56_2 : wc.cell? ⟨gb108, 2, none⟩ = some (.int .i64 a0_2) := (blk_cell BK108.out 2).trans rfl
                          have hcz56_3 : wc.cell? ⟨gb108, 3, none⟩ = some (.slice A0_3 l0_3.length c0_3) := (blk_cell BK108.out 3).trans rfl
                          have hcz56_4 : wc.cell? ⟨gb108, 4, none⟩ = some (.slice A0_4 l0_4.length c0_4) := (blk_cell BK108.out 4).trans rfl
                          have hfz56_0 := blk_frozen BK108.out 0
                          have hfz56_1 := blk_frozen BK108.out 1
                          have hfz56_2 := blk_frozen BK108.out 2
                          have hfz56_3 := blk_frozen BK108.out 3
                          have hfz56_4 := blk_frozen BK108.out 4
                          go_wp2
                          go_meet
                          case rel => exact ⟨_, (true), (by first | rfl | (simp; done) | (simp [*]; done) | (simp [bne]; done)), H', ⟨by have := HJ1.out; have := HJ8.out; first | omega | exact Nat.le_refl _⟩, ⟨by (with_reducible repeat (first | refine blk_drewN ?_ _ | refine blk_drew ?_ | refine blk_alloc ?_ _)); exact BK108.out⟩, ⟨by repeat (first | (with_reducible first | exact HB.out | apply below_alloc | apply pw_below_drewN | apply below_drew1 | refine below_set ?_ GE108.out) | exact HB.out)⟩⟩
                        · rw [if_neg c55] at H
                          have c55b0 : decide (20 < (l0_3.length : Int)) = false := decide_eq_false c55
                          have c55b1 : decide (20 < l0_3.length) = false := decide_eq_false (by omega)
                          clear c55
                          by_cases c57 : (l0_4.length : Int) > 5
                          · rw [if_pos c57] at H
                            have c57b0 : decide (5 < (l0_4.length : Int)) = true := decide_eq_true c57
                            have c57b1 : decide (5 < l0_4.length) = true := decide_eq_true (by omega)
                            clear c57
                            have H' := Aside0.mk H
                            clear H
                            have hcz58_0 : wc.cell? ⟨gb108, 0, none⟩ = some (.int .i64 a0_0) := (blk_cell BK108.out 0).trans rfl
                            have hcz58_1 : wc.cell? ⟨gb108, 1, none⟩ = some (.int .i64 a0_1) := (blk_cell BK108.out 1).trans rfl
                            have hcz58_2 : wc.cell? ⟨gb108, 2, none⟩ = some (.int .i64 a0_2) := (blk_cell BK108.out 2).trans rfl
                            have hcz58_3 : wc.cell? ⟨gb108, 3, none⟩ = some (.slice A0_3 l0_3.length c0_3) := (blk_cell BK108.out 3).trans rfl
                            have hcz58_4 : wc.cell? ⟨gb108, 4, none⟩ = some (.slice A0_4 l0_4.length c0_4) := (blk_cell BK108.out 4).trans rfl
                            have hfz58_0 := blk_frozen BK108.out 0
                            have hfz58_1 := blk_frozen BK108.out 1
                            have hfz58_2 := blk_frozen BK108.out 2
                            have hfz58_3 := blk_frozen BK108.out 3
                            have hfz58_4 := blk_frozen BK108.out 4
                            go_wp2
                            go_meet
                            case rel => exact ⟨_, (true), (by first | rfl | (simp; done) | (simp [*]; done) | (simp [bne]; done)), H', ⟨by have := HJ1.out; have := HJ8.out; first | omega | exact Nat.le_refl _⟩, ⟨by (with_reducible repeat (first | refine blk_drewN ?_ _ | refine blk_drew ?_ | refine blk_alloc ?_ _)); exact BK108.out⟩, ⟨by repeat (first | (with_reducible first | exact HB.out | apply below_alloc | apply pw_below_drewN | apply below_drew1 | refine below_set ?_ GE108.out) | exact HB.out)⟩⟩
                          · rw [if_neg c57] at H
                            have c57b0 : decide (5 < (l0_4.length : Int)) = false := decide_eq_false c57
                            have c57b1 : decide (5 < l0_4.length) = false := decide_eq_false (by omega)
                            clear c57
                            have H' := Aside0.mk H
                            clear H
                            have hcz59_0 : wc.cell? ⟨gb108, 0, none⟩ = some (.int .i64 a0_0) := (blk_cell BK108.out 0).trans rfl
                            have hcz59_1 : wc.cell? ⟨gb108, 1, none⟩ = some (.int .i64 a0_1) := (blk_cell BK108.out 1).trans rfl
                            have hcz59_2 : wc.cell? ⟨gb108, 2, none⟩ = some (.int .i64 a0_2) := (blk_cell BK108.out 2).trans rfl
                            have hcz59_3 : wc.cell? ⟨gb108, 3, none⟩ = some (.slice A0_3 l0_3.length c0_3) := (blk_cell BK108.out 3).trans rfl
                            have hcz59_4 : wc.cell? ⟨gb108, 4, none⟩ = some (.slice A0_4 l0_4.length c0_4) := (blk_cell BK108.out 4).trans rfl
                            have hfz59_0 := blk_frozen BK108.out 0
                            have hfz59_1 := blk_frozen BK108.out 1
                            have hfz59_2 := blk_frozen BK108.out 2
                            have hfz59_3 := blk_frozen BK108.out 3
                            have hfz59_4 := blk_frozen BK108.out 4
                            go_wp2
                            go_meet
                            case rel => exact ⟨_, (((decide ((l0_4.length : Int) > 0)) != (t109 == 3))), (by first | rfl | (simp; done) | (simp [*]; done) | (simp [bne]; done)), H', ⟨by have := HJ1.out; have := HJ8.out; first | omega | exact Nat.le_refl _⟩, ⟨by (with_reducible repeat (first | refine blk_drewN ?_ _ | refine blk_drew ?_ | refine blk_alloc ?_ _)); exact BK108.out⟩, ⟨by repeat (first | (with_reducible first | exact HB.out | apply below_alloc | apply pw_below_drewN | apply below_drew1 | refine below_set ?_ GE108.out) | exact HB.out)⟩⟩
                    · rw [if_neg c46] at H
                      have c46b0 : (t109 == 2) = false := beq_eq_false_iff_ne.mpr c46
                      have c46b1 : (t109 != 2) = true := bne_iff_ne.mpr c46
                      have H' := Aside0.mk H
                      clear H
                      have hcz60_0 : wc.cell? ⟨gb108, 0, none⟩ = some (.int .i64 a0_0) := (blk_cell BK108.out 0).trans rfl
                      have hcz60_1 : wc.cell? ⟨gb108, 1, none⟩ = some (.int .i64 a0_1) := (blk_cell BK108.out 1).trans rfl
                      have hcz60_2 : wc.cell? ⟨gb108, 2, none⟩ = some (.int .i64 a0_2) := (blk_cell BK108.out 2).trans rfl
                      have hcz60_3 : wc.cell? ⟨gb108, 3, none⟩ = some (.slice A0_3 l0_3.length c0_3) := (blk_cell BK108.out 3).trans rfl
                      have hcz60_4 : wc.cell? ⟨gb108, 4, none⟩ = some (.slice A0_4 l0_4.length c0_4) := (blk_cell BK108.out 4).trans rfl
                      have hfz60_0 := blk_frozen BK108.out 0
                      have hfz60_1 := blk_frozen BK108.out 1
                      have hfz60_2 := blk_frozen BK108.out 2
                      have hfz60_3 := blk_frozen BK108.out 3
                      have hfz60_4 := blk_frozen BK108.out 4
                      go_wp2
                      go_meet
                      case rel => exact ⟨_, (true), (by first | rfl | (simp; done) | (simp [*]; done) | (simp [bne]; done)), H', ⟨by have := HJ1.out; have := HJ8.out; first | omega | exact Nat.le_refl _⟩, ⟨by (with_reducible repeat (first | refine blk_drewN ?_ _ | refine blk_drew ?_ | refine blk_alloc ?_ _)); exact BK108.out⟩, ⟨by repeat (first | (with_reducible first | exact HB.out | apply below_alloc | apply pw_below_drewN | apply below_drew1 | refine below_set ?_ GE108.out) | exact HB.out)⟩⟩
            case rest =>
              clear HC27
              try clear c1
              try clear c2
              try clear p2
              try clear c3
              try clear c4
              try clear c4b0
              try clear c5
              try clear c7
              try clear c11
              try clear c11b0
              try clear c11b1
              try clear c12
              try clear c13
              try clear c16
              try clear c16b0
              try clear c18
              try clear c18b0
              try clear c20
              try clear c20b0
              try clear c20b1
              try clear c22
              try clear c22b0
              try clear c22b1
              try clear c24
              try clear c24b0
              try clear c24b1
              try clear c28
              try clear c28b0
              try clear c30
              try clear c30b0
              try clear c32
              try clear c32b0
              try clear c32b1
              try clear c33
              try clear c33b0
              try clear c33b1
              try clear c34
              try clear c34b0
              try clear c34b1
              try clear c35
              try clear c35b0
              try clear c35b1
              try clear c37
              try clear c37b0
              try clear c37b1
              try clear c41
              try clear c41b0
              try clear c41b1
              try clear c43
              try clear c43b0
              try clear c43b1
              try clear c46
              try clear c46b0
              try clear c46b1
              try clear c47
              try clear c47b0
              try clear c47b1
              try clear c48
              try clear c48b0
              try clear c48b1
              try clear c49
              try clear c49b0
              try clear c49b1
              try clear c51
              try clear c51b0
              try clear c51b1
              try clear c55
              try clear c55b0
              try clear c55b1
              try clear c57
              try clear c57b0
              try clear c57b1
              try clear hcz10_0
              try clear hcz10_1
              try clear hcz10_2
              try clear hcz10_3
              try clear hcz10_4
              try clear hcz14_0
              try clear hcz14_1
              try clear hcz14_2
              try clear hcz14_3
              try clear hcz14_4
              try clear hcz15_0
              try clear hcz15_1
              try clear hcz15_2
              try clear hcz15_3
              try clear hcz15_4
              try clear hcz17_0
              try clear hcz17_1
              try clear hcz17_2
              try clear hcz17_3
              try clear hcz17_4
              try clear hcz19_0
              try clear hcz19_1
              try clear hcz19_2
              try clear hcz19_3
              try clear hcz19_4
              try clear hcz21_0
              try clear hcz21_1
              try clear hcz21_2
              try clear hcz21_3
              try clear hcz21_4
              try clear hcz23_0
              try clear hcz23_1
              try clear hcz23_2
              try clear hcz23_3
              try clear hcz23_4
              try clear hcz25_0
              try clear hcz25_1
              try clear hcz25_2
              try clear hcz25_3
              try clear hcz25_4
              try clear hcz26_0
              try clear hcz26_1
              try clear hcz26_2
              try clear hcz26_3
              try clear hcz26_4
              try clear hcz29_0
              try clear hcz29_1
              try clear hcz29_2
              try clear hcz29_3
              try clear hcz29_4
              try clear hcz31_0
              try clear hcz31_1
              try clear hcz31_2
              try clear hcz31_3
              try clear hcz31_4
              try clear hcz36_0
              try clear hcz36_1
              try clear hcz36_2
              try clear hcz36_3
              try clear hcz36_4
              try clear hcz38_0
              try clear hcz38_1
              try clear hcz38_2
              try clear hcz38_3
              try clear hcz38_4
              try clear hcz39_0
              try clear hcz39_1
              try clear hcz39_2
              try clear hcz39_3
              try clear hcz39_4
              try clear hcz40_0
              try clear hcz40_1
              try clear hcz40_2
              try clear hcz40_3
              try clear hcz40_4
              try clear hcz42_0
              try clear hcz42_1
              try clear hcz42_2
              try clear hcz42_3
              try clear hcz42_4
              try clear hcz44_0
              try clear hcz44_1
              try clear hcz44_2
              try clear hcz44_3
              try clear hcz44_4
              try clear hcz45_0
              try clear hcz45_1
              try clear hcz45_2
              try clear hcz45_3
              try clear hcz45_4
              try clear hcz50_0
              try clear hcz50_1
              try clear hcz50_2
              try clear hcz50_3
              try clear hcz50_4
              try clear hcz52_0
              try clear hcz52_1
              try clear hcz52_2
              try clear hcz52_3
              try clear hcz52_4
              try clear hcz53_0
              try clear hcz53_1
              try clear hcz53_2
              try clear hcz53_3
              try clear hcz53_4
              try clear hcz54_0
              try clear hcz54_1
              try clear hcz54_2
              try clear hcz54_3
              try clear hcz54_4
              try clear hcz56_0
              try clear hcz56_1
              try clear hcz56_2
              try clear hcz56_3
              try clear hcz56_4
              try clear hcz58_0
              try clear hcz58_1
              try clear hcz58_2
              try clear hcz58_3
              try clear hcz58_4
              try clear hcz59_0
              try clear hcz59_1
              try clear hcz59_2
              try clear hcz59_3
              try clear hcz59_4
              try clear hcz5_0
              try clear hcz5_1
              try clear hcz5_2
              try clear hcz5_3
              try clear hcz5_4
              try clear hcz60_0
              try clear hcz60_1
              try clear hcz60_2
              try clear hcz60_3
              try clear hcz60_4
              try clear hcz6_0
              try clear hcz6_1
              try clear hcz6_2
              try clear hcz6_3
              try clear hcz6_4
              try clear hfz10_0
              try clear hfz10_1
              try clear hfz10_2
              try clear hfz10_3
              try clear hfz10_4
              try clear hfz14_0
              try clear hfz14_1
              try clear hfz14_2
              try clear hfz14_3
              try clear hfz14_4
              try clear hfz15_0
              try clear hfz15_1
              try clear hfz15_2
              try clear hfz15_3
              try clear hfz15_4
              try clear hfz17_0
              try clear hfz17_1
              try clear hfz17_2
              try clear hfz17_3
              try clear hfz17_4
              try clear hfz19_0
              try clear hfz19_1
              try clear hfz19_2
              try clear hfz19_3
              try clear hfz19_4
              try clear hfz21_0
              try clear hfz21_1
              try clear hfz21_2
              try clear hfz21_3
              try clear hfz21_4
              try clear hfz23_0
              try clear hfz23_1
              try clear hfz23_2
              try clear hfz23_3
              try clear hfz23_4
              try clear hfz25_0
              try clear hfz25_1
              try clear hfz25_2
              try clear hfz25_3
              try clear hfz25_4
              try clear hfz26_0
              try clear hfz26_1
              try clear hfz26_2
              try clear hfz26_3
              try clear hfz26_4
              try clear hfz29_0
              try clear hfz29_1
              try clear hfz29_2
              try clear hfz29_3
              try clear hfz29_4
              try clear hfz31_0
              try clear hfz31_1
              try clear hfz31_2
              try clear hfz31_3
              try clear hfz31_4
              try clear hfz36_0
              try clear hfz36_1
              try clear hfz36_2
              try clear hfz36_3
              try clear hfz36_4
              try clear hfz38_0
              try clear hfz38_1
              try clear hfz38_2
              try clear hfz38_3
              try clear hfz38_4
              try clear hfz39_0
              try clear hfz39_1
              try clear hfz39_2
              try clear hfz39_3
              try clear hfz39_4
              try clear hfz40_0
              try clear hfz40_1
              try clear hfz40_2
              try clear hfz40_3
              try clear hfz40_4
              try clear hfz42_0
              try clear hfz42_1
              try clear hfz42_2
              try clear hfz42_3
              try clear hfz42_4
              try clear hfz44_0
              try clear hfz44_1
              try clear hfz44_2
              try clear hfz44_3
              try clear hfz44_4
              try clear hfz45_0
              try clear hfz45_1
              try clear hfz45_2
              try clear hfz45_3
              try clear hfz45_4
              try clear hfz50_0
              try clear hfz50_1
              try clear hfz50_2
              try clear hfz50_3
              try clear hfz50_4
              try clear hfz52_0
              try clear hfz52_1
              try clear hfz52_2
              try clear hfz52_3
              try clear hfz52_4
              try clear hfz53_0
              try clear hfz53_1
              try clear hfz53_2
              try clear hfz53_3
              try clear hfz53_4
              try clear hfz54_0
              try clear hfz54_1
              try clear hfz54_2
              try clear hfz54_3
              try clear hfz54_4
              try clear hfz56_0
              try clear hfz56_1
              try clear hfz56_2
              try clear hfz56_3
              try clear hfz56_4
              try clear hfz58_0
              try clear hfz58_1
              try clear hfz58_2
              try clear hfz58_3
              try clear hfz58_4
              try clear hfz59_0
              try clear hfz59_1
              try clear hfz59_2
              try clear hfz59_3
              try clear hfz59_4
              try clear hfz5_0
              try clear hfz5_1
              try clear hfz5_2
              try clear hfz5_3
              try clear hfz5_4
              try clear hfz60_0
              try clear hfz60_1
              try clear hfz60_2
              try clear hfz60_3
              try clear hfz60_4
              try clear hfz6_0
              try clear hfz6_1
              try clear hfz6_2
              try clear hfz6_3
              try clear hfz6_4
              try clear p2
              obtain ⟨kq, x91_26, rfl, HA, HJ26, BK108, HB⟩ := hcut
              cases kq with
              | zero => exact absurd HA.out (by simp [spec_InsOk.j2])
              | succ kj26 =>
                have H := HA.out
                clear HA
                simp only [spec_InsOk.j2] at H
                by_cases c61 : x91_26 = true
                · subst c61
                  have H1 : (some false) = some r := by rw [if_pos rfl] at H; exact H
                  clear H
                  have H := H1
                  clear H1
                  obtain rfl := Option.some.inj H
                  go_wp2
                  go_ret
                  exact ⟨by first | rfl | (simp [errW_none, errW_some] <;> rfl) | (simp [*, errW_none, errW_some] <;> rfl), by repeat (first | (with_reducible first | exact HB.out | apply below_alloc | apply pw_below_drewN | apply below_drew1 | refine below_set ?_ GE108.out) | exact HB.out)⟩
                · replace c61 := Bool.eq_false_iff.mpr c61
                  subst c61
                  have H1 : (spec_InsOk.l0 kj26 0 a0_0 a0_1 a0_2 l0_3 l0_4) = some r := by rw [if_neg (show ¬ (false = true) by decide)] at H; exact H
                  clear H
                  have H := H1
                  clear H1
                  have H' := Aside0.mk H
                  clear H
                  go_wp2
                  go_loopg [4] kj26 (fun kq v4 w' => ∃ (x4_4 : Int), v4 = .int .i64 x4_4 ∧ Aside0 (spec_InsOk.l0 kq x4_4 a0_0 a0_1 a0_2 l0_3 l0_4 = some r) ∧ Aside0 (kq ≤ kj26) ∧ Aside0 (w'.heap[gb108]? = some (.cells #[.int .i64 a0_0, .int .i64 a0_1, .int .i64 a0_2, (.slice A0_3 l0_3.length c0_3), (.slice A0_4 l0_4.length c0_4)] 28 (0, 0))) ∧ Aside0 (Below w.heap.size w w'))
                  case atStart => exact ⟨(0), (by first | rfl | (simp; done) | (simp [*]; done) | (simp [bne]; done)), H', ⟨Nat.le_refl _⟩, ⟨by (with_reducible repeat (first | refine blk_drewN ?_ _ | refine blk_drew ?_ | refine blk_alloc ?_ _)); exact BK108.out⟩, ⟨by repeat (first | (with_reducible first | exact HB.out | apply below_alloc | apply pw_below_drewN | apply below_drew1 | refine below_set ?_ GE108.out) | exact HB.out)⟩⟩
                  case round =>
                    clear H'
                    try clear c1
                    try clear c2
                    try clear p2
                    try clear c3
                    try clear c4
                    try clear c4b0
                    try clear c5
                    try clear c6
                    try clear c7
                    try clear c11
                    try clear c11b0
                    try clear c11b1
                    try clear c12
                    try clear c13
                    try clear c16
                    try clear c16b0
                    try clear c18
                    try clear c18b0
                    try clear c20
                    try clear c20b0
                    try clear c20b1
                    try clear c22
                    try clear c22b0
                    try clear c22b1
                    try clear c24
                    try clear c24b0
                    try clear c24b1
                    try clear c28
                    try clear c28b0
                    try clear c30
                    try clear c30b0
                    try clear c32
                    try clear c32b0
                    try clear c32b1
                    try clear c33
                    try clear c33b0
                    try clear c33b1
                    try clear c34
                    try clear c34b0
                    try clear c34b1
                    try clear c35
                    try clear c35b0
                    try clear c35b1
                    try clear c37
                    try clear c37b0
                    try clear c37b1
                    try clear c41
                    try clear c41b0
                    try clear c41b1
                    try clear c43
                    try clear c43b0
                    try clear c43b1
                    try clear c46
                    try clear c46b0
                    try clear c46b1
                    try clear c47
                    try clear c47b0
                    try clear c47b1
                    try clear c48
                    try clear c48b0
                    try clear c48b1
                    try clear c49
                    try clear c49b0
                    try clear c49b1
                    try clear c51
                    try clear c51b0
                    try clear c51b1
                    try clear c55
                    try clear c55b0
                    try clear c55b1
                    try clear c57
                    try clear c57b0
                    try clear c57b1
                    try clear c61
                    try clear hcz10_0
                    try clear hcz10_1
                    try clear hcz10_2
                    try clear hcz10_3
                    try clear hcz10_4
                    try clear hcz14_0
                    try clear hcz14_1
                    try clear hcz14_2
                    try clear hcz14_3
                    try clear hcz14_4
                    try clear hcz15_0
                    try clear hcz15_1
                    try clear hcz15_2
                    try clear hcz15_3
                    try clear hcz15_4
                    try clear hcz17_0
                    try clear hcz17_1
                    try clear hcz17_2
                    try clear hcz17_3
                    try clear hcz17_4
                    try clear hcz19_0
                    try clear hcz19_1
                    try clear hcz19_2
                    try clear hcz19_3
                    try clear hcz19_4
                    try clear hcz21_0
                    try clear hcz21_1
                    try clear hcz21_2
                    try clear hcz21_3
                    try clear hcz21_4
                    try clear hcz23_0
                    try clear hcz23_1
                    try clear hcz23_2
                    try clear hcz23_3
                    try clear hcz23_4
                    try clear hcz25_0
                    try clear hcz25_1
                    try clear hcz25_2
                    try clear hcz25_3
                    try clear hcz25_4
                    try clear hcz26_0
                    try clear hcz26_1
                    try clear hcz26_2
                    try clear hcz26_3
                    try clear hcz26_4
                    try clear hcz29_0
                    try clear hcz29_1
                    try clear hcz29_2
                    try clear hcz29_3
                    try clear hcz29_4
                    try clear hcz31_0
                    try clear hcz31_1
                    try clear hcz31_2
                    try clear hcz31_3
                    try clear hcz31_4
                    try clear hcz36_0
                    try clear hcz36_1
                    try clear hcz36_2
                    try clear hcz36_3
                    try clear hcz36_4
                    try clear hcz38_0
                    try clear hcz38_1
                    try clear hcz38_2
                    try clear hcz38_3
                    try clear hcz38_4
                    try clear hcz39_0
                    try clear hcz39_1
                    try clear hcz39_2
                    try clear hcz39_3
                    try clear hcz39_4
                    try clear hcz40_0
                    try clear hcz40_1
                    try clear hcz40_2
                    try clear hcz40_3
                    try clear hcz40_4
                    try clear hcz42_0
                    try clear hcz42_1
                    try clear hcz42_2
                    try clear hcz42_3
                    try clear hcz42_4
                    try clear hcz44_0
                    try clear hcz44_1
                    try clear hcz44_2
                    try clear hcz44_3
                    try clear hcz44_4
                    try clear hcz45_0
                    try clear hcz45_1
                    try clear hcz45_2
                    try clear hcz45_3
                    try clear hcz45_4
                    try clear hcz50_0
                    try clear hcz50_1
                    try clear hcz50_2
                    try clear hcz50_3
                    try clear hcz50_4
                    try clear hcz52_0
                    try clear hcz52_1
                    try clear hcz52_2
                    try clear hcz52_3
                    try clear hcz52_4
                    try clear hcz53_0
                    try clear hcz53_1
                    try clear hcz53_2
                    try clear hcz53_3
                    try clear hcz53_4
                    try clear hcz54_0
                    try clear hcz54_1
                    try clear hcz54_2
                    try clear hcz54_3
                    try clear hcz54_4
                    try clear hcz56_0
                    try clear hcz56_1
                    try clear hcz56_2
                    try clear hcz56_3
                    try clear hcz56_4
                    try clear hcz58_0
                    try clear hcz58_1
                    try clear hcz58_2
                    try clear hcz58_3
                    try clear hcz58_4
                    try clear hcz59_0
                    try clear hcz59_1
                    try clear hcz59_2
                    try clear hcz59_3
                    try clear hcz59_4
                    try clear hcz5_0
                    try clear hcz5_1
                    try clear hcz5_2
                    try clear hcz5_3
                    try clear hcz5_4
                    try clear hcz60_0
                    try clear hcz60_1
                    try clear hcz60_2
                    try clear hcz60_3
                    try clear hcz60_4
                    try clear hcz6_0
                    try clear hcz6_1
                    try clear hcz6_2
                    try clear hcz6_3
                    try clear hcz6_4
                    try clear hfz10_0
                    try clear hfz10_1
                    try clear hfz10_2
                    try clear hfz10_3
                    try clear hfz10_4
                    try clear hfz14_0
                    try clear hfz14_1
                    try clear hfz14_2
                    try clear hfz14_3
                    try clear hfz14_4
                    try clear hfz15_0
                    try clear hfz15_1
                    try clear hfz15_2
                    try clear hfz15_3
                    try clear hfz15_4
                    try clear hfz17_0
                    try clear hfz17_1
                    try clear hfz17_2
                    try clear hfz17_3
                    try clear hfz17_4
                    try clear hfz19_0
                    try clear hfz19_1
                    try clear hfz19_2
                    try clear hfz19_3
                    try clear hfz19_4
                    try clear hfz21_0
                    try clear hfz21_1
                    try clear hfz21_2
                    try clear hfz21_3
                    try clear hfz21_4
                    try clear hfz23_0
                    try clear hfz23_1
                    try clear hfz23_2
                    try clear hfz23_3
                    try clear hfz23_4
                    try clear hfz25_0
                    try clear hfz25_1
                    try clear hfz25_2
                    try clear hfz25_3
                    try clear hfz25_4
                    try clear hfz26_0
                    try clear hfz26_1
                    try clear hfz26_2
                    try clear hfz26_3
                    try clear hfz26_4
                    try clear hfz29_0
                    try clear hfz29_1
                    try clear hfz29_2
                    try clear hfz29_3
                    try clear hfz29_4
                    try clear hfz31_0
                    try clear hfz31_1
                    try clear hfz31_2
                    try clear hfz31_3
                    try clear hfz31_4
                    try clear hfz36_0
                    try clear hfz36_1
                    try clear hfz36_2
                    try clear hfz36_3
                    try clear hfz36_4
                    try clear hfz38_0
                    try clear hfz38_1
                    try clear hfz38_2
                    try clear hfz38_3
                    try clear hfz38_4
                    try clear hfz39_0
                    try clear hfz39_1
                    try clear hfz39_2
                    try clear hfz39_3
                    try clear hfz39_4
                    try clear hfz40_0
                    try clear hfz40_1
                    try clear hfz40_2
                    try clear hfz40_3
                    try clear hfz40_4
                    try clear hfz42_0
                    try clear hfz42_1
                    try clear hfz42_2
                    try clear hfz42_3
                    try clear hfz42_4
                    try clear hfz44_0
                    try clear hfz44_1
                    try clear hfz44_2
                    try clear hfz44_3
                    try clear hfz44_4
                    try clear hfz45_0
                    try clear hfz45_1
                    try clear hfz45_2
                    try clear hfz45_3
                    try clear hfz45_4
                    try clear hfz50_0
                    try clear hfz50_1
                    try clear hfz50_2
                    try clear hfz50_3
                    try clear hfz50_4
                    try clear hfz52_0
                    try clear hfz52_1
                    try clear hfz52_2
                    try clear hfz52_3
                    try clear hfz52_4
                    try clear hfz53_0
                    try clear hfz53_1
                    try clear hfz53_2
                    try clear hfz53_3
                    try clear hfz53_4
                    try clear hfz54_0
                    try clear hfz54_1
                    try clear hfz54_2
                    try clear hfz54_3
                    try clear hfz54_4
                    try clear hfz56_0
                    try clear hfz56_1
                    try clear hfz56_2
                    try clear hfz56_3
                    try clear hfz56_4
                    try clear hfz58_0
                    try clear hfz58_1
                    try clear hfz58_2
                    try clear hfz58_3
                    try clear hfz58_4
                    try clear hfz59_0
                    try clear hfz59_1
                    try clear hfz59_2
                    try clear hfz59_3
                    try clear hfz59_4
                    try clear hfz5_0
                    try clear hfz5_1
                    try clear hfz5_2
                    try clear hfz5_3
                    try clear hfz5_4
                    try clear hfz60_0
                    try clear hfz60_1
                    try clear hfz60_2
                    try clear hfz60_3
                    try clear hfz60_4
                    try clear hfz6_0
                    try clear hfz6_1
                    try clear hfz6_2
                    try clear hfz6_3
                    try clear hfz6_4
                    try clear p2
                    obtain ⟨x4_4, rfl, HA, HK4, BK108, HB⟩ := hrel
                    cases gk with
                    | zero => exact absurd HA.out (by simp [spec_InsOk.l0])
                    | succ k4 =>
                      have H := HA.out
                      clear HA
                      simp only [spec_InsOk.l0] at H
                      by_cases c62 : x4_4 < (l0_4.length : Int)
                      · rw [if_pos c62] at H
                        have c62b0 : decide (x4_4 < (l0_4.length : Int)) = true := decide_eq_true c62
                        clear c62
                        by_cases c63 : 0 ≤ x4_4
                        · rw [if_pos c63] at H
                          have c63b0 : decide (0 ≤ x4_4) = true := decide_eq_true c63
                          clear c63
                          by_cases c64 : (rd l0_4 x4_4) < 0
                          · rw [if_pos c64] at H
                            have c64b0 : decide ((rd l0_4 x4_4) < 0) = true := decide_eq_true c64
                            clear c64
                            obtain rfl := Option.some.inj H
                            have hcz65_0 : wr.cell? ⟨gb108, 0, none⟩ = some (.int .i64 a0_0) := (blk_cell BK108.out 0).trans rfl
                            have hcz65_1 : wr.cell? ⟨gb108, 1, none⟩ = some (.int .i64 a0_1) := (blk_cell BK108.out 1).trans rfl
                            have hcz65_2 : wr.cell? ⟨gb108, 2, none⟩ = some (.int .i64 a0_2) := (blk_cell BK108.out 2).trans rfl
                            have hcz65_3 : wr.cell? ⟨gb108, 3, none⟩ = some (.slice A0_3 l0_3.length c0_3) := (blk_cell BK108.out 3).trans rfl
                            have hcz65_4 : wr.cell? ⟨gb108, 4, none⟩ = some (.slice A0_4 l0_4.length c0_4) := (blk_cell BK108.out 4).trans rfl
                            have hfz65_0 := blk_frozen BK108.out 0
                            have hfz65_1 := blk_frozen BK108.out 1
                            have hfz65_2 := blk_frozen BK108.out 2
                            have hfz65_3 := blk_frozen BK108.out 3
                            have hfz65_4 := blk_frozen BK108.out 4
                            have p111 : 0 ≤ (x4_4 : Int) := of_decide_eq_true (by first | (with_reducible assumption) | assumption)
                            have q111 : x4_4 < (l0_4.length : Int) := of_decide_eq_true (by first | (with_reducible assumption) | assumption)
                            obtain ⟨ad111, e111, hx111_0⟩ := Kd.at_int HR0_4.out x4_4 p111 q111
                            cases e111
                            replace hx111_0 := (HB.out.cell (World.block_lt_of_cell? w _ hx111_0)).trans hx111_0
                            replace p111 := eq_true p111
                            replace q111 := eq_true q111
                            go_wp2
                            go_ret
                            exact ⟨by first | rfl | (simp [errW_none, errW_some] <;> rfl) | (simp [*, errW_none, errW_some] <;> rfl), by repeat (first | (with_reducible first | exact HB.out | apply below_alloc | apply pw_below_drewN | apply below_drew1 | refine below_set ?_ GE108.out) | exact HB.out)⟩
                          · rw [if_neg c64] at H
                            have c64b0 : decide ((rd l0_4 x4_4) < 0) = false := decide_eq_false c64
                            clear c64
                            by_cases c66 : (rd l0_4 x4_4) > 2147483647
                            · rw [if_pos c66] at H
                              have c66b0 : decide (2147483647 < (rd l0_4 x4_4)) = true := decide_eq_true c66
                              clear c66
                              obtain rfl := Option.some.inj H
                              have hcz67_0 : wr.cell? ⟨gb108, 0, none⟩ = some (.int .i64 a0_0) := (blk_cell BK108.out 0).trans rfl
                              have hcz67_1 : wr.cell? ⟨gb108, 1, none⟩ = some (.int .i64 a0_1) := (blk_cell BK108.out 1).trans rfl
                              have hcz67_2 : wr.cell? ⟨gb108, 2, none⟩ = some (.int .i64 a0_2) := (blk_cell BK108.out 2).trans rfl
                              have hcz67_3 : wr.cell? ⟨gb108, 3, none⟩ = some (.slice A0_3 l0_3.length c0_3) := (blk_cell BK108.out 3).trans rfl
                              have hcz67_4 : wr.cell? ⟨gb108, 4, none⟩ = some (.slice A0_4 l0_4.length c0_4) := (blk_cell BK108.out 4).trans rfl
                              have hfz67_0 := blk_frozen BK108.out 0
                              have hfz67_1 := blk_frozen BK108.out 1
                              have hfz67_2 := blk_frozen BK108.out 2
                              have hfz67_3 := blk_frozen BK108.out 3
                              have hfz67_4 := blk_frozen BK108.out 4
                              have p111 : 0 ≤ (x4_4 : Int) := of_decide_eq_true (by first | (with_reducible assumption) | assumption)
                              have q111 : x4_4 < (l0_4.length : Int) := of_decide_eq_true (by first | (with_reducible assumption) | assumption)
                              obtain ⟨ad111, e111, hx111_0⟩ := Kd.at_int HR0_4.out x4_4 p111 q111
                              cases e111
                              replace hx111_0 := (HB.out.cell (World.block_lt_of_cell? w _ hx111_0)).trans hx111_0
                              replace p111 := eq_true p111
                              replace q111 := eq_true q111
                              have p112 : 0 ≤ (x4_4 : Int) := of_decide_eq_true (by first | (with_reducible assumption) | assumption)
                              have q112 : x4_4 < (l0_4.length : Int) := of_decide_eq_true (by first | (with_reducible assumption) | assumption)
                              obtain ⟨ad112, e112, hx112_0⟩ := Kd.at_int HR0_4.out x4_4 p112 q112
                              obtain rfl : ad111 = ad112 := (by injection e112)
                              replace hx112_0 := (HB.out.cell (World.block_lt_of_cell? w _ hx112_0)).trans hx112_0
                              replace p112 := eq_true p112
                              replace q112 := eq_true q112
                              go_wp2
                              go_ret
                              exact ⟨by first | rfl | (simp [errW_none, errW_some] <;> rfl) | (simp [*, errW_none, errW_some] <;> rfl), by repeat (first | (with_reducible first | exact HB.out | apply below_alloc | apply pw_below_drewN | apply below_drew1 | refine below_set ?_ GE108.out) | exact HB.out)⟩
                            · rw [if_neg c66] at H
                              have c66b0 : decide (2147483647 < (rd l0_4 x4_4)) = false := decide_eq_false c66
                              clear c66
                              have H' := Aside0.mk H
                              clear H
                              have hcz68_0 : wr.cell? ⟨gb108, 0, none⟩ = some (.int .i64 a0_0) := (blk_cell BK108.out 0).trans rfl
                              have hcz68_1 : wr.cell? ⟨gb108, 1, none⟩ = some (.int .i64 a0_1) := (blk_cell BK108.out 1).trans rfl
                              have hcz68_2 : wr.cell? ⟨gb108, 2, none⟩ = some (.int .i64 a0_2) := (blk_cell BK108.out 2).trans rfl
                              have hcz68_3 : wr.cell? ⟨gb108, 3, none⟩ = some (.slice A0_3 l0_3.length c0_3) := (blk_cell BK108.out 3).trans rfl
                              have hcz68_4 : wr.cell? ⟨gb108, 4, none⟩ = some (.slice A0_4 l0_4.length c0_4) := (blk_cell BK108.out 4).trans rfl
                              have hfz68_0 := blk_frozen BK108.out 0
                              have hfz68_1 := blk_frozen BK108.out 1
                              have hfz68_2 := blk_frozen BK108.out 2
                              have hfz68_3 := blk_frozen BK108.out 3
                              have hfz68_4 := blk_frozen BK108.out 4
                              have p111 : 0 ≤ (x4_4 : Int) := of_decide_eq_true (by first | (with_reducible assumption) | assumption)
                              have q111 : x4_4 < (l0_4.length : Int) := of_decide_eq_true (by first | (with_reducible assumption) | assumption)
                              obtain ⟨ad111, e111, hx111_0⟩ := Kd.at_int HR0_4.out x4_4 p111 q111
                              cases e111
                              replace hx111_0 := (HB.out.cell (World.block_lt_of_cell? w _ hx111_0)).trans hx111_0
                              replace p111 := eq_true p111
                              replace q111 := eq_true q111
                              have p112 : 0 ≤ (x4_4 : Int) := of_decide_eq_true (by first | (with_reducible assumption) | assumption)
                              have q112 : x4_4 < (l0_4.length : Int) := of_decide_eq_true (by first | (with_reducible assumption) | assumption)
                              obtain ⟨ad112, e112, hx112_0⟩ := Kd.at_int HR0_4.out x4_4 p112 q112
                              obtain rfl : ad111 = ad112 := (by injection e112)
                              replace hx112_0 := (HB.out.cell (World.block_lt_of_cell? w _ hx112_0)).trans hx112_0
                              replace p112 := eq_true p112
                              replace q112 := eq_true q112
                              go_wp2
                              go_roundg k4
                              case measure => have := HJ1.out; have := HJ8.out; have := HJ26.out; have := HK4.out; omega
                              case rel => exact ⟨(wrap64 (x4_4 + 1)), (by first | rfl | (simp; done) | (simp [*]; done) | (simp [bne]; done)), H', ⟨by have := HJ1.out; have := HJ8.out; have := HJ26.out; have := HK4.out; omega⟩, ⟨by (with_reducible repeat (first | refine blk_drewN ?_ _ | refine blk_drew ?_ | refine blk_alloc ?_ _)); exact BK108.out⟩, ⟨by repeat (first | (with_reducible first | exact HB.out | apply below_alloc | apply pw_below_drewN | apply below_drew1 | refine below_set ?_ GE108.out) | exact HB.out)⟩⟩
                        · rw [if_neg c63] at H
                          exact absurd H (by simp)
                      · rw [if_neg c62] at H
                        have c62b0 : decide (x4_4 < (l0_4.length : Int)) = false := decide_eq_false c62
                        clear c62
                        replace H := Option.bind_eq_some_iff.mp H
                        obtain ⟨t113, A690, H⟩ := H
                        replace H : (some t113) = some r := H
                        have A69 := Aside0.mk A690
                        clear A690
                        obtain rfl := Option.some.inj H
                        have hcz70_0 : wr.cell? ⟨gb108, 0, none⟩ = some (.int .i64 a0_0) := (blk_cell BK108.out 0).trans rfl
                        have hcz70_1 : wr.cell? ⟨gb108, 1, none⟩ = some (.int .i64 a0_1) := (blk_cell BK108.out 1).trans rfl
                        have hcz70_2 : wr.cell? ⟨gb108, 2, none⟩ = some (.int .i64 a0_2) := (blk_cell BK108.out 2).trans rfl
                        have hcz70_3 : wr.cell? ⟨gb108, 3, none⟩ = some (.slice A0_3 l0_3.length c0_3) := (blk_cell BK108.out 3).trans rfl
                        have hcz70_4 : wr.cell? ⟨gb108, 4, none⟩ = some (.slice A0_4 l0_4.length c0_4) := (blk_cell BK108.out 4).trans rfl
                        have hfz70_0 := blk_frozen BK108.out 0
                        have hfz70_1 := blk_frozen BK108.out 1
                        have hfz70_2 := blk_frozen BK108.out 2
                        have hfz70_3 := blk_frozen BK108.out 3
                        have hfz70_4 := blk_frozen BK108.out 4
                        go_wp2_with (first | ((with_reducible refine gate_callee (f := 53) rfl ?_); refine goesL_ (some 115) rfl rfl Try.func53 (by kernel_rfl) rfl #[.slice A0_3 l0_3.length c0_3] rfl (by (try simp only [List.map_toArray, List.map_cons, List.map_nil]); first | done | rfl | (simp only [List.length_drop, List.length_take]; rfl)) ?_; (with_reducible refine (spec_l5lit.calls k4 _ _ l0_3 t113 _ ?side1 ?side2 A69.out).mono ?_); (case side1 => repeat (first | exact (Kd.C_below HR0_3.out HB.out) | (with_reducible refine Kd.C_alloc ?_ _) | (with_reducible refine Kd.C_drewN ?_ _) | (with_reducible refine Kd.C_drew ?_))); (case side2 => exact HC0_3.out); rintro e w' ⟨rfl, ⟨nd, rfl⟩⟩; refine ⟨_, rfl, ?_⟩))
                        go_ret
                        exact ⟨by first | rfl | (simp [errW_none, errW_some] <;> rfl) | (simp [*, errW_none, errW_some] <;> rfl), by repeat (first | (with_reducible first | exact HB.out | apply below_alloc | apply pw_below_drewN | apply below_drew1 | refine below_set ?_ GE108.out) | exact HB.out)⟩

end Go.Proofs.Ytmbacnnbpnlekaa.PA
