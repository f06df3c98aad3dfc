-- Printed by a program of this session (wrap.py) out of the translation. Lean checks it.
import Derived.Test.YtmbacnnbpnlekaaPDx0
namespace Go.Proofs.Ytmbacnnbpnlekaa.PD
open Go.RowKit Go.Proofs.YtmbacnnbpnlekaaW.PrintWords Go.Proofs.YtmbacnnbpnlekaaW.PrintLast Go.Proofs.YtmbacnnbpnlekaaW.PrintMore
attribute [local go_sem] max2_int min2_int max_two min_two max_three min_three max_four min_four   -- for this text's walks alone
set_option linter.unusedVariables false
set_option linter.unusedSimpArgs false

/-! ### impl_BindsOk_1: function 78 -/
def impl_BindsOk_1.f (S_ : List Int) (b : Bool) (a1 : Int) : Option Bool := if (Lit.int .i64 a1).wf = true then some (b || decide (a1 ∈ S_)) else none
set_option maxHeartbeats 8000000 in
set_option maxRecDepth 100000 in
theorem impl_BindsOk_1.calls (S_ : List Int) (m : Nat) (b : Bool) (a1 : Int) (gb0 gb9 gm : Nat) (r : Bool) (E w : World) (hB : Below E.heap.size E w) (hG : E.heap.size ≤ gb0) (hb0 : w.heap[gb0]? = some (.cells #[.bool b] 4 (0, 0))) (hb9 : w.heap[gb9]? = some (.cells #[.map (some gm)] 117 (0, 0))) (hs : Go.Proofs.Ytmbacnnbpnlekaa.MB.Seen w gm m S_) (h : impl_BindsOk_1.f S_ b a1 = some r) :
    Calls Try.prog 78 #[.int .i64 a1, .pointer (some ⟨gb0, 0, none⟩), .pointer (some ⟨gb9, 0, none⟩)] w fun e w' => e = .returned (.tuple #[]) ∧ w'.heap[gb0]? = some (.cells #[.bool r] 4 (0, 0)) ∧ Below E.heap.size E w' ∧ Kept w w' (fun k => k = gb0) := by
  have HB := Aside0.mk hB
  have GE0 := Aside0.mk hG
  have BK0 := Aside0.mk hb0
  have HK := Aside0.mk (Kept.refl w (fun k => k = gb0))
  have hc0_0 : w.cell? ⟨gb0, 0, none⟩ = some (.bool b) := (blk_cell hb0 0).trans rfl
  have hf0_0 := blk_frozen hb0 0
  have hc9_0 : w.cell? ⟨gb9, 0, none⟩ = some (.map (some gm)) := (blk_cell hb9 0).trans rfl
  rw [impl_BindsOk_1.f] at h
  by_cases cw : (Lit.int .i64 a1).wf = true
  · rw [if_pos cw] at h
    have hl := hs.look cw
    have hr := Aside0.mk (Option.some.inj h)
    clear h hs cw hB hG hb0 hb9
    go_enter Try.func78, Try.ntmps78
    cases b with
    | true =>
      go_wp2
      go_end0
      refine ⟨by first | rfl | (simp; done), ?_, ?_, ?_⟩
      · (with_reducible repeat (first | refine blk_drewN ?_ _ | refine blk_drew ?_ | refine blk_alloc ?_ _))
        have hr2 := hr.out
        rw [Bool.true_or] at hr2
        subst hr2
        exact blk_put (cs := #[.bool true]) BK0.out 0 _ rfl
      · repeat (first | (with_reducible first | exact HB.out | apply below_alloc | apply pw_below_drewN | apply below_drew1) | refine below_set ?_ GE0.out | exact HB.out)
      · (with_reducible repeat (first | apply Kept.alloc | apply Kept.drewN | apply Kept.drew))
        exact Kept.setCell (S := fun k => k = gb0) HK.out (p := ⟨gb0, 0, none⟩) (Or.inl rfl) _
    | false =>
      go_wp2
      go_end0
      refine ⟨by first | rfl | (simp; done), ?_, ?_, ?_⟩
      · (with_reducible repeat (first | refine blk_drewN ?_ _ | refine blk_drew ?_ | refine blk_alloc ?_ _))
        have hr2 := hr.out
        rw [Bool.false_or] at hr2
        subst hr2
        exact blk_put (cs := #[.bool false]) BK0.out 0 _ rfl
      · repeat (first | (with_reducible first | exact HB.out | apply below_alloc | apply pw_below_drewN | apply below_drew1) | refine below_set ?_ GE0.out | exact HB.out)
      · (with_reducible repeat (first | apply Kept.alloc | apply Kept.drewN | apply Kept.drew))
        exact Kept.setCell (S := fun k => k = gb0) HK.out (p := ⟨gb0, 0, none⟩) (Or.inl rfl) _
  · rw [if_neg cw] at h
    cases h

/-! ### impl_eachVar: function 77 -/
mutual
def impl_eachVar.l0 : Nat → List Int → List (S63) → Int → Bool → Option Bool
  | 0, _, _, _, _ => none
  | k + 1, S_, x0, x1, x2 => if x1 < (x0.length : Int) then (if 0 ≤ x1 then ((impl_eachVar.f k S_ x2 (rd_T63 x0 x1).f0 (rd_T63 x0 x1).f1 (rd_T63 x0 x1).f2).bind fun t => impl_eachVar.l0 k S_ x0 (wrap64 (x1 + 1)) t) else none) else some x2
def impl_eachVar.f : Nat → List Int → Bool → Int → Int → List (S63) → Option Bool
  | 0, _, _, _, _, _ => none
  | k + 1, S_, b, x, y, l => if x = 7 then (impl_BindsOk_1.f S_ b y).bind fun b1 => impl_eachVar.l0 k S_ l 0 b1 else impl_eachVar.l0 k S_ l 0 b
end
theorem impl_eachVar.mono_l : ∀ k, (∀ S_ x0 x1 x2, LeO (impl_eachVar.l0 k S_ x0 x1 x2) (impl_eachVar.l0 (k + 1) S_ x0 x1 x2)) ∧ (∀ S_ b x y l, LeO (impl_eachVar.f k S_ b x y l) (impl_eachVar.f (k + 1) S_ b x y l))
  | 0 => ⟨fun _ _ _ _ r h => by simp [impl_eachVar.l0] at h, fun _ _ _ _ _ r h => by simp [impl_eachVar.f] at h⟩
  | k + 1 => by
    have ih := impl_eachVar.mono_l k
    refine ⟨?_, ?_⟩
    · intro S_ x0 x1 x2
      unfold impl_eachVar.l0
      repeat' first
        | exact ih.1 _ _ _ _
        | exact ih.2 _ _ _ _ _
        | exact LeO.refl _
        | exact LeO.none _
        | refine LeO.ite ?_ ?_
        | refine LeO.bind ?_ (fun _ => ?_)
    · intro S_ b x y l
      unfold impl_eachVar.f
      repeat' first
        | exact ih.1 _ _ _ _
        | exact LeO.refl _
        | refine LeO.ite ?_ ?_
        | refine LeO.bind ?_ (fun _ => ?_)
set_option maxHeartbeats 8000000 in
set_option maxRecDepth 100000 in
theorem impl_eachVar.calls (k : Nat) : ∀ (S_ : List Int) (m : Nat) (b : Bool) (a1_0 a1_1 : Int) (A1_2 : Option Addr) (c1_2 : Nat) (l1_2 : List (S63)) (gb0 gb9 gm : Nat) (r : Bool) (E w : World) (hB : Below E.heap.size E w) (hG : E.heap.size ≤ gb0) (hb0 : w.heap[gb0]? = some (.cells #[.bool b] 4 (0, 0))) (hb9 : w.heap[gb9]? = some (.cells #[.map (some gm)] 117 (0, 0))) (hs : Go.Proofs.Ytmbacnnbpnlekaa.MB.Seen w gm m S_) (hn9 : gb9 ≠ gb0) (hnm : gm ≠ gb0) (hr : Kd.C k63 E A1_2 l1_2.length l1_2) (hc : l1_2.length ≤ c1_2) (h : impl_eachVar.f k S_ b a1_0 a1_1 l1_2 = some r),
    Calls Try.prog 77 #[.agg #[.int .i64 a1_0, .int .i64 a1_1, .slice A1_2 l1_2.length c1_2], .func (.func 78) #[] #[.pointer (some ⟨gb0, 0, none⟩), .pointer (some ⟨gb9, 0, none⟩)]] w fun e w' => e = .returned (.tuple #[]) ∧ w'.heap[gb0]? = some (.cells #[.bool r] 4 (0, 0)) ∧ Below E.heap.size E w' ∧ Kept w w' (fun k => k = gb0) := by
  induction k using Nat.strongRecOn with
  | _ k ih =>
  intro S_ m b a1_0 a1_1 A1_2 c1_2 l1_2 gb0 gb9 gm r E w hB hG hb0 hb9 hs hn9 hnm hr hc h
  cases k with
  | zero => exact absurd h (by simp [impl_eachVar.f])
  | succ k =>
  rw [impl_eachVar.f] at h
  have hu63 := Try.underlying63
  have HBS := Aside0.mk (show E.heap.size ≤ w.heap.size from hB.size)
  have HB := Aside0.mk hB
  have GE0 := Aside0.mk hG
  have GL0 := Aside0.mk (show gb0 < w.heap.size from blk_lt hb0)
  have GL9 := Aside0.mk (show gb9 < w.heap.size from blk_lt hb9)
  have GLM := Aside0.mk (show gm < w.heap.size from hs.lt)
  have HN9 := Aside0.mk hn9
  have HNM := Aside0.mk hnm
  have BK0 := Aside0.mk hb0
  have BK9 := Aside0.mk hb9
  have HS := Aside0.mk hs
  have HR := Aside0.mk hr
  have HC := Aside0.mk hc
  have HK := Aside0.mk (Kept.refl w (fun k_ => k_ = gb0))
  clear hB hG hb0 hb9 hs hn9 hnm hr hc
  by_cases c7 : a1_0 = 7
  · rw [if_pos c7] at h
    have c7b : decide (a1_0 = 7) = true := decide_eq_true c7
    have c7e := eq_true c7
    have c7q : (a1_0 == 7) = true := by rw [c7]; rfl
    clear c7
    obtain ⟨b1, AP0, h⟩ := Option.bind_eq_some_iff.mp h
    have AP := Aside0.mk AP0
    clear AP0
    go_enter Try.func77, Try.ntmps77
    go_wp2_with (first | ((with_reducible refine gate_dst (N := 2) rfl ?_); refine box_event ?hg (N := 2) ?hd (cs := #[.int .i64 a1_0, .int .i64 a1_1, .slice A1_2 l1_2.length c1_2]) (t := 63) ?hr ?_; (case hd => rfl); (case hg => rfl); (case hr => first | (go_simp; done) | (go_simp; rfl)); intro gb2 hg w3 hbox hb; have hle : w.heap.size ≤ gb2 := (by rw [hg]; exact (show Kept w _ (fun k_ => k_ = gb0) from (by repeat (first | (with_reducible first | exact HK.out | apply Kept.alloc | apply Kept.drewN | apply Kept.drew) | exact HK.out))).1); have NB := Aside0.mk (show gb0 ≠ gb2 from (by have := GL0.out; omega)); have n0_ := Aside0.mk (Go.Proofs.Ytmbacnnbpnlekaa.MB.Seen.below (show Go.Proofs.Ytmbacnnbpnlekaa.MB.Seen _ gm m S_ from (by repeat (first | (with_reducible exact HS.out) | (with_reducible apply Go.Proofs.Ytmbacnnbpnlekaa.MB.Seen.alloc) | (with_reducible apply Go.Proofs.Ytmbacnnbpnlekaa.MB.Seen.drewN) | (with_reducible apply Go.Proofs.Ytmbacnnbpnlekaa.MB.Seen.drew)))) hb); have n1_ := Aside0.mk (Kept.below (by repeat (first | (with_reducible first | exact HK.out | apply Kept.alloc | apply Kept.drewN | apply Kept.drew) | exact HK.out)) hb); have n2_ := Aside0.mk (blk_below (g := gb0) (o := .cells #[.bool b] 4 (0, 0)) (show (World.heap _)[gb0]? = some (.cells #[.bool b] 4 (0, 0)) from (by (with_reducible repeat (first | refine blk_drewN ?_ _ | refine blk_drew ?_ | refine blk_alloc ?_ _)); exact BK0.out)) hb); have n3_ := Aside0.mk (blk_below (g := gb9) (o := .cells #[.map (some gm)] 117 (0, 0)) (show (World.heap _)[gb9]? = some (.cells #[.map (some gm)] 117 (0, 0)) from (by (with_reducible repeat (first | refine blk_drewN ?_ _ | refine blk_drew ?_ | refine blk_alloc ?_ _)); exact BK9.out)) hb); have n4_ := Aside0.mk (below_step (by repeat (first | (with_reducible first | exact HB.out | apply below_alloc | apply pw_below_drewN | apply below_drew1) | exact HB.out)) hb); have n5_ := Aside0.mk (hbox); (try clear HS); (try clear HK); (try clear BK0); (try clear BK9); (try clear HB); (try clear BK2); have HS := n0_; have HK := n1_; have BK0 := n2_; have BK9 := n3_; have HB := n4_; have BK2 := n5_; (try clear n0_); (try clear n1_); (try clear n2_); (try clear n3_); (try clear n4_); (try clear n5_); clear hb hbox hg hle; (try clear hc2_0 hc2_1 hc2_2 hf2_0 hf2_1 hf2_2); have hc2_0 : w3.cell? ⟨gb2, 0, none⟩ = some (.int .i64 a1_0) := (blk_cell BK2.out 0).trans rfl; have hc2_1 : w3.cell? ⟨gb2, 1, none⟩ = some (.int .i64 a1_1) := (blk_cell BK2.out 1).trans rfl; have hc2_2 : w3.cell? ⟨gb2, 2, none⟩ = some (.slice A1_2 l1_2.length c1_2) := (blk_cell BK2.out 2).trans rfl; have hf2_0 := blk_frozen BK2.out 0; have hf2_1 := blk_frozen BK2.out 1; have hf2_2 := blk_frozen BK2.out 2) | (go_at_call 78; (with_reducible refine (impl_BindsOk_1.calls S_ m b a1_1 gb0 gb9 gm b1 E _ ?side1 GE0.out ?side2 ?side3 ?side4 AP.out).mono ?_); (case side1 => exact (by repeat (first | (with_reducible first | exact HB.out | apply below_alloc | apply pw_below_drewN | apply below_drew1) | exact HB.out))); (case side2 => exact (show (World.heap _)[gb0]? = some (.cells #[.bool b] 4 (0, 0)) from (by (with_reducible repeat (first | refine blk_drewN ?_ _ | refine blk_drew ?_ | refine blk_alloc ?_ _)); exact BK0.out))); (case side3 => exact (show (World.heap _)[gb9]? = some (.cells #[.map (some gm)] 117 (0, 0)) from (by (with_reducible repeat (first | refine blk_drewN ?_ _ | refine blk_drew ?_ | refine blk_alloc ?_ _)); exact BK9.out))); (case side4 => exact (show Go.Proofs.Ytmbacnnbpnlekaa.MB.Seen _ gm m S_ from (by repeat (first | (with_reducible exact HS.out) | (with_reducible apply Go.Proofs.Ytmbacnnbpnlekaa.MB.Seen.alloc) | (with_reducible apply Go.Proofs.Ytmbacnnbpnlekaa.MB.Seen.drewN) | (with_reducible apply Go.Proofs.Ytmbacnnbpnlekaa.MB.Seen.drew))))); rintro e w7 ⟨rfl, hbk, hb, hk⟩; have n0_ := Aside0.mk (Go.Proofs.Ytmbacnnbpnlekaa.MB.Seen.kept (show Go.Proofs.Ytmbacnnbpnlekaa.MB.Seen _ gm m S_ from (by repeat (first | (with_reducible exact HS.out) | (with_reducible apply Go.Proofs.Ytmbacnnbpnlekaa.MB.Seen.alloc) | (with_reducible apply Go.Proofs.Ytmbacnnbpnlekaa.MB.Seen.drewN) | (with_reducible apply Go.Proofs.Ytmbacnnbpnlekaa.MB.Seen.drew)))) hk HNM.out); have n1_ := Aside0.mk (Kept.then_ (S := (fun k_ => k_ = gb0)) (show Kept w _ (fun k_ => k_ = gb0) from (by repeat (first | (with_reducible first | exact HK.out | apply Kept.alloc | apply Kept.drewN | apply Kept.drew) | exact HK.out))) hk (fun k_ hk' => .inl hk')); have n2_ := Aside0.mk (blk_kept (g := gb2) (o := .cells #[.int .i64 a1_0, .int .i64 a1_1, .slice A1_2 l1_2.length c1_2] 63 (0, 0)) (show (World.heap _)[gb2]? = some (.cells #[.int .i64 a1_0, .int .i64 a1_1, .slice A1_2 l1_2.length c1_2] 63 (0, 0)) from (by (with_reducible repeat (first | refine blk_drewN ?_ _ | refine blk_drew ?_ | refine blk_alloc ?_ _)); exact BK2.out)) hk (fun e_ => NB.out e_.symm)); have n3_ := Aside0.mk (blk_kept (g := gb9) (o := .cells #[.map (some gm)] 117 (0, 0)) (show (World.heap _)[gb9]? = some (.cells #[.map (some gm)] 117 (0, 0)) from (by (with_reducible repeat (first | refine blk_drewN ?_ _ | refine blk_drew ?_ | refine blk_alloc ?_ _)); exact BK9.out)) hk HN9.out); have n4_ := Aside0.mk (hbk); have n5_ := Aside0.mk (hb); (try clear HS); (try clear HK); (try clear BK2); (try clear BK9); (try clear BK0); (try clear HB); have HS := n0_; have HK := n1_; have BK2 := n2_; have BK9 := n3_; have BK0 := n4_; have HB := n5_; (try clear n0_); (try clear n1_); (try clear n2_); (try clear n3_); (try clear n4_); (try clear n5_); clear hb hk hbk; (try clear hc2_0 hc2_1 hc2_2 hf2_0 hf2_1 hf2_2); have hc2_0 : w7.cell? ⟨gb2, 0, none⟩ = some (.int .i64 a1_0) := (blk_cell BK2.out 0).trans rfl; have hc2_1 : w7.cell? ⟨gb2, 1, none⟩ = some (.int .i64 a1_1) := (blk_cell BK2.out 1).trans rfl; have hc2_2 : w7.cell? ⟨gb2, 2, none⟩ = some (.slice A1_2 l1_2.length c1_2) := (blk_cell BK2.out 2).trans rfl; have hf2_0 := blk_frozen BK2.out 0; have hf2_1 := blk_frozen BK2.out 1; have hf2_2 := blk_frozen BK2.out 2))
    go_loopg [16] k (fun kq vi w' => ∃ (b : Bool) (i : Int), vi = .int .i64 i ∧ Aside0 (impl_eachVar.l0 kq S_ l1_2 i b = some r) ∧ Aside0 (kq ≤ k) ∧ Aside0 (Go.Proofs.Ytmbacnnbpnlekaa.MB.Seen w' gm m S_) ∧ Aside0 (Kept w w' (fun k_ => k_ = gb0)) ∧ Aside0 (w'.heap[gb2]? = some (.cells #[.int .i64 a1_0, .int .i64 a1_1, .slice A1_2 l1_2.length c1_2] 63 (0, 0))) ∧ Aside0 (w'.heap[gb0]? = some (.cells #[.bool b] 4 (0, 0))) ∧ Aside0 (w'.heap[gb9]? = some (.cells #[.map (some gm)] 117 (0, 0))) ∧ Aside0 (Below E.heap.size E w'))
    case atStart => exact ⟨b1, 0, (by first | rfl | (simp; done)), ⟨h⟩, ⟨Nat.le_refl _⟩, ⟨by repeat (first | (with_reducible exact HS.out) | (with_reducible apply Go.Proofs.Ytmbacnnbpnlekaa.MB.Seen.alloc) | (with_reducible apply Go.Proofs.Ytmbacnnbpnlekaa.MB.Seen.drewN) | (with_reducible apply Go.Proofs.Ytmbacnnbpnlekaa.MB.Seen.drew))⟩, ⟨by repeat (first | (with_reducible first | exact HK.out | apply Kept.alloc | apply Kept.drewN | apply Kept.drew) | exact HK.out)⟩, ⟨by (with_reducible repeat (first | refine blk_drewN ?_ _ | refine blk_drew ?_ | refine blk_alloc ?_ _)); exact BK2.out⟩, ⟨by (with_reducible repeat (first | refine blk_drewN ?_ _ | refine blk_drew ?_ | refine blk_alloc ?_ _)); exact BK0.out⟩, ⟨by (with_reducible repeat (first | refine blk_drewN ?_ _ | refine blk_drew ?_ | refine blk_alloc ?_ _)); exact BK9.out⟩, ⟨by repeat (first | (with_reducible first | exact HB.out | apply below_alloc | apply pw_below_drewN | apply below_drew1) | exact HB.out)⟩⟩
    case round =>
      clear HS HK BK2 BK0 BK9 HB
      (try clear hc2_0 hc2_1 hc2_2 hf2_0 hf2_1 hf2_2)
      obtain ⟨b, i, rfl, HA, HK1, HS, HK, BK2, BK0, BK9, HB⟩ := hrel
      cases gk with
      | zero => exact absurd HA.out (by simp [impl_eachVar.l0])
      | succ k1 =>
        have H := HA.out
        clear HA
        simp only [impl_eachVar.l0] at H
        have hc2_0 : wr.cell? ⟨gb2, 0, none⟩ = some (.int .i64 a1_0) := (blk_cell BK2.out 0).trans rfl
        have hc2_1 : wr.cell? ⟨gb2, 1, none⟩ = some (.int .i64 a1_1) := (blk_cell BK2.out 1).trans rfl
        have hc2_2 : wr.cell? ⟨gb2, 2, none⟩ = some (.slice A1_2 l1_2.length c1_2) := (blk_cell BK2.out 2).trans rfl
        have hf2_0 := blk_frozen BK2.out 0
        have hf2_1 := blk_frozen BK2.out 1
        have hf2_2 := blk_frozen BK2.out 2
        by_cases ci : i < (l1_2.length : Int)
        · rw [if_pos ci] at H
          have cib : decide (i < (l1_2.length : Int)) = true := decide_eq_true ci
          by_cases c0 : 0 ≤ i
          · rw [if_pos c0] at H
            obtain ⟨t, A70, H⟩ := Option.bind_eq_some_iff.mp H
            have A7 := Aside0.mk A70
            have H' := Aside0.mk H
            clear A70 H
            obtain ⟨ad, A2, c2, e1_, hx0, hx1, hx2, hl, hi⟩ := at_T63 HR.out i c0 ci
            cases e1_
            replace hx0 := (HB.out.cell (World.block_lt_of_cell? E _ hx0)).trans hx0
            replace hx1 := (HB.out.cell (World.block_lt_of_cell? E _ hx1)).trans hx1
            replace hx2 := (HB.out.cell (World.block_lt_of_cell? E _ hx2)).trans hx2
            have HRI := Aside0.mk hi
            have HCI := Aside0.mk hl
            clear hi hl
            have c0b := eq_true c0
            have cic := eq_true ci
            go_wp2_with (first | ((with_reducible refine gate_dst (N := 5) rfl ?_); refine box_event ?hg (N := 5) ?hd (cs := #[.int .i64 0, .int .i64 0, .slice none 0 0]) (t := 63) ?hr ?_; (case hd => rfl); (case hg => rfl); (case hr => first | (go_simp; done) | (go_simp; rfl)); intro gb5 hg w6 hbox hb; have hle : w.heap.size ≤ gb5 := (by rw [hg]; exact (show Kept w _ (fun k_ => k_ = gb0) from (by repeat (first | (with_reducible first | exact HK.out | apply Kept.alloc | apply Kept.drewN | apply Kept.drew) | exact HK.out))).1); have GW5 := Aside0.mk hle; have GE5 := Aside0.mk (show E.heap.size ≤ gb5 from Nat.le_trans HBS.out hle); have NB5 := Aside0.mk (show gb2 ≠ gb5 from (by have := blk_lt (show (World.heap _)[gb2]? = some (.cells #[.int .i64 a1_0, .int .i64 a1_1, .slice (some ad) l1_2.length c1_2] 63 (0, 0)) from (by (with_reducible repeat (first | refine blk_drewN ?_ _ | refine blk_drew ?_ | refine blk_alloc ?_ _)); exact BK2.out)); rw [hg]; intro e_; rw [← e_] at this; exact Nat.lt_irrefl _ this)); have NB6 := Aside0.mk (show gb0 ≠ gb5 from (by have := GL0.out; omega)); have NB7 := Aside0.mk (show gb9 ≠ gb5 from (by have := GL9.out; omega)); have NB8 := Aside0.mk (show gm ≠ gb5 from (by have := GLM.out; omega)); have n0_ := Aside0.mk (Go.Proofs.Ytmbacnnbpnlekaa.MB.Seen.below (show Go.Proofs.Ytmbacnnbpnlekaa.MB.Seen _ gm m S_ from (by repeat (first | (with_reducible exact HS.out) | (with_reducible apply Go.Proofs.Ytmbacnnbpnlekaa.MB.Seen.alloc) | (with_reducible apply Go.Proofs.Ytmbacnnbpnlekaa.MB.Seen.drewN) | (with_reducible apply Go.Proofs.Ytmbacnnbpnlekaa.MB.Seen.drew)))) hb); have n1_ := Aside0.mk (Kept.below (by repeat (first | (with_reducible first | exact HK.out | apply Kept.alloc | apply Kept.drewN | apply Kept.drew) | exact HK.out)) hb); have n2_ := Aside0.mk (blk_below (g := gb2) (o := .cells #[.int .i64 a1_0, .int .i64 a1_1, .slice (some ad) l1_2.length c1_2] 63 (0, 0)) (show (World.heap _)[gb2]? = some (.cells #[.int .i64 a1_0, .int .i64 a1_1, .slice (some ad) l1_2.length c1_2] 63 (0, 0)) from (by (with_reducible repeat (first | refine blk_drewN ?_ _ | refine blk_drew ?_ | refine blk_alloc ?_ _)); exact BK2.out)) hb); have n3_ := Aside0.mk (blk_below (g := gb0) (o := .cells #[.bool b] 4 (0, 0)) (show (World.heap _)[gb0]? = some (.cells #[.bool b] 4 (0, 0)) from (by (with_reducible repeat (first | refine blk_drewN ?_ _ | refine blk_drew ?_ | refine blk_alloc ?_ _)); exact BK0.out)) hb); have n4_ := Aside0.mk (blk_below (g := gb9) (o := .cells #[.map (some gm)] 117 (0, 0)) (show (World.heap _)[gb9]? = some (.cells #[.map (some gm)] 117 (0, 0)) from (by (with_reducible repeat (first | refine blk_drewN ?_ _ | refine blk_drew ?_ | refine blk_alloc ?_ _)); exact BK9.out)) hb); have n5_ := Aside0.mk (below_step (by repeat (first | (with_reducible first | exact HB.out | apply below_alloc | apply pw_below_drewN | apply below_drew1) | exact HB.out)) hb); have n6_ := Aside0.mk (hbox); (try clear HS); (try clear HK); (try clear BK2); (try clear BK0); (try clear BK9); (try clear HB); (try clear BK5); have HS := n0_; have HK := n1_; have BK2 := n2_; have BK0 := n3_; have BK9 := n4_; have HB := n5_; have BK5 := n6_; (try clear n0_); (try clear n1_); (try clear n2_); (try clear n3_); (try clear n4_); (try clear n5_); (try clear n6_); have n_ := (hb.cell (World.block_lt_of_cell? _ _ hx0)).trans hx0; clear hx0; have hx0 := n_; clear n_; have n_ := (hb.cell (World.block_lt_of_cell? _ _ hx1)).trans hx1; clear hx1; have hx1 := n_; clear n_; have n_ := (hb.cell (World.block_lt_of_cell? _ _ hx2)).trans hx2; clear hx2; have hx2 := n_; clear n_; clear hb hbox hg hle; have hnb := NB5.out; have hnc := Ne.symm NB5.out; (try clear hc2_0 hc2_1 hc2_2 hf2_0 hf2_1 hf2_2); have hc2_0 : w6.cell? ⟨gb2, 0, none⟩ = some (.int .i64 a1_0) := (blk_cell BK2.out 0).trans rfl; have hc2_1 : w6.cell? ⟨gb2, 1, none⟩ = some (.int .i64 a1_1) := (blk_cell BK2.out 1).trans rfl; have hc2_2 : w6.cell? ⟨gb2, 2, none⟩ = some (.slice (some ad) l1_2.length c1_2) := (blk_cell BK2.out 2).trans rfl; have hf2_0 := blk_frozen BK2.out 0; have hf2_1 := blk_frozen BK2.out 1; have hf2_2 := blk_frozen BK2.out 2; have hc5_0 : w6.cell? ⟨gb5, 0, none⟩ = some (.int .i64 0) := (blk_cell BK5.out 0).trans rfl; have hc5_1 : w6.cell? ⟨gb5, 1, none⟩ = some (.int .i64 0) := (blk_cell BK5.out 1).trans rfl; have hc5_2 : w6.cell? ⟨gb5, 2, none⟩ = some (.slice none 0 0) := (blk_cell BK5.out 2).trans rfl; have hf5_0 := blk_frozen BK5.out 0; have hf5_1 := blk_frozen BK5.out 1; have hf5_2 := blk_frozen BK5.out 2) | ((with_reducible refine gate_callee (f := 77) rfl ?_); refine goesL_ (some 22) rfl rfl Try.func77 (by kernel_rfl) rfl #[.agg #[.int .i64 ((rd_T63 l1_2 i).f0), .int .i64 ((rd_T63 l1_2 i).f1), .slice A2 ((rd_T63 l1_2 i).f2).length c2], .func (.func 78) #[] #[.pointer (some ⟨gb0, 0, none⟩), .pointer (some ⟨gb9, 0, none⟩)]] rfl (by (try simp only [List.map_toArray, List.map_cons, List.map_nil]); first | done | rfl) ?_; (with_reducible refine (ih k1 (by have := HK1.out; omega) S_ m b ((rd_T63 l1_2 i).f0) ((rd_T63 l1_2 i).f1) A2 c2 ((rd_T63 l1_2 i).f2) gb0 gb9 gm t E _ ?side1 GE0.out ?side2 ?side3 ?side4 HN9.out HNM.out HRI.out HCI.out A7.out).mono ?_); (case side1 => exact (show Below E.heap.size E _ from (by repeat (first | (with_reducible first | exact HB.out | apply below_alloc | apply pw_below_drewN | apply below_drew1) | refine below_set ?_ GE5.out | exact HB.out)))); (case side2 => exact (show (World.heap _)[gb0]? = some (.cells #[.bool b] 4 (0, 0)) from (by (with_reducible repeat (first | refine blk_drewN ?_ _ | refine blk_drew ?_ | refine blk_alloc ?_ _)); refine blk_far ?_ NB6.out _; (with_reducible repeat (first | refine blk_drewN ?_ _ | refine blk_drew ?_ | refine blk_alloc ?_ _));  refine blk_far ?_ NB6.out _; (with_reducible repeat (first | refine blk_drewN ?_ _ | refine blk_drew ?_ | refine blk_alloc ?_ _));  refine blk_far ?_ NB6.out _; (with_reducible repeat (first | refine blk_drewN ?_ _ | refine blk_drew ?_ | refine blk_alloc ?_ _)); exact BK0.out))); (case side3 => exact (show (World.heap _)[gb9]? = some (.cells #[.map (some gm)] 117 (0, 0)) from (by (with_reducible repeat (first | refine blk_drewN ?_ _ | refine blk_drew ?_ | refine blk_alloc ?_ _)); refine blk_far ?_ NB7.out _; (with_reducible repeat (first | refine blk_drewN ?_ _ | refine blk_drew ?_ | refine blk_alloc ?_ _));  refine blk_far ?_ NB7.out _; (with_reducible repeat (first | refine blk_drewN ?_ _ | refine blk_drew ?_ | refine blk_alloc ?_ _));  refine blk_far ?_ NB7.out _; (with_reducible repeat (first | refine blk_drewN ?_ _ | refine blk_drew ?_ | refine blk_alloc ?_ _)); exact BK9.out))); (case side4 => exact (show Go.Proofs.Ytmbacnnbpnlekaa.MB.Seen _ gm m S_ from (by repeat (first | (with_reducible exact HS.out) | (with_reducible apply Go.Proofs.Ytmbacnnbpnlekaa.MB.Seen.alloc) | (with_reducible apply Go.Proofs.Ytmbacnnbpnlekaa.MB.Seen.drewN) | (with_reducible apply Go.Proofs.Ytmbacnnbpnlekaa.MB.Seen.drew) | (refine Go.Proofs.Ytmbacnnbpnlekaa.MB.Seen.far ?_ NB8.out _))))); rintro e w7 ⟨rfl, hbk, hb, hk⟩; refine ⟨_, rfl, ?_⟩; have n0_ := Aside0.mk (Go.Proofs.Ytmbacnnbpnlekaa.MB.Seen.kept (show Go.Proofs.Ytmbacnnbpnlekaa.MB.Seen _ gm m S_ from (by repeat (first | (with_reducible exact HS.out) | (with_reducible apply Go.Proofs.Ytmbacnnbpnlekaa.MB.Seen.alloc) | (with_reducible apply Go.Proofs.Ytmbacnnbpnlekaa.MB.Seen.drewN) | (with_reducible apply Go.Proofs.Ytmbacnnbpnlekaa.MB.Seen.drew) | (refine Go.Proofs.Ytmbacnnbpnlekaa.MB.Seen.far ?_ NB8.out _)))) hk HNM.out); have n1_ := Aside0.mk (Kept.then_ (S := (fun k_ => k_ = gb0)) (show Kept w _ (fun k_ => k_ = gb0) from (by repeat (first | (with_reducible first | exact HK.out | apply Kept.alloc | apply Kept.drewN | apply Kept.drew) | refine Kept.setCell ?_ (.inr GW5.out) _ | exact HK.out))) hk (fun k_ hk' => .inl hk')); have n2_ := Aside0.mk (blk_kept (g := gb2) (o := .cells #[.int .i64 a1_0, .int .i64 a1_1, .slice (some ad) l1_2.length c1_2] 63 (0, 0)) (show (World.heap _)[gb2]? = some (.cells #[.int .i64 a1_0, .int .i64 a1_1, .slice (some ad) l1_2.length c1_2] 63 (0, 0)) from (by (with_reducible repeat (first | refine blk_drewN ?_ _ | refine blk_drew ?_ | refine blk_alloc ?_ _)); refine blk_far ?_ NB5.out _; (with_reducible repeat (first | refine blk_drewN ?_ _ | refine blk_drew ?_ | refine blk_alloc ?_ _));  refine blk_far ?_ NB5.out _; (with_reducible repeat (first | refine blk_drewN ?_ _ | refine blk_drew ?_ | refine blk_alloc ?_ _));  refine blk_far ?_ NB5.out _; (with_reducible repeat (first | refine blk_drewN ?_ _ | refine blk_drew ?_ | refine blk_alloc ?_ _)); exact BK2.out)) hk (fun e_ => NB.out e_.symm)); have n3_ := Aside0.mk (blk_kept (g := gb9) (o := .cells #[.map (some gm)] 117 (0, 0)) (show (World.heap _)[gb9]? = some (.cells #[.map (some gm)] 117 (0, 0)) from (by (with_reducible repeat (first | refine blk_drewN ?_ _ | refine blk_drew ?_ | refine blk_alloc ?_ _)); refine blk_far ?_ NB7.out _; (with_reducible repeat (first | refine blk_drewN ?_ _ | refine blk_drew ?_ | refine blk_alloc ?_ _));  refine blk_far ?_ NB7.out _; (with_reducible repeat (first | refine blk_drewN ?_ _ | refine blk_drew ?_ | refine blk_alloc ?_ _));  refine blk_far ?_ NB7.out _; (with_reducible repeat (first | refine blk_drewN ?_ _ | refine blk_drew ?_ | refine blk_alloc ?_ _)); exact BK9.out)) hk HN9.out); have n4_ := Aside0.mk (hbk); have n5_ := Aside0.mk (hb); (try clear HS); (try clear HK); (try clear BK2); (try clear BK9); (try clear BK0); (try clear HB); have HS := n0_; have HK := n1_; have BK2 := n2_; have BK9 := n3_; have BK0 := n4_; have HB := n5_; (try clear n0_); (try clear n1_); (try clear n2_); (try clear n3_); (try clear n4_); (try clear n5_); clear hb hk hbk))
            go_roundg k1
            case measure => have := HK1.out; omega
            case rel => exact ⟨t, (wrap64 (i + 1)), (by first | rfl | (simp; done) | (simp [*]; done)), H', ⟨by have := HK1.out; omega⟩, ⟨by repeat (first | (with_reducible exact HS.out) | (with_reducible apply Go.Proofs.Ytmbacnnbpnlekaa.MB.Seen.alloc) | (with_reducible apply Go.Proofs.Ytmbacnnbpnlekaa.MB.Seen.drewN) | (with_reducible apply Go.Proofs.Ytmbacnnbpnlekaa.MB.Seen.drew))⟩, ⟨by repeat (first | (with_reducible first | exact HK.out | apply Kept.alloc | apply Kept.drewN | apply Kept.drew) | exact HK.out)⟩, ⟨by (with_reducible repeat (first | refine blk_drewN ?_ _ | refine blk_drew ?_ | refine blk_alloc ?_ _)); exact BK2.out⟩, ⟨by (with_reducible repeat (first | refine blk_drewN ?_ _ | refine blk_drew ?_ | refine blk_alloc ?_ _)); exact BK0.out⟩, ⟨by (with_reducible repeat (first | refine blk_drewN ?_ _ | refine blk_drew ?_ | refine blk_alloc ?_ _)); exact BK9.out⟩, ⟨by repeat (first | (with_reducible first | exact HB.out | apply below_alloc | apply pw_below_drewN | apply below_drew1) | exact HB.out)⟩⟩
          · rw [if_neg c0] at H
            exact absurd H (by simp)
        · rw [if_neg ci] at H
          have cib : decide (i < (l1_2.length : Int)) = false := decide_eq_false ci
          obtain rfl := Option.some.inj H
          go_wp2
          go_end0
          exact ⟨by first | rfl | (simp; done), by (with_reducible repeat (first | refine blk_drewN ?_ _ | refine blk_drew ?_ | refine blk_alloc ?_ _)); exact BK0.out, by repeat (first | (with_reducible first | exact HB.out | apply below_alloc | apply pw_below_drewN | apply below_drew1) | exact HB.out), by repeat (first | (with_reducible first | exact HK.out | apply Kept.alloc | apply Kept.drewN | apply Kept.drew) | exact HK.out)⟩
  · rw [if_neg c7] at h
    have c7b : decide (a1_0 = 7) = false := decide_eq_false c7
    have c7e := eq_false c7
    have c7q : (a1_0 == 7) = false := beq_eq_false_iff_ne.2 c7
    clear c7
    go_enter Try.func77, Try.ntmps77
    go_wp2_with (first | ((with_reducible refine gate_dst (N := 2) rfl ?_); refine box_event ?hg (N := 2) ?hd (cs := #[.int .i64 a1_0, .int .i64 a1_1, .slice A1_2 l1_2.length c1_2]) (t := 63) ?hr ?_; (case hd => rfl); (case hg => rfl); (case hr => first | (go_simp; done) | (go_simp; rfl)); intro gb2 hg w3 hbox hb; have hle : w.heap.size ≤ gb2 := (by rw [hg]; exact (show Kept w _ (fun k_ => k_ = gb0) from (by repeat (first | (with_reducible first | exact HK.out | apply Kept.alloc | apply Kept.drewN | apply Kept.drew) | exact HK.out))).1); have NB := Aside0.mk (show gb0 ≠ gb2 from (by have := GL0.out; omega)); have n0_ := Aside0.mk (Go.Proofs.Ytmbacnnbpnlekaa.MB.Seen.below (show Go.Proofs.Ytmbacnnbpnlekaa.MB.Seen _ gm m S_ from (by repeat (first | (with_reducible exact HS.out) | (with_reducible apply Go.Proofs.Ytmbacnnbpnlekaa.MB.Seen.alloc) | (with_reducible apply Go.Proofs.Ytmbacnnbpnlekaa.MB.Seen.drewN) | (with_reducible apply Go.Proofs.Ytmbacnnbpnlekaa.MB.Seen.drew)))) hb); have n1_ := Aside0.mk (Kept.below (by repeat (first | (with_reducible first | exact HK.out | apply Kept.alloc | apply Kept.drewN | apply Kept.drew) | exact HK.out)) hb); have n2_ := Aside0.mk (blk_below (g := gb0) (o := .cells #[.bool b] 4 (0, 0)) (show (World.heap _)[gb0]? = some (.cells #[.bool b] 4 (0, 0)) from (by (with_reducible repeat (first | refine blk_drewN ?_ _ | refine blk_drew ?_ | refine blk_alloc ?_ _)); exact BK0.out)) hb); have n3_ := Aside0.mk (blk_below (g := gb9) (o := .cells #[.map (some gm)] 117 (0, 0)) (show (World.heap _)[gb9]? = some (.cells #[.map (some gm)] 117 (0, 0)) from (by (with_reducible repeat (first | refine blk_drewN ?_ _ | refine blk_drew ?_ | refine blk_alloc ?_ _)); exact BK9.out)) hb); have n4_ := Aside0.mk (below_step (by repeat (first | (with_reducible first | exact HB.out | apply below_alloc | apply pw_below_drewN | apply below_drew1) | exact HB.out)) hb); have n5_ := Aside0.mk (hbox); (try clear HS); (try clear HK); (try clear BK0); (try clear BK9); (try clear HB); (try clear BK2); have HS := n0_; have HK := n1_; have BK0 := n2_; have BK9 := n3_; have HB := n4_; have BK2 := n5_; (try clear n0_); (try clear n1_); (try clear n2_); (try clear n3_); (try clear n4_); (try clear n5_); clear hb hbox hg hle; (try clear hc2_0 hc2_1 hc2_2 hf2_0 hf2_1 hf2_2); have hc2_0 : w3.cell? ⟨gb2, 0, none⟩ = some (.int .i64 a1_0) := (blk_cell BK2.out 0).trans rfl; have hc2_1 : w3.cell? ⟨gb2, 1, none⟩ = some (.int .i64 a1_1) := (blk_cell BK2.out 1).trans rfl; have hc2_2 : w3.cell? ⟨gb2, 2, none⟩ = some (.slice A1_2 l1_2.length c1_2) := (blk_cell BK2.out 2).trans rfl; have hf2_0 := blk_frozen BK2.out 0; have hf2_1 := blk_frozen BK2.out 1; have hf2_2 := blk_frozen BK2.out 2))
    go_loopg [16] k (fun kq vi w' => ∃ (b : Bool) (i : Int), vi = .int .i64 i ∧ Aside0 (impl_eachVar.l0 kq S_ l1_2 i b = some r) ∧ Aside0 (kq ≤ k) ∧ Aside0 (Go.Proofs.Ytmbacnnbpnlekaa.MB.Seen w' gm m S_) ∧ Aside0 (Kept w w' (fun k_ => k_ = gb0)) ∧ Aside0 (w'.heap[gb2]? = some (.cells #[.int .i64 a1_0, .int .i64 a1_1, .slice A1_2 l1_2.length c1_2] 63 (0, 0))) ∧ Aside0 (w'.heap[gb0]? = some (.cells #[.bool b] 4 (0, 0))) ∧ Aside0 (w'.heap[gb9]? = some (.cells #[.map (some gm)] 117 (0, 0))) ∧ Aside0 (Below E.heap.size E w'))
    case atStart => exact ⟨b, 0, (by first | rfl | (simp; done)), ⟨h⟩, ⟨Nat.le_refl _⟩, ⟨by repeat (first | (with_reducible exact HS.out) | (with_reducible apply Go.Proofs.Ytmbacnnbpnlekaa.MB.Seen.alloc) | (with_reducible apply Go.Proofs.Ytmbacnnbpnlekaa.MB.Seen.drewN) | (with_reducible apply Go.Proofs.Ytmbacnnbpnlekaa.MB.Seen.drew))⟩, ⟨by repeat (first | (with_reducible first | exact HK.out | apply Kept.alloc | apply Kept.drewN | apply Kept.drew) | exact HK.out)⟩, ⟨by (with_reducible repeat (first | refine blk_drewN ?_ _ | refine blk_drew ?_ | refine blk_alloc ?_ _)); exact BK2.out⟩, ⟨by (with_reducible repeat (first | refine blk_drewN ?_ _ | refine blk_drew ?_ | refine blk_alloc ?_ _)); exact BK0.out⟩, ⟨by (with_reducible repeat (first | refine blk_drewN ?_ _ | refine blk_drew ?_ | refine blk_alloc ?_ _)); exact BK9.out⟩, ⟨by repeat (first | (with_reducible first | exact HB.out | apply below_alloc | apply pw_below_drewN | apply below_drew1) | exact HB.out)⟩⟩
    case round =>
      clear HS HK BK2 BK0 BK9 HB
      (try clear hc2_0 hc2_1 hc2_2 hf2_0 hf2_1 hf2_2)
      obtain ⟨b, i, rfl, HA, HK1, HS, HK, BK2, BK0, BK9, HB⟩ := hrel
      cases gk with
      | zero => exact absurd HA.out (by simp [impl_eachVar.l0])
      | succ k1 =>
        have H := HA.out
        clear HA
        simp only [impl_eachVar.l0] at H
        have hc2_0 : wr.cell? ⟨gb2, 0, none⟩ = some (.int .i64 a1_0) := (blk_cell BK2.out 0).trans rfl
        have hc2_1 : wr.cell? ⟨gb2, 1, none⟩ = some (.int .i64 a1_1) := (blk_cell BK2.out 1).trans rfl
        have hc2_2 : wr.cell? ⟨gb2, 2, none⟩ = some (.slice A1_2 l1_2.length c1_2) := (blk_cell BK2.out 2).trans rfl
        have hf2_0 := blk_frozen BK2.out 0
        have hf2_1 := blk_frozen BK2.out 1
        have hf2_2 := blk_frozen BK2.out 2
        by_cases ci : i < (l1_2.length : Int)
        · rw [if_pos ci] at H
          have cib : decide (i < (l1_2.length : Int)) = true := decide_eq_true ci
          by_cases c0 : 0 ≤ i
          · rw [if_pos c0] at H
            obtain ⟨t, A70, H⟩ := Option.bind_eq_some_iff.mp H
            have A7 := Aside0.mk A70
            have H' := Aside0.mk H
            clear A70 H
            obtain ⟨ad, A2, c2, e1_, hx0, hx1, hx2, hl, hi⟩ := at_T63 HR.out i c0 ci
            cases e1_
            replace hx0 := (HB.out.cell (World.block_lt_of_cell? E _ hx0)).trans hx0
            replace hx1 := (HB.out.cell (World.block_lt_of_cell? E _ hx1)).trans hx1
            replace hx2 := (HB.out.cell (World.block_lt_of_cell? E _ hx2)).trans hx2
            have HRI := Aside0.mk hi
            have HCI := Aside0.mk hl
            clear hi hl
            have c0b := eq_true c0
            have cic := eq_true ci
            go_wp2_with (first | ((with_reducible refine gate_dst (N := 5) rfl ?_); refine box_event ?hg (N := 5) ?hd (cs := #[.int .i64 0, .int .i64 0, .slice none 0 0]) (t := 63) ?hr ?_; (case hd => rfl); (case hg => rfl); (case hr => first | (go_simp; done) | (go_simp; rfl)); intro gb5 hg w6 hbox hb; have hle : w.heap.size ≤ gb5 := (by rw [hg]; exact (show Kept w _ (fun k_ => k_ = gb0) from (by repeat (first | (with_reducible first | exact HK.out | apply Kept.alloc | apply Kept.drewN | apply Kept.drew) | exact HK.out))).1); have GW5 := Aside0.mk hle; have GE5 := Aside0.mk (show E.heap.size ≤ gb5 from Nat.le_trans HBS.out hle); have NB5 := Aside0.mk (show gb2 ≠ gb5 from (by have := blk_lt (show (World.heap _)[gb2]? = some (.cells #[.int .i64 a1_0, .int .i64 a1_1, .slice (some ad) l1_2.length c1_2] 63 (0, 0)) from (by (with_reducible repeat (first | refine blk_drewN ?_ _ | refine blk_drew ?_ | refine blk_alloc ?_ _)); exact BK2.out)); rw [hg]; intro e_; rw [← e_] at this; exact Nat.lt_irrefl _ this)); have NB6 := Aside0.mk (show gb0 ≠ gb5 from (by have := GL0.out; omega)); have NB7 := Aside0.mk (show gb9 ≠ gb5 from (by have := GL9.out; omega)); have NB8 := Aside0.mk (show gm ≠ gb5 from (by have := GLM.out; omega)); have n0_ := Aside0.mk (Go.Proofs.Ytmbacnnbpnlekaa.MB.Seen.below (show Go.Proofs.Ytmbacnnbpnlekaa.MB.Seen _ gm m S_ from (by repeat (first | (with_reducible exact HS.out) | (with_reducible apply Go.Proofs.Ytmbacnnbpnlekaa.MB.Seen.alloc) | (with_reducible apply Go.Proofs.Ytmbacnnbpnlekaa.MB.Seen.drewN) | (with_reducible apply Go.Proofs.Ytmbacnnbpnlekaa.MB.Seen.drew)))) hb); have n1_ := Aside0.mk (Kept.below (by repeat (first | (with_reducible first | exact HK.out | apply Kept.alloc | apply Kept.drewN | apply Kept.drew) | exact HK.out)) hb); have n2_ := Aside0.mk (blk_below (g := gb2) (o := .cells #[.int .i64 a1_0, .int .i64 a1_1, .slice (some ad) l1_2.length c1_2] 63 (0, 0)) (show (World.heap _)[gb2]? = some (.cells #[.int .i64 a1_0, .int .i64 a1_1, .slice (some ad) l1_2.length c1_2] 63 (0, 0)) from (by (with_reducible repeat (first | refine blk_drewN ?_ _ | refine blk_drew ?_ | refine blk_alloc ?_ _)); exact BK2.out)) hb); have n3_ := Aside0.mk (blk_below (g := gb0) (o := .cells #[.bool b] 4 (0, 0)) (show (World.heap _)[gb0]? = some (.cells #[.bool b] 4 (0, 0)) from (by (with_reducible repeat (first | refine blk_drewN ?_ _ | refine blk_drew ?_ | refine blk_alloc ?_ _)); exact BK0.out)) hb); have n4_ := Aside0.mk (blk_below (g := gb9) (o := .cells #[.map (some gm)] 117 (0, 0)) (show (World.heap _)[gb9]? = some (.cells #[.map (some gm)] 117 (0, 0)) from (by (with_reducible repeat (first | refine blk_drewN ?_ _ | refine blk_drew ?_ | refine blk_alloc ?_ _)); exact BK9.out)) hb); have n5_ := Aside0.mk (below_step (by repeat (first | (with_reducible first | exact HB.out | apply below_alloc | apply pw_below_drewN | apply below_drew1) | exact HB.out)) hb); have n6_ := Aside0.mk (hbox); (try clear HS); (try clear HK); (try clear BK2); (try clear BK0); (try clear BK9); (try clear HB); (try clear BK5); have HS := n0_; have HK := n1_; have BK2 := n2_; have BK0 := n3_; have BK9 := n4_; have HB := n5_; have BK5 := n6_; (try clear n0_); (try clear n1_); (try clear n2_); (try clear n3_); (try clear n4_); (try clear n5_); (try clear n6_); have n_ := (hb.cell (World.block_lt_of_cell? _ _ hx0)).trans hx0; clear hx0; have hx0 := n_; clear n_; have n_ := (hb.cell (World.block_lt_of_cell? _ _ hx1)).trans hx1; clear hx1; have hx1 := n_; clear n_; have n_ := (hb.cell (World.block_lt_of_cell? _ _ hx2)).trans hx2; clear hx2; have hx2 := n_; clear n_; clear hb hbox hg hle; have hnb := NB5.out; have hnc := Ne.symm NB5.out; (try clear hc2_0 hc2_1 hc2_2 hf2_0 hf2_1 hf2_2); have hc2_0 : w6.cell? ⟨gb2, 0, none⟩ = some (.int .i64 a1_0) := (blk_cell BK2.out 0).trans rfl; have hc2_1 : w6.cell? ⟨gb2, 1, none⟩ = some (.int .i64 a1_1) := (blk_cell BK2.out 1).trans rfl; have hc2_2 : w6.cell? ⟨gb2, 2, none⟩ = some (.slice (some ad) l1_2.length c1_2) := (blk_cell BK2.out 2).trans rfl; have hf2_0 := blk_frozen BK2.out 0; have hf2_1 := blk_frozen BK2.out 1; have hf2_2 := blk_frozen BK2.out 2; have hc5_0 : w6.cell? ⟨gb5, 0, none⟩ = some (.int .i64 0) := (blk_cell BK5.out 0).trans rfl; have hc5_1 : w6.cell? ⟨gb5, 1, none⟩ = some (.int .i64 0) := (blk_cell BK5.out 1).trans rfl; have hc5_2 : w6.cell? ⟨gb5, 2, none⟩ = some (.slice none 0 0) := (blk_cell BK5.out 2).trans rfl; have hf5_0 := blk_frozen BK5.out 0; have hf5_1 := blk_frozen BK5.out 1; have hf5_2 := blk_frozen BK5.out 2) | ((with_reducible refine gate_callee (f := 77) rfl ?_); refine goesL_ (some 22) rfl rfl Try.func77 (by kernel_rfl) rfl #[.agg #[.int .i64 ((rd_T63 l1_2 i).f0), .int .i64 ((rd_T63 l1_2 i).f1), .slice A2 ((rd_T63 l1_2 i).f2).length c2], .func (.func 78) #[] #[.pointer (some ⟨gb0, 0, none⟩), .pointer (some ⟨gb9, 0, none⟩)]] rfl (by (try simp only [List.map_toArray, List.map_cons, List.map_nil]); first | done | rfl) ?_; (with_reducible refine (ih k1 (by have := HK1.out; omega) S_ m b ((rd_T63 l1_2 i).f0) ((rd_T63 l1_2 i).f1) A2 c2 ((rd_T63 l1_2 i).f2) gb0 gb9 gm t E _ ?side1 GE0.out ?side2 ?side3 ?side4 HN9.out HNM.out HRI.out HCI.out A7.out).mono ?_); (case side1 => exact (show Below E.heap.size E _ from (by repeat (first | (with_reducible first | exact HB.out | apply below_alloc | apply pw_below_drewN | apply below_drew1) | refine below_set ?_ GE5.out | exact HB.out)))); (case side2 => exact (show (World.heap _)[gb0]? = some (.cells #[.bool b] 4 (0, 0)) from (by (with_reducible repeat (first | refine blk_drewN ?_ _ | refine blk_drew ?_ | refine blk_alloc ?_ _)); refine blk_far ?_ NB6.out _; (with_reducible repeat (first | refine blk_drewN ?_ _ | refine blk_drew ?_ | refine blk_alloc ?_ _));  refine blk_far ?_ NB6.out _; (with_reducible repeat (first | refine blk_drewN ?_ _ | refine blk_drew ?_ | refine blk_alloc ?_ _));  refine blk_far ?_ NB6.out _; (with_reducible repeat (first | refine blk_drewN ?_ _ | refine blk_drew ?_ | refine blk_alloc ?_ _)); exact BK0.out))); (case side3 => exact (show (World.heap _)[gb9]? = some (.cells #[.map (some gm)] 117 (0, 0)) from (by (with_reducible repeat (first | refine blk_drewN ?_ _ | refine blk_drew ?_ | refine blk_alloc ?_ _)); refine blk_far ?_ NB7.out _; (with_reducible repeat (first | refine blk_drewN ?_ _ | refine blk_drew ?_ | refine blk_alloc ?_ _));  refine blk_far ?_ NB7.out _; (with_reducible repeat (first | refine blk_drewN ?_ _ | refine blk_drew ?_ | refine blk_alloc ?_ _));  refine blk_far ?_ NB7.out _; (with_reducible repeat (first | refine blk_drewN ?_ _ | refine blk_drew ?_ | refine blk_alloc ?_ _)); exact BK9.out))); (case side4 => exact (show Go.Proofs.Ytmbacnnbpnlekaa.MB.Seen _ gm m S_ from (by repeat (first | (with_reducible exact HS.out) | (with_reducible apply Go.Proofs.Ytmbacnnbpnlekaa.MB.Seen.alloc) | (with_reducible apply Go.Proofs.Ytmbacnnbpnlekaa.MB.Seen.drewN) | (with_reducible apply Go.Proofs.Ytmbacnnbpnlekaa.MB.Seen.drew) | (refine Go.Proofs.Ytmbacnnbpnlekaa.MB.Seen.far ?_ NB8.out _))))); rintro e w7 ⟨rfl, hbk, hb, hk⟩; refine ⟨_, rfl, ?_⟩; have n0_ := Aside0.mk (Go.Proofs.Ytmbacnnbpnlekaa.MB.Seen.kept (show Go.Proofs.Ytmbacnnbpnlekaa.MB.Seen _ gm m S_ from (by repeat (first | (with_reducible exact HS.out) | (with_reducible apply Go.Proofs.Ytmbacnnbpnlekaa.MB.Seen.alloc) | (with_reducible apply Go.Proofs.Ytmbacnnbpnlekaa.MB.Seen.drewN) | (with_reducible apply Go.Proofs.Ytmbacnnbpnlekaa.MB.Seen.drew) | (refine Go.Proofs.Ytmbacnnbpnlekaa.MB.Seen.far ?_ NB8.out _)))) hk HNM.out); have n1_ := Aside0.mk (Kept.then_ (S := (fun k_ => k_ = gb0)) (show Kept w _ (fun k_ => k_ = gb0) from (by repeat (first | (with_reducible first | exact HK.out | apply Kept.alloc | apply Kept.drewN | apply Kept.drew) | refine Kept.setCell ?_ (.inr GW5.out) _ | exact HK.out))) hk (fun k_ hk' => .inl hk')); have n2_ := Aside0.mk (blk_kept (g := gb2) (o := .cells #[.int .i64 a1_0, .int .i64 a1_1, .slice (some ad) l1_2.length c1_2] 63 (0, 0)) (show (World.heap _)[gb2]? = some (.cells #[.int .i64 a1_0, .int .i64 a1_1, .slice (some ad) l1_2.length c1_2] 63 (0, 0)) from (by (with_reducible repeat (first | refine blk_drewN ?_ _ | refine blk_drew ?_ | refine blk_alloc ?_ _)); refine blk_far ?_ NB5.out _; (with_reducible repeat (first | refine blk_drewN ?_ _ | refine blk_drew ?_ | refine blk_alloc ?_ _));  refine blk_far ?_ NB5.out _; (with_reducible repeat (first | refine blk_drewN ?_ _ | refine blk_drew ?_ | refine blk_alloc ?_ _));  refine blk_far ?_ NB5.out _; (with_reducible repeat (first | refine blk_drewN ?_ _ | refine blk_drew ?_ | refine blk_alloc ?_ _)); exact BK2.out)) hk (fun e_ => NB.out e_.symm)); have n3_ := Aside0.mk (blk_kept (g := gb9) (o := .cells #[.map (some gm)] 117 (0, 0)) (show (World.heap _)[gb9]? = some (.cells #[.map (some gm)] 117 (0, 0)) from (by (with_reducible repeat (first | refine blk_drewN ?_ _ | refine blk_drew ?_ | refine blk_alloc ?_ _)); refine blk_far ?_ NB7.out _; (with_reducible repeat (first | refine blk_drewN ?_ _ | refine blk_drew ?_ | refine blk_alloc ?_ _));  refine blk_far ?_ NB7.out _; (with_reducible repeat (first | refine blk_drewN ?_ _ | refine blk_drew ?_ | refine blk_alloc ?_ _));  refine blk_far ?_ NB7.out _; (with_reducible repeat (first | refine blk_drewN ?_ _ | refine blk_drew ?_ | refine blk_alloc ?_ _)); exact BK9.out)) hk HN9.out); have n4_ := Aside0.mk (hbk); have n5_ := Aside0.mk (hb); (try clear HS); (try clear HK); (try clear BK2); (try clear BK9); (try clear BK0); (try clear HB); have HS := n0_; have HK := n1_; have BK2 := n2_; have BK9 := n3_; have BK0 := n4_; have HB := n5_; (try clear n0_); (try clear n1_); (try clear n2_); (try clear n3_); (try clear n4_); (try clear n5_); clear hb hk hbk))
            go_roundg k1
            case measure => have := HK1.out; omega
            case rel => exact ⟨t, (wrap64 (i + 1)), (by first | rfl | (simp; done) | (simp [*]; done)), H', ⟨by have := HK1.out; omega⟩, ⟨by repeat (first | (with_reducible exact HS.out) | (with_reducible apply Go.Proofs.Ytmbacnnbpnlekaa.MB.Seen.alloc) | (with_reducible apply Go.Proofs.Ytmbacnnbpnlekaa.MB.Seen.drewN) | (with_reducible apply Go.Proofs.Ytmbacnnbpnlekaa.MB.Seen.drew))⟩, ⟨by repeat (first | (with_reducible first | exact HK.out | apply Kept.alloc | apply Kept.drewN | apply Kept.drew) | exact HK.out)⟩, ⟨by (with_reducible repeat (first | refine blk_drewN ?_ _ | refine blk_drew ?_ | refine blk_alloc ?_ _)); exact BK2.out⟩, ⟨by (with_reducible repeat (first | refine blk_drewN ?_ _ | refine blk_drew ?_ | refine blk_alloc ?_ _)); exact BK0.out⟩, ⟨by (with_reducible repeat (first | refine blk_drewN ?_ _ | refine blk_drew ?_ | refine blk_alloc ?_ _)); exact BK9.out⟩, ⟨by repeat (first | (with_reducible first | exact HB.out | apply below_alloc | apply pw_below_drewN | apply below_drew1) | exact HB.out)⟩⟩
          · rw [if_neg c0] at H
            exact absurd H (by simp)
        · rw [if_neg ci] at H
          have cib : decide (i < (l1_2.length : Int)) = false := decide_eq_false ci
          obtain rfl := Option.some.inj H
          go_wp2
          go_end0
          exact ⟨by first | rfl | (simp; done), by (with_reducible repeat (first | refine blk_drewN ?_ _ | refine blk_drew ?_ | refine blk_alloc ?_ _)); exact BK0.out, by repeat (first | (with_reducible first | exact HB.out | apply below_alloc | apply pw_below_drewN | apply below_drew1) | exact HB.out), by repeat (first | (with_reducible first | exact HK.out | apply Kept.alloc | apply Kept.drewN | apply Kept.drew) | exact HK.out)⟩

end Go.Proofs.Ytmbacnnbpnlekaa.PD
