-- Printed by a program of this session (wrap.py) out of the translation. Lean checks it.
import Derived.Test.YtbifoajnmikhiaaPFx0
namespace Go.Proofs.Ytbifoajnmikhiaa.PF
open Go.RowKit Go.Proofs.YtbifoajnmikhiaaW.PrintWords Go.Proofs.YtbifoajnmikhiaaW.PrintLast Go.Proofs.YtbifoajnmikhiaaW.PrintMore
attribute [local go_sem] max2_int min2_int max_two min_two max_three min_three max_four min_four   -- for this text's walks alone
set_option linter.unusedVariables false
set_option linter.unusedSimpArgs false

/-! ### impl_TyVars_1: function 65 -/
def impl_TyVars_1.f (l0 : List Int) (a1 : Int) : Option (List Int) := if l0.length < 17592186044416 then some (l0 ++ [a1]) else none
set_option maxHeartbeats 8000000 in
set_option maxRecDepth 100000 in
theorem impl_TyVars_1.calls (P0_ : Nat → Prop) (u9000_ : Value) (l0 : List Int) (a1 : Int) (gb0 : Nat) (r : List Int) (E w : World) (hB : Below E.heap.size E w) (hG : E.heap.size ≤ gb0) (hb0 : w.heap[gb0]? = some (.cells #[u9000_] 51 (0, 0))) (ho0 : Kd.R (Kd.int .i64) 3 w E.heap.size P0_ u9000_ l0) (h : impl_TyVars_1.f l0 a1 = some r) :
    Calls Try.prog 65 #[.int .i64 a1, .pointer (some ⟨gb0, 0, none⟩)] w fun e w' => e = .returned (.tuple #[]) ∧ ∃ v0_ : Value, w'.heap[gb0]? = some (.cells #[v0_] 51 (0, 0)) ∧ Kd.R (Kd.int .i64) 3 w' E.heap.size (fun k_ => P0_ k_ ∨ w.heap.size ≤ k_) v0_ r ∧ Below E.heap.size E w' ∧ Kept w w' (fun k_ => P0_ k_ ∨ k_ = gb0) := by
  have HO := Aside0.mk (show Kd.R (Kd.int .i64) 3 w E.heap.size (fun k_ => P0_ k_ ∨ w.heap.size ≤ k_) (u9000_) (l0) from Kd.R_mono ho0 (fun _ hk => .inl hk))
  have HB := Aside0.mk hB
  have GE0 := Aside0.mk hG
  have BK0 := Aside0.mk hb0
  have HK := Aside0.mk (Kept.refl w (fun k_ => P0_ k_ ∨ k_ = gb0))
  clear ho0 hB hG hb0
  rw [impl_TyVars_1.f] at h
  by_cases cb : l0.length < 17592186044416
  · rw [if_pos cb] at h
    have LMb := Aside0.mk cb
    clear cb
    have hb1 := Aside0.mk (show r = l0 ++ [a1] from (Option.some.inj h).symm)
    clear h
    obtain ⟨Au, cu, eu_⟩ := Kd.R_slice HO.out
    subst eu_
    have hc0_0 : w.cell? ⟨gb0, 0, none⟩ = some (.slice Au l0.length cu) := (blk_cell BK0.out 0).trans rfl
    have hf0_0 := blk_frozen BK0.out 0
    go_enter Try.func65, Try.ntmps65
    go_wp2_with (first | ((with_reducible refine gate_builtin (b := .append) (xs := #[.tmp 3, .tmp 5]) rfl ?_); at_builtin; refine Kd.R_append (Kd.int .i64) (w0 := E) E.heap.size rfl (.tmp 3) (.tmp 5) 51 3 (.int .i64 0) 8 rfl Try.underlying51 info3 rfl (by decide) (by omega) (.slice Au l0.length cu) l0 a1 [.int .i64 a1] (fun k_ => P0_ k_ ∨ w.heap.size ≤ k_) (fun _ => False) rfl rfl ?aP (fun _ hk => hk.elim) ?aF ?aO ?aB ?aS ?aL ?_; (case aP => exact rfl); (case aF => exact (fun k_ hk => .inr (Nat.le_trans (show Kept w _ (fun k_ => P0_ k_ ∨ k_ = gb0) from (by repeat (first | (with_reducible first | exact HK.out | apply Kept.alloc | apply Kept.drewN | apply Kept.drew) | exact HK.out))).1 hk))); (case aB => exact (by repeat (first | (with_reducible first | exact HB.out | apply below_alloc | apply pw_below_drewN | apply below_drew1) | exact HB.out))); (case aO => exact (by (with_reducible repeat (first | apply Kd.R_alloc | apply Kd.R_drewN | apply Kd.R_drew)); exact HO.out)); (case aS => exact (below_size (by repeat (first | (with_reducible first | exact HB.out | apply below_alloc | apply pw_below_drewN | apply below_drew1) | exact HB.out)))); (case aL => have := LMb.out; omega); intro v4 w4 ho hb hg hat; have n0_ := Aside0.mk (Kept.of_grown (S := (fun k_ => P0_ k_ ∨ k_ = gb0)) hg (by repeat (first | (with_reducible first | exact HK.out | apply Kept.alloc | apply Kept.drewN | apply Kept.drew) | exact HK.out)) (fun k_ e_ => (HO.out.1 k_ e_).elim (fun h_ => .inl (.inl h_)) .inr)); have n1_ := Aside0.mk (blk_grown (show _ = some (.cells #[(.slice Au l0.length cu)] 51 (0, 0)) from (by (with_reducible repeat (first | refine blk_drewN ?_ _ | refine blk_drew ?_ | refine blk_alloc ?_ _)); exact BK0.out)) hg (Kd.R_ne HO.out BK0.out (by decide))); have n2_ := Aside0.mk (hb); have n3_ := Aside0.mk (show Kd.R (Kd.int .i64) 3 w4 E.heap.size (fun k_ => P0_ k_ ∨ w.heap.size ≤ k_) (v4) (r) from (hb1.out ▸ ho)); (try clear HK); (try clear BK0); (try clear HB); (try clear HO); have HK := n0_; have BK0 := n1_; have HB := n2_; have HO := n3_; (try clear n0_); (try clear n1_); (try clear n2_); (try clear n3_); clear ho hb hg hat; obtain ⟨Ao4, co4, eo_⟩ := Kd.R_slice HO.out; subst eo_; (try clear hc0_0 hf0_0); have hc0_0 : w4.cell? ⟨gb0, 0, none⟩ = some ((.slice Au l0.length cu)) := (blk_cell BK0.out 0).trans rfl; have hf0_0 := blk_frozen BK0.out 0))
    go_end0
    refine ⟨by first | rfl | (simp; done), (.slice Ao4 r.length co4), (by (with_reducible repeat (first | refine blk_drewN ?_ _ | refine blk_drew ?_ | refine blk_alloc ?_ _)); refine blk_put (cs := #[(.slice Au l0.length cu)]) ?_ 0 _ rfl; (with_reducible repeat (first | refine blk_drewN ?_ _ | refine blk_drew ?_ | refine blk_alloc ?_ _)); exact BK0.out), ?_, ?_, ?_⟩
    · (with_reducible repeat (first | apply Kd.R_alloc | apply Kd.R_drewN | apply Kd.R_drew))
      exact Kd.R_mono (Kd.R_far (p := ⟨gb0, 0, none⟩) (Kd.R_types HO.out BK0.out (by decide)) (fun _ hk => hk.2) _) (fun _ h_ => h_.1)
    · repeat (first | (with_reducible first | exact HB.out | apply below_alloc | apply pw_below_drewN | apply below_drew1) | refine below_set ?_ GE0.out | exact HB.out)
    · repeat (first | (with_reducible first | exact HK.out | apply Kept.alloc | apply Kept.drewN | apply Kept.drew) | refine Kept.setCell ?_ (.inl (.inr rfl)) _ | exact HK.out)
  · rw [if_neg cb] at h
    cases h

end Go.Proofs.Ytbifoajnmikhiaa.PF
