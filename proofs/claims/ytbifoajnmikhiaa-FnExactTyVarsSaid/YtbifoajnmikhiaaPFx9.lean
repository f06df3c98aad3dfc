-- Printed by a program of this session (wrap.py) out of the translation. Lean checks it.
import Derived.Test.YtbifoajnmikhiaaPFx0
import Derived.Test.YtbifoajnmikhiaaPFx8
namespace Go.Proofs.Ytbifoajnmikhiaa.PF
open Go.RowKit Go.Proofs.YtbifoajnmikhiaaW.PrintWords Go.Proofs.YtbifoajnmikhiaaW.PrintLast Go.Proofs.YtbifoajnmikhiaaW.PrintMore
attribute [local go_sem] max2_int min2_int max_two min_two max_three min_three max_four min_four   -- for this text's walks alone
set_option linter.unusedVariables false
set_option linter.unusedSimpArgs false

/-! ### laws_markTy: function 26 -/
def laws_markTy.f (k : Nat) (a0_0 : Int) (a0_1 : Int) (l0_2 : List (S29)) (a1 : Int) : Option (Int × List (S29)) := (laws_markTyS.f k l0_2 a1).bind fun t118 => (some (t118.1, t118.2))
theorem laws_markTy.mono : ∀ a0 a1 a2 a3 k, LeO (laws_markTy.f k a0 a1 a2 a3) (laws_markTy.f (k + 1) a0 a1 a2 a3) := by
  intro a0 a1 a2 a3 k
  unfold laws_markTy.f
  repeat' first
      | (with_reducible exact laws_markTyS.mono _ _ _)
      | (with_reducible exact LeO.refl _)
      | (with_reducible exact LeO.none _)
      | (with_reducible refine LeO.ite ?_ ?_)
      | (with_reducible refine LeO.bind ?_ (fun _ => ?_))
      | exact laws_markTyS.mono _ _ _
      | exact LeO.none _
      | refine LeO.ite ?_ ?_
      | refine LeO.bind ?_ (fun _ => ?_)
set_option maxHeartbeats 8000000 in
set_option maxRecDepth 100000 in
theorem laws_markTy.calls (k : Nat) (a0_0 : Int) (a0_1 : Int) (P0_ : Nat → Prop) (u9000_ : Value) (l0_2 : List (S29)) (a1 : Int) (r1 : Int) (r2 : List (S29)) (w0 w : World) (hB : Below w0.heap.size w0 w) (ho0 : Kd.S k29 29 w w0.heap.size P0_ u9000_ l0_2) (h : laws_markTy.f k a0_0 a0_1 l0_2 a1 = some (r1, r2)) :
    Calls Try.prog 26 #[.agg #[.int .i64 a0_0, .int .i64 a0_1, u9000_], .int .i64 a1] w fun e w' => e = .returned (.int .i64 r1) ∧ Kd.S k29 29 w' w0.heap.size (fun k_ => P0_ k_) u9000_ r2 ∧ Below w0.heap.size w0 w' ∧ Kept w w' (fun k_ => P0_ k_) := by
  obtain ⟨A0_2, c0_2, eu_⟩ := Kd.S_slice ho0
  subst eu_
  have hu29 := Try.underlying29
  have HO0 := Aside0.mk ho0
  have HBA := Aside0.mk hB
  clear ho0 hB
  have HB := Aside0.mk (Below.refl w.heap.size w)
  have H : ((laws_markTyS.f k l0_2 a1).bind fun t118 => (some (t118.1, t118.2))) = some (r1, r2) := h
  clear h
  replace H := Option.bind_eq_some_iff.mp H
  obtain ⟨⟨t118, t118b⟩, A30, H⟩ := H
  replace H : (some (t118, t118b)) = some (r1, r2) := H
  have A3 := Aside0.mk A30
  clear A30
  obtain ⟨rfl, rfl⟩ := (show t118 = r1 ∧ t118b = r2 by simpa using H)
  clear H
  go_enter Try.func26, Try.ntmps26
  go_wp2_with (first | ((with_reducible refine gate_dst (N := 2) rfl ?_); refine box_event ?hg (N := 2) ?hd (cs := #[.int .i64 a0_0, .int .i64 a0_1, .slice A0_2 l0_2.length c0_2]) (t := 29) ?hr ?_; (case hd => rfl); (case hg => rfl); (case hr => first | (go_simp; done) | (go_simp; rfl)); intro gb135 hg w4 hbox hb; have n0_ := Aside0.mk (below_step (by repeat (first | (with_reducible first | exact HB.out | apply below_alloc | apply pw_below_drewN | apply below_drew1) | exact HB.out)) hb); have n1_ := Aside0.mk (hbox); have n2_ := Aside0.mk ((by rw [hg]; exact (below_size (by repeat (first | (with_reducible first | exact HB.out | apply below_alloc | apply pw_below_drewN | apply below_drew1) | exact HB.out))) : w.heap.size ≤ gb135)); have n3_ := Aside0.mk ((by rw [hg]; exact (below_size (by repeat (first | (with_reducible first | exact HB.out | apply below_alloc | apply pw_below_drewN | apply below_drew1) | exact HB.out))) : w.heap.size ≤ gb135)); clear HB; have HB := n0_; have BK135 := n1_; have GW135 := n2_; have GE135 := n3_; clear n0_ n1_ n2_ n3_; clear hb hbox hg; have hcz5_0 : w4.cell? ⟨gb135, 0, none⟩ = some (.int .i64 a0_0) := (blk_cell BK135.out 0).trans rfl; have hcz5_1 : w4.cell? ⟨gb135, 1, none⟩ = some (.int .i64 a0_1) := (blk_cell BK135.out 1).trans rfl; have hcz5_2 : w4.cell? ⟨gb135, 2, none⟩ = some (.slice A0_2 l0_2.length c0_2) := (blk_cell BK135.out 2).trans rfl; have hfz5_0 := blk_frozen BK135.out 0; have hfz5_1 := blk_frozen BK135.out 1; have hfz5_2 := blk_frozen BK135.out 2) | ((with_reducible refine gate_callee (f := 34) rfl ?_); refine goesL_ (some 8) rfl rfl Try.func34 (by kernel_rfl) rfl #[.slice A0_2 l0_2.length c0_2, .int .i64 a1] rfl (by (try simp only [List.map_toArray, List.map_cons, List.map_nil]); first | done | rfl | (simp only [List.length_drop, List.length_take]; rfl)) ?_; have hb9 := (show Below w.heap.size w _ from (by repeat (first | (with_reducible first | exact HB.out | apply below_alloc | apply pw_below_drewN | apply below_drew1) | exact HB.out))); (with_reducible refine (laws_markTyS.calls k P0_ _ l0_2 a1 t118 t118b w0 _ (below_step HBA.out hb9) (Kd.S_below HO0.out hb9) A3.out).mono ?_); rintro e w13 ⟨rfl, hS13, hb13, hk13⟩; refine ⟨_, rfl, ?_⟩; have HS13 := Aside0.mk hS13; have HB13 := Aside0.mk hb13; have HK13 := Aside0.mk (Kept.then_ (Kept.of_below hb9 (fun k_ => P0_ k_)) hk13 (fun k_ hk_ => .inl hk_)); clear hS13 hb13 hk13 hb9))
  go_ret
  exact ⟨by first | rfl | (simp; done), by (with_reducible repeat (first | apply Kd.S_alloc | apply Kd.S_drewN | apply Kd.S_drew)); exact HS13.out, by repeat (first | (with_reducible first | exact HB13.out | apply below_alloc | apply pw_below_drewN | apply below_drew1) | exact HB13.out), by repeat (first | (with_reducible first | exact HK13.out | apply Kept.alloc | apply Kept.drewN | apply Kept.drew) | exact HK13.out)⟩

end Go.Proofs.Ytbifoajnmikhiaa.PF
