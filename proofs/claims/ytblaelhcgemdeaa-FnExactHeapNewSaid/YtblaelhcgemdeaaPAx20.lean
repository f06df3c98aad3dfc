-- Printed by a program of this session (wrap.py) out of the translation. Lean checks it.
import Derived.Test.YtblaelhcgemdeaaPAx0
import Derived.Test.YtblaelhcgemdeaaPAx11
import Derived.Test.YtblaelhcgemdeaaPAx13
import Derived.Test.YtblaelhcgemdeaaPAx16
import Derived.Test.YtblaelhcgemdeaaPAx19
namespace Go.Proofs.Ytblaelhcgemdeaa.PA
open Go.RowKit Go.Proofs.YtblaelhcgemdeaaW.PrintWords Go.Proofs.YtblaelhcgemdeaaW.PrintLast Go.Proofs.YtblaelhcgemdeaaW.PrintMore
attribute [local go_sem] max2_int min2_int max_two min_two max_three min_three max_four min_four   -- for this text's walks alone
set_option linter.unusedVariables false
set_option linter.unusedSimpArgs false

/-! ### laws_FnExactHeapNew: function 4 -/
mutual
def laws_FnExactHeapNew.j0 : Nat → Int → Bool → Bool → List Int → Int → Int → Int → List (S61) → List Int → Int → Int → Int → List (S61) → Option (Bool)
  | 0, _, _, _, _, _, _, _, _, _, _, _, _, _ => none
  | k + 1, x0, x4, x29, x214000, x214001, x214002, x214003, x214004, x225000, x225001, x225002, x225003, x225004 => if x29 = true then (some false) else ((laws_markHeap.f k x225000 x225001 x225002 x225003 x225004 1).bind fun bt226 => ((laws_heldHeap.f k bt226.2.1 x225001 x225002 x225003 bt226.2.2 1).bind fun t229 => (if t229 < 0 then (some false) else (if t229 = bt226.1 then ((impl_HeapNew.f x0).bind fun bt230 => ((laws_eqHeap.f k bt230.1 bt230.2.1 bt230.2.2.1 bt230.2.2.2.1 bt230.2.2.2.2.1 x214000 x214001 x214002 x214003 x214004).bind fun t241 => (if t241 = true then (laws_FnExactHeapNew.j1 k bt226.1 (bt230.2.2.2.2.2 != x4) bt226.2.1 x225001 x225002 x225003 bt226.2.2) else (laws_FnExactHeapNew.j1 k bt226.1 true bt226.2.1 x225001 x225002 x225003 bt226.2.2)))) else (some false)))))
def laws_FnExactHeapNew.j1 : Nat → Int → Bool → List Int → Int → Int → Int → List (S61) → Option (Bool)
  | 0, _, _, _, _, _, _, _ => none
  | k + 1, x7, x54, x225000, x225001, x225002, x225003, x225004 => if x54 = true then (some false) else ((laws_heldHeap.f k x225000 x225001 x225002 x225003 x225004 1).bind fun t242 => (if t242 < 0 then (some false) else (if t242 = x7 then (some true) else (some false))))
end
def laws_FnExactHeapNew.f (k : Nat) (a0 : Int) : Option (Bool) := (spec_HeapNew.f a0).bind fun bt203 => ((impl_HeapNew.f a0).bind fun bt214 => ((laws_eqHeap.f k bt214.1 bt214.2.1 bt214.2.2.1 bt214.2.2.2.1 bt214.2.2.2.2.1 bt203.1 bt203.2.1 bt203.2.2.1 bt203.2.2.2.1 bt203.2.2.2.2.1).bind fun t225 => (if t225 = true then (laws_FnExactHeapNew.j0 k a0 bt203.2.2.2.2.2 (bt214.2.2.2.2.2 != bt203.2.2.2.2.2) bt203.1 bt203.2.1 bt203.2.2.1 bt203.2.2.2.1 bt203.2.2.2.2.1 bt214.1 bt214.2.1 bt214.2.2.1 bt214.2.2.2.1 bt214.2.2.2.2.1) else (laws_FnExactHeapNew.j0 k a0 bt203.2.2.2.2.2 true bt203.1 bt203.2.1 bt203.2.2.1 bt203.2.2.2.1 bt203.2.2.2.2.1 bt214.1 bt214.2.1 bt214.2.2.1 bt214.2.2.2.1 bt214.2.2.2.2.1))))
theorem laws_FnExactHeapNew.mono_l : ∀ k, (∀ y0 y1 y2 y3 y4 y5 y6 y7 y8 y9 y10 y11 y12, LeO (laws_FnExactHeapNew.j0 k y0 y1 y2 y3 y4 y5 y6 y7 y8 y9 y10 y11 y12) (laws_FnExactHeapNew.j0 (k + 1) y0 y1 y2 y3 y4 y5 y6 y7 y8 y9 y10 y11 y12)) ∧ (∀ y0 y1 y2 y3 y4 y5 y6, LeO (laws_FnExactHeapNew.j1 k y0 y1 y2 y3 y4 y5 y6) (laws_FnExactHeapNew.j1 (k + 1) y0 y1 y2 y3 y4 y5 y6))
  | 0 => ⟨fun _ _ _ _ _ _ _ _ _ _ _ _ _ r h => by simp [laws_FnExactHeapNew.j0] at h, fun _ _ _ _ _ _ _ r h => by simp [laws_FnExactHeapNew.j1] at h⟩
  | k + 1 => by
    obtain ⟨ih0, ih1⟩ := laws_FnExactHeapNew.mono_l k
    refine ⟨?_, ?_⟩
    · intro y0 y1 y2 y3 y4 y5 y6 y7 y8 y9 y10 y11 y12
      unfold laws_FnExactHeapNew.j0
      repeat' first
      | (with_reducible exact ih0 _ _ _ _ _ _ _ _ _ _ _ _ _)
      | (with_reducible exact ih1 _ _ _ _ _ _ _)
      | (with_reducible exact laws_eqHeap.mono _ _ _ _ _ _ _ _ _ _ _)
      | (with_reducible exact laws_heldHeap.mono _ _ _ _ _ _ _)
      | (with_reducible exact laws_markHeap.mono _ _ _ _ _ _ _)
      | (with_reducible exact LeO.refl _)
      | (with_reducible exact LeO.none _)
      | (with_reducible refine LeO.ite ?_ ?_)
      | (with_reducible refine LeO.bind ?_ (fun _ => ?_))
      | exact ih0 _ _ _ _ _ _ _ _ _ _ _ _ _
      | exact ih1 _ _ _ _ _ _ _
      | exact laws_eqHeap.mono _ _ _ _ _ _ _ _ _ _ _
      | exact laws_heldHeap.mono _ _ _ _ _ _ _
      | exact laws_markHeap.mono _ _ _ _ _ _ _
      | exact LeO.none _
      | refine LeO.ite ?_ ?_
      | refine LeO.bind ?_ (fun _ => ?_)
    · intro y0 y1 y2 y3 y4 y5 y6
      unfold laws_FnExactHeapNew.j1
      repeat' first
      | (with_reducible exact ih0 _ _ _ _ _ _ _ _ _ _ _ _ _)
      | (with_reducible exact ih1 _ _ _ _ _ _ _)
      | (with_reducible exact laws_eqHeap.mono _ _ _ _ _ _ _ _ _ _ _)
      | (with_reducible exact laws_heldHeap.mono _ _ _ _ _ _ _)
      | (with_reducible exact laws_markHeap.mono _ _ _ _ _ _ _)
      | (with_reducible exact LeO.refl _)
      | (with_reducible exact LeO.none _)
      | (with_reducible refine LeO.ite ?_ ?_)
      | (with_reducible refine LeO.bind ?_ (fun _ => ?_))
      | exact ih0 _ _ _ _ _ _ _ _ _ _ _ _ _
      | exact ih1 _ _ _ _ _ _ _
      | exact laws_eqHeap.mono _ _ _ _ _ _ _ _ _ _ _
      | exact laws_heldHeap.mono _ _ _ _ _ _ _
      | exact laws_markHeap.mono _ _ _ _ _ _ _
      | exact LeO.none _
      | refine LeO.ite ?_ ?_
      | refine LeO.bind ?_ (fun _ => ?_)
theorem laws_FnExactHeapNew.mono : ∀ a0 k, LeO (laws_FnExactHeapNew.f k a0) (laws_FnExactHeapNew.f (k + 1) a0) := by
  intro a0 k
  obtain ⟨ih0, ih1⟩ := laws_FnExactHeapNew.mono_l k
  unfold laws_FnExactHeapNew.f
  repeat' first
      | (with_reducible exact ih0 _ _ _ _ _ _ _ _ _ _ _ _ _)
      | (with_reducible exact ih1 _ _ _ _ _ _ _)
      | (with_reducible exact laws_eqHeap.mono _ _ _ _ _ _ _ _ _ _ _)
      | (with_reducible exact laws_heldHeap.mono _ _ _ _ _ _ _)
      | (with_reducible exact laws_markHeap.mono _ _ _ _ _ _ _)
      | (with_reducible exact LeO.refl _)
      | (with_reducible exact LeO.none _)
      | (with_reducible refine LeO.ite ?_ ?_)
      | (with_reducible refine LeO.bind ?_ (fun _ => ?_))
      | exact ih0 _ _ _ _ _ _ _ _ _ _ _ _ _
      | exact ih1 _ _ _ _ _ _ _
      | exact laws_eqHeap.mono _ _ _ _ _ _ _ _ _ _ _
      | exact laws_heldHeap.mono _ _ _ _ _ _ _
      | exact laws_markHeap.mono _ _ _ _ _ _ _
      | exact LeO.none _
      | refine LeO.ite ?_ ?_
      | refine LeO.bind ?_ (fun _ => ?_)
set_option maxHeartbeats 8000000 in
set_option maxRecDepth 100000 in
theorem laws_FnExactHeapNew.calls (k : Nat) (a0 : Int) (r : Bool) (w : World) (h : laws_FnExactHeapNew.f k a0 = some r) :
    Calls Try.prog 4 #[.int .i64 a0] w fun e w' => e = .returned (.bool r) ∧ Below w.heap.size w w' := by
  have hu30 := Try.underlying30
  have HB := Aside0.mk (Below.refl w.heap.size w)
  have H : ((spec_HeapNew.f a0).bind fun bt203 => ((impl_HeapNew.f a0).bind fun bt214 => ((laws_eqHeap.f k bt214.1 bt214.2.1 bt214.2.2.1 bt214.2.2.2.1 bt214.2.2.2.2.1 bt203.1 bt203.2.1 bt203.2.2.1 bt203.2.2.2.1 bt203.2.2.2.2.1).bind fun t225 => (if t225 = true then (laws_FnExactHeapNew.j0 k a0 bt203.2.2.2.2.2 (bt214.2.2.2.2.2 != bt203.2.2.2.2.2) bt203.1 bt203.2.1 bt203.2.2.1 bt203.2.2.2.1 bt203.2.2.2.2.1 bt214.1 bt214.2.1 bt214.2.2.1 bt214.2.2.2.1 bt214.2.2.2.2.1) else (laws_FnExactHeapNew.j0 k a0 bt203.2.2.2.2.2 true bt203.1 bt203.2.1 bt203.2.2.1 bt203.2.2.2.1 bt203.2.2.2.2.1 bt214.1 bt214.2.1 bt214.2.2.1 bt214.2.2.2.1 bt214.2.2.2.2.1))))) = some r := h
  clear h
  replace H := Option.bind_eq_some_iff.mp H
  obtain ⟨⟨t203, t206, t207, t208, t209, t212⟩, A20, H⟩ := H
  replace H : ((impl_HeapNew.f a0).bind fun bt214 => ((laws_eqHeap.f k bt214.1 bt214.2.1 bt214.2.2.1 bt214.2.2.2.1 bt214.2.2.2.2.1 t203 t206 t207 t208 t209).bind fun t225 => (if t225 = true then (laws_FnExactHeapNew.j0 k a0 t212 (bt214.2.2.2.2.2 != t212) t203 t206 t207 t208 t209 bt214.1 bt214.2.1 bt214.2.2.1 bt214.2.2.2.1 bt214.2.2.2.2.1) else (laws_FnExactHeapNew.j0 k a0 t212 true t203 t206 t207 t208 t209 bt214.1 bt214.2.1 bt214.2.2.1 bt214.2.2.2.1 bt214.2.2.2.2.1)))) = some r := H
  have A2 := Aside0.mk A20
  clear A20
  replace H := Option.bind_eq_some_iff.mp H
  obtain ⟨⟨t214, t217, t218, t219, t220, t223⟩, A30, H⟩ := H
  replace H : ((laws_eqHeap.f k t214 t217 t218 t219 t220 t203 t206 t207 t208 t209).bind fun t225 => (if t225 = true then (laws_FnExactHeapNew.j0 k a0 t212 (t223 != t212) t203 t206 t207 t208 t209 t214 t217 t218 t219 t220) else (laws_FnExactHeapNew.j0 k a0 t212 true t203 t206 t207 t208 t209 t214 t217 t218 t219 t220))) = some r := H
  have A3 := Aside0.mk A30
  clear A30
  have HC4 := Aside0.mk H
  clear H
  go_enter Try.func4, Try.ntmps4
  go_upto_region 3 with (first | ((with_reducible refine gate_callee (f := 16) rfl ?_); refine goesL_ (some 13) rfl rfl Try.func16 (by kernel_rfl) rfl #[.int .i64 a0] rfl (by (try simp only [List.map_toArray, List.map_cons, List.map_nil]); first | done | rfl | (simp only [List.length_drop, List.length_take]; rfl)) ?_; (with_reducible refine (spec_HeapNew.calls a0 t203 t206 t207 t208 t209 t212 _ A2.out).mono ?_); rintro e w5 ⟨v204, v210, rfl, ho0, ho1, hb⟩; refine ⟨_, rfl, ?_⟩; have n0_ := Aside0.mk (Kd.R_lower ho0 (below_size (by repeat (first | (with_reducible first | exact HB.out | apply below_alloc | apply pw_below_drewN | apply below_drew1) | exact HB.out)))); have n1_ := Aside0.mk (Kd.R_lower ho1 (below_size (by repeat (first | (with_reducible first | exact HB.out | apply below_alloc | apply pw_below_drewN | apply below_drew1) | exact HB.out)))); have n2_ := Aside0.mk (below_step (by repeat (first | (with_reducible first | exact HB.out | apply below_alloc | apply pw_below_drewN | apply below_drew1) | exact HB.out)) hb); clear HB; have HO205 := n0_; have HO211 := n1_; have HB := n2_; clear n0_ n1_ n2_; (try clear hb); (try clear hb2); (try clear hk); (try clear hi); (try clear ho0); (try clear ho1)) | ((with_reducible refine gate_dst (N := 3) rfl ?_); refine box_event ?hg (N := 3) ?hd (cs := #[.slice none 0 0, .int .i64 0, .int .i64 0, .int .i64 0, .slice none 0 0]) (t := 30) ?hr ?_; (case hd => rfl); (case hg => rfl); (case hr => first | (go_simp; done) | (go_simp; rfl)); intro gb213 hg w6 hbox hb; have n0_ := Aside0.mk (Kd.R_below (by (with_reducible repeat (first | apply Kd.R_alloc | apply Kd.R_drewN | apply Kd.R_drew)); exact HO205.out) hb); have n1_ := Aside0.mk (Kd.R_below (by (with_reducible repeat (first | apply Kd.R_alloc | apply Kd.R_drewN | apply Kd.R_drew)); exact HO211.out) hb); have n2_ := Aside0.mk (below_step (by repeat (first | (with_reducible first | exact HB.out | apply below_alloc | apply pw_below_drewN | apply below_drew1) | exact HB.out)) hb); have n3_ := Aside0.mk (hbox); have n4_ := Aside0.mk ((by rw [hg]; exact (below_size (by repeat (first | (with_reducible first | exact HB.out | apply below_alloc | apply pw_below_drewN | apply below_drew1) | exact HB.out))) : w.heap.size ≤ gb213)); have n5_ := Aside0.mk ((by rw [hg]; exact (below_size (by repeat (first | (with_reducible first | exact HB.out | apply below_alloc | apply pw_below_drewN | apply below_drew1) | exact HB.out))) : w.heap.size ≤ gb213)); clear HO205; clear HO211; clear HB; have HO205 := n0_; have HO211 := n1_; have HB := n2_; have BK213 := n3_; have GW213 := n4_; have GE213 := n5_; clear n0_ n1_ n2_ n3_ n4_ n5_; clear hb hbox hg; obtain ⟨Ao7, co7, eo7⟩ := Kd.R_slice HO205.out; subst eo7; have hcz8_0 : w6.cell? ⟨gb213, 0, none⟩ = some (.slice none 0 0) := (blk_cell BK213.out 0).trans rfl; have hcz8_1 : w6.cell? ⟨gb213, 1, none⟩ = some (.int .i64 0) := (blk_cell BK213.out 1).trans rfl; have hcz8_2 : w6.cell? ⟨gb213, 2, none⟩ = some (.int .i64 0) := (blk_cell BK213.out 2).trans rfl; have hcz8_3 : w6.cell? ⟨gb213, 3, none⟩ = some (.int .i64 0) := (blk_cell BK213.out 3).trans rfl; have hcz8_4 : w6.cell? ⟨gb213, 4, none⟩ = some (.slice none 0 0) := (blk_cell BK213.out 4).trans rfl; have hfz8_0 := blk_frozen BK213.out 0; have hfz8_1 := blk_frozen BK213.out 1; have hfz8_2 := blk_frozen BK213.out 2; have hfz8_3 := blk_frozen BK213.out 3; have hfz8_4 := blk_frozen BK213.out 4; obtain ⟨Ao9, co9, eo9⟩ := Kd.R_slice HO211.out; subst eo9) | ((with_reducible refine gate_callee (f := 17) rfl ?_); refine goesL_ (some 18) rfl rfl Try.func17 (by kernel_rfl) rfl #[.int .i64 a0] rfl (by (try simp only [List.map_toArray, List.map_cons, List.map_nil]); first | done | rfl | (simp only [List.length_drop, List.length_take]; rfl)) ?_; (with_reducible refine (impl_HeapNew.calls a0 t214 t217 t218 t219 t220 t223 _ A3.out).mono ?_); rintro e w10 ⟨v215, v221, rfl, ho0, ho1, hb⟩; refine ⟨_, rfl, ?_⟩; have n0_ := Aside0.mk (Kd.R_elder' (by (with_reducible repeat (first | apply Kd.R_alloc | apply Kd.R_drewN | apply Kd.R_drew)); exact (Kd.R_mono (Kd.R_far (p := ⟨gb213, 4, none⟩) (Kd.R_far (p := ⟨gb213, 3, none⟩) (Kd.R_far (p := ⟨gb213, 2, none⟩) (Kd.R_far (p := ⟨gb213, 1, none⟩) (Kd.R_far (p := ⟨gb213, 0, none⟩) (Kd.R_types HO205.out BK213.out (by decide)) (fun _ hk => hk.2) (.slice Ao7 t203.length co7)) (fun _ hk => hk.2) (.int .i64 t206)) (fun _ hk => hk.2) (.int .i64 t207)) (fun _ hk => hk.2) (.int .i64 t208)) (fun _ hk => hk.2) (.slice Ao9 t209.length co9)) (fun _ h_ => h_.1))) (Kd.R_base ho0) hb); have n1_ := Aside0.mk (Kd.R_elder' (by (with_reducible repeat (first | apply Kd.R_alloc | apply Kd.R_drewN | apply Kd.R_drew)); exact (Kd.R_mono (Kd.R_far (p := ⟨gb213, 4, none⟩) (Kd.R_far (p := ⟨gb213, 3, none⟩) (Kd.R_far (p := ⟨gb213, 2, none⟩) (Kd.R_far (p := ⟨gb213, 1, none⟩) (Kd.R_far (p := ⟨gb213, 0, none⟩) (Kd.R_types HO211.out BK213.out (by decide)) (fun _ hk => hk.2) (.slice Ao7 t203.length co7)) (fun _ hk => hk.2) (.int .i64 t206)) (fun _ hk => hk.2) (.int .i64 t207)) (fun _ hk => hk.2) (.int .i64 t208)) (fun _ hk => hk.2) (.slice Ao9 t209.length co9)) (fun _ h_ => h_.1))) (Kd.R_base ho1) hb); have n2_ := Aside0.mk (Kd.R_lower (Kd.R_new' ho0 (Kd.R_lt (by (with_reducible repeat (first | apply Kd.R_alloc | apply Kd.R_drewN | apply Kd.R_drew)); exact (Kd.R_mono (Kd.R_far (p := ⟨gb213, 4, none⟩) (Kd.R_far (p := ⟨gb213, 3, none⟩) (Kd.R_far (p := ⟨gb213, 2, none⟩) (Kd.R_far (p := ⟨gb213, 1, none⟩) (Kd.R_far (p := ⟨gb213, 0, none⟩) (Kd.R_types HO205.out BK213.out (by decide)) (fun _ hk => hk.2) (.slice Ao7 t203.length co7)) (fun _ hk => hk.2) (.int .i64 t206)) (fun _ hk => hk.2) (.int .i64 t207)) (fun _ hk => hk.2) (.int .i64 t208)) (fun _ hk => hk.2) (.slice Ao9 t209.length co9)) (fun _ h_ => h_.1))))) (below_size (by repeat (first | (with_reducible first | exact HB.out | apply below_alloc | apply pw_below_drewN | apply below_drew1 | refine below_set ?_ GE213.out) | exact HB.out)))); have n3_ := Aside0.mk (Kd.R_lower (Kd.R_new' ho1 (Kd.R_lt (by (with_reducible repeat (first | apply Kd.R_alloc | apply Kd.R_drewN | apply Kd.R_drew)); exact (Kd.R_mono (Kd.R_far (p := ⟨gb213, 4, none⟩) (Kd.R_far (p := ⟨gb213, 3, none⟩) (Kd.R_far (p := ⟨gb213, 2, none⟩) (Kd.R_far (p := ⟨gb213, 1, none⟩) (Kd.R_far (p := ⟨gb213, 0, none⟩) (Kd.R_types HO211.out BK213.out (by decide)) (fun _ hk => hk.2) (.slice Ao7 t203.length co7)) (fun _ hk => hk.2) (.int .i64 t206)) (fun _ hk => hk.2) (.int .i64 t207)) (fun _ hk => hk.2) (.int .i64 t208)) (fun _ hk => hk.2) (.slice Ao9 t209.length co9)) (fun _ h_ => h_.1))))) (below_size (by repeat (first | (with_reducible first | exact HB.out | apply below_alloc | apply pw_below_drewN | apply below_drew1 | refine below_set ?_ GE213.out) | exact HB.out)))); have n4_ := Aside0.mk (blk_below (g := gb213) (o := .cells #[.slice Ao7 t203.length co7, .int .i64 t206, .int .i64 t207, .int .i64 t208, .slice Ao9 t209.length co9] 30 (0, 0)) (by (with_reducible repeat (first | refine blk_drewN ?_ _ | refine blk_drew ?_ | refine blk_alloc ?_ _)); refine blk_put (cs := #[.slice Ao7 t203.length co7, .int .i64 t206, .int .i64 t207, .int .i64 t208, .slice none 0 0]) ?_ 4 _ rfl; (with_reducible repeat (first | refine blk_drewN ?_ _ | refine blk_drew ?_ | refine blk_alloc ?_ _)); refine blk_put (cs := #[.slice Ao7 t203.length co7, .int .i64 t206, .int .i64 t207, .int .i64 0, .slice none 0 0]) ?_ 3 _ rfl; (with_reducible repeat (first | refine blk_drewN ?_ _ | refine blk_drew ?_ | refine blk_alloc ?_ _)); refine blk_put (cs := #[.slice Ao7 t203.length co7, .int .i64 t206, .int .i64 0, .int .i64 0, .slice none 0 0]) ?_ 2 _ rfl; (with_reducible repeat (first | refine blk_drewN ?_ _ | refine blk_drew ?_ | refine blk_alloc ?_ _)); refine blk_put (cs := #[.slice Ao7 t203.length co7, .int .i64 0, .int .i64 0, .int .i64 0, .slice none 0 0]) ?_ 1 _ rfl; (with_reducible repeat (first | refine blk_drewN ?_ _ | refine blk_drew ?_ | refine blk_alloc ?_ _)); refine blk_put (cs := #[.slice none 0 0, .int .i64 0, .int .i64 0, .int .i64 0, .slice none 0 0]) ?_ 0 _ rfl; (with_reducible repeat (first | refine blk_drewN ?_ _ | refine blk_drew ?_ | refine blk_alloc ?_ _)); exact BK213.out) hb); have n5_ := Aside0.mk (below_step (by repeat (first | (with_reducible first | exact HB.out | apply below_alloc | apply pw_below_drewN | apply below_drew1 | refine below_set ?_ GE213.out) | exact HB.out)) hb); clear HO205; clear HO211; clear BK213; clear HB; have HO205 := n0_; have HO211 := n1_; have HO216 := n2_; have HO222 := n3_; have BK213 := n4_; have HB := n5_; clear n0_ n1_ n2_ n3_ n4_ n5_; (try clear hb); (try clear hb2); (try clear hk); (try clear hi); (try clear ho0); (try clear ho1)) | ((with_reducible refine gate_dst (N := 5) rfl ?_); refine box_event ?hg (N := 5) ?hd (cs := #[.slice none 0 0, .int .i64 0, .int .i64 0, .int .i64 0, .slice none 0 0]) (t := 30) ?hr ?_; (case hd => rfl); (case hg => rfl); (case hr => first | (go_simp; done) | (go_simp; rfl)); intro gb224 hg w11 hbox hb; have n0_ := Aside0.mk (Kd.R_below (by (with_reducible repeat (first | apply Kd.R_alloc | apply Kd.R_drewN | apply Kd.R_drew)); exact HO205.out) hb); have n1_ := Aside0.mk (Kd.R_below (by (with_reducible repeat (first | apply Kd.R_alloc | apply Kd.R_drewN | apply Kd.R_drew)); exact HO211.out) hb); have n2_ := Aside0.mk (Kd.R_below (by (with_reducible repeat (first | apply Kd.R_alloc | apply Kd.R_drewN | apply Kd.R_drew)); exact HO216.out) hb); have n3_ := Aside0.mk (Kd.R_below (by (with_reducible repeat (first | apply Kd.R_alloc | apply Kd.R_drewN | apply Kd.R_drew)); exact HO222.out) hb); have n4_ := Aside0.mk (blk_below (g := gb213) (o := .cells #[.slice Ao7 t203.length co7, .int .i64 t206, .int .i64 t207, .int .i64 t208, .slice Ao9 t209.length co9] 30 (0, 0)) (by (with_reducible repeat (first | refine blk_drewN ?_ _ | refine blk_drew ?_ | refine blk_alloc ?_ _)); exact BK213.out) hb); have n5_ := Aside0.mk (below_step (by repeat (first | (with_reducible first | exact HB.out | apply below_alloc | apply pw_below_drewN | apply below_drew1 | refine below_set ?_ GE213.out) | exact HB.out)) hb); have n6_ := Aside0.mk (hbox); have n7_ := Aside0.mk ((by rw [hg]; exact (below_size (by repeat (first | (with_reducible first | exact HB.out | apply below_alloc | apply pw_below_drewN | apply below_drew1 | refine below_set ?_ GE213.out) | exact HB.out))) : w.heap.size ≤ gb224)); have n8_ := Aside0.mk ((by rw [hg]; exact (below_size (by repeat (first | (with_reducible first | exact HB.out | apply below_alloc | apply pw_below_drewN | apply below_drew1 | refine below_set ?_ GE213.out) | exact HB.out))) : w.heap.size ≤ gb224)); have n9_ := Aside0.mk ((by rw [hg]; exact Nat.ne_of_lt (blk_lt (g := gb213) (o := .cells #[.slice Ao7 t203.length co7, .int .i64 t206, .int .i64 t207, .int .i64 t208, .slice Ao9 t209.length co9] 30 (0, 0)) (by (with_reducible repeat (first | refine blk_drewN ?_ _ | refine blk_drew ?_ | refine blk_alloc ?_ _)); exact BK213.out)) : gb213 ≠ gb224)); have n10_ := Aside0.mk ((by rw [hg]; exact Nat.ne_of_gt (blk_lt (g := gb213) (o := .cells #[.slice Ao7 t203.length co7, .int .i64 t206, .int .i64 t207, .int .i64 t208, .slice Ao9 t209.length co9] 30 (0, 0)) (by (with_reducible repeat (first | refine blk_drewN ?_ _ | refine blk_drew ?_ | refine blk_alloc ?_ _)); exact BK213.out)) : gb224 ≠ gb213)); clear HO205; clear HO211; clear HO216; clear HO222; clear BK213; clear HB; have HO205 := n0_; have HO211 := n1_; have HO216 := n2_; have HO222 := n3_; have BK213 := n4_; have HB := n5_; have BK224 := n6_; have GW224 := n7_; have GE224 := n8_; have NB213_224 := n9_; have NB224_213 := n10_; clear n0_ n1_ n2_ n3_ n4_ n5_ n6_ n7_ n8_ n9_ n10_; clear hb hbox hg; obtain ⟨Ao12, co12, eo12⟩ := Kd.R_slice HO216.out; subst eo12; have hnb13 := NB224_213.out; have hnc13 := NB213_224.out; have hcz14_0 : w11.cell? ⟨gb224, 0, none⟩ = some (.slice none 0 0) := (blk_cell BK224.out 0).trans rfl; have hcz14_1 : w11.cell? ⟨gb224, 1, none⟩ = some (.int .i64 0) := (blk_cell BK224.out 1).trans rfl; have hcz14_2 : w11.cell? ⟨gb224, 2, none⟩ = some (.int .i64 0) := (blk_cell BK224.out 2).trans rfl; have hcz14_3 : w11.cell? ⟨gb224, 3, none⟩ = some (.int .i64 0) := (blk_cell BK224.out 3).trans rfl; have hcz14_4 : w11.cell? ⟨gb224, 4, none⟩ = some (.slice none 0 0) := (blk_cell BK224.out 4).trans rfl; have hfz14_0 := blk_frozen BK224.out 0; have hfz14_1 := blk_frozen BK224.out 1; have hfz14_2 := blk_frozen BK224.out 2; have hfz14_3 := blk_frozen BK224.out 3; have hfz14_4 := blk_frozen BK224.out 4; obtain ⟨Ao15, co15, eo15⟩ := Kd.R_slice HO222.out; subst eo15))
  (try simp only [Act.put, List.setIfInBounds_toArray, List.set_cons_zero, List.set_cons_succ])
  go_cut [29] (fun v29 wc => ∃ (kq : Nat) (x29_3 : Bool), v29 = .bool x29_3 ∧ Aside0 (laws_FnExactHeapNew.j0 kq a0 t212 x29_3 t203 t206 t207 t208 t209 t214 t217 t218 t219 t220 = some r) ∧ Aside0 (kq ≤ k) ∧ Aside0 (Kd.R (Kd.int .i64) 3 wc w.heap.size (fun k_ => some k_ ≠ ((.slice Ao12 t214.length co12) : Value).ownBlock) (.slice Ao7 t203.length co7) t203) ∧ Aside0 (Kd.R k61 61 wc w.heap.size (fun k_ => some k_ ≠ ((.slice Ao15 t220.length co15) : Value).ownBlock) (.slice Ao9 t209.length co9) t209) ∧ Aside0 (Kd.R (Kd.int .i64) 3 wc w.heap.size (fun k_ => some k_ ≠ ((.slice Ao7 t203.length co7) : Value).ownBlock) (.slice Ao12 t214.length co12) t214) ∧ Aside0 (Kd.R k61 61 wc w.heap.size (fun k_ => some k_ ≠ ((.slice Ao9 t209.length co9) : Value).ownBlock) (.slice Ao15 t220.length co15) t220) ∧ Aside0 (wc.heap[gb213]? = some (.cells #[(.slice Ao7 t203.length co7), .int .i64 t206, .int .i64 t207, .int .i64 t208, (.slice Ao9 t209.length co9)] 30 (0, 0))) ∧ Aside0 (wc.heap[gb224]? = some (.cells #[(.slice Ao12 t214.length co12), .int .i64 t217, .int .i64 t218, .int .i64 t219, (.slice Ao15 t220.length co15)] 30 (0, 0))) ∧ Aside0 (Below w.heap.size w wc))
  case first =>
    have H := HC4.out
    clear HC4
    replace H := Option.bind_eq_some_iff.mp H
    obtain ⟨t225, A160, H⟩ := H
    replace H : (if t225 = true then (laws_FnExactHeapNew.j0 k a0 t212 (t223 != t212) t203 t206 t207 t208 t209 t214 t217 t218 t219 t220) else (laws_FnExactHeapNew.j0 k a0 t212 true t203 t206 t207 t208 t209 t214 t217 t218 t219 t220)) = some r := H
    have A16 := Aside0.mk A160
    clear A160
    by_cases c17 : t225 = true
    · subst c17
      have H1 : (laws_FnExactHeapNew.j0 k a0 t212 (t223 != t212) t203 t206 t207 t208 t209 t214 t217 t218 t219 t220) = some r := by rw [if_pos rfl] at H; exact H
      clear H
      have H := H1
      clear H1
      have H' := Aside0.mk H
      clear H
      have hnb18 := NB224_213.out
      have hnc18 := NB213_224.out
      have hcz19_0 : w11.cell? ⟨gb224, 0, none⟩ = some (.slice none 0 0) := (blk_cell BK224.out 0).trans rfl
      have hcz19_1 : w11.cell? ⟨gb224, 1, none⟩ = some (.int .i64 0) := (blk_cell BK224.out 1).trans rfl
      have hcz19_2 : w11.cell? ⟨gb224, 2, none⟩ = some (.int .i64 0) := (blk_cell BK224.out 2).trans rfl
      have hcz19_3 : w11.cell? ⟨gb224, 3, none⟩ = some (.int .i64 0) := (blk_cell BK224.out 3).trans rfl
      have hcz19_4 : w11.cell? ⟨gb224, 4, none⟩ = some (.slice none 0 0) := (blk_cell BK224.out 4).trans rfl
      have hfz19_0 := blk_frozen BK224.out 0
      have hfz19_1 := blk_frozen BK224.out 1
      have hfz19_2 := blk_frozen BK224.out 2
      have hfz19_3 := blk_frozen BK224.out 3
      have hfz19_4 := blk_frozen BK224.out 4
      have hcz20_0 : w11.cell? ⟨gb213, 0, none⟩ = some (.slice Ao7 t203.length co7) := (blk_cell BK213.out 0).trans rfl
      have hcz20_1 : w11.cell? ⟨gb213, 1, none⟩ = some (.int .i64 t206) := (blk_cell BK213.out 1).trans rfl
      have hcz20_2 : w11.cell? ⟨gb213, 2, none⟩ = some (.int .i64 t207) := (blk_cell BK213.out 2).trans rfl
      have hcz20_3 : w11.cell? ⟨gb213, 3, none⟩ = some (.int .i64 t208) := (blk_cell BK213.out 3).trans rfl
      have hcz20_4 : w11.cell? ⟨gb213, 4, none⟩ = some (.slice Ao9 t209.length co9) := (blk_cell BK213.out 4).trans rfl
      have hfz20_0 := blk_frozen BK213.out 0
      have hfz20_1 := blk_frozen BK213.out 1
      have hfz20_2 := blk_frozen BK213.out 2
      have hfz20_3 := blk_frozen BK213.out 3
      have hfz20_4 := blk_frozen BK213.out 4
      go_wp2_with (first | ((with_reducible refine gate_callee (f := 15) rfl ?_); refine goesL_ (some 23) rfl rfl Try.func15 (by kernel_rfl) rfl #[.agg #[.slice Ao12 t214.length co12, .int .i64 t217, .int .i64 t218, .int .i64 t219, .slice Ao15 t220.length co15], .agg #[.slice Ao7 t203.length co7, .int .i64 t206, .int .i64 t207, .int .i64 t208, .slice Ao9 t209.length co9]] rfl (by (try simp only [List.map_toArray, List.map_cons, List.map_nil]); first | done | rfl | (simp only [List.length_drop, List.length_take]; rfl)) ?_; (with_reducible refine (laws_eqHeap.calls k _ _ t214 t217 t218 t219 _ _ t220 _ _ t203 t206 t207 t208 _ _ t209 true _ ?side1 ?side2 ?side3 ?side4 ?side5 ?side6 ?side7 ?side8 A16.out).mono ?_); (case side1 => refine (Kd.R_reads' (e := 3) (base := w.heap.size) (ok := fun k_ => (True ∧ some k_ ≠ (.slice Ao7 t203.length co7 : Value).ownBlock)) (n := t214.length) (c := co12) ?_).2.2; exact (by (with_reducible repeat (first | apply Kd.R_alloc | apply Kd.R_drewN | apply Kd.R_drew)); exact (Kd.R_mono (Kd.R_far (p := ⟨gb224, 4, none⟩) (Kd.R_far (p := ⟨gb224, 3, none⟩) (Kd.R_far (p := ⟨gb224, 2, none⟩) (Kd.R_far (p := ⟨gb224, 1, none⟩) (Kd.R_far (p := ⟨gb224, 0, none⟩) (Kd.R_types HO216.out BK224.out (by decide)) (fun _ hk => hk.2) (.slice Ao12 t214.length co12)) (fun _ hk => hk.2) (.int .i64 t217)) (fun _ hk => hk.2) (.int .i64 t218)) (fun _ hk => hk.2) (.int .i64 t219)) (fun _ hk => hk.2) (.slice Ao15 t220.length co15)) (fun _ h_ => h_.1)))); (case side2 => exact (Kd.R_reads' HO216.out).2.1); (case side3 => refine (Kd.R_reads' (e := 61) (base := w.heap.size) (ok := fun k_ => (True ∧ some k_ ≠ (.slice Ao9 t209.length co9 : Value).ownBlock)) (n := t220.length) (c := co15) ?_).2.2; exact (by (with_reducible repeat (first | apply Kd.R_alloc | apply Kd.R_drewN | apply Kd.R_drew)); exact (Kd.R_mono (Kd.R_far (p := ⟨gb224, 4, none⟩) (Kd.R_far (p := ⟨gb224, 3, none⟩) (Kd.R_far (p := ⟨gb224, 2, none⟩) (Kd.R_far (p := ⟨gb224, 1, none⟩) (Kd.R_far (p := ⟨gb224, 0, none⟩) (Kd.R_types HO222.out BK224.out (by decide)) (fun _ hk => hk.2) (.slice Ao12 t214.length co12)) (fun _ hk => hk.2) (.int .i64 t217)) (fun _ hk => hk.2) (.int .i64 t218)) (fun _ hk => hk.2) (.int .i64 t219)) (fun _ hk => hk.2) (.slice Ao15 t220.length co15)) (fun _ h_ => h_.1)))); (case side4 => exact (Kd.R_reads' HO222.out).2.1); (case side5 => refine (Kd.R_reads' (e := 3) (base := w.heap.size) (ok := fun k_ => (True ∧ some k_ ≠ (.slice Ao12 t214.length co12 : Value).ownBlock)) (n := t203.length) (c := co7) ?_).2.2; exact (by (with_reducible repeat (first | apply Kd.R_alloc | apply Kd.R_drewN | apply Kd.R_drew)); exact (Kd.R_mono (Kd.R_far (p := ⟨gb224, 4, none⟩) (Kd.R_far (p := ⟨gb224, 3, none⟩) (Kd.R_far (p := ⟨gb224, 2, none⟩) (Kd.R_far (p := ⟨gb224, 1, none⟩) (Kd.R_far (p := ⟨gb224, 0, none⟩) (Kd.R_types HO205.out BK224.out (by decide)) (fun _ hk => hk.2) (.slice Ao12 t214.length co12)) (fun _ hk => hk.2) (.int .i64 t217)) (fun _ hk => hk.2) (.int .i64 t218)) (fun _ hk => hk.2) (.int .i64 t219)) (fun _ hk => hk.2) (.slice Ao15 t220.length co15)) (fun _ h_ => h_.1)))); (case side6 => exact (Kd.R_reads' HO205.out).2.1); (case side7 => refine (Kd.R_reads' (e := 61) (base := w.heap.size) (ok := fun k_ => (True ∧ some k_ ≠ (.slice Ao15 t220.length co15 : Value).ownBlock)) (n := t209.length) (c := co9) ?_).2.2; exact (by (with_reducible repeat (first | apply Kd.R_alloc | apply Kd.R_drewN | apply Kd.R_drew)); exact (Kd.R_mono (Kd.R_far (p := ⟨gb224, 4, none⟩) (Kd.R_far (p := ⟨gb224, 3, none⟩) (Kd.R_far (p := ⟨gb224, 2, none⟩) (Kd.R_far (p := ⟨gb224, 1, none⟩) (Kd.R_far (p := ⟨gb224, 0, none⟩) (Kd.R_types HO211.out BK224.out (by decide)) (fun _ hk => hk.2) (.slice Ao12 t214.length co12)) (fun _ hk => hk.2) (.int .i64 t217)) (fun _ hk => hk.2) (.int .i64 t218)) (fun _ hk => hk.2) (.int .i64 t219)) (fun _ hk => hk.2) (.slice Ao15 t220.length co15)) (fun _ h_ => h_.1)))); (case side8 => exact (Kd.R_reads' HO211.out).2.1); rintro e w21 ⟨rfl, hb⟩; refine ⟨_, rfl, ?_⟩; have n0_ := Aside0.mk (Kd.R_below (by (with_reducible repeat (first | apply Kd.R_alloc | apply Kd.R_drewN | apply Kd.R_drew)); exact (Kd.R_mono (Kd.R_far (p := ⟨gb224, 4, none⟩) (Kd.R_far (p := ⟨gb224, 3, none⟩) (Kd.R_far (p := ⟨gb224, 2, none⟩) (Kd.R_far (p := ⟨gb224, 1, none⟩) (Kd.R_far (p := ⟨gb224, 0, none⟩) (Kd.R_types HO205.out BK224.out (by decide)) (fun _ hk => hk.2) (.slice Ao12 t214.length co12)) (fun _ hk => hk.2) (.int .i64 t217)) (fun _ hk => hk.2) (.int .i64 t218)) (fun _ hk => hk.2) (.int .i64 t219)) (fun _ hk => hk.2) (.slice Ao15 t220.length co15)) (fun _ h_ => h_.1))) hb); have n1_ := Aside0.mk (Kd.R_below (by (with_reducible repeat (first | apply Kd.R_alloc | apply Kd.R_drewN | apply Kd.R_drew)); exact (Kd.R_mono (Kd.R_far (p := ⟨gb224, 4, none⟩) (Kd.R_far (p := ⟨gb224, 3, none⟩) (Kd.R_far (p := ⟨gb224, 2, none⟩) (Kd.R_far (p := ⟨gb224, 1, none⟩) (Kd.R_far (p := ⟨gb224, 0, none⟩) (Kd.R_types HO211.out BK224.out (by decide)) (fun _ hk => hk.2) (.slice Ao12 t214.length co12)) (fun _ hk => hk.2) (.int .i64 t217)) (fun _ hk => hk.2) (.int .i64 t218)) (fun _ hk => hk.2) (.int .i64 t219)) (fun _ hk => hk.2) (.slice Ao15 t220.length co15)) (fun _ h_ => h_.1))) hb); have n2_ := Aside0.mk (Kd.R_below (by (with_reducible repeat (first | apply Kd.R_alloc | apply Kd.R_drewN | apply Kd.R_drew)); exact (Kd.R_mono (Kd.R_far (p := ⟨gb224, 4, none⟩) (Kd.R_far (p := ⟨gb224, 3, none⟩) (Kd.R_far (p := ⟨gb224, 2, none⟩) (Kd.R_far (p := ⟨gb224, 1, none⟩) (Kd.R_far (p := ⟨gb224, 0, none⟩) (Kd.R_types HO216.out BK224.out (by decide)) (fun _ hk => hk.2) (.slice Ao12 t214.length co12)) (fun _ hk => hk.2) (.int .i64 t217)) (fun _ hk => hk.2) (.int .i64 t218)) (fun _ hk => hk.2) (.int .i64 t219)) (fun _ hk => hk.2) (.slice Ao15 t220.length co15)) (fun _ h_ => h_.1))) hb); have n3_ := Aside0.mk (Kd.R_below (by (with_reducible repeat (first | apply Kd.R_alloc | apply Kd.R_drewN | apply Kd.R_drew)); exact (Kd.R_mono (Kd.R_far (p := ⟨gb224, 4, none⟩) (Kd.R_far (p := ⟨gb224, 3, none⟩) (Kd.R_far (p := ⟨gb224, 2, none⟩) (Kd.R_far (p := ⟨gb224, 1, none⟩) (Kd.R_far (p := ⟨gb224, 0, none⟩) (Kd.R_types HO222.out BK224.out (by decide)) (fun _ hk => hk.2) (.slice Ao12 t214.length co12)) (fun _ hk => hk.2) (.int .i64 t217)) (fun _ hk => hk.2) (.int .i64 t218)) (fun _ hk => hk.2) (.int .i64 t219)) (fun _ hk => hk.2) (.slice Ao15 t220.length co15)) (fun _ h_ => h_.1))) hb); have n4_ := Aside0.mk (blk_below (g := gb213) (o := .cells #[.slice Ao7 t203.length co7, .int .i64 t206, .int .i64 t207, .int .i64 t208, .slice Ao9 t209.length co9] 30 (0, 0)) (by (with_reducible repeat (first | refine blk_drewN ?_ _ | refine blk_drew ?_ | refine blk_alloc ?_ _)); refine blk_far ?_ NB213_224.out _; (with_reducible repeat (first | refine blk_drewN ?_ _ | refine blk_drew ?_ | refine blk_alloc ?_ _)); refine blk_far ?_ NB213_224.out _; (with_reducible repeat (first | refine blk_drewN ?_ _ | refine blk_drew ?_ | refine blk_alloc ?_ _)); refine blk_far ?_ NB213_224.out _; (with_reducible repeat (first | refine blk_drewN ?_ _ | refine blk_drew ?_ | refine blk_alloc ?_ _)); refine blk_far ?_ NB213_224.out _; (with_reducible repeat (first | refine blk_drewN ?_ _ | refine blk_drew ?_ | refine blk_alloc ?_ _)); refine blk_far ?_ NB213_224.out _; (with_reducible repeat (first | refine blk_drewN ?_ _ | refine blk_drew ?_ | refine blk_alloc ?_ _)); exact BK213.out) hb); have n5_ := Aside0.mk (blk_below (g := gb224) (o := .cells #[.slice Ao12 t214.length co12, .int .i64 t217, .int .i64 t218, .int .i64 t219, .slice Ao15 t220.length co15] 30 (0, 0)) (by (with_reducible repeat (first | refine blk_drewN ?_ _ | refine blk_drew ?_ | refine blk_alloc ?_ _)); refine blk_put (cs := #[.slice Ao12 t214.length co12, .int .i64 t217, .int .i64 t218, .int .i64 t219, .slice none 0 0]) ?_ 4 _ rfl; (with_reducible repeat (first | refine blk_drewN ?_ _ | refine blk_drew ?_ | refine blk_alloc ?_ _)); refine blk_put (cs := #[.slice Ao12 t214.length co12, .int .i64 t217, .int .i64 t218, .int .i64 0, .slice none 0 0]) ?_ 3 _ rfl; (with_reducible repeat (first | refine blk_drewN ?_ _ | refine blk_drew ?_ | refine blk_alloc ?_ _)); refine blk_put (cs := #[.slice Ao12 t214.length co12, .int .i64 t217, .int .i64 0, .int .i64 0, .slice none 0 0]) ?_ 2 _ rfl; (with_reducible repeat (first | refine blk_drewN ?_ _ | refine blk_drew ?_ | refine blk_alloc ?_ _)); refine blk_put (cs := #[.slice Ao12 t214.length co12, .int .i64 0, .int .i64 0, .int .i64 0, .slice none 0 0]) ?_ 1 _ rfl; (with_reducible repeat (first | refine blk_drewN ?_ _ | refine blk_drew ?_ | refine blk_alloc ?_ _)); refine blk_put (cs := #[.slice none 0 0, .int .i64 0, .int .i64 0, .int .i64 0, .slice none 0 0]) ?_ 0 _ rfl; (with_reducible repeat (first | refine blk_drewN ?_ _ | refine blk_drew ?_ | refine blk_alloc ?_ _)); exact BK224.out) hb); have n6_ := Aside0.mk (below_step (by repeat (first | (with_reducible first | exact HB.out | apply below_alloc | apply pw_below_drewN | apply below_drew1 | refine below_set ?_ GE213.out | refine below_set ?_ GE224.out) | exact HB.out)) hb); clear HO205; clear HO211; clear HO216; clear HO222; clear BK213; clear BK224; clear HB; have HO205 := n0_; have HO211 := n1_; have HO216 := n2_; have HO222 := n3_; have BK213 := n4_; have BK224 := n5_; have HB := n6_; clear n0_ n1_ n2_ n3_ n4_ n5_ n6_; (try clear hb); (try clear hb2); (try clear hk); (try clear hi)))
      go_meet
      case rel => exact ⟨_, ((t223 != t212)), (by first | rfl | (simp; done) | (simp [*]; done)), H', ⟨by first | omega | exact Nat.le_refl _⟩, ⟨by (with_reducible repeat (first | apply Kd.R_alloc | apply Kd.R_drewN | apply Kd.R_drew)); exact Kd.R_mono HO205.out (fun _ hk => hk.2)⟩, ⟨by (with_reducible repeat (first | apply Kd.R_alloc | apply Kd.R_drewN | apply Kd.R_drew)); exact Kd.R_mono HO211.out (fun _ hk => hk.2)⟩, ⟨by (with_reducible repeat (first | apply Kd.R_alloc | apply Kd.R_drewN | apply Kd.R_drew)); exact Kd.R_mono HO216.out (fun _ hk => hk.2)⟩, ⟨by (with_reducible repeat (first | apply Kd.R_alloc | apply Kd.R_drewN | apply Kd.R_drew)); exact Kd.R_mono HO222.out (fun _ hk => hk.2)⟩, ⟨by (with_reducible repeat (first | refine blk_drewN ?_ _ | refine blk_drew ?_ | refine blk_alloc ?_ _)); exact BK213.out⟩, ⟨by (with_reducible repeat (first | refine blk_drewN ?_ _ | refine blk_drew ?_ | refine blk_alloc ?_ _)); exact BK224.out⟩, ⟨by repeat (first | (with_reducible first | exact HB.out | apply below_alloc | apply pw_below_drewN | apply below_drew1 | refine below_set ?_ GE213.out | refine below_set ?_ GE224.out) | exact HB.out)⟩⟩
    · replace c17 := Bool.eq_false_iff.mpr c17
      subst c17
      have H1 : (laws_FnExactHeapNew.j0 k a0 t212 true t203 t206 t207 t208 t209 t214 t217 t218 t219 t220) = some r := by rw [if_neg (show ¬ (false = true) by decide)] at H; exact H
      clear H
      have H := H1
      clear H1
      have H' := Aside0.mk H
      clear H
      have hnb22 := NB224_213.out
      have hnc22 := NB213_224.out
      have hcz23_0 : w11.cell? ⟨gb224, 0, none⟩ = some (.slice none 0 0) := (blk_cell BK224.out 0).trans rfl
      have hcz23_1 : w11.cell? ⟨gb224, 1, none⟩ = some (.int .i64 0) := (blk_cell BK224.out 1).trans rfl
      have hcz23_2 : w11.cell? ⟨gb224, 2, none⟩ = some (.int .i64 0) := (blk_cell BK224.out 2).trans rfl
      have hcz23_3 : w11.cell? ⟨gb224, 3, none⟩ = some (.int .i64 0) := (blk_cell BK224.out 3).trans rfl
      have hcz23_4 : w11.cell? ⟨gb224, 4, none⟩ = some (.slice none 0 0) := (blk_cell BK224.out 4).trans rfl
      have hfz23_0 := blk_frozen BK224.out 0
      have hfz23_1 := blk_frozen BK224.out 1
      have hfz23_2 := blk_frozen BK224.out 2
      have hfz23_3 := blk_frozen BK224.out 3
      have hfz23_4 := blk_frozen BK224.out 4
      have hcz24_0 : w11.cell? ⟨gb213, 0, none⟩ = some (.slice Ao7 t203.length co7) := (blk_cell BK213.out 0).trans rfl
      have hcz24_1 : w11.cell? ⟨gb213, 1, none⟩ = some (.int .i64 t206) := (blk_cell BK213.out 1).trans rfl
      have hcz24_2 : w11.cell? ⟨gb213, 2, none⟩ = some (.int .i64 t207) := (blk_cell BK213.out 2).trans rfl
      have hcz24_3 : w11.cell? ⟨gb213, 3, none⟩ = some (.int .i64 t208) := (blk_cell BK213.out 3).trans rfl
      have hcz24_4 : w11.cell? ⟨gb213, 4, none⟩ = some (.slice Ao9 t209.length co9) := (blk_cell BK213.out 4).trans rfl
      have hfz24_0 := blk_frozen BK213.out 0
      have hfz24_1 := blk_frozen BK213.out 1
      have hfz24_2 := blk_frozen BK213.out 2
      have hfz24_3 := blk_frozen BK213.out 3
      have hfz24_4 := blk_frozen BK213.out 4
      go_wp2_with (first | ((with_reducible refine gate_callee (f := 15) rfl ?_); refine goesL_ (some 23) rfl rfl Try.func15 (by kernel_rfl) rfl #[.agg #[.slice Ao12 t214.length co12, .int .i64 t217, .int .i64 t218, .int .i64 t219, .slice Ao15 t220.length co15], .agg #[.slice Ao7 t203.length co7, .int .i64 t206, .int .i64 t207, .int .i64 t208, .slice Ao9 t209.length co9]] rfl (by (try simp only [List.map_toArray, List.map_cons, List.map_nil]); first | done | rfl | (simp only [List.length_drop, List.length_take]; rfl)) ?_; (with_reducible refine (laws_eqHeap.calls k _ _ t214 t217 t218 t219 _ _ t220 _ _ t203 t206 t207 t208 _ _ t209 false _ ?side1 ?side2 ?side3 ?side4 ?side5 ?side6 ?side7 ?side8 A16.out).mono ?_); (case side1 => refine (Kd.R_reads' (e := 3) (base := w.heap.size) (ok := fun k_ => (True ∧ some k_ ≠ (.slice Ao7 t203.length co7 : Value).ownBlock)) (n := t214.length) (c := co12) ?_).2.2; exact (by (with_reducible repeat (first | apply Kd.R_alloc | apply Kd.R_drewN | apply Kd.R_drew)); exact (Kd.R_mono (Kd.R_far (p := ⟨gb224, 4, none⟩) (Kd.R_far (p := ⟨gb224, 3, none⟩) (Kd.R_far (p := ⟨gb224, 2, none⟩) (Kd.R_far (p := ⟨gb224, 1, none⟩) (Kd.R_far (p := ⟨gb224, 0, none⟩) (Kd.R_types HO216.out BK224.out (by decide)) (fun _ hk => hk.2) (.slice Ao12 t214.length co12)) (fun _ hk => hk.2) (.int .i64 t217)) (fun _ hk => hk.2) (.int .i64 t218)) (fun _ hk => hk.2) (.int .i64 t219)) (fun _ hk => hk.2) (.slice Ao15 t220.length co15)) (fun _ h_ => h_.1)))); (case side2 => exact (Kd.R_reads' HO216.out).2.1); (case side3 => refine (Kd.R_reads' (e := 61) (base := w.heap.size) (ok := fun k_ => (True ∧ some k_ ≠ (.slice Ao9 t209.length co9 : Value).ownBlock)) (n := t220.length) (c := co15) ?_).2.2; exact (by (with_reducible repeat (first | apply Kd.R_alloc | apply Kd.R_drewN | apply Kd.R_drew)); exact (Kd.R_mono (Kd.R_far (p := ⟨gb224, 4, none⟩) (Kd.R_far (p := ⟨gb224, 3, none⟩) (Kd.R_far (p := ⟨gb224, 2, none⟩) (Kd.R_far (p := ⟨gb224, 1, none⟩) (Kd.R_far (p := ⟨gb224, 0, none⟩) (Kd.R_types HO222.out BK224.out (by decide)) (fun _ hk => hk.2) (.slice Ao12 t214.length co12)) (fun _ hk => hk.2) (.int .i64 t217)) (fun _ hk => hk.2) (.int .i64 t218)) (fun _ hk => hk.2) (.int .i64 t219)) (fun _ hk => hk.2) (.slice Ao15 t220.length co15)) (fun _ h_ => h_.1)))); (case side4 => exact (Kd.R_reads' HO222.out).2.1); (case side5 => refine (Kd.R_reads' (e := 3) (base := w.heap.size) (ok := fun k_ => (True ∧ some k_ ≠ (.slice Ao12 t214.length co12 : Value).ownBlock)) (n := t203.length) (c := co7) ?_).2.2; exact (by (with_reducible repeat (first | apply Kd.R_alloc | apply Kd.R_drewN | apply Kd.R_drew)); exact (Kd.R_mono (Kd.R_far (p := ⟨gb224, 4, none⟩) (Kd.R_far (p := ⟨gb224, 3, none⟩) (Kd.R_far (p := ⟨gb224, 2, none⟩) (Kd.R_far (p := ⟨gb224, 1, none⟩) (Kd.R_far (p := ⟨gb224, 0, none⟩) (Kd.R_types HO205.out BK224.out (by decide)) (fun _ hk => hk.2) (.slice Ao12 t214.length co12)) (fun _ hk => hk.2) (.int .i64 t217)) (fun _ hk => hk.2) (.int .i64 t218)) (fun _ hk => hk.2) (.int .i64 t219)) (fun _ hk => hk.2) (.slice Ao15 t220.length co15)) (fun _ h_ => h_.1)))); (case side6 => exact (Kd.R_reads' HO205.out).2.1); (case side7 => refine (Kd.R_reads' (e := 61) (base := w.heap.size) (ok := fun k_ => (True ∧ some k_ ≠ (.slice Ao15 t220.length co15 : Value).ownBlock)) (n := t209.length) (c := co9) ?_).2.2; exact (by (with_reducible repeat (first | apply Kd.R_alloc | apply Kd.R_drewN | apply Kd.R_drew)); exact (Kd.R_mono (Kd.R_far (p := ⟨gb224, 4, none⟩) (Kd.R_far (p := ⟨gb224, 3, none⟩) (Kd.R_far (p := ⟨gb224, 2, none⟩) (Kd.R_far (p := ⟨gb224, 1, none⟩) (Kd.R_far (p := ⟨gb224, 0, none⟩) (Kd.R_types HO211.out BK224.out (by decide)) (fun _ hk => hk.2) (.slice Ao12 t214.length co12)) (fun _ hk => hk.2) (.int .i64 t217)) (fun _ hk => hk.2) (.int .i64 t218)) (fun _ hk => hk.2) (.int .i64 t219)) (fun _ hk => hk.2) (.slice Ao15 t220.length co15)) (fun _ h_ => h_.1)))); (case side8 => exact (Kd.R_reads' HO211.out).2.1); rintro e w25 ⟨rfl, hb⟩; refine ⟨_, rfl, ?_⟩; have n0_ := Aside0.mk (Kd.R_below (by (with_reducible repeat (first | apply Kd.R_alloc | apply Kd.R_drewN | apply Kd.R_drew)); exact (Kd.R_mono (Kd.R_far (p := ⟨gb224, 4, none⟩) (Kd.R_far (p := ⟨gb224, 3, none⟩) (Kd.R_far (p := ⟨gb224, 2, none⟩) (Kd.R_far (p := ⟨gb224, 1, none⟩) (Kd.R_far (p := ⟨gb224, 0, none⟩) (Kd.R_types HO205.out BK224.out (by decide)) (fun _ hk => hk.2) (.slice Ao12 t214.length co12)) (fun _ hk => hk.2) (.int .i64 t217)) (fun _ hk => hk.2) (.int .i64 t218)) (fun _ hk => hk.2) (.int .i64 t219)) (fun _ hk => hk.2) (.slice Ao15 t220.length co15)) (fun _ h_ => h_.1))) hb); have n1_ := Aside0.mk (Kd.R_below (by (with_reducible repeat (first | apply Kd.R_alloc | apply Kd.R_drewN | apply Kd.R_drew)); exact (Kd.R_mono (Kd.R_far (p := ⟨gb224, 4, none⟩) (Kd.R_far (p := ⟨gb224, 3, none⟩) (Kd.R_far (p := ⟨gb224, 2, none⟩) (Kd.R_far (p := ⟨gb224, 1, none⟩) (Kd.R_far (p := ⟨gb224, 0, none⟩) (Kd.R_types HO211.out BK224.out (by decide)) (fun _ hk => hk.2) (.slice Ao12 t214.length co12)) (fun _ hk => hk.2) (.int .i64 t217)) (fun _ hk => hk.2) (.int .i64 t218)) (fun _ hk => hk.2) (.int .i64 t219)) (fun _ hk => hk.2) (.slice Ao15 t220.length co15)) (fun _ h_ => h_.1))) hb); have n2_ := Aside0.mk (Kd.R_below (by (with_reducible repeat (first | apply Kd.R_alloc | apply Kd.R_drewN | apply Kd.R_drew)); exact (Kd.R_mono (Kd.R_far (p := ⟨gb224, 4, none⟩) (Kd.R_far (p := ⟨gb224, 3, none⟩) (Kd.R_far (p := ⟨gb224, 2, none⟩) (Kd.R_far (p := ⟨gb224, 1, none⟩) (Kd.R_far (p := ⟨gb224, 0, none⟩) (Kd.R_types HO216.out BK224.out (by decide)) (fun _ hk => hk.2) (.slice Ao12 t214.length co12)) (fun _ hk => hk.2) (.int .i64 t217)) (fun _ hk => hk.2) (.int .i64 t218)) (fun _ hk => hk.2) (.int .i64 t219)) (fun _ hk => hk.2) (.slice Ao15 t220.length co15)) (fun _ h_ => h_.1))) hb); have n3_ := Aside0.mk (Kd.R_below (by (with_reducible repeat (first | apply Kd.R_alloc | apply Kd.R_drewN | apply Kd.R_drew)); exact (Kd.R_mono (Kd.R_far (p := ⟨gb224, 4, none⟩) (Kd.R_far (p := ⟨gb224, 3, none⟩) (Kd.R_far (p := ⟨gb224, 2, none⟩) (Kd.R_far (p := ⟨gb224, 1, none⟩) (Kd.R_far (p := ⟨gb224, 0, none⟩) (Kd.R_types HO222.out BK224.out (by decide)) (fun _ hk => hk.2) (.slice Ao12 t214.length co12)) (fun _ hk => hk.2) (.int .i64 t217)) (fun _ hk => hk.2) (.int .i64 t218)) (fun _ hk => hk.2) (.int .i64 t219)) (fun _ hk => hk.2) (.slice Ao15 t220.length co15)) (fun _ h_ => h_.1))) hb); have n4_ := Aside0.mk (blk_below (g := gb213) (o := .cells #[.slice Ao7 t203.length co7, .int .i64 t206, .int .i64 t207, .int .i64 t208, .slice Ao9 t209.length co9] 30 (0, 0)) (by (with_reducible repeat (first | refine blk_drewN ?_ _ | refine blk_drew ?_ | refine blk_alloc ?_ _)); refine blk_far ?_ NB213_224.out _; (with_reducible repeat (first | refine blk_drewN ?_ _ | refine blk_drew ?_ | refine blk_alloc ?_ _)); refine blk_far ?_ NB213_224.out _; (with_reducible repeat (first | refine blk_drewN ?_ _ | refine blk_drew ?_ | refine blk_alloc ?_ _)); refine blk_far ?_ NB213_224.out _; (with_reducible repeat (first | refine blk_drewN ?_ _ | refine blk_drew ?_ | refine blk_alloc ?_ _)); refine blk_far ?_ NB213_224.out _; (with_reducible repeat (first | refine blk_drewN ?_ _ | refine blk_drew ?_ | refine blk_alloc ?_ _)); refine blk_far ?_ NB213_224.out _; (with_reducible repeat (first | refine blk_drewN ?_ _ | refine blk_drew ?_ | refine blk_alloc ?_ _)); exact BK213.out) hb); have n5_ := Aside0.mk (blk_below (g := gb224) (o := .cells #[.slice Ao12 t214.length co12, .int .i64 t217, .int .i64 t218, .int .i64 t219, .slice Ao15 t220.length co15] 30 (0, 0)) (by (with_reducible repeat (first | refine blk_drewN ?_ _ | refine blk_drew ?_ | refine blk_alloc ?_ _)); refine blk_put (cs := #[.slice Ao12 t214.length co12, .int .i64 t217, .int .i64 t218, .int .i64 t219, .slice none 0 0]) ?_ 4 _ rfl; (with_reducible repeat (first | refine blk_drewN ?_ _ | refine blk_drew ?_ | refine blk_alloc ?_ _)); refine blk_put (cs := #[.slice Ao12 t214.length co12, .int .i64 t217, .int .i64 t218, .int .i64 0, .slice none 0 0]) ?_ 3 _ rfl; (with_reducible repeat (first | refine blk_drewN ?_ _ | refine blk_drew ?_ | refine blk_alloc ?_ _)); refine blk_put (cs := #[.slice Ao12 t214.length co12, .int .i64 t217, .int .i64 0, .int .i64 0, .slice none 0 0]) ?_ 2 _ rfl; (with_reducible repeat (first | refine blk_drewN ?_ _ | refine blk_drew ?_ | refine blk_alloc ?_ _)); refine blk_put (cs := #[.slice Ao12 t214.length co12, .int .i64 0, .int .i64 0, .int .i64 0, .slice none 0 0]) ?_ 1 _ rfl; (with_reducible repeat (first | refine blk_drewN ?_ _ | refine blk_drew ?_ | refine blk_alloc ?_ _)); refine blk_put (cs := #[.slice none 0 0, .int .i64 0, .int .i64 0, .int .i64 0, .slice none 0 0]) ?_ 0 _ rfl; (with_reducible repeat (first | refine blk_drewN ?_ _ | refine blk_drew ?_ | refine blk_alloc ?_ _)); exact BK224.out) hb); have n6_ := Aside0.mk (below_step (by repeat (first | (with_reducible first | exact HB.out | apply below_alloc | apply pw_below_drewN | apply below_drew1 | refine below_set ?_ GE213.out | refine below_set ?_ GE224.out) | exact HB.out)) hb); clear HO205; clear HO211; clear HO216; clear HO222; clear BK213; clear BK224; clear HB; have HO205 := n0_; have HO211 := n1_; have HO216 := n2_; have HO222 := n3_; have BK213 := n4_; have BK224 := n5_; have HB := n6_; clear n0_ n1_ n2_ n3_ n4_ n5_ n6_; (try clear hb); (try clear hb2); (try clear hk); (try clear hi)))
      go_meet
      case rel => exact ⟨_, (true), (by first | rfl | (simp; done) | (simp [*]; done)), H', ⟨by first | omega | exact Nat.le_refl _⟩, ⟨by (with_reducible repeat (first | apply Kd.R_alloc | apply Kd.R_drewN | apply Kd.R_drew)); exact Kd.R_mono HO205.out (fun _ hk => hk.2)⟩, ⟨by (with_reducible repeat (first | apply Kd.R_alloc | apply Kd.R_drewN | apply Kd.R_drew)); exact Kd.R_mono HO211.out (fun _ hk => hk.2)⟩, ⟨by (with_reducible repeat (first | apply Kd.R_alloc | apply Kd.R_drewN | apply Kd.R_drew)); exact Kd.R_mono HO216.out (fun _ hk => hk.2)⟩, ⟨by (with_reducible repeat (first | apply Kd.R_alloc | apply Kd.R_drewN | apply Kd.R_drew)); exact Kd.R_mono HO222.out (fun _ hk => hk.2)⟩, ⟨by (with_reducible repeat (first | refine blk_drewN ?_ _ | refine blk_drew ?_ | refine blk_alloc ?_ _)); exact BK213.out⟩, ⟨by (with_reducible repeat (first | refine blk_drewN ?_ _ | refine blk_drew ?_ | refine blk_alloc ?_ _)); exact BK224.out⟩, ⟨by repeat (first | (with_reducible first | exact HB.out | apply below_alloc | apply pw_below_drewN | apply below_drew1 | refine below_set ?_ GE213.out | refine below_set ?_ GE224.out) | exact HB.out)⟩⟩
  case rest =>
    clear HC4
    try clear c1
    try clear c2
    try clear p2
    try clear c4
    try clear c13
    try clear c15
    try clear c16
    try clear c17
    try clear c18
    try clear c22
    try clear hcz14_0
    try clear hcz14_1
    try clear hcz14_2
    try clear hcz14_3
    try clear hcz14_4
    try clear hcz19_0
    try clear hcz19_1
    try clear hcz19_2
    try clear hcz19_3
    try clear hcz19_4
    try clear hcz20_0
    try clear hcz20_1
    try clear hcz20_2
    try clear hcz20_3
    try clear hcz20_4
    try clear hcz23_0
    try clear hcz23_1
    try clear hcz23_2
    try clear hcz23_3
    try clear hcz23_4
    try clear hcz24_0
    try clear hcz24_1
    try clear hcz24_2
    try clear hcz24_3
    try clear hcz24_4
    try clear hcz8_0
    try clear hcz8_1
    try clear hcz8_2
    try clear hcz8_3
    try clear hcz8_4
    try clear hfz14_0
    try clear hfz14_1
    try clear hfz14_2
    try clear hfz14_3
    try clear hfz14_4
    try clear hfz19_0
    try clear hfz19_1
    try clear hfz19_2
    try clear hfz19_3
    try clear hfz19_4
    try clear hfz20_0
    try clear hfz20_1
    try clear hfz20_2
    try clear hfz20_3
    try clear hfz20_4
    try clear hfz23_0
    try clear hfz23_1
    try clear hfz23_2
    try clear hfz23_3
    try clear hfz23_4
    try clear hfz24_0
    try clear hfz24_1
    try clear hfz24_2
    try clear hfz24_3
    try clear hfz24_4
    try clear hfz8_0
    try clear hfz8_1
    try clear hfz8_2
    try clear hfz8_3
    try clear hfz8_4
    obtain ⟨kq, x29_3, rfl, HA, HJ3, HO_214000, HO_214004, HO_225000, HO_225004, BK213, BK224, HB⟩ := hcut
    cases kq with
    | zero => exact absurd HA.out (by simp [laws_FnExactHeapNew.j0])
    | succ kj3 =>
      have H := HA.out
      clear HA
      simp only [laws_FnExactHeapNew.j0] at H
      by_cases c26 : x29_3 = true
      · subst c26
        have H1 : (some false) = some r := by rw [if_pos rfl] at H; exact H
        clear H
        have H := H1
        clear H1
        obtain rfl := Option.some.inj H
        go_wp2
        go_ret
        exact ⟨by first | rfl | (simp [errW_none, errW_some] <;> rfl) | (simp [*, errW_none, errW_some] <;> rfl), by repeat (first | (with_reducible first | exact HB.out | apply below_alloc | apply pw_below_drewN | apply below_drew1 | refine below_set ?_ GE213.out | refine below_set ?_ GE224.out) | exact HB.out)⟩
      · replace c26 := Bool.eq_false_iff.mpr c26
        subst c26
        have H1 : ((laws_markHeap.f kj3 t214 t217 t218 t219 t220 1).bind fun bt226 => ((laws_heldHeap.f kj3 bt226.2.1 t217 t218 t219 bt226.2.2 1).bind fun t229 => (if t229 < 0 then (some false) else (if t229 = bt226.1 then ((impl_HeapNew.f a0).bind fun bt230 => ((laws_eqHeap.f kj3 bt230.1 bt230.2.1 bt230.2.2.1 bt230.2.2.2.1 bt230.2.2.2.2.1 t203 t206 t207 t208 t209).bind fun t241 => (if t241 = true then (laws_FnExactHeapNew.j1 kj3 bt226.1 (bt230.2.2.2.2.2 != t212) bt226.2.1 t217 t218 t219 bt226.2.2) else (laws_FnExactHeapNew.j1 kj3 bt226.1 true bt226.2.1 t217 t218 t219 bt226.2.2)))) else (some false))))) = some r := by rw [if_neg (show ¬ (false = true) by decide)] at H; exact H
        clear H
        have H := H1
        clear H1
        replace H := Option.bind_eq_some_iff.mp H
        obtain ⟨⟨t226, t227, t228⟩, A270, H⟩ := H
        replace H : ((laws_heldHeap.f kj3 t227 t217 t218 t219 t228 1).bind fun t229 => (if t229 < 0 then (some false) else (if t229 = t226 then ((impl_HeapNew.f a0).bind fun bt230 => ((laws_eqHeap.f kj3 bt230.1 bt230.2.1 bt230.2.2.1 bt230.2.2.2.1 bt230.2.2.2.2.1 t203 t206 t207 t208 t209).bind fun t241 => (if t241 = true then (laws_FnExactHeapNew.j1 kj3 t226 (bt230.2.2.2.2.2 != t212) t227 t217 t218 t219 t228) else (laws_FnExactHeapNew.j1 kj3 t226 true t227 t217 t218 t219 t228)))) else (some false)))) = some r := H
        have A27 := Aside0.mk A270
        clear A270
        replace H := Option.bind_eq_some_iff.mp H
        obtain ⟨t229, A280, H⟩ := H
        replace H : (if t229 < 0 then (some false) else (if t229 = t226 then ((impl_HeapNew.f a0).bind fun bt230 => ((laws_eqHeap.f kj3 bt230.1 bt230.2.1 bt230.2.2.1 bt230.2.2.2.1 bt230.2.2.2.2.1 t203 t206 t207 t208 t209).bind fun t241 => (if t241 = true then (laws_FnExactHeapNew.j1 kj3 t226 (bt230.2.2.2.2.2 != t212) t227 t217 t218 t219 t228) else (laws_FnExactHeapNew.j1 kj3 t226 true t227 t217 t218 t219 t228)))) else (some false))) = some r := H
        have A28 := Aside0.mk A280
        clear A280
        by_cases c29 : t229 < 0
        · rw [if_pos c29] at H
          have c29b0 : decide (t229 < 0) = true := decide_eq_true c29
          clear c29
          obtain rfl := Option.some.inj H
          have hnb30 := NB224_213.out
          have hnc30 := NB213_224.out
          have hcz31_0 : wc.cell? ⟨gb224, 0, none⟩ = some (.slice Ao12 t214.length co12) := (blk_cell BK224.out 0).trans rfl
          have hcz31_1 : wc.cell? ⟨gb224, 1, none⟩ = some (.int .i64 t217) := (blk_cell BK224.out 1).trans rfl
          have hcz31_2 : wc.cell? ⟨gb224, 2, none⟩ = some (.int .i64 t218) := (blk_cell BK224.out 2).trans rfl
          have hcz31_3 : wc.cell? ⟨gb224, 3, none⟩ = some (.int .i64 t219) := (blk_cell BK224.out 3).trans rfl
          have hcz31_4 : wc.cell? ⟨gb224, 4, none⟩ = some (.slice Ao15 t220.length co15) := (blk_cell BK224.out 4).trans rfl
          have hfz31_0 := blk_frozen BK224.out 0
          have hfz31_1 := blk_frozen BK224.out 1
          have hfz31_2 := blk_frozen BK224.out 2
          have hfz31_3 := blk_frozen BK224.out 3
          have hfz31_4 := blk_frozen BK224.out 4
          go_wp2_with (first | ((with_reducible refine gate_callee (f := 18) rfl ?_); refine goesL_ (some 32) rfl rfl Try.func18 (by kernel_rfl) rfl #[.agg #[.slice Ao12 t214.length co12, .int .i64 t217, .int .i64 t218, .int .i64 t219, .slice Ao15 t220.length co15], .int .i64 1] rfl (by (try simp only [List.map_toArray, List.map_cons, List.map_nil]); first | done | rfl | (simp only [List.length_drop, List.length_take]; rfl)) ?_; (with_reducible refine (laws_markHeap.calls kj3 (fun k_ => some k_ = (.slice Ao12 t214.length co12 : Value).ownBlock) (.slice Ao12 t214.length co12) t214 t217 t218 t219 (fun k_ => some k_ = (.slice Ao15 t220.length co15 : Value).ownBlock) (.slice Ao15 t220.length co15) t220 1 t226 t227 t228 w _ ?side1 ?side2 ?side3 A27.out).mono ?_); (case side1 => repeat (first | (with_reducible first | exact HB.out | apply below_alloc | apply pw_below_drewN | apply below_drew1 | refine below_set ?_ GE213.out | refine below_set ?_ GE224.out) | exact HB.out)); (case side2 => exact Kd.R_tight rfl HO_225000.out); (case side3 => exact Kd.R_tight rfl HO_225004.out); rintro e w32 ⟨rfl, hy0, hy1, hb, hkp⟩; refine ⟨_, rfl, ?_⟩; have n0_ := Aside0.mk (Kd.R_mono (ok' := fun k_ => some k_ ≠ (.slice Ao12 t214.length co12 : Value).ownBlock) (Kd.R_keptB ((Kd.R_apart' HO_214000.out (Kd.R_typed HO_225004.out) (by decide))) hkp (fun k_ hk_ hs_ => Or.elim hs_ (fun e_ => (hk_.1) e_) (fun e_ => (hk_.2) e_))) (fun k_ hk_ => hk_.1.1)); have n1_ := Aside0.mk (Kd.R_mono (ok' := fun k_ => some k_ ≠ (.slice Ao15 t220.length co15 : Value).ownBlock) (Kd.R_keptB ((Kd.R_apart' HO_214004.out (Kd.R_typed HO_225000.out) (by decide))) hkp (fun k_ hk_ hs_ => Or.elim hs_ (fun e_ => (hk_.2) e_) (fun e_ => (hk_.1) e_))) (fun k_ hk_ => hk_.1.1)); have n2_ := Aside0.mk (Kd.R_reok rfl hy0 (fun k_ e_ => HO_225000.out.1 k_ e_)); have n3_ := Aside0.mk (Kd.R_reok rfl hy1 (fun k_ e_ => HO_225004.out.1 k_ e_)); have n4_ := Aside0.mk (blk_kept (by (with_reducible repeat (first | refine blk_drewN ?_ _ | refine blk_drew ?_ | refine blk_alloc ?_ _)); exact BK213.out) hkp (fun hs_ => Or.elim hs_ (fun e_ => (fun e_ => (Kd.R_ne HO_225000.out BK213.out (by decide)) e_) e_) (fun e_ => (fun e_ => (Kd.R_ne HO_225004.out BK213.out (by decide)) e_) e_))); have n5_ := Aside0.mk (blk_kept (by (with_reducible repeat (first | refine blk_drewN ?_ _ | refine blk_drew ?_ | refine blk_alloc ?_ _)); exact BK224.out) hkp (fun hs_ => Or.elim hs_ (fun e_ => (fun e_ => (Kd.R_ne HO_225000.out BK224.out (by decide)) e_) e_) (fun e_ => (fun e_ => (Kd.R_ne HO_225004.out BK224.out (by decide)) e_) e_))); have n6_ := Aside0.mk (hb); clear HO_214000; clear HO_214004; clear HO_225000; clear HO_225004; clear BK213; clear BK224; clear HB; have HO_214000 := n0_; have HO_214004 := n1_; have HO_225000 := n2_; have HO_225004 := n3_; have BK213 := n4_; have BK224 := n5_; have HB := n6_; clear n0_ n1_ n2_ n3_ n4_ n5_ n6_; (try clear hb); (try clear hkp); (try clear hy0); (try clear hy1); have hcz33_0 : w32.cell? ⟨gb224, 0, none⟩ = some (.slice Ao12 t214.length co12) := (blk_cell BK224.out 0).trans rfl; have hcz33_1 : w32.cell? ⟨gb224, 1, none⟩ = some (.int .i64 t217) := (blk_cell BK224.out 1).trans rfl; have hcz33_2 : w32.cell? ⟨gb224, 2, none⟩ = some (.int .i64 t218) := (blk_cell BK224.out 2).trans rfl; have hcz33_3 : w32.cell? ⟨gb224, 3, none⟩ = some (.int .i64 t219) := (blk_cell BK224.out 3).trans rfl; have hcz33_4 : w32.cell? ⟨gb224, 4, none⟩ = some (.slice Ao15 t220.length co15) := (blk_cell BK224.out 4).trans rfl; have hfz33_0 := blk_frozen BK224.out 0; have hfz33_1 := blk_frozen BK224.out 1; have hfz33_2 := blk_frozen BK224.out 2; have hfz33_3 := blk_frozen BK224.out 3; have hfz33_4 := blk_frozen BK224.out 4) | ((with_reducible refine gate_callee (f := 19) rfl ?_); refine goesL_ (some 35) rfl rfl Try.func19 (by kernel_rfl) rfl #[.agg #[.slice Ao12 t227.length co12, .int .i64 t217, .int .i64 t218, .int .i64 t219, .slice Ao15 t228.length co15], .int .i64 1] rfl (by (try simp only [List.map_toArray, List.map_cons, List.map_nil]); first | done | (rw [show t227.length = t214.length from (Kd.R_reads' HO_225000.out).1.symm, show t228.length = t220.length from (Kd.R_reads' HO_225004.out).1.symm] <;> rfl) | rfl | (simp only [List.length_drop, List.length_take]; rfl)) ?_; (with_reducible refine (laws_heldHeap.calls kj3 _ _ t227 t217 t218 t219 _ _ t228 1 t229 _ ?side1 ?side2 ?side3 ?side4 A28.out).mono ?_); (case side1 => repeat (first | exact (Kd.R_reads' HO_225000.out).2.2 | (with_reducible refine Kd.C_alloc ?_ _) | (with_reducible refine Kd.C_drewN ?_ _) | (with_reducible refine Kd.C_drew ?_))); (case side2 => rw [show t227.length = t214.length from (Kd.R_reads' HO_225000.out).1.symm]; exact (Kd.R_reads' HO_225000.out).2.1); (case side3 => repeat (first | exact (Kd.R_reads' HO_225004.out).2.2 | (with_reducible refine Kd.C_alloc ?_ _) | (with_reducible refine Kd.C_drewN ?_ _) | (with_reducible refine Kd.C_drew ?_))); (case side4 => rw [show t228.length = t220.length from (Kd.R_reads' HO_225004.out).1.symm]; exact (Kd.R_reads' HO_225004.out).2.1); rintro e w34 ⟨rfl, hb⟩; refine ⟨_, rfl, ?_⟩; have n0_ := Aside0.mk (Kd.R_below (by (with_reducible repeat (first | apply Kd.R_alloc | apply Kd.R_drewN | apply Kd.R_drew)); exact HO_214000.out) hb); have n1_ := Aside0.mk (Kd.R_below (by (with_reducible repeat (first | apply Kd.R_alloc | apply Kd.R_drewN | apply Kd.R_drew)); exact HO_214004.out) hb); have n2_ := Aside0.mk (Kd.R_below (by (with_reducible repeat (first | apply Kd.R_alloc | apply Kd.R_drewN | apply Kd.R_drew)); exact HO_225000.out) hb); have n3_ := Aside0.mk (Kd.R_below (by (with_reducible repeat (first | apply Kd.R_alloc | apply Kd.R_drewN | apply Kd.R_drew)); exact HO_225004.out) hb); have n4_ := Aside0.mk (blk_below (g := gb213) (o := .cells #[.slice Ao7 t203.length co7, .int .i64 t206, .int .i64 t207, .int .i64 t208, .slice Ao9 t209.length co9] 30 (0, 0)) (by (with_reducible repeat (first | refine blk_drewN ?_ _ | refine blk_drew ?_ | refine blk_alloc ?_ _)); exact BK213.out) hb); have n5_ := Aside0.mk (blk_below (g := gb224) (o := .cells #[.slice Ao12 t214.length co12, .int .i64 t217, .int .i64 t218, .int .i64 t219, .slice Ao15 t220.length co15] 30 (0, 0)) (by (with_reducible repeat (first | refine blk_drewN ?_ _ | refine blk_drew ?_ | refine blk_alloc ?_ _)); exact BK224.out) hb); have n6_ := Aside0.mk (below_step (by repeat (first | (with_reducible first | exact HB.out | apply below_alloc | apply pw_below_drewN | apply below_drew1 | refine below_set ?_ GE213.out | refine below_set ?_ GE224.out) | exact HB.out)) hb); clear HO_214000; clear HO_214004; clear HO_225000; clear HO_225004; clear BK213; clear BK224; clear HB; have HO_214000 := n0_; have HO_214004 := n1_; have HO_225000 := n2_; have HO_225004 := n3_; have BK213 := n4_; have BK224 := n5_; have HB := n6_; clear n0_ n1_ n2_ n3_ n4_ n5_ n6_; (try clear hb); (try clear hb2); (try clear hk); (try clear hi)))
          go_ret
          exact ⟨by first | rfl | (simp [errW_none, errW_some] <;> rfl) | (simp [*, errW_none, errW_some] <;> rfl), by repeat (first | (with_reducible first | exact HB.out | apply below_alloc | apply pw_below_drewN | apply below_drew1 | refine below_set ?_ GE213.out | refine below_set ?_ GE224.out) | exact HB.out)⟩
        · rw [if_neg c29] at H
          have c29b0 : decide (t229 < 0) = false := decide_eq_false c29
          clear c29
          by_cases c35 : t229 = t226
          · rw [if_pos c35] at H
            have c35b0 : (t229 == t226) = true := beq_iff_eq.mpr c35
            have c35b1 : (t229 != t226) = false := bne_eq_false_iff_eq.mpr c35
            clear c35
            replace H := Option.bind_eq_some_iff.mp H
            obtain ⟨⟨t230, t233, t234, t235, t236, t239⟩, A360, H⟩ := H
            replace H : ((laws_eqHeap.f kj3 t230 t233 t234 t235 t236 t203 t206 t207 t208 t209).bind fun t241 => (if t241 = true then (laws_FnExactHeapNew.j1 kj3 t226 (t239 != t212) t227 t217 t218 t219 t228) else (laws_FnExactHeapNew.j1 kj3 t226 true t227 t217 t218 t219 t228))) = some r := H
            have A36 := Aside0.mk A360
            clear A360
            have HC37 := Aside0.mk H
            clear H
            have hnb38 := NB224_213.out
            have hnc38 := NB213_224.out
            have hcz39_0 : wc.cell? ⟨gb224, 0, none⟩ = some (.slice Ao12 t214.length co12) := (blk_cell BK224.out 0).trans rfl
            have hcz39_1 : wc.cell? ⟨gb224, 1, none⟩ = some (.int .i64 t217) := (blk_cell BK224.out 1).trans rfl
            have hcz39_2 : wc.cell? ⟨gb224, 2, none⟩ = some (.int .i64 t218) := (blk_cell BK224.out 2).trans rfl
            have hcz39_3 : wc.cell? ⟨gb224, 3, none⟩ = some (.int .i64 t219) := (blk_cell BK224.out 3).trans rfl
            have hcz39_4 : wc.cell? ⟨gb224, 4, none⟩ = some (.slice Ao15 t220.length co15) := (blk_cell BK224.out 4).trans rfl
            have hfz39_0 := blk_frozen BK224.out 0
            have hfz39_1 := blk_frozen BK224.out 1
            have hfz39_2 := blk_frozen BK224.out 2
            have hfz39_3 := blk_frozen BK224.out 3
            have hfz39_4 := blk_frozen BK224.out 4
            go_upto_region 14 with (first | ((with_reducible refine gate_callee (f := 18) rfl ?_); refine goesL_ (some 32) rfl rfl Try.func18 (by kernel_rfl) rfl #[.agg #[.slice Ao12 t214.length co12, .int .i64 t217, .int .i64 t218, .int .i64 t219, .slice Ao15 t220.length co15], .int .i64 1] rfl (by (try simp only [List.map_toArray, List.map_cons, List.map_nil]); first | done | rfl | (simp only [List.length_drop, List.length_take]; rfl)) ?_; (with_reducible refine (laws_markHeap.calls kj3 (fun k_ => some k_ = (.slice Ao12 t214.length co12 : Value).ownBlock) (.slice Ao12 t214.length co12) t214 t217 t218 t219 (fun k_ => some k_ = (.slice Ao15 t220.length co15 : Value).ownBlock) (.slice Ao15 t220.length co15) t220 1 t226 t227 t228 w _ ?side1 ?side2 ?side3 A27.out).mono ?_); (case side1 => repeat (first | (with_reducible first | exact HB.out | apply below_alloc | apply pw_below_drewN | apply below_drew1 | refine below_set ?_ GE213.out | refine below_set ?_ GE224.out) | exact HB.out)); (case side2 => exact Kd.R_tight rfl HO_225000.out); (case side3 => exact Kd.R_tight rfl HO_225004.out); rintro e w40 ⟨rfl, hy0, hy1, hb, hkp⟩; refine ⟨_, rfl, ?_⟩; have n0_ := Aside0.mk (Kd.R_mono (ok' := fun k_ => some k_ ≠ (.slice Ao12 t214.length co12 : Value).ownBlock) (Kd.R_keptB ((Kd.R_apart' HO_214000.out (Kd.R_typed HO_225004.out) (by decide))) hkp (fun k_ hk_ hs_ => Or.elim hs_ (fun e_ => (hk_.1) e_) (fun e_ => (hk_.2) e_))) (fun k_ hk_ => hk_.1.1)); have n1_ := Aside0.mk (Kd.R_mono (ok' := fun k_ => some k_ ≠ (.slice Ao15 t220.length co15 : Value).ownBlock) (Kd.R_keptB ((Kd.R_apart' HO_214004.out (Kd.R_typed HO_225000.out) (by decide))) hkp (fun k_ hk_ hs_ => Or.elim hs_ (fun e_ => (hk_.2) e_) (fun e_ => (hk_.1) e_))) (fun k_ hk_ => hk_.1.1)); have n2_ := Aside0.mk (Kd.R_reok rfl hy0 (fun k_ e_ => HO_225000.out.1 k_ e_)); have n3_ := Aside0.mk (Kd.R_reok rfl hy1 (fun k_ e_ => HO_225004.out.1 k_ e_)); have n4_ := Aside0.mk (blk_kept (by (with_reducible repeat (first | refine blk_drewN ?_ _ | refine blk_drew ?_ | refine blk_alloc ?_ _)); exact BK213.out) hkp (fun hs_ => Or.elim hs_ (fun e_ => (fun e_ => (Kd.R_ne HO_225000.out BK213.out (by decide)) e_) e_) (fun e_ => (fun e_ => (Kd.R_ne HO_225004.out BK213.out (by decide)) e_) e_))); have n5_ := Aside0.mk (blk_kept (by (with_reducible repeat (first | refine blk_drewN ?_ _ | refine blk_drew ?_ | refine blk_alloc ?_ _)); exact BK224.out) hkp (fun hs_ => Or.elim hs_ (fun e_ => (fun e_ => (Kd.R_ne HO_225000.out BK224.out (by decide)) e_) e_) (fun e_ => (fun e_ => (Kd.R_ne HO_225004.out BK224.out (by decide)) e_) e_))); have n6_ := Aside0.mk (hb); clear HO_214000; clear HO_214004; clear HO_225000; clear HO_225004; clear BK213; clear BK224; clear HB; have HO_214000 := n0_; have HO_214004 := n1_; have HO_225000 := n2_; have HO_225004 := n3_; have BK213 := n4_; have BK224 := n5_; have HB := n6_; clear n0_ n1_ n2_ n3_ n4_ n5_ n6_; (try clear hb); (try clear hkp); (try clear hy0); (try clear hy1); have hcz41_0 : w40.cell? ⟨gb224, 0, none⟩ = some (.slice Ao12 t214.length co12) := (blk_cell BK224.out 0).trans rfl; have hcz41_1 : w40.cell? ⟨gb224, 1, none⟩ = some (.int .i64 t217) := (blk_cell BK224.out 1).trans rfl; have hcz41_2 : w40.cell? ⟨gb224, 2, none⟩ = some (.int .i64 t218) := (blk_cell BK224.out 2).trans rfl; have hcz41_3 : w40.cell? ⟨gb224, 3, none⟩ = some (.int .i64 t219) := (blk_cell BK224.out 3).trans rfl; have hcz41_4 : w40.cell? ⟨gb224, 4, none⟩ = some (.slice Ao15 t220.length co15) := (blk_cell BK224.out 4).trans rfl; have hfz41_0 := blk_frozen BK224.out 0; have hfz41_1 := blk_frozen BK224.out 1; have hfz41_2 := blk_frozen BK224.out 2; have hfz41_3 := blk_frozen BK224.out 3; have hfz41_4 := blk_frozen BK224.out 4) | ((with_reducible refine gate_callee (f := 19) rfl ?_); refine goesL_ (some 35) rfl rfl Try.func19 (by kernel_rfl) rfl #[.agg #[.slice Ao12 t227.length co12, .int .i64 t217, .int .i64 t218, .int .i64 t219, .slice Ao15 t228.length co15], .int .i64 1] rfl (by (try simp only [List.map_toArray, List.map_cons, List.map_nil]); first | done | (rw [show t227.length = t214.length from (Kd.R_reads' HO_225000.out).1.symm, show t228.length = t220.length from (Kd.R_reads' HO_225004.out).1.symm] <;> rfl) | rfl | (simp only [List.length_drop, List.length_take]; rfl)) ?_; (with_reducible refine (laws_heldHeap.calls kj3 _ _ t227 t217 t218 t219 _ _ t228 1 t229 _ ?side1 ?side2 ?side3 ?side4 A28.out).mono ?_); (case side1 => repeat (first | exact (Kd.R_reads' HO_225000.out).2.2 | (with_reducible refine Kd.C_alloc ?_ _) | (with_reducible refine Kd.C_drewN ?_ _) | (with_reducible refine Kd.C_drew ?_))); (case side2 => rw [show t227.length = t214.length from (Kd.R_reads' HO_225000.out).1.symm]; exact (Kd.R_reads' HO_225000.out).2.1); (case side3 => repeat (first | exact (Kd.R_reads' HO_225004.out).2.2 | (with_reducible refine Kd.C_alloc ?_ _) | (with_reducible refine Kd.C_drewN ?_ _) | (with_reducible refine Kd.C_drew ?_))); (case side4 => rw [show t228.length = t220.length from (Kd.R_reads' HO_225004.out).1.symm]; exact (Kd.R_reads' HO_225004.out).2.1); rintro e w42 ⟨rfl, hb⟩; refine ⟨_, rfl, ?_⟩; have n0_ := Aside0.mk (Kd.R_below (by (with_reducible repeat (first | apply Kd.R_alloc | apply Kd.R_drewN | apply Kd.R_drew)); exact HO_214000.out) hb); have n1_ := Aside0.mk (Kd.R_below (by (with_reducible repeat (first | apply Kd.R_alloc | apply Kd.R_drewN | apply Kd.R_drew)); exact HO_214004.out) hb); have n2_ := Aside0.mk (Kd.R_below (by (with_reducible repeat (first | apply Kd.R_alloc | apply Kd.R_drewN | apply Kd.R_drew)); exact HO_225000.out) hb); have n3_ := Aside0.mk (Kd.R_below (by (with_reducible repeat (first | apply Kd.R_alloc | apply Kd.R_drewN | apply Kd.R_drew)); exact HO_225004.out) hb); have n4_ := Aside0.mk (blk_below (g := gb213) (o := .cells #[.slice Ao7 t203.length co7, .int .i64 t206, .int .i64 t207, .int .i64 t208, .slice Ao9 t209.length co9] 30 (0, 0)) (by (with_reducible repeat (first | refine blk_drewN ?_ _ | refine blk_drew ?_ | refine blk_alloc ?_ _)); exact BK213.out) hb); have n5_ := Aside0.mk (blk_below (g := gb224) (o := .cells #[.slice Ao12 t214.length co12, .int .i64 t217, .int .i64 t218, .int .i64 t219, .slice Ao15 t220.length co15] 30 (0, 0)) (by (with_reducible repeat (first | refine blk_drewN ?_ _ | refine blk_drew ?_ | refine blk_alloc ?_ _)); exact BK224.out) hb); have n6_ := Aside0.mk (below_step (by repeat (first | (with_reducible first | exact HB.out | apply below_alloc | apply pw_below_drewN | apply below_drew1 | refine below_set ?_ GE213.out | refine below_set ?_ GE224.out) | exact HB.out)) hb); clear HO_214000; clear HO_214004; clear HO_225000; clear HO_225004; clear BK213; clear BK224; clear HB; have HO_214000 := n0_; have HO_214004 := n1_; have HO_225000 := n2_; have HO_225004 := n3_; have BK213 := n4_; have BK224 := n5_; have HB := n6_; clear n0_ n1_ n2_ n3_ n4_ n5_ n6_; (try clear hb); (try clear hb2); (try clear hk); (try clear hi)) | ((with_reducible refine gate_callee (f := 17) rfl ?_); refine goesL_ (some 43) rfl rfl Try.func17 (by kernel_rfl) rfl #[.int .i64 a0] rfl (by (try simp only [List.map_toArray, List.map_cons, List.map_nil]); first | done | rfl | (simp only [List.length_drop, List.length_take]; rfl)) ?_; (with_reducible refine (impl_HeapNew.calls a0 t230 t233 t234 t235 t236 t239 _ A36.out).mono ?_); rintro e w43 ⟨v231, v237, rfl, ho0, ho1, hb⟩; refine ⟨_, rfl, ?_⟩; have n0_ := Aside0.mk (Kd.R_elder' (by (with_reducible repeat (first | apply Kd.R_alloc | apply Kd.R_drewN | apply Kd.R_drew)); exact HO_214000.out) (Kd.R_base ho0) hb); have n1_ := Aside0.mk (Kd.R_elder' (by (with_reducible repeat (first | apply Kd.R_alloc | apply Kd.R_drewN | apply Kd.R_drew)); exact HO_214004.out) (Kd.R_base ho1) hb); have n2_ := Aside0.mk (Kd.R_elder' (by (with_reducible repeat (first | apply Kd.R_alloc | apply Kd.R_drewN | apply Kd.R_drew)); exact HO_225000.out) (Kd.R_base ho0) hb); have n3_ := Aside0.mk (Kd.R_elder' (by (with_reducible repeat (first | apply Kd.R_alloc | apply Kd.R_drewN | apply Kd.R_drew)); exact HO_225004.out) (Kd.R_base ho1) hb); have n4_ := Aside0.mk (Kd.R_lower (Kd.R_new' (Kd.R_new' ho0 (Kd.R_lt (by (with_reducible repeat (first | apply Kd.R_alloc | apply Kd.R_drewN | apply Kd.R_drew)); exact HO_214000.out))) (Kd.R_lt (by (with_reducible repeat (first | apply Kd.R_alloc | apply Kd.R_drewN | apply Kd.R_drew)); exact HO_225000.out))) (below_size (by repeat (first | (with_reducible first | exact HB.out | apply below_alloc | apply pw_below_drewN | apply below_drew1 | refine below_set ?_ GE213.out | refine below_set ?_ GE224.out) | exact HB.out)))); have n5_ := Aside0.mk (Kd.R_lower (Kd.R_new' (Kd.R_new' ho1 (Kd.R_lt (by (with_reducible repeat (first | apply Kd.R_alloc | apply Kd.R_drewN | apply Kd.R_drew)); exact HO_214004.out))) (Kd.R_lt (by (with_reducible repeat (first | apply Kd.R_alloc | apply Kd.R_drewN | apply Kd.R_drew)); exact HO_225004.out))) (below_size (by repeat (first | (with_reducible first | exact HB.out | apply below_alloc | apply pw_below_drewN | apply below_drew1 | refine below_set ?_ GE213.out | refine below_set ?_ GE224.out) | exact HB.out)))); have n6_ := Aside0.mk (blk_below (g := gb213) (o := .cells #[.slice Ao7 t203.length co7, .int .i64 t206, .int .i64 t207, .int .i64 t208, .slice Ao9 t209.length co9] 30 (0, 0)) (by (with_reducible repeat (first | refine blk_drewN ?_ _ | refine blk_drew ?_ | refine blk_alloc ?_ _)); exact BK213.out) hb); have n7_ := Aside0.mk (blk_below (g := gb224) (o := .cells #[.slice Ao12 t214.length co12, .int .i64 t217, .int .i64 t218, .int .i64 t219, .slice Ao15 t220.length co15] 30 (0, 0)) (by (with_reducible repeat (first | refine blk_drewN ?_ _ | refine blk_drew ?_ | refine blk_alloc ?_ _)); exact BK224.out) hb); have n8_ := Aside0.mk (below_step (by repeat (first | (with_reducible first | exact HB.out | apply below_alloc | apply pw_below_drewN | apply below_drew1 | refine below_set ?_ GE213.out | refine below_set ?_ GE224.out) | exact HB.out)) hb); clear HO_214000; clear HO_214004; clear HO_225000; clear HO_225004; clear BK213; clear BK224; clear HB; have HO_214000 := n0_; have HO_214004 := n1_; have HO_225000 := n2_; have HO_225004 := n3_; have HO232 := n4_; have HO238 := n5_; have BK213 := n6_; have BK224 := n7_; have HB := n8_; clear n0_ n1_ n2_ n3_ n4_ n5_ n6_ n7_ n8_; (try clear hb); (try clear hb2); (try clear hk); (try clear hi); (try clear ho0); (try clear ho1)) | ((with_reducible refine gate_dst (N := 9) rfl ?_); refine box_event ?hg (N := 9) ?hd (cs := #[.slice none 0 0, .int .i64 0, .int .i64 0, .int .i64 0, .slice none 0 0]) (t := 30) ?hr ?_; (case hd => rfl); (case hg => rfl); (case hr => first | (go_simp; done) | (go_simp; rfl)); intro gb240 hg w44 hbox hb; have n0_ := Aside0.mk (Kd.R_below (by (with_reducible repeat (first | apply Kd.R_alloc | apply Kd.R_drewN | apply Kd.R_drew)); exact HO_214000.out) hb); have n1_ := Aside0.mk (Kd.R_below (by (with_reducible repeat (first | apply Kd.R_alloc | apply Kd.R_drewN | apply Kd.R_drew)); exact HO_214004.out) hb); have n2_ := Aside0.mk (Kd.R_below (by (with_reducible repeat (first | apply Kd.R_alloc | apply Kd.R_drewN | apply Kd.R_drew)); exact HO_225000.out) hb); have n3_ := Aside0.mk (Kd.R_below (by (with_reducible repeat (first | apply Kd.R_alloc | apply Kd.R_drewN | apply Kd.R_drew)); exact HO_225004.out) hb); have n4_ := Aside0.mk (Kd.R_below (by (with_reducible repeat (first | apply Kd.R_alloc | apply Kd.R_drewN | apply Kd.R_drew)); exact HO232.out) hb); have n5_ := Aside0.mk (Kd.R_below (by (with_reducible repeat (first | apply Kd.R_alloc | apply Kd.R_drewN | apply Kd.R_drew)); exact HO238.out) hb); have n6_ := Aside0.mk (blk_below (g := gb213) (o := .cells #[.slice Ao7 t203.length co7, .int .i64 t206, .int .i64 t207, .int .i64 t208, .slice Ao9 t209.length co9] 30 (0, 0)) (by (with_reducible repeat (first | refine blk_drewN ?_ _ | refine blk_drew ?_ | refine blk_alloc ?_ _)); exact BK213.out) hb); have n7_ := Aside0.mk (blk_below (g := gb224) (o := .cells #[.slice Ao12 t214.length co12, .int .i64 t217, .int .i64 t218, .int .i64 t219, .slice Ao15 t220.length co15] 30 (0, 0)) (by (with_reducible repeat (first | refine blk_drewN ?_ _ | refine blk_drew ?_ | refine blk_alloc ?_ _)); exact BK224.out) hb); have n8_ := Aside0.mk (below_step (by repeat (first | (with_reducible first | exact HB.out | apply below_alloc | apply pw_below_drewN | apply below_drew1 | refine below_set ?_ GE213.out | refine below_set ?_ GE224.out) | exact HB.out)) hb); have n9_ := Aside0.mk (hbox); have n10_ := Aside0.mk ((by rw [hg]; exact (below_size (by repeat (first | (with_reducible first | exact HB.out | apply below_alloc | apply pw_below_drewN | apply below_drew1 | refine below_set ?_ GE213.out | refine below_set ?_ GE224.out) | exact HB.out))) : w.heap.size ≤ gb240)); have n11_ := Aside0.mk ((by rw [hg]; exact (below_size (by repeat (first | (with_reducible first | exact HB.out | apply below_alloc | apply pw_below_drewN | apply below_drew1 | refine below_set ?_ GE213.out | refine below_set ?_ GE224.out) | exact HB.out))) : w.heap.size ≤ gb240)); have n12_ := Aside0.mk ((by rw [hg]; exact Nat.ne_of_lt (blk_lt (g := gb213) (o := .cells #[.slice Ao7 t203.length co7, .int .i64 t206, .int .i64 t207, .int .i64 t208, .slice Ao9 t209.length co9] 30 (0, 0)) (by (with_reducible repeat (first | refine blk_drewN ?_ _ | refine blk_drew ?_ | refine blk_alloc ?_ _)); exact BK213.out)) : gb213 ≠ gb240)); have n13_ := Aside0.mk ((by rw [hg]; exact Nat.ne_of_gt (blk_lt (g := gb213) (o := .cells #[.slice Ao7 t203.length co7, .int .i64 t206, .int .i64 t207, .int .i64 t208, .slice Ao9 t209.length co9] 30 (0, 0)) (by (with_reducible repeat (first | refine blk_drewN ?_ _ | refine blk_drew ?_ | refine blk_alloc ?_ _)); exact BK213.out)) : gb240 ≠ gb213)); have n14_ := Aside0.mk ((by rw [hg]; exact Nat.ne_of_lt (blk_lt (g := gb224) (o := .cells #[.slice Ao12 t214.length co12, .int .i64 t217, .int .i64 t218, .int .i64 t219, .slice Ao15 t220.length co15] 30 (0, 0)) (by (with_reducible repeat (first | refine blk_drewN ?_ _ | refine blk_drew ?_ | refine blk_alloc ?_ _)); exact BK224.out)) : gb224 ≠ gb240)); have n15_ := Aside0.mk ((by rw [hg]; exact Nat.ne_of_gt (blk_lt (g := gb224) (o := .cells #[.slice Ao12 t214.length co12, .int .i64 t217, .int .i64 t218, .int .i64 t219, .slice Ao15 t220.length co15] 30 (0, 0)) (by (with_reducible repeat (first | refine blk_drewN ?_ _ | refine blk_drew ?_ | refine blk_alloc ?_ _)); exact BK224.out)) : gb240 ≠ gb224)); clear HO_214000; clear HO_214004; clear HO_225000; clear HO_225004; clear HO232; clear HO238; clear BK213; clear BK224; clear HB; have HO_214000 := n0_; have HO_214004 := n1_; have HO_225000 := n2_; have HO_225004 := n3_; have HO232 := n4_; have HO238 := n5_; have BK213 := n6_; have BK224 := n7_; have HB := n8_; have BK240 := n9_; have GW240 := n10_; have GE240 := n11_; have NB213_240 := n12_; have NB240_213 := n13_; have NB224_240 := n14_; have NB240_224 := n15_; clear n0_ n1_ n2_ n3_ n4_ n5_ n6_ n7_ n8_ n9_ n10_ n11_ n12_ n13_ n14_ n15_; clear hb hbox hg; obtain ⟨Ao45, co45, eo45⟩ := Kd.R_slice HO232.out; subst eo45; have hnb46 := NB240_213.out; have hnc46 := NB213_240.out; have hnb47 := NB240_224.out; have hnc47 := NB224_240.out; have hcz48_0 : w44.cell? ⟨gb240, 0, none⟩ = some (.slice none 0 0) := (blk_cell BK240.out 0).trans rfl; have hcz48_1 : w44.cell? ⟨gb240, 1, none⟩ = some (.int .i64 0) := (blk_cell BK240.out 1).trans rfl; have hcz48_2 : w44.cell? ⟨gb240, 2, none⟩ = some (.int .i64 0) := (blk_cell BK240.out 2).trans rfl; have hcz48_3 : w44.cell? ⟨gb240, 3, none⟩ = some (.int .i64 0) := (blk_cell BK240.out 3).trans rfl; have hcz48_4 : w44.cell? ⟨gb240, 4, none⟩ = some (.slice none 0 0) := (blk_cell BK240.out 4).trans rfl; have hfz48_0 := blk_frozen BK240.out 0; have hfz48_1 := blk_frozen BK240.out 1; have hfz48_2 := blk_frozen BK240.out 2; have hfz48_3 := blk_frozen BK240.out 3; have hfz48_4 := blk_frozen BK240.out 4; obtain ⟨Ao49, co49, eo49⟩ := Kd.R_slice HO238.out; subst eo49))
            (try simp only [Act.put, List.setIfInBounds_toArray, List.set_cons_zero, List.set_cons_succ])
            go_cut [54] (fun v54 wc => ∃ (kq : Nat) (x54_36 : Bool), v54 = .bool x54_36 ∧ Aside0 (laws_FnExactHeapNew.j1 kq t226 x54_36 t227 t217 t218 t219 t228 = some r) ∧ Aside0 (kq ≤ kj3) ∧ Aside0 (Kd.R (Kd.int .i64) 3 wc w.heap.size (fun k_ => some k_ ≠ ((.slice Ao12 t214.length co12) : Value).ownBlock ∧ some k_ ≠ ((.slice Ao45 t230.length co45) : Value).ownBlock) (.slice Ao7 t203.length co7) t203) ∧ Aside0 (Kd.R k61 61 wc w.heap.size (fun k_ => some k_ ≠ ((.slice Ao15 t220.length co15) : Value).ownBlock ∧ some k_ ≠ ((.slice Ao49 t236.length co49) : Value).ownBlock) (.slice Ao9 t209.length co9) t209) ∧ Aside0 (Kd.R (Kd.int .i64) 3 wc w.heap.size (fun k_ => some k_ ≠ ((.slice Ao7 t203.length co7) : Value).ownBlock ∧ some k_ ≠ ((.slice Ao45 t230.length co45) : Value).ownBlock) (.slice Ao12 t214.length co12) t227) ∧ Aside0 (Kd.R k61 61 wc w.heap.size (fun k_ => some k_ ≠ ((.slice Ao9 t209.length co9) : Value).ownBlock ∧ some k_ ≠ ((.slice Ao49 t236.length co49) : Value).ownBlock) (.slice Ao15 t220.length co15) t228) ∧ Aside0 (Kd.R (Kd.int .i64) 3 wc w.heap.size (fun k_ => some k_ ≠ ((.slice Ao7 t203.length co7) : Value).ownBlock ∧ some k_ ≠ ((.slice Ao12 t214.length co12) : Value).ownBlock) (.slice Ao45 t230.length co45) t230) ∧ Aside0 (Kd.R k61 61 wc w.heap.size (fun k_ => some k_ ≠ ((.slice Ao9 t209.length co9) : Value).ownBlock ∧ some k_ ≠ ((.slice Ao15 t220.length co15) : Value).ownBlock) (.slice Ao49 t236.length co49) t236) ∧ Aside0 (wc.heap[gb213]? = some (.cells #[(.slice Ao7 t203.length co7), .int .i64 t206, .int .i64 t207, .int .i64 t208, (.slice Ao9 t209.length co9)] 30 (0, 0))) ∧ Aside0 (wc.heap[gb224]? = some (.cells #[(.slice Ao12 t214.length co12), .int .i64 t217, .int .i64 t218, .int .i64 t219, (.slice Ao15 t220.length co15)] 30 (0, 0))) ∧ Aside0 (wc.heap[gb240]? = some (.cells #[(.slice Ao45 t230.length co45), .int .i64 t233, .int .i64 t234, .int .i64 t235, (.slice Ao49 t236.length co49)] 30 (0, 0))) ∧ Aside0 (Below w.heap.size w wc))
            case first =>
              have H := HC37.out
              clear HC37
              replace H := Option.bind_eq_some_iff.mp H
              obtain ⟨t241, A500, H⟩ := H
              replace H : (if t241 = true then (laws_FnExactHeapNew.j1 kj3 t226 (t239 != t212) t227 t217 t218 t219 t228) else (laws_FnExactHeapNew.j1 kj3 t226 true t227 t217 t218 t219 t228)) = some r := H
              have A50 := Aside0.mk A500
              clear A500
              by_cases c51 : t241 = true
              · subst c51
                have H1 : (laws_FnExactHeapNew.j1 kj3 t226 (t239 != t212) t227 t217 t218 t219 t228) = some r := by rw [if_pos rfl] at H; exact H
                clear H
                have H := H1
                clear H1
                have H' := Aside0.mk H
                clear H
                have hnb52 := NB240_213.out
                have hnc52 := NB213_240.out
                have hnb53 := NB240_224.out
                have hnc53 := NB224_240.out
                have hcz54_0 : w44.cell? ⟨gb240, 0, none⟩ = some (.slice none 0 0) := (blk_cell BK240.out 0).trans rfl
                have hcz54_1 : w44.cell? ⟨gb240, 1, none⟩ = some (.int .i64 0) := (blk_cell BK240.out 1).trans rfl
                have hcz54_2 : w44.cell? ⟨gb240, 2, none⟩ = some (.int .i64 0) := (blk_cell BK240.out 2).trans rfl
                have hcz54_3 : w44.cell? ⟨gb240, 3, none⟩ = some (.int .i64 0) := (blk_cell BK240.out 3).trans rfl
                have hcz54_4 : w44.cell? ⟨gb240, 4, none⟩ = some (.slice none 0 0) := (blk_cell BK240.out 4).trans rfl
                have hfz54_0 := blk_frozen BK240.out 0
                have hfz54_1 := blk_frozen BK240.out 1
                have hfz54_2 := blk_frozen BK240.out 2
                have hfz54_3 := blk_frozen BK240.out 3
                have hfz54_4 := blk_frozen BK240.out 4
                have hnb55 := NB213_224.out
                have hnc55 := NB224_213.out
                have hcz56_0 : w44.cell? ⟨gb213, 0, none⟩ = some (.slice Ao7 t203.length co7) := (blk_cell BK213.out 0).trans rfl
                have hcz56_1 : w44.cell? ⟨gb213, 1, none⟩ = some (.int .i64 t206) := (blk_cell BK213.out 1).trans rfl
                have hcz56_2 : w44.cell? ⟨gb213, 2, none⟩ = some (.int .i64 t207) := (blk_cell BK213.out 2).trans rfl
                have hcz56_3 : w44.cell? ⟨gb213, 3, none⟩ = some (.int .i64 t208) := (blk_cell BK213.out 3).trans rfl
                have hcz56_4 : w44.cell? ⟨gb213, 4, none⟩ = some (.slice Ao9 t209.length co9) := (blk_cell BK213.out 4).trans rfl
                have hfz56_0 := blk_frozen BK213.out 0
                have hfz56_1 := blk_frozen BK213.out 1
                have hfz56_2 := blk_frozen BK213.out 2
                have hfz56_3 := blk_frozen BK213.out 3
                have hfz56_4 := blk_frozen BK213.out 4
                go_wp2_with (first | ((with_reducible refine gate_callee (f := 15) rfl ?_); refine goesL_ (some 48) rfl rfl Try.func15 (by kernel_rfl) rfl #[.agg #[.slice Ao45 t230.length co45, .int .i64 t233, .int .i64 t234, .int .i64 t235, .slice Ao49 t236.length co49], .agg #[.slice Ao7 t203.length co7, .int .i64 t206, .int .i64 t207, .int .i64 t208, .slice Ao9 t209.length co9]] rfl (by (try simp only [List.map_toArray, List.map_cons, List.map_nil]); first | done | rfl | (simp only [List.length_drop, List.length_take]; rfl)) ?_; (with_reducible refine (laws_eqHeap.calls kj3 _ _ t230 t233 t234 t235 _ _ t236 _ _ t203 t206 t207 t208 _ _ t209 true _ ?side1 ?side2 ?side3 ?side4 ?side5 ?side6 ?side7 ?side8 A50.out).mono ?_); (case side1 => refine (Kd.R_reads' (e := 3) (base := w.heap.size) (ok := fun k_ => ((True ∧ some k_ ≠ (.slice Ao7 t203.length co7 : Value).ownBlock) ∧ some k_ ≠ (.slice Ao12 t214.length co12 : Value).ownBlock)) (n := t230.length) (c := co45) ?_).2.2; exact (by (with_reducible repeat (first | apply Kd.R_alloc | apply Kd.R_drewN | apply Kd.R_drew)); exact (Kd.R_mono (Kd.R_far (p := ⟨gb240, 4, none⟩) (Kd.R_far (p := ⟨gb240, 3, none⟩) (Kd.R_far (p := ⟨gb240, 2, none⟩) (Kd.R_far (p := ⟨gb240, 1, none⟩) (Kd.R_far (p := ⟨gb240, 0, none⟩) (Kd.R_types HO232.out BK240.out (by decide)) (fun _ hk => hk.2) (.slice Ao45 t230.length co45)) (fun _ hk => hk.2) (.int .i64 t233)) (fun _ hk => hk.2) (.int .i64 t234)) (fun _ hk => hk.2) (.int .i64 t235)) (fun _ hk => hk.2) (.slice Ao49 t236.length co49)) (fun _ h_ => h_.1)))); (case side2 => exact (Kd.R_reads' HO232.out).2.1); (case side3 => refine (Kd.R_reads' (e := 61) (base := w.heap.size) (ok := fun k_ => ((True ∧ some k_ ≠ (.slice Ao9 t209.length co9 : Value).ownBlock) ∧ some k_ ≠ (.slice Ao15 t220.length co15 : Value).ownBlock)) (n := t236.length) (c := co49) ?_).2.2; exact (by (with_reducible repeat (first | apply Kd.R_alloc | apply Kd.R_drewN | apply Kd.R_drew)); exact (Kd.R_mono (Kd.R_far (p := ⟨gb240, 4, none⟩) (Kd.R_far (p := ⟨gb240, 3, none⟩) (Kd.R_far (p := ⟨gb240, 2, none⟩) (Kd.R_far (p := ⟨gb240, 1, none⟩) (Kd.R_far (p := ⟨gb240, 0, none⟩) (Kd.R_types HO238.out BK240.out (by decide)) (fun _ hk => hk.2) (.slice Ao45 t230.length co45)) (fun _ hk => hk.2) (.int .i64 t233)) (fun _ hk => hk.2) (.int .i64 t234)) (fun _ hk => hk.2) (.int .i64 t235)) (fun _ hk => hk.2) (.slice Ao49 t236.length co49)) (fun _ h_ => h_.1)))); (case side4 => exact (Kd.R_reads' HO238.out).2.1); (case side5 => refine (Kd.R_reads' (e := 3) (base := w.heap.size) (ok := fun k_ => (some k_ ≠ (.slice Ao12 t214.length co12 : Value).ownBlock ∧ some k_ ≠ (.slice Ao45 t230.length co45 : Value).ownBlock)) (n := t203.length) (c := co7) ?_).2.2; exact (by (with_reducible repeat (first | apply Kd.R_alloc | apply Kd.R_drewN | apply Kd.R_drew)); exact (Kd.R_mono (Kd.R_far (p := ⟨gb240, 4, none⟩) (Kd.R_far (p := ⟨gb240, 3, none⟩) (Kd.R_far (p := ⟨gb240, 2, none⟩) (Kd.R_far (p := ⟨gb240, 1, none⟩) (Kd.R_far (p := ⟨gb240, 0, none⟩) (Kd.R_types HO_214000.out BK240.out (by decide)) (fun _ hk => hk.2) (.slice Ao45 t230.length co45)) (fun _ hk => hk.2) (.int .i64 t233)) (fun _ hk => hk.2) (.int .i64 t234)) (fun _ hk => hk.2) (.int .i64 t235)) (fun _ hk => hk.2) (.slice Ao49 t236.length co49)) (fun _ h_ => h_.1)))); (case side6 => exact (Kd.R_reads' HO_214000.out).2.1); (case side7 => refine (Kd.R_reads' (e := 61) (base := w.heap.size) (ok := fun k_ => (some k_ ≠ (.slice Ao15 t220.length co15 : Value).ownBlock ∧ some k_ ≠ (.slice Ao49 t236.length co49 : Value).ownBlock)) (n := t209.length) (c := co9) ?_).2.2; exact (by (with_reducible repeat (first | apply Kd.R_alloc | apply Kd.R_drewN | apply Kd.R_drew)); exact (Kd.R_mono (Kd.R_far (p := ⟨gb240, 4, none⟩) (Kd.R_far (p := ⟨gb240, 3, none⟩) (Kd.R_far (p := ⟨gb240, 2, none⟩) (Kd.R_far (p := ⟨gb240, 1, none⟩) (Kd.R_far (p := ⟨gb240, 0, none⟩) (Kd.R_types HO_214004.out BK240.out (by decide)) (fun _ hk => hk.2) (.slice Ao45 t230.length co45)) (fun _ hk => hk.2) (.int .i64 t233)) (fun _ hk => hk.2) (.int .i64 t234)) (fun _ hk => hk.2) (.int .i64 t235)) (fun _ hk => hk.2) (.slice Ao49 t236.length co49)) (fun _ h_ => h_.1)))); (case side8 => exact (Kd.R_reads' HO_214004.out).2.1); rintro e w57 ⟨rfl, hb⟩; refine ⟨_, rfl, ?_⟩; have n0_ := Aside0.mk (Kd.R_below (by (with_reducible repeat (first | apply Kd.R_alloc | apply Kd.R_drewN | apply Kd.R_drew)); exact (Kd.R_mono (Kd.R_far (p := ⟨gb240, 4, none⟩) (Kd.R_far (p := ⟨gb240, 3, none⟩) (Kd.R_far (p := ⟨gb240, 2, none⟩) (Kd.R_far (p := ⟨gb240, 1, none⟩) (Kd.R_far (p := ⟨gb240, 0, none⟩) (Kd.R_types HO_214000.out BK240.out (by decide)) (fun _ hk => hk.2) (.slice Ao45 t230.length co45)) (fun _ hk => hk.2) (.int .i64 t233)) (fun _ hk => hk.2) (.int .i64 t234)) (fun _ hk => hk.2) (.int .i64 t235)) (fun _ hk => hk.2) (.slice Ao49 t236.length co49)) (fun _ h_ => h_.1))) hb); have n1_ := Aside0.mk (Kd.R_below (by (with_reducible repeat (first | apply Kd.R_alloc | apply Kd.R_drewN | apply Kd.R_drew)); exact (Kd.R_mono (Kd.R_far (p := ⟨gb240, 4, none⟩) (Kd.R_far (p := ⟨gb240, 3, none⟩) (Kd.R_far (p := ⟨gb240, 2, none⟩) (Kd.R_far (p := ⟨gb240, 1, none⟩) (Kd.R_far (p := ⟨gb240, 0, none⟩) (Kd.R_types HO_214004.out BK240.out (by decide)) (fun _ hk => hk.2) (.slice Ao45 t230.length co45)) (fun _ hk => hk.2) (.int .i64 t233)) (fun _ hk => hk.2) (.int .i64 t234)) (fun _ hk => hk.2) (.int .i64 t235)) (fun _ hk => hk.2) (.slice Ao49 t236.length co49)) (fun _ h_ => h_.1))) hb); have n2_ := Aside0.mk (Kd.R_below (by (with_reducible repeat (first | apply Kd.R_alloc | apply Kd.R_drewN | apply Kd.R_drew)); exact (Kd.R_mono (Kd.R_far (p := ⟨gb240, 4, none⟩) (Kd.R_far (p := ⟨gb240, 3, none⟩) (Kd.R_far (p := ⟨gb240, 2, none⟩) (Kd.R_far (p := ⟨gb240, 1, none⟩) (Kd.R_far (p := ⟨gb240, 0, none⟩) (Kd.R_types HO_225000.out BK240.out (by decide)) (fun _ hk => hk.2) (.slice Ao45 t230.length co45)) (fun _ hk => hk.2) (.int .i64 t233)) (fun _ hk => hk.2) (.int .i64 t234)) (fun _ hk => hk.2) (.int .i64 t235)) (fun _ hk => hk.2) (.slice Ao49 t236.length co49)) (fun _ h_ => h_.1))) hb); have n3_ := Aside0.mk (Kd.R_below (by (with_reducible repeat (first | apply Kd.R_alloc | apply Kd.R_drewN | apply Kd.R_drew)); exact (Kd.R_mono (Kd.R_far (p := ⟨gb240, 4, none⟩) (Kd.R_far (p := ⟨gb240, 3, none⟩) (Kd.R_far (p := ⟨gb240, 2, none⟩) (Kd.R_far (p := ⟨gb240, 1, none⟩) (Kd.R_far (p := ⟨gb240, 0, none⟩) (Kd.R_types HO_225004.out BK240.out (by decide)) (fun _ hk => hk.2) (.slice Ao45 t230.length co45)) (fun _ hk => hk.2) (.int .i64 t233)) (fun _ hk => hk.2) (.int .i64 t234)) (fun _ hk => hk.2) (.int .i64 t235)) (fun _ hk => hk.2) (.slice Ao49 t236.length co49)) (fun _ h_ => h_.1))) hb); have n4_ := Aside0.mk (Kd.R_below (by (with_reducible repeat (first | apply Kd.R_alloc | apply Kd.R_drewN | apply Kd.R_drew)); exact (Kd.R_mono (Kd.R_far (p := ⟨gb240, 4, none⟩) (Kd.R_far (p := ⟨gb240, 3, none⟩) (Kd.R_far (p := ⟨gb240, 2, none⟩) (Kd.R_far (p := ⟨gb240, 1, none⟩) (Kd.R_far (p := ⟨gb240, 0, none⟩) (Kd.R_types HO232.out BK240.out (by decide)) (fun _ hk => hk.2) (.slice Ao45 t230.length co45)) (fun _ hk => hk.2) (.int .i64 t233)) (fun _ hk => hk.2) (.int .i64 t234)) (fun _ hk => hk.2) (.int .i64 t235)) (fun _ hk => hk.2) (.slice Ao49 t236.length co49)) (fun _ h_ => h_.1))) hb); have n5_ := Aside0.mk (Kd.R_below (by (with_reducible repeat (first | apply Kd.R_alloc | apply Kd.R_drewN | apply Kd.R_drew)); exact (Kd.R_mono (Kd.R_far (p := ⟨gb240, 4, none⟩) (Kd.R_far (p := ⟨gb240, 3, none⟩) (Kd.R_far (p := ⟨gb240, 2, none⟩) (Kd.R_far (p := ⟨gb240, 1, none⟩) (Kd.R_far (p := ⟨gb240, 0, none⟩) (Kd.R_types HO238.out BK240.out (by decide)) (fun _ hk => hk.2) (.slice Ao45 t230.length co45)) (fun _ hk => hk.2) (.int .i64 t233)) (fun _ hk => hk.2) (.int .i64 t234)) (fun _ hk => hk.2) (.int .i64 t235)) (fun _ hk => hk.2) (.slice Ao49 t236.length co49)) (fun _ h_ => h_.1))) hb); have n6_ := Aside0.mk (blk_below (g := gb213) (o := .cells #[.slice Ao7 t203.length co7, .int .i64 t206, .int .i64 t207, .int .i64 t208, .slice Ao9 t209.length co9] 30 (0, 0)) (by (with_reducible repeat (first | refine blk_drewN ?_ _ | refine blk_drew ?_ | refine blk_alloc ?_ _)); refine blk_far ?_ NB213_240.out _; (with_reducible repeat (first | refine blk_drewN ?_ _ | refine blk_drew ?_ | refine blk_alloc ?_ _)); refine blk_far ?_ NB213_240.out _; (with_reducible repeat (first | refine blk_drewN ?_ _ | refine blk_drew ?_ | refine blk_alloc ?_ _)); refine blk_far ?_ NB213_240.out _; (with_reducible repeat (first | refine blk_drewN ?_ _ | refine blk_drew ?_ | refine blk_alloc ?_ _)); refine blk_far ?_ NB213_240.out _; (with_reducible repeat (first | refine blk_drewN ?_ _ | refine blk_drew ?_ | refine blk_alloc ?_ _)); refine blk_far ?_ NB213_240.out _; (with_reducible repeat (first | refine blk_drewN ?_ _ | refine blk_drew ?_ | refine blk_alloc ?_ _)); exact BK213.out) hb); have n7_ := Aside0.mk (blk_below (g := gb224) (o := .cells #[.slice Ao12 t214.length co12, .int .i64 t217, .int .i64 t218, .int .i64 t219, .slice Ao15 t220.length co15] 30 (0, 0)) (by (with_reducible repeat (first | refine blk_drewN ?_ _ | refine blk_drew ?_ | refine blk_alloc ?_ _)); refine blk_far ?_ NB224_240.out _; (with_reducible repeat (first | refine blk_drewN ?_ _ | refine blk_drew ?_ | refine blk_alloc ?_ _)); refine blk_far ?_ NB224_240.out _; (with_reducible repeat (first | refine blk_drewN ?_ _ | refine blk_drew ?_ | refine blk_alloc ?_ _)); refine blk_far ?_ NB224_240.out _; (with_reducible repeat (first | refine blk_drewN ?_ _ | refine blk_drew ?_ | refine blk_alloc ?_ _)); refine blk_far ?_ NB224_240.out _; (with_reducible repeat (first | refine blk_drewN ?_ _ | refine blk_drew ?_ | refine blk_alloc ?_ _)); refine blk_far ?_ NB224_240.out _; (with_reducible repeat (first | refine blk_drewN ?_ _ | refine blk_drew ?_ | refine blk_alloc ?_ _)); exact BK224.out) hb); have n8_ := Aside0.mk (blk_below (g := gb240) (o := .cells #[.slice Ao45 t230.length co45, .int .i64 t233, .int .i64 t234, .int .i64 t235, .slice Ao49 t236.length co49] 30 (0, 0)) (by (with_reducible repeat (first | refine blk_drewN ?_ _ | refine blk_drew ?_ | refine blk_alloc ?_ _)); refine blk_put (cs := #[.slice Ao45 t230.length co45, .int .i64 t233, .int .i64 t234, .int .i64 t235, .slice none 0 0]) ?_ 4 _ rfl; (with_reducible repeat (first | refine blk_drewN ?_ _ | refine blk_drew ?_ | refine blk_alloc ?_ _)); refine blk_put (cs := #[.slice Ao45 t230.length co45, .int .i64 t233, .int .i64 t234, .int .i64 0, .slice none 0 0]) ?_ 3 _ rfl; (with_reducible repeat (first | refine blk_drewN ?_ _ | refine blk_drew ?_ | refine blk_alloc ?_ _)); refine blk_put (cs := #[.slice Ao45 t230.length co45, .int .i64 t233, .int .i64 0, .int .i64 0, .slice none 0 0]) ?_ 2 _ rfl; (with_reducible repeat (first | refine blk_drewN ?_ _ | refine blk_drew ?_ | refine blk_alloc ?_ _)); refine blk_put (cs := #[.slice Ao45 t230.length co45, .int .i64 0, .int .i64 0, .int .i64 0, .slice none 0 0]) ?_ 1 _ rfl; (with_reducible repeat (first | refine blk_drewN ?_ _ | refine blk_drew ?_ | refine blk_alloc ?_ _)); refine blk_put (cs := #[.slice none 0 0, .int .i64 0, .int .i64 0, .int .i64 0, .slice none 0 0]) ?_ 0 _ rfl; (with_reducible repeat (first | refine blk_drewN ?_ _ | refine blk_drew ?_ | refine blk_alloc ?_ _)); exact BK240.out) hb); have n9_ := Aside0.mk (below_step (by repeat (first | (with_reducible first | exact HB.out | apply below_alloc | apply pw_below_drewN | apply below_drew1 | refine below_set ?_ GE213.out | refine below_set ?_ GE224.out | refine below_set ?_ GE240.out) | exact HB.out)) hb); clear HO_214000; clear HO_214004; clear HO_225000; clear HO_225004; clear HO232; clear HO238; clear BK213; clear BK224; clear BK240; clear HB; have HO_214000 := n0_; have HO_214004 := n1_; have HO_225000 := n2_; have HO_225004 := n3_; have HO232 := n4_; have HO238 := n5_; have BK213 := n6_; have BK224 := n7_; have BK240 := n8_; have HB := n9_; clear n0_ n1_ n2_ n3_ n4_ n5_ n6_ n7_ n8_ n9_; (try clear hb); (try clear hb2); (try clear hk); (try clear hi)))
                go_meet
                case rel => exact ⟨_, ((t239 != t212)), (by first | rfl | (simp; done) | (simp [*]; done)), H', ⟨by have := HJ3.out; first | omega | exact Nat.le_refl _⟩, ⟨by (with_reducible repeat (first | apply Kd.R_alloc | apply Kd.R_drewN | apply Kd.R_drew)); exact HO_214000.out⟩, ⟨by (with_reducible repeat (first | apply Kd.R_alloc | apply Kd.R_drewN | apply Kd.R_drew)); exact HO_214004.out⟩, ⟨by (with_reducible repeat (first | apply Kd.R_alloc | apply Kd.R_drewN | apply Kd.R_drew)); exact HO_225000.out⟩, ⟨by (with_reducible repeat (first | apply Kd.R_alloc | apply Kd.R_drewN | apply Kd.R_drew)); exact HO_225004.out⟩, ⟨by (with_reducible repeat (first | apply Kd.R_alloc | apply Kd.R_drewN | apply Kd.R_drew)); exact Kd.R_mono HO232.out (fun _ hk => ⟨hk.1.2, hk.2⟩)⟩, ⟨by (with_reducible repeat (first | apply Kd.R_alloc | apply Kd.R_drewN | apply Kd.R_drew)); exact Kd.R_mono HO238.out (fun _ hk => ⟨hk.1.2, hk.2⟩)⟩, ⟨by (with_reducible repeat (first | refine blk_drewN ?_ _ | refine blk_drew ?_ | refine blk_alloc ?_ _)); exact BK213.out⟩, ⟨by (with_reducible repeat (first | refine blk_drewN ?_ _ | refine blk_drew ?_ | refine blk_alloc ?_ _)); exact BK224.out⟩, ⟨by (with_reducible repeat (first | refine blk_drewN ?_ _ | refine blk_drew ?_ | refine blk_alloc ?_ _)); exact BK240.out⟩, ⟨by repeat (first | (with_reducible first | exact HB.out | apply below_alloc | apply pw_below_drewN | apply below_drew1 | refine below_set ?_ GE213.out | refine below_set ?_ GE224.out | refine below_set ?_ GE240.out) | exact HB.out)⟩⟩
              · replace c51 := Bool.eq_false_iff.mpr c51
                subst c51
                have H1 : (laws_FnExactHeapNew.j1 kj3 t226 true t227 t217 t218 t219 t228) = some r := by rw [if_neg (show ¬ (false = true) by decide)] at H; exact H
                clear H
                have H := H1
                clear H1
                have H' := Aside0.mk H
                clear H
                have hnb58 := NB240_213.out
                have hnc58 := NB213_240.out
                have hnb59 := NB240_224.out
                have hnc59 := NB224_240.out
                have hcz60_0 : w44.cell? ⟨gb240, 0, none⟩ = some (.slice none 0 0) := (blk_cell BK240.out 0).trans rfl
                have hcz60_1 : w44.cell? ⟨gb240, 1, none⟩ = some (.int .i64 0) := (blk_cell BK240.out 1).trans rfl
                have hcz60_2 : w44.cell? ⟨gb240, 2, none⟩ = some (.int .i64 0) := (blk_cell BK240.out 2).trans rfl
                have hcz60_3 : w44.cell? ⟨gb240, 3, none⟩ = some (.int .i64 0) := (blk_cell BK240.out 3).trans rfl
                have hcz60_4 : w44.cell? ⟨gb240, 4, none⟩ = some (.slice none 0 0) := (blk_cell BK240.out 4).trans rfl
                have hfz60_0 := blk_frozen BK240.out 0
                have hfz60_1 := blk_frozen BK240.out 1
                have hfz60_2 := blk_frozen BK240.out 2
                have hfz60_3 := blk_frozen BK240.out 3
                have hfz60_4 := blk_frozen BK240.out 4
                have hnb61 := NB213_224.out
                have hnc61 := NB224_213.out
                have hcz62_0 : w44.cell? ⟨gb213, 0, none⟩ = some (.slice Ao7 t203.length co7) := (blk_cell BK213.out 0).trans rfl
                have hcz62_1 : w44.cell? ⟨gb213, 1, none⟩ = some (.int .i64 t206) := (blk_cell BK213.out 1).trans rfl
                have hcz62_2 : w44.cell? ⟨gb213, 2, none⟩ = some (.int .i64 t207) := (blk_cell BK213.out 2).trans rfl
                have hcz62_3 : w44.cell? ⟨gb213, 3, none⟩ = some (.int .i64 t208) := (blk_cell BK213.out 3).trans rfl
                have hcz62_4 : w44.cell? ⟨gb213, 4, none⟩ = some (.slice Ao9 t209.length co9) := (blk_cell BK213.out 4).trans rfl
                have hfz62_0 := blk_frozen BK213.out 0
                have hfz62_1 := blk_frozen BK213.out 1
                have hfz62_2 := blk_frozen BK213.out 2
                have hfz62_3 := blk_frozen BK213.out 3
                have hfz62_4 := blk_frozen BK213.out 4
                go_wp2_with (first | ((with_reducible refine gate_callee (f := 15) rfl ?_); refine goesL_ (some 48) rfl rfl Try.func15 (by kernel_rfl) rfl #[.agg #[.slice Ao45 t230.length co45, .int .i64 t233, .int .i64 t234, .int .i64 t235, .slice Ao49 t236.length co49], .agg #[.slice Ao7 t203.length co7, .int .i64 t206, .int .i64 t207, .int .i64 t208, .slice Ao9 t209.length co9]] rfl (by (try simp only [List.map_toArray, List.map_cons, List.map_nil]); first | done | rfl | (simp only [List.length_drop, List.length_take]; rfl)) ?_; (with_reducible refine (laws_eqHeap.calls kj3 _ _ t230 t233 t234 t235 _ _ t236 _ _ t203 t206 t207 t208 _ _ t209 false _ ?side1 ?side2 ?side3 ?side4 ?side5 ?side6 ?side7 ?side8 A50.out).mono ?_); (case side1 => refine (Kd.R_reads' (e := 3) (base := w.heap.size) (ok := fun k_ => ((True ∧ some k_ ≠ (.slice Ao7 t203.length co7 : Value).ownBlock) ∧ some k_ ≠ (.slice Ao12 t214.length co12 : Value).ownBlock)) (n := t230.length) (c := co45) ?_).2.2; exact (by (with_reducible repeat (first | apply Kd.R_alloc | apply Kd.R_drewN | apply Kd.R_drew)); exact (Kd.R_mono (Kd.R_far (p := ⟨gb240, 4, none⟩) (Kd.R_far (p := ⟨gb240, 3, none⟩) (Kd.R_far (p := ⟨gb240, 2, none⟩) (Kd.R_far (p := ⟨gb240, 1, none⟩) (Kd.R_far (p := ⟨gb240, 0, none⟩) (Kd.R_types HO232.out BK240.out (by decide)) (fun _ hk => hk.2) (.slice Ao45 t230.length co45)) (fun _ hk => hk.2) (.int .i64 t233)) (fun _ hk => hk.2) (.int .i64 t234)) (fun _ hk => hk.2) (.int .i64 t235)) (fun _ hk => hk.2) (.slice Ao49 t236.length co49)) (fun _ h_ => h_.1)))); (case side2 => exact (Kd.R_reads' HO232.out).2.1); (case side3 => refine (Kd.R_reads' (e := 61) (base := w.heap.size) (ok := fun k_ => ((True ∧ some k_ ≠ (.slice Ao9 t209.length co9 : Value).ownBlock) ∧ some k_ ≠ (.slice Ao15 t220.length co15 : Value).ownBlock)) (n := t236.length) (c := co49) ?_).2.2; exact (by (with_reducible repeat (first | apply Kd.R_alloc | apply Kd.R_drewN | apply Kd.R_drew)); exact (Kd.R_mono (Kd.R_far (p := ⟨gb240, 4, none⟩) (Kd.R_far (p := ⟨gb240, 3, none⟩) (Kd.R_far (p := ⟨gb240, 2, none⟩) (Kd.R_far (p := ⟨gb240, 1, none⟩) (Kd.R_far (p := ⟨gb240, 0, none⟩) (Kd.R_types HO238.out BK240.out (by decide)) (fun _ hk => hk.2) (.slice Ao45 t230.length co45)) (fun _ hk => hk.2) (.int .i64 t233)) (fun _ hk => hk.2) (.int .i64 t234)) (fun _ hk => hk.2) (.int .i64 t235)) (fun _ hk => hk.2) (.slice Ao49 t236.length co49)) (fun _ h_ => h_.1)))); (case side4 => exact (Kd.R_reads' HO238.out).2.1); (case side5 => refine (Kd.R_reads' (e := 3) (base := w.heap.size) (ok := fun k_ => (some k_ ≠ (.slice Ao12 t214.length co12 : Value).ownBlock ∧ some k_ ≠ (.slice Ao45 t230.length co45 : Value).ownBlock)) (n := t203.length) (c := co7) ?_).2.2; exact (by (with_reducible repeat (first | apply Kd.R_alloc | apply Kd.R_drewN | apply Kd.R_drew)); exact (Kd.R_mono (Kd.R_far (p := ⟨gb240, 4, none⟩) (Kd.R_far (p := ⟨gb240, 3, none⟩) (Kd.R_far (p := ⟨gb240, 2, none⟩) (Kd.R_far (p := ⟨gb240, 1, none⟩) (Kd.R_far (p := ⟨gb240, 0, none⟩) (Kd.R_types HO_214000.out BK240.out (by decide)) (fun _ hk => hk.2) (.slice Ao45 t230.length co45)) (fun _ hk => hk.2) (.int .i64 t233)) (fun _ hk => hk.2) (.int .i64 t234)) (fun _ hk => hk.2) (.int .i64 t235)) (fun _ hk => hk.2) (.slice Ao49 t236.length co49)) (fun _ h_ => h_.1)))); (case side6 => exact (Kd.R_reads' HO_214000.out).2.1); (case side7 => refine (Kd.R_reads' (e := 61) (base := w.heap.size) (ok := fun k_ => (some k_ ≠ (.slice Ao15 t220.length co15 : Value).ownBlock ∧ some k_ ≠ (.slice Ao49 t236.length co49 : Value).ownBlock)) (n := t209.length) (c := co9) ?_).2.2; exact (by (with_reducible repeat (first | apply Kd.R_alloc | apply Kd.R_drewN | apply Kd.R_drew)); exact (Kd.R_mono (Kd.R_far (p := ⟨gb240, 4, none⟩) (Kd.R_far (p := ⟨gb240, 3, none⟩) (Kd.R_far (p := ⟨gb240, 2, none⟩) (Kd.R_far (p := ⟨gb240, 1, none⟩) (Kd.R_far (p := ⟨gb240, 0, none⟩) (Kd.R_types HO_214004.out BK240.out (by decide)) (fun _ hk => hk.2) (.slice Ao45 t230.length co45)) (fun _ hk => hk.2) (.int .i64 t233)) (fun _ hk => hk.2) (.int .i64 t234)) (fun _ hk => hk.2) (.int .i64 t235)) (fun _ hk => hk.2) (.slice Ao49 t236.length co49)) (fun _ h_ => h_.1)))); (case side8 => exact (Kd.R_reads' HO_214004.out).2.1); rintro e w63 ⟨rfl, hb⟩; refine ⟨_, rfl, ?_⟩; have n0_ := Aside0.mk (Kd.R_below (by (with_reducible repeat (first | apply Kd.R_alloc | apply Kd.R_drewN | apply Kd.R_drew)); exact (Kd.R_mono (Kd.R_far (p := ⟨gb240, 4, none⟩) (Kd.R_far (p := ⟨gb240, 3, none⟩) (Kd.R_far (p := ⟨gb240, 2, none⟩) (Kd.R_far (p := ⟨gb240, 1, none⟩) (Kd.R_far (p := ⟨gb240, 0, none⟩) (Kd.R_types HO_214000.out BK240.out (by decide)) (fun _ hk => hk.2) (.slice Ao45 t230.length co45)) (fun _ hk => hk.2) (.int .i64 t233)) (fun _ hk => hk.2) (.int .i64 t234)) (fun _ hk => hk.2) (.int .i64 t235)) (fun _ hk => hk.2) (.slice Ao49 t236.length co49)) (fun _ h_ => h_.1))) hb); have n1_ := Aside0.mk (Kd.R_below (by (with_reducible repeat (first | apply Kd.R_alloc | apply Kd.R_drewN | apply Kd.R_drew)); exact (Kd.R_mono (Kd.R_far (p := ⟨gb240, 4, none⟩) (Kd.R_far (p := ⟨gb240, 3, none⟩) (Kd.R_far (p := ⟨gb240, 2, none⟩) (Kd.R_far (p := ⟨gb240, 1, none⟩) (Kd.R_far (p := ⟨gb240, 0, none⟩) (Kd.R_types HO_214004.out BK240.out (by decide)) (fun _ hk => hk.2) (.slice Ao45 t230.length co45)) (fun _ hk => hk.2) (.int .i64 t233)) (fun _ hk => hk.2) (.int .i64 t234)) (fun _ hk => hk.2) (.int .i64 t235)) (fun _ hk => hk.2) (.slice Ao49 t236.length co49)) (fun _ h_ => h_.1))) hb); have n2_ := Aside0.mk (Kd.R_below (by (with_reducible repeat (first | apply Kd.R_alloc | apply Kd.R_drewN | apply Kd.R_drew)); exact (Kd.R_mono (Kd.R_far (p := ⟨gb240, 4, none⟩) (Kd.R_far (p := ⟨gb240, 3, none⟩) (Kd.R_far (p := ⟨gb240, 2, none⟩) (Kd.R_far (p := ⟨gb240, 1, none⟩) (Kd.R_far (p := ⟨gb240, 0, none⟩) (Kd.R_types HO_225000.out BK240.out (by decide)) (fun _ hk => hk.2) (.slice Ao45 t230.length co45)) (fun _ hk => hk.2) (.int .i64 t233)) (fun _ hk => hk.2) (.int .i64 t234)) (fun _ hk => hk.2) (.int .i64 t235)) (fun _ hk => hk.2) (.slice Ao49 t236.length co49)) (fun _ h_ => h_.1))) hb); have n3_ := Aside0.mk (Kd.R_below (by (with_reducible repeat (first | apply Kd.R_alloc | apply Kd.R_drewN | apply Kd.R_drew)); exact (Kd.R_mono (Kd.R_far (p := ⟨gb240, 4, none⟩) (Kd.R_far (p := ⟨gb240, 3, none⟩) (Kd.R_far (p := ⟨gb240, 2, none⟩) (Kd.R_far (p := ⟨gb240, 1, none⟩) (Kd.R_far (p := ⟨gb240, 0, none⟩) (Kd.R_types HO_225004.out BK240.out (by decide)) (fun _ hk => hk.2) (.slice Ao45 t230.length co45)) (fun _ hk => hk.2) (.int .i64 t233)) (fun _ hk => hk.2) (.int .i64 t234)) (fun _ hk => hk.2) (.int .i64 t235)) (fun _ hk => hk.2) (.slice Ao49 t236.length co49)) (fun _ h_ => h_.1))) hb); have n4_ := Aside0.mk (Kd.R_below (by (with_reducible repeat (first | apply Kd.R_alloc | apply Kd.R_drewN | apply Kd.R_drew)); exact (Kd.R_mono (Kd.R_far (p := ⟨gb240, 4, none⟩) (Kd.R_far (p := ⟨gb240, 3, none⟩) (Kd.R_far (p := ⟨gb240, 2, none⟩) (Kd.R_far (p := ⟨gb240, 1, none⟩) (Kd.R_far (p := ⟨gb240, 0, none⟩) (Kd.R_types HO232.out BK240.out (by decide)) (fun _ hk => hk.2) (.slice Ao45 t230.length co45)) (fun _ hk => hk.2) (.int .i64 t233)) (fun _ hk => hk.2) (.int .i64 t234)) (fun _ hk => hk.2) (.int .i64 t235)) (fun _ hk => hk.2) (.slice Ao49 t236.length co49)) (fun _ h_ => h_.1))) hb); have n5_ := Aside0.mk (Kd.R_below (by (with_reducible repeat (first | apply Kd.R_alloc | apply Kd.R_drewN | apply Kd.R_drew)); exact (Kd.R_mono (Kd.R_far (p := ⟨gb240, 4, none⟩) (Kd.R_far (p := ⟨gb240, 3, none⟩) (Kd.R_far (p := ⟨gb240, 2, none⟩) (Kd.R_far (p := ⟨gb240, 1, none⟩) (Kd.R_far (p := ⟨gb240, 0, none⟩) (Kd.R_types HO238.out BK240.out (by decide)) (fun _ hk => hk.2) (.slice Ao45 t230.length co45)) (fun _ hk => hk.2) (.int .i64 t233)) (fun _ hk => hk.2) (.int .i64 t234)) (fun _ hk => hk.2) (.int .i64 t235)) (fun _ hk => hk.2) (.slice Ao49 t236.length co49)) (fun _ h_ => h_.1))) hb); have n6_ := Aside0.mk (blk_below (g := gb213) (o := .cells #[.slice Ao7 t203.length co7, .int .i64 t206, .int .i64 t207, .int .i64 t208, .slice Ao9 t209.length co9] 30 (0, 0)) (by (with_reducible repeat (first | refine blk_drewN ?_ _ | refine blk_drew ?_ | refine blk_alloc ?_ _)); refine blk_far ?_ NB213_240.out _; (with_reducible repeat (first | refine blk_drewN ?_ _ | refine blk_drew ?_ | refine blk_alloc ?_ _)); refine blk_far ?_ NB213_240.out _; (with_reducible repeat (first | refine blk_drewN ?_ _ | refine blk_drew ?_ | refine blk_alloc ?_ _)); refine blk_far ?_ NB213_240.out _; (with_reducible repeat (first | refine blk_drewN ?_ _ | refine blk_drew ?_ | refine blk_alloc ?_ _)); refine blk_far ?_ NB213_240.out _; (with_reducible repeat (first | refine blk_drewN ?_ _ | refine blk_drew ?_ | refine blk_alloc ?_ _)); refine blk_far ?_ NB213_240.out _; (with_reducible repeat (first | refine blk_drewN ?_ _ | refine blk_drew ?_ | refine blk_alloc ?_ _)); exact BK213.out) hb); have n7_ := Aside0.mk (blk_below (g := gb224) (o := .cells #[.slice Ao12 t214.length co12, .int .i64 t217, .int .i64 t218, .int .i64 t219, .slice Ao15 t220.length co15] 30 (0, 0)) (by (with_reducible repeat (first | refine blk_drewN ?_ _ | refine blk_drew ?_ | refine blk_alloc ?_ _)); refine blk_far ?_ NB224_240.out _; (with_reducible repeat (first | refine blk_drewN ?_ _ | refine blk_drew ?_ | refine blk_alloc ?_ _)); refine blk_far ?_ NB224_240.out _; (with_reducible repeat (first | refine blk_drewN ?_ _ | refine blk_drew ?_ | refine blk_alloc ?_ _)); refine blk_far ?_ NB224_240.out _; (with_reducible repeat (first | refine blk_drewN ?_ _ | refine blk_drew ?_ | refine blk_alloc ?_ _)); refine blk_far ?_ NB224_240.out _; (with_reducible repeat (first | refine blk_drewN ?_ _ | refine blk_drew ?_ | refine blk_alloc ?_ _)); refine blk_far ?_ NB224_240.out _; (with_reducible repeat (first | refine blk_drewN ?_ _ | refine blk_drew ?_ | refine blk_alloc ?_ _)); exact BK224.out) hb); have n8_ := Aside0.mk (blk_below (g := gb240) (o := .cells #[.slice Ao45 t230.length co45, .int .i64 t233, .int .i64 t234, .int .i64 t235, .slice Ao49 t236.length co49] 30 (0, 0)) (by (with_reducible repeat (first | refine blk_drewN ?_ _ | refine blk_drew ?_ | refine blk_alloc ?_ _)); refine blk_put (cs := #[.slice Ao45 t230.length co45, .int .i64 t233, .int .i64 t234, .int .i64 t235, .slice none 0 0]) ?_ 4 _ rfl; (with_reducible repeat (first | refine blk_drewN ?_ _ | refine blk_drew ?_ | refine blk_alloc ?_ _)); refine blk_put (cs := #[.slice Ao45 t230.length co45, .int .i64 t233, .int .i64 t234, .int .i64 0, .slice none 0 0]) ?_ 3 _ rfl; (with_reducible repeat (first | refine blk_drewN ?_ _ | refine blk_drew ?_ | refine blk_alloc ?_ _)); refine blk_put (cs := #[.slice Ao45 t230.length co45, .int .i64 t233, .int .i64 0, .int .i64 0, .slice none 0 0]) ?_ 2 _ rfl; (with_reducible repeat (first | refine blk_drewN ?_ _ | refine blk_drew ?_ | refine blk_alloc ?_ _)); refine blk_put (cs := #[.slice Ao45 t230.length co45, .int .i64 0, .int .i64 0, .int .i64 0, .slice none 0 0]) ?_ 1 _ rfl; (with_reducible repeat (first | refine blk_drewN ?_ _ | refine blk_drew ?_ | refine blk_alloc ?_ _)); refine blk_put (cs := #[.slice none 0 0, .int .i64 0, .int .i64 0, .int .i64 0, .slice none 0 0]) ?_ 0 _ rfl; (with_reducible repeat (first | refine blk_drewN ?_ _ | refine blk_drew ?_ | refine blk_alloc ?_ _)); exact BK240.out) hb); have n9_ := Aside0.mk (below_step (by repeat (first | (with_reducible first | exact HB.out | apply below_alloc | apply pw_below_drewN | apply below_drew1 | refine below_set ?_ GE213.out | refine below_set ?_ GE224.out | refine below_set ?_ GE240.out) | exact HB.out)) hb); clear HO_214000; clear HO_214004; clear HO_225000; clear HO_225004; clear HO232; clear HO238; clear BK213; clear BK224; clear BK240; clear HB; have HO_214000 := n0_; have HO_214004 := n1_; have HO_225000 := n2_; have HO_225004 := n3_; have HO232 := n4_; have HO238 := n5_; have BK213 := n6_; have BK224 := n7_; have BK240 := n8_; have HB := n9_; clear n0_ n1_ n2_ n3_ n4_ n5_ n6_ n7_ n8_ n9_; (try clear hb); (try clear hb2); (try clear hk); (try clear hi)))
                go_meet
                case rel => exact ⟨_, (true), (by first | rfl | (simp; done) | (simp [*]; done)), H', ⟨by have := HJ3.out; first | omega | exact Nat.le_refl _⟩, ⟨by (with_reducible repeat (first | apply Kd.R_alloc | apply Kd.R_drewN | apply Kd.R_drew)); exact HO_214000.out⟩, ⟨by (with_reducible repeat (first | apply Kd.R_alloc | apply Kd.R_drewN | apply Kd.R_drew)); exact HO_214004.out⟩, ⟨by (with_reducible repeat (first | apply Kd.R_alloc | apply Kd.R_drewN | apply Kd.R_drew)); exact HO_225000.out⟩, ⟨by (with_reducible repeat (first | apply Kd.R_alloc | apply Kd.R_drewN | apply Kd.R_drew)); exact HO_225004.out⟩, ⟨by (with_reducible repeat (first | apply Kd.R_alloc | apply Kd.R_drewN | apply Kd.R_drew)); exact Kd.R_mono HO232.out (fun _ hk => ⟨hk.1.2, hk.2⟩)⟩, ⟨by (with_reducible repeat (first | apply Kd.R_alloc | apply Kd.R_drewN | apply Kd.R_drew)); exact Kd.R_mono HO238.out (fun _ hk => ⟨hk.1.2, hk.2⟩)⟩, ⟨by (with_reducible repeat (first | refine blk_drewN ?_ _ | refine blk_drew ?_ | refine blk_alloc ?_ _)); exact BK213.out⟩, ⟨by (with_reducible repeat (first | refine blk_drewN ?_ _ | refine blk_drew ?_ | refine blk_alloc ?_ _)); exact BK224.out⟩, ⟨by (with_reducible repeat (first | refine blk_drewN ?_ _ | refine blk_drew ?_ | refine blk_alloc ?_ _)); exact BK240.out⟩, ⟨by repeat (first | (with_reducible first | exact HB.out | apply below_alloc | apply pw_below_drewN | apply below_drew1 | refine below_set ?_ GE213.out | refine below_set ?_ GE224.out | refine below_set ?_ GE240.out) | exact HB.out)⟩⟩
            case rest =>
              clear HC37
              try clear c1
              try clear c2
              try clear p2
              try clear c3
              try clear c4
              try clear c5
              try clear c6
              try clear c13
              try clear c15
              try clear c16
              try clear c17
              try clear c18
              try clear c19
              try clear c22
              try clear c26
              try clear c29
              try clear c29b0
              try clear c30
              try clear c35
              try clear c35b0
              try clear c35b1
              try clear c38
              try clear c46
              try clear c47
              try clear c51
              try clear c52
              try clear c53
              try clear c55
              try clear c58
              try clear c59
              try clear c61
              try clear hcz14_0
              try clear hcz14_1
              try clear hcz14_2
              try clear hcz14_3
              try clear hcz14_4
              try clear hcz19_0
              try clear hcz19_1
              try clear hcz19_2
              try clear hcz19_3
              try clear hcz19_4
              try clear hcz20_0
              try clear hcz20_1
              try clear hcz20_2
              try clear hcz20_3
              try clear hcz20_4
              try clear hcz23_0
              try clear hcz23_1
              try clear hcz23_2
              try clear hcz23_3
              try clear hcz23_4
              try clear hcz24_0
              try clear hcz24_1
              try clear hcz24_2
              try clear hcz24_3
              try clear hcz24_4
              try clear hcz31_0
              try clear hcz31_1
              try clear hcz31_2
              try clear hcz31_3
              try clear hcz31_4
              try clear hcz33_0
              try clear hcz33_1
              try clear hcz33_2
              try clear hcz33_3
              try clear hcz33_4
              try clear hcz39_0
              try clear hcz39_1
              try clear hcz39_2
              try clear hcz39_3
              try clear hcz39_4
              try clear hcz41_0
              try clear hcz41_1
              try clear hcz41_2
              try clear hcz41_3
              try clear hcz41_4
              try clear hcz48_0
              try clear hcz48_1
              try clear hcz48_2
              try clear hcz48_3
              try clear hcz48_4
              try clear hcz54_0
              try clear hcz54_1
              try clear hcz54_2
              try clear hcz54_3
              try clear hcz54_4
              try clear hcz56_0
              try clear hcz56_1
              try clear hcz56_2
              try clear hcz56_3
              try clear hcz56_4
              try clear hcz60_0
              try clear hcz60_1
              try clear hcz60_2
              try clear hcz60_3
              try clear hcz60_4
              try clear hcz62_0
              try clear hcz62_1
              try clear hcz62_2
              try clear hcz62_3
              try clear hcz62_4
              try clear hcz8_0
              try clear hcz8_1
              try clear hcz8_2
              try clear hcz8_3
              try clear hcz8_4
              try clear hfz14_0
              try clear hfz14_1
              try clear hfz14_2
              try clear hfz14_3
              try clear hfz14_4
              try clear hfz19_0
              try clear hfz19_1
              try clear hfz19_2
              try clear hfz19_3
              try clear hfz19_4
              try clear hfz20_0
              try clear hfz20_1
              try clear hfz20_2
              try clear hfz20_3
              try clear hfz20_4
              try clear hfz23_0
              try clear hfz23_1
              try clear hfz23_2
              try clear hfz23_3
              try clear hfz23_4
              try clear hfz24_0
              try clear hfz24_1
              try clear hfz24_2
              try clear hfz24_3
              try clear hfz24_4
              try clear hfz31_0
              try clear hfz31_1
              try clear hfz31_2
              try clear hfz31_3
              try clear hfz31_4
              try clear hfz33_0
              try clear hfz33_1
              try clear hfz33_2
              try clear hfz33_3
              try clear hfz33_4
              try clear hfz39_0
              try clear hfz39_1
              try clear hfz39_2
              try clear hfz39_3
              try clear hfz39_4
              try clear hfz41_0
              try clear hfz41_1
              try clear hfz41_2
              try clear hfz41_3
              try clear hfz41_4
              try clear hfz48_0
              try clear hfz48_1
              try clear hfz48_2
              try clear hfz48_3
              try clear hfz48_4
              try clear hfz54_0
              try clear hfz54_1
              try clear hfz54_2
              try clear hfz54_3
              try clear hfz54_4
              try clear hfz56_0
              try clear hfz56_1
              try clear hfz56_2
              try clear hfz56_3
              try clear hfz56_4
              try clear hfz60_0
              try clear hfz60_1
              try clear hfz60_2
              try clear hfz60_3
              try clear hfz60_4
              try clear hfz62_0
              try clear hfz62_1
              try clear hfz62_2
              try clear hfz62_3
              try clear hfz62_4
              try clear hfz8_0
              try clear hfz8_1
              try clear hfz8_2
              try clear hfz8_3
              try clear hfz8_4
              try clear p2
              obtain ⟨kq, x54_36, rfl, HA, HJ36, HO_214000, HO_214004, HO_225000, HO_225004, HO_241000, HO_241004, BK213, BK224, BK240, HB⟩ := hcut
              have hl225000_36 := (Kd.R_reads' HO_225000.out).1
              rw [hl225000_36] at HO_225000
              (try simp only [hl225000_36])
              (try simp only [hl225000_36] at BK213)
              (try simp only [hl225000_36] at BK224)
              (try simp only [hl225000_36] at BK240)
              (try simp only [hl225000_36] at HO_214000)
              (try simp only [hl225000_36] at HO_214004)
              (try simp only [hl225000_36] at HO_225004)
              (try simp only [hl225000_36] at HO_241000)
              (try simp only [hl225000_36] at HO_241004)
              have hl225004_36 := (Kd.R_reads' HO_225004.out).1
              rw [hl225004_36] at HO_225004
              (try simp only [hl225004_36])
              (try simp only [hl225004_36] at BK213)
              (try simp only [hl225004_36] at BK224)
              (try simp only [hl225004_36] at BK240)
              (try simp only [hl225004_36] at HO_214000)
              (try simp only [hl225004_36] at HO_214004)
              (try simp only [hl225004_36] at HO_225000)
              (try simp only [hl225004_36] at HO_241000)
              (try simp only [hl225004_36] at HO_241004)
              cases kq with
              | zero => exact absurd HA.out (by simp [laws_FnExactHeapNew.j1])
              | succ kj36 =>
                have H := HA.out
                clear HA
                simp only [laws_FnExactHeapNew.j1] at H
                by_cases c64 : x54_36 = true
                · subst c64
                  have H1 : (some false) = some r := by rw [if_pos rfl] at H; exact H
                  clear H
                  have H := H1
                  clear H1
                  obtain rfl := Option.some.inj H
                  go_wp2
                  go_ret
                  exact ⟨by first | rfl | (simp [errW_none, errW_some] <;> rfl) | (simp [*, errW_none, errW_some] <;> rfl), by repeat (first | (with_reducible first | exact HB.out | apply below_alloc | apply pw_below_drewN | apply below_drew1 | refine below_set ?_ GE213.out | refine below_set ?_ GE224.out | refine below_set ?_ GE240.out) | exact HB.out)⟩
                · replace c64 := Bool.eq_false_iff.mpr c64
                  subst c64
                  have H1 : ((laws_heldHeap.f kj36 t227 t217 t218 t219 t228 1).bind fun t242 => (if t242 < 0 then (some false) else (if t242 = t226 then (some true) else (some false)))) = some r := by rw [if_neg (show ¬ (false = true) by decide)] at H; exact H
                  clear H
                  have H := H1
                  clear H1
                  replace H := Option.bind_eq_some_iff.mp H
                  obtain ⟨t242, A650, H⟩ := H
                  replace H : (if t242 < 0 then (some false) else (if t242 = t226 then (some true) else (some false))) = some r := H
                  have A65 := Aside0.mk A650
                  clear A650
                  by_cases c66 : t242 < 0
                  · rw [if_pos c66] at H
                    have c66b0 : decide (t242 < 0) = true := decide_eq_true c66
                    clear c66
                    obtain rfl := Option.some.inj H
                    have hnb67 := NB224_213.out
                    have hnc67 := NB213_224.out
                    have hnb68 := NB224_240.out
                    have hnc68 := NB240_224.out
                    have hcz69_0 : wc.cell? ⟨gb224, 0, none⟩ = some (.slice Ao12 t227.length co12) := (blk_cell BK224.out 0).trans rfl
                    have hcz69_1 : wc.cell? ⟨gb224, 1, none⟩ = some (.int .i64 t217) := (blk_cell BK224.out 1).trans rfl
                    have hcz69_2 : wc.cell? ⟨gb224, 2, none⟩ = some (.int .i64 t218) := (blk_cell BK224.out 2).trans rfl
                    have hcz69_3 : wc.cell? ⟨gb224, 3, none⟩ = some (.int .i64 t219) := (blk_cell BK224.out 3).trans rfl
                    have hcz69_4 : wc.cell? ⟨gb224, 4, none⟩ = some (.slice Ao15 t228.length co15) := (blk_cell BK224.out 4).trans rfl
                    have hfz69_0 := blk_frozen BK224.out 0
                    have hfz69_1 := blk_frozen BK224.out 1
                    have hfz69_2 := blk_frozen BK224.out 2
                    have hfz69_3 := blk_frozen BK224.out 3
                    have hfz69_4 := blk_frozen BK224.out 4
                    go_wp2_with (first | ((with_reducible refine gate_callee (f := 19) rfl ?_); refine goesL_ (some 57) rfl rfl Try.func19 (by kernel_rfl) rfl #[.agg #[.slice Ao12 t227.length co12, .int .i64 t217, .int .i64 t218, .int .i64 t219, .slice Ao15 t228.length co15], .int .i64 1] rfl (by (try simp only [List.map_toArray, List.map_cons, List.map_nil]); first | done | rfl | (simp only [List.length_drop, List.length_take]; rfl)) ?_; (with_reducible refine (laws_heldHeap.calls kj36 _ _ t227 t217 t218 t219 _ _ t228 1 t242 _ ?side1 ?side2 ?side3 ?side4 A65.out).mono ?_); (case side1 => repeat (first | exact (Kd.R_reads' HO_225000.out).2.2 | (with_reducible refine Kd.C_alloc ?_ _) | (with_reducible refine Kd.C_drewN ?_ _) | (with_reducible refine Kd.C_drew ?_))); (case side2 => exact (Kd.R_reads' HO_225000.out).2.1); (case side3 => repeat (first | exact (Kd.R_reads' HO_225004.out).2.2 | (with_reducible refine Kd.C_alloc ?_ _) | (with_reducible refine Kd.C_drewN ?_ _) | (with_reducible refine Kd.C_drew ?_))); (case side4 => exact (Kd.R_reads' HO_225004.out).2.1); rintro e w70 ⟨rfl, hb⟩; refine ⟨_, rfl, ?_⟩; have n0_ := Aside0.mk (Kd.R_below (by (with_reducible repeat (first | apply Kd.R_alloc | apply Kd.R_drewN | apply Kd.R_drew)); exact HO_214000.out) hb); have n1_ := Aside0.mk (Kd.R_below (by (with_reducible repeat (first | apply Kd.R_alloc | apply Kd.R_drewN | apply Kd.R_drew)); exact HO_214004.out) hb); have n2_ := Aside0.mk (Kd.R_below (by (with_reducible repeat (first | apply Kd.R_alloc | apply Kd.R_drewN | apply Kd.R_drew)); exact HO_225000.out) hb); have n3_ := Aside0.mk (Kd.R_below (by (with_reducible repeat (first | apply Kd.R_alloc | apply Kd.R_drewN | apply Kd.R_drew)); exact HO_225004.out) hb); have n4_ := Aside0.mk (Kd.R_below (by (with_reducible repeat (first | apply Kd.R_alloc | apply Kd.R_drewN | apply Kd.R_drew)); exact HO_241000.out) hb); have n5_ := Aside0.mk (Kd.R_below (by (with_reducible repeat (first | apply Kd.R_alloc | apply Kd.R_drewN | apply Kd.R_drew)); exact HO_241004.out) hb); have n6_ := Aside0.mk (blk_below (g := gb213) (o := .cells #[.slice Ao7 t203.length co7, .int .i64 t206, .int .i64 t207, .int .i64 t208, .slice Ao9 t209.length co9] 30 (0, 0)) (by (with_reducible repeat (first | refine blk_drewN ?_ _ | refine blk_drew ?_ | refine blk_alloc ?_ _)); exact BK213.out) hb); have n7_ := Aside0.mk (blk_below (g := gb224) (o := .cells #[.slice Ao12 t227.length co12, .int .i64 t217, .int .i64 t218, .int .i64 t219, .slice Ao15 t228.length co15] 30 (0, 0)) (by (with_reducible repeat (first | refine blk_drewN ?_ _ | refine blk_drew ?_ | refine blk_alloc ?_ _)); exact BK224.out) hb); have n8_ := Aside0.mk (blk_below (g := gb240) (o := .cells #[.slice Ao45 t230.length co45, .int .i64 t233, .int .i64 t234, .int .i64 t235, .slice Ao49 t236.length co49] 30 (0, 0)) (by (with_reducible repeat (first | refine blk_drewN ?_ _ | refine blk_drew ?_ | refine blk_alloc ?_ _)); exact BK240.out) hb); have n9_ := Aside0.mk (below_step (by repeat (first | (with_reducible first | exact HB.out | apply below_alloc | apply pw_below_drewN | apply below_drew1 | refine below_set ?_ GE213.out | refine below_set ?_ GE224.out | refine below_set ?_ GE240.out) | exact HB.out)) hb); clear HO_214000; clear HO_214004; clear HO_225000; clear HO_225004; clear HO_241000; clear HO_241004; clear BK213; clear BK224; clear BK240; clear HB; have HO_214000 := n0_; have HO_214004 := n1_; have HO_225000 := n2_; have HO_225004 := n3_; have HO_241000 := n4_; have HO_241004 := n5_; have BK213 := n6_; have BK224 := n7_; have BK240 := n8_; have HB := n9_; clear n0_ n1_ n2_ n3_ n4_ n5_ n6_ n7_ n8_ n9_; (try clear hb); (try clear hb2); (try clear hk); (try clear hi)))
                    go_ret
                    exact ⟨by first | rfl | (simp [errW_none, errW_some] <;> rfl) | (simp [*, errW_none, errW_some] <;> rfl), by repeat (first | (with_reducible first | exact HB.out | apply below_alloc | apply pw_below_drewN | apply below_drew1 | refine below_set ?_ GE213.out | refine below_set ?_ GE224.out | refine below_set ?_ GE240.out) | exact HB.out)⟩
                  · rw [if_neg c66] at H
                    have c66b0 : decide (t242 < 0) = false := decide_eq_false c66
                    clear c66
                    by_cases c71 : t242 = t226
                    · rw [if_pos c71] at H
                      have c71b0 : (t242 == t226) = true := beq_iff_eq.mpr c71
                      have c71b1 : (t242 != t226) = false := bne_eq_false_iff_eq.mpr c71
                      clear c71
                      obtain rfl := Option.some.inj H
                      have hnb72 := NB224_213.out
                      have hnc72 := NB213_224.out
                      have hnb73 := NB224_240.out
                      have hnc73 := NB240_224.out
                      have hcz74_0 : wc.cell? ⟨gb224, 0, none⟩ = some (.slice Ao12 t227.length co12) := (blk_cell BK224.out 0).trans rfl
                      have hcz74_1 : wc.cell? ⟨gb224, 1, none⟩ = some (.int .i64 t217) := (blk_cell BK224.out 1).trans rfl
                      have hcz74_2 : wc.cell? ⟨gb224, 2, none⟩ = some (.int .i64 t218) := (blk_cell BK224.out 2).trans rfl
                      have hcz74_3 : wc.cell? ⟨gb224, 3, none⟩ = some (.int .i64 t219) := (blk_cell BK224.out 3).trans rfl
                      have hcz74_4 : wc.cell? ⟨gb224, 4, none⟩ = some (.slice Ao15 t228.length co15) := (blk_cell BK224.out 4).trans rfl
                      have hfz74_0 := blk_frozen BK224.out 0
                      have hfz74_1 := blk_frozen BK224.out 1
                      have hfz74_2 := blk_frozen BK224.out 2
                      have hfz74_3 := blk_frozen BK224.out 3
                      have hfz74_4 := blk_frozen BK224.out 4
                      go_wp2_with (first | ((with_reducible refine gate_callee (f := 19) rfl ?_); refine goesL_ (some 57) rfl rfl Try.func19 (by kernel_rfl) rfl #[.agg #[.slice Ao12 t227.length co12, .int .i64 t217, .int .i64 t218, .int .i64 t219, .slice Ao15 t228.length co15], .int .i64 1] rfl (by (try simp only [List.map_toArray, List.map_cons, List.map_nil]); first | done | rfl | (simp only [List.length_drop, List.length_take]; rfl)) ?_; (with_reducible refine (laws_heldHeap.calls kj36 _ _ t227 t217 t218 t219 _ _ t228 1 t242 _ ?side1 ?side2 ?side3 ?side4 A65.out).mono ?_); (case side1 => repeat (first | exact (Kd.R_reads' HO_225000.out).2.2 | (with_reducible refine Kd.C_alloc ?_ _) | (with_reducible refine Kd.C_drewN ?_ _) | (with_reducible refine Kd.C_drew ?_))); (case side2 => exact (Kd.R_reads' HO_225000.out).2.1); (case side3 => repeat (first | exact (Kd.R_reads' HO_225004.out).2.2 | (with_reducible refine Kd.C_alloc ?_ _) | (with_reducible refine Kd.C_drewN ?_ _) | (with_reducible refine Kd.C_drew ?_))); (case side4 => exact (Kd.R_reads' HO_225004.out).2.1); rintro e w75 ⟨rfl, hb⟩; refine ⟨_, rfl, ?_⟩; have n0_ := Aside0.mk (Kd.R_below (by (with_reducible repeat (first | apply Kd.R_alloc | apply Kd.R_drewN | apply Kd.R_drew)); exact HO_214000.out) hb); have n1_ := Aside0.mk (Kd.R_below (by (with_reducible repeat (first | apply Kd.R_alloc | apply Kd.R_drewN | apply Kd.R_drew)); exact HO_214004.out) hb); have n2_ := Aside0.mk (Kd.R_below (by (with_reducible repeat (first | apply Kd.R_alloc | apply Kd.R_drewN | apply Kd.R_drew)); exact HO_225000.out) hb); have n3_ := Aside0.mk (Kd.R_below (by (with_reducible repeat (first | apply Kd.R_alloc | apply Kd.R_drewN | apply Kd.R_drew)); exact HO_225004.out) hb); have n4_ := Aside0.mk (Kd.R_below (by (with_reducible repeat (first | apply Kd.R_alloc | apply Kd.R_drewN | apply Kd.R_drew)); exact HO_241000.out) hb); have n5_ := Aside0.mk (Kd.R_below (by (with_reducible repeat (first | apply Kd.R_alloc | apply Kd.R_drewN | apply Kd.R_drew)); exact HO_241004.out) hb); have n6_ := Aside0.mk (blk_below (g := gb213) (o := .cells #[.slice Ao7 t203.length co7, .int .i64 t206, .int .i64 t207, .int .i64 t208, .slice Ao9 t209.length co9] 30 (0, 0)) (by (with_reducible repeat (first | refine blk_drewN ?_ _ | refine blk_drew ?_ | refine blk_alloc ?_ _)); exact BK213.out) hb); have n7_ := Aside0.mk (blk_below (g := gb224) (o := .cells #[.slice Ao12 t227.length co12, .int .i64 t217, .int .i64 t218, .int .i64 t219, .slice Ao15 t228.length co15] 30 (0, 0)) (by (with_reducible repeat (first | refine blk_drewN ?_ _ | refine blk_drew ?_ | refine blk_alloc ?_ _)); exact BK224.out) hb); have n8_ := Aside0.mk (blk_below (g := gb240) (o := .cells #[.slice Ao45 t230.length co45, .int .i64 t233, .int .i64 t234, .int .i64 t235, .slice Ao49 t236.length co49] 30 (0, 0)) (by (with_reducible repeat (first | refine blk_drewN ?_ _ | refine blk_drew ?_ | refine blk_alloc ?_ _)); exact BK240.out) hb); have n9_ := Aside0.mk (below_step (by repeat (first | (with_reducible first | exact HB.out | apply below_alloc | apply pw_below_drewN | apply below_drew1 | refine below_set ?_ GE213.out | refine below_set ?_ GE224.out | refine below_set ?_ GE240.out) | exact HB.out)) hb); clear HO_214000; clear HO_214004; clear HO_225000; clear HO_225004; clear HO_241000; clear HO_241004; clear BK213; clear BK224; clear BK240; clear HB; have HO_214000 := n0_; have HO_214004 := n1_; have HO_225000 := n2_; have HO_225004 := n3_; have HO_241000 := n4_; have HO_241004 := n5_; have BK213 := n6_; have BK224 := n7_; have BK240 := n8_; have HB := n9_; clear n0_ n1_ n2_ n3_ n4_ n5_ n6_ n7_ n8_ n9_; (try clear hb); (try clear hb2); (try clear hk); (try clear hi)))
                      go_ret
                      exact ⟨by first | rfl | (simp [errW_none, errW_some] <;> rfl) | (simp [*, errW_none, errW_some] <;> rfl), by repeat (first | (with_reducible first | exact HB.out | apply below_alloc | apply pw_below_drewN | apply below_drew1 | refine below_set ?_ GE213.out | refine below_set ?_ GE224.out | refine below_set ?_ GE240.out) | exact HB.out)⟩
                    · rw [if_neg c71] at H
                      have c71b0 : (t242 == t226) = false := beq_eq_false_iff_ne.mpr c71
                      have c71b1 : (t242 != t226) = true := bne_iff_ne.mpr c71
                      obtain rfl := Option.some.inj H
                      have hnb76 := NB224_213.out
                      have hnc76 := NB213_224.out
                      have hnb77 := NB224_240.out
                      have hnc77 := NB240_224.out
                      have hcz78_0 : wc.cell? ⟨gb224, 0, none⟩ = some (.slice Ao12 t227.length co12) := (blk_cell BK224.out 0).trans rfl
                      have hcz78_1 : wc.cell? ⟨gb224, 1, none⟩ = some (.int .i64 t217) := (blk_cell BK224.out 1).trans rfl
                      have hcz78_2 : wc.cell? ⟨gb224, 2, none⟩ = some (.int .i64 t218) := (blk_cell BK224.out 2).trans rfl
                      have hcz78_3 : wc.cell? ⟨gb224, 3, none⟩ = some (.int .i64 t219) := (blk_cell BK224.out 3).trans rfl
                      have hcz78_4 : wc.cell? ⟨gb224, 4, none⟩ = some (.slice Ao15 t228.length co15) := (blk_cell BK224.out 4).trans rfl
                      have hfz78_0 := blk_frozen BK224.out 0
                      have hfz78_1 := blk_frozen BK224.out 1
                      have hfz78_2 := blk_frozen BK224.out 2
                      have hfz78_3 := blk_frozen BK224.out 3
                      have hfz78_4 := blk_frozen BK224.out 4
                      go_wp2_with (first | ((with_reducible refine gate_callee (f := 19) rfl ?_); refine goesL_ (some 57) rfl rfl Try.func19 (by kernel_rfl) rfl #[.agg #[.slice Ao12 t227.length co12, .int .i64 t217, .int .i64 t218, .int .i64 t219, .slice Ao15 t228.length co15], .int .i64 1] rfl (by (try simp only [List.map_toArray, List.map_cons, List.map_nil]); first | done | rfl | (simp only [List.length_drop, List.length_take]; rfl)) ?_; (with_reducible refine (laws_heldHeap.calls kj36 _ _ t227 t217 t218 t219 _ _ t228 1 t242 _ ?side1 ?side2 ?side3 ?side4 A65.out).mono ?_); (case side1 => repeat (first | exact (Kd.R_reads' HO_225000.out).2.2 | (with_reducible refine Kd.C_alloc ?_ _) | (with_reducible refine Kd.C_drewN ?_ _) | (with_reducible refine Kd.C_drew ?_))); (case side2 => exact (Kd.R_reads' HO_225000.out).2.1); (case side3 => repeat (first | exact (Kd.R_reads' HO_225004.out).2.2 | (with_reducible refine Kd.C_alloc ?_ _) | (with_reducible refine Kd.C_drewN ?_ _) | (with_reducible refine Kd.C_drew ?_))); (case side4 => exact (Kd.R_reads' HO_225004.out).2.1); rintro e w79 ⟨rfl, hb⟩; refine ⟨_, rfl, ?_⟩; have n0_ := Aside0.mk (Kd.R_below (by (with_reducible repeat (first | apply Kd.R_alloc | apply Kd.R_drewN | apply Kd.R_drew)); exact HO_214000.out) hb); have n1_ := Aside0.mk (Kd.R_below (by (with_reducible repeat (first | apply Kd.R_alloc | apply Kd.R_drewN | apply Kd.R_drew)); exact HO_214004.out) hb); have n2_ := Aside0.mk (Kd.R_below (by (with_reducible repeat (first | apply Kd.R_alloc | apply Kd.R_drewN | apply Kd.R_drew)); exact HO_225000.out) hb); have n3_ := Aside0.mk (Kd.R_below (by (with_reducible repeat (first | apply Kd.R_alloc | apply Kd.R_drewN | apply Kd.R_drew)); exact HO_225004.out) hb); have n4_ := Aside0.mk (Kd.R_below (by (with_reducible repeat (first | apply Kd.R_alloc | apply Kd.R_drewN | apply Kd.R_drew)); exact HO_241000.out) hb); have n5_ := Aside0.mk (Kd.R_below (by (with_reducible repeat (first | apply Kd.R_alloc | apply Kd.R_drewN | apply Kd.R_drew)); exact HO_241004.out) hb); have n6_ := Aside0.mk (blk_below (g := gb213) (o := .cells #[.slice Ao7 t203.length co7, .int .i64 t206, .int .i64 t207, .int .i64 t208, .slice Ao9 t209.length co9] 30 (0, 0)) (by (with_reducible repeat (first | refine blk_drewN ?_ _ | refine blk_drew ?_ | refine blk_alloc ?_ _)); exact BK213.out) hb); have n7_ := Aside0.mk (blk_below (g := gb224) (o := .cells #[.slice Ao12 t227.length co12, .int .i64 t217, .int .i64 t218, .int .i64 t219, .slice Ao15 t228.length co15] 30 (0, 0)) (by (with_reducible repeat (first | refine blk_drewN ?_ _ | refine blk_drew ?_ | refine blk_alloc ?_ _)); exact BK224.out) hb); have n8_ := Aside0.mk (blk_below (g := gb240) (o := .cells #[.slice Ao45 t230.length co45, .int .i64 t233, .int .i64 t234, .int .i64 t235, .slice Ao49 t236.length co49] 30 (0, 0)) (by (with_reducible repeat (first | refine blk_drewN ?_ _ | refine blk_drew ?_ | refine blk_alloc ?_ _)); exact BK240.out) hb); have n9_ := Aside0.mk (below_step (by repeat (first | (with_reducible first | exact HB.out | apply below_alloc | apply pw_below_drewN | apply below_drew1 | refine below_set ?_ GE213.out | refine below_set ?_ GE224.out | refine below_set ?_ GE240.out) | exact HB.out)) hb); clear HO_214000; clear HO_214004; clear HO_225000; clear HO_225004; clear HO_241000; clear HO_241004; clear BK213; clear BK224; clear BK240; clear HB; have HO_214000 := n0_; have HO_214004 := n1_; have HO_225000 := n2_; have HO_225004 := n3_; have HO_241000 := n4_; have HO_241004 := n5_; have BK213 := n6_; have BK224 := n7_; have BK240 := n8_; have HB := n9_; clear n0_ n1_ n2_ n3_ n4_ n5_ n6_ n7_ n8_ n9_; (try clear hb); (try clear hb2); (try clear hk); (try clear hi)))
                      go_ret
                      exact ⟨by first | rfl | (simp [errW_none, errW_some] <;> rfl) | (simp [*, errW_none, errW_some] <;> rfl), by repeat (first | (with_reducible first | exact HB.out | apply below_alloc | apply pw_below_drewN | apply below_drew1 | refine below_set ?_ GE213.out | refine below_set ?_ GE224.out | refine below_set ?_ GE240.out) | exact HB.out)⟩
          · rw [if_neg c35] at H
            have c35b0 : (t229 == t226) = false := beq_eq_false_iff_ne.mpr c35
            have c35b1 : (t229 != t226) = true := bne_iff_ne.mpr c35
            obtain rfl := Option.some.inj H
            have hnb80 := NB224_213.out
            have hnc80 := NB213_224.out
            have hcz81_0 : wc.cell? ⟨gb224, 0, none⟩ = some (.slice Ao12 t214.length co12) := (blk_cell BK224.out 0).trans rfl
            have hcz81_1 : wc.cell? ⟨gb224, 1, none⟩ = some (.int .i64 t217) := (blk_cell BK224.out 1).trans rfl
            have hcz81_2 : wc.cell? ⟨gb224, 2, none⟩ = some (.int .i64 t218) := (blk_cell BK224.out 2).trans rfl
            have hcz81_3 : wc.cell? ⟨gb224, 3, none⟩ = some (.int .i64 t219) := (blk_cell BK224.out 3).trans rfl
            have hcz81_4 : wc.cell? ⟨gb224, 4, none⟩ = some (.slice Ao15 t220.length co15) := (blk_cell BK224.out 4).trans rfl
            have hfz81_0 := blk_frozen BK224.out 0
            have hfz81_1 := blk_frozen BK224.out 1
            have hfz81_2 := blk_frozen BK224.out 2
            have hfz81_3 := blk_frozen BK224.out 3
            have hfz81_4 := blk_frozen BK224.out 4
            go_wp2_with (first | ((with_reducible refine gate_callee (f := 18) rfl ?_); refine goesL_ (some 32) rfl rfl Try.func18 (by kernel_rfl) rfl #[.agg #[.slice Ao12 t214.length co12, .int .i64 t217, .int .i64 t218, .int .i64 t219, .slice Ao15 t220.length co15], .int .i64 1] rfl (by (try simp only [List.map_toArray, List.map_cons, List.map_nil]); first | done | rfl | (simp only [List.length_drop, List.length_take]; rfl)) ?_; (with_reducible refine (laws_markHeap.calls kj3 (fun k_ => some k_ = (.slice Ao12 t214.length co12 : Value).ownBlock) (.slice Ao12 t214.length co12) t214 t217 t218 t219 (fun k_ => some k_ = (.slice Ao15 t220.length co15 : Value).ownBlock) (.slice Ao15 t220.length co15) t220 1 t226 t227 t228 w _ ?side1 ?side2 ?side3 A27.out).mono ?_); (case side1 => repeat (first | (with_reducible first | exact HB.out | apply below_alloc | apply pw_below_drewN | apply below_drew1 | refine below_set ?_ GE213.out | refine below_set ?_ GE224.out) | exact HB.out)); (case side2 => exact Kd.R_tight rfl HO_225000.out); (case side3 => exact Kd.R_tight rfl HO_225004.out); rintro e w82 ⟨rfl, hy0, hy1, hb, hkp⟩; refine ⟨_, rfl, ?_⟩; have n0_ := Aside0.mk (Kd.R_mono (ok' := fun k_ => some k_ ≠ (.slice Ao12 t214.length co12 : Value).ownBlock) (Kd.R_keptB ((Kd.R_apart' HO_214000.out (Kd.R_typed HO_225004.out) (by decide))) hkp (fun k_ hk_ hs_ => Or.elim hs_ (fun e_ => (hk_.1) e_) (fun e_ => (hk_.2) e_))) (fun k_ hk_ => hk_.1.1)); have n1_ := Aside0.mk (Kd.R_mono (ok' := fun k_ => some k_ ≠ (.slice Ao15 t220.length co15 : Value).ownBlock) (Kd.R_keptB ((Kd.R_apart' HO_214004.out (Kd.R_typed HO_225000.out) (by decide))) hkp (fun k_ hk_ hs_ => Or.elim hs_ (fun e_ => (hk_.2) e_) (fun e_ => (hk_.1) e_))) (fun k_ hk_ => hk_.1.1)); have n2_ := Aside0.mk (Kd.R_reok rfl hy0 (fun k_ e_ => HO_225000.out.1 k_ e_)); have n3_ := Aside0.mk (Kd.R_reok rfl hy1 (fun k_ e_ => HO_225004.out.1 k_ e_)); have n4_ := Aside0.mk (blk_kept (by (with_reducible repeat (first | refine blk_drewN ?_ _ | refine blk_drew ?_ | refine blk_alloc ?_ _)); exact BK213.out) hkp (fun hs_ => Or.elim hs_ (fun e_ => (fun e_ => (Kd.R_ne HO_225000.out BK213.out (by decide)) e_) e_) (fun e_ => (fun e_ => (Kd.R_ne HO_225004.out BK213.out (by decide)) e_) e_))); have n5_ := Aside0.mk (blk_kept (by (with_reducible repeat (first | refine blk_drewN ?_ _ | refine blk_drew ?_ | refine blk_alloc ?_ _)); exact BK224.out) hkp (fun hs_ => Or.elim hs_ (fun e_ => (fun e_ => (Kd.R_ne HO_225000.out BK224.out (by decide)) e_) e_) (fun e_ => (fun e_ => (Kd.R_ne HO_225004.out BK224.out (by decide)) e_) e_))); have n6_ := Aside0.mk (hb); clear HO_214000; clear HO_214004; clear HO_225000; clear HO_225004; clear BK213; clear BK224; clear HB; have HO_214000 := n0_; have HO_214004 := n1_; have HO_225000 := n2_; have HO_225004 := n3_; have BK213 := n4_; have BK224 := n5_; have HB := n6_; clear n0_ n1_ n2_ n3_ n4_ n5_ n6_; (try clear hb); (try clear hkp); (try clear hy0); (try clear hy1); have hcz83_0 : w82.cell? ⟨gb224, 0, none⟩ = some (.slice Ao12 t214.length co12) := (blk_cell BK224.out 0).trans rfl; have hcz83_1 : w82.cell? ⟨gb224, 1, none⟩ = some (.int .i64 t217) := (blk_cell BK224.out 1).trans rfl; have hcz83_2 : w82.cell? ⟨gb224, 2, none⟩ = some (.int .i64 t218) := (blk_cell BK224.out 2).trans rfl; have hcz83_3 : w82.cell? ⟨gb224, 3, none⟩ = some (.int .i64 t219) := (blk_cell BK224.out 3).trans rfl; have hcz83_4 : w82.cell? ⟨gb224, 4, none⟩ = some (.slice Ao15 t220.length co15) := (blk_cell BK224.out 4).trans rfl; have hfz83_0 := blk_frozen BK224.out 0; have hfz83_1 := blk_frozen BK224.out 1; have hfz83_2 := blk_frozen BK224.out 2; have hfz83_3 := blk_frozen BK224.out 3; have hfz83_4 := blk_frozen BK224.out 4) | ((with_reducible refine gate_callee (f := 19) rfl ?_); refine goesL_ (some 35) rfl rfl Try.func19 (by kernel_rfl) rfl #[.agg #[.slice Ao12 t227.length co12, .int .i64 t217, .int .i64 t218, .int .i64 t219, .slice Ao15 t228.length co15], .int .i64 1] rfl (by (try simp only [List.map_toArray, List.map_cons, List.map_nil]); first | done | (rw [show t227.length = t214.length from (Kd.R_reads' HO_225000.out).1.symm, show t228.length = t220.length from (Kd.R_reads' HO_225004.out).1.symm] <;> rfl) | rfl | (simp only [List.length_drop, List.length_take]; rfl)) ?_; (with_reducible refine (laws_heldHeap.calls kj3 _ _ t227 t217 t218 t219 _ _ t228 1 t229 _ ?side1 ?side2 ?side3 ?side4 A28.out).mono ?_); (case side1 => repeat (first | exact (Kd.R_reads' HO_225000.out).2.2 | (with_reducible refine Kd.C_alloc ?_ _) | (with_reducible refine Kd.C_drewN ?_ _) | (with_reducible refine Kd.C_drew ?_))); (case side2 => rw [show t227.length = t214.length from (Kd.R_reads' HO_225000.out).1.symm]; exact (Kd.R_reads' HO_225000.out).2.1); (case side3 => repeat (first | exact (Kd.R_reads' HO_225004.out).2.2 | (with_reducible refine Kd.C_alloc ?_ _) | (with_reducible refine Kd.C_drewN ?_ _) | (with_reducible refine Kd.C_drew ?_))); (case side4 => rw [show t228.length = t220.length from (Kd.R_reads' HO_225004.out).1.symm]; exact (Kd.R_reads' HO_225004.out).2.1); rintro e w84 ⟨rfl, hb⟩; refine ⟨_, rfl, ?_⟩; have n0_ := Aside0.mk (Kd.R_below (by (with_reducible repeat (first | apply Kd.R_alloc | apply Kd.R_drewN | apply Kd.R_drew)); exact HO_214000.out) hb); have n1_ := Aside0.mk (Kd.R_below (by (with_reducible repeat (first | apply Kd.R_alloc | apply Kd.R_drewN | apply Kd.R_drew)); exact HO_214004.out) hb); have n2_ := Aside0.mk (Kd.R_below (by (with_reducible repeat (first | apply Kd.R_alloc | apply Kd.R_drewN | apply Kd.R_drew)); exact HO_225000.out) hb); have n3_ := Aside0.mk (Kd.R_below (by (with_reducible repeat (first | apply Kd.R_alloc | apply Kd.R_drewN | apply Kd.R_drew)); exact HO_225004.out) hb); have n4_ := Aside0.mk (blk_below (g := gb213) (o := .cells #[.slice Ao7 t203.length co7, .int .i64 t206, .int .i64 t207, .int .i64 t208, .slice Ao9 t209.length co9] 30 (0, 0)) (by (with_reducible repeat (first | refine blk_drewN ?_ _ | refine blk_drew ?_ | refine blk_alloc ?_ _)); exact BK213.out) hb); have n5_ := Aside0.mk (blk_below (g := gb224) (o := .cells #[.slice Ao12 t214.length co12, .int .i64 t217, .int .i64 t218, .int .i64 t219, .slice Ao15 t220.length co15] 30 (0, 0)) (by (with_reducible repeat (first | refine blk_drewN ?_ _ | refine blk_drew ?_ | refine blk_alloc ?_ _)); exact BK224.out) hb); have n6_ := Aside0.mk (below_step (by repeat (first | (with_reducible first | exact HB.out | apply below_alloc | apply pw_below_drewN | apply below_drew1 | refine below_set ?_ GE213.out | refine below_set ?_ GE224.out) | exact HB.out)) hb); clear HO_214000; clear HO_214004; clear HO_225000; clear HO_225004; clear BK213; clear BK224; clear HB; have HO_214000 := n0_; have HO_214004 := n1_; have HO_225000 := n2_; have HO_225004 := n3_; have BK213 := n4_; have BK224 := n5_; have HB := n6_; clear n0_ n1_ n2_ n3_ n4_ n5_ n6_; (try clear hb); (try clear hb2); (try clear hk); (try clear hi)))
            go_ret
            exact ⟨by first | rfl | (simp [errW_none, errW_some] <;> rfl) | (simp [*, errW_none, errW_some] <;> rfl), by repeat (first | (with_reducible first | exact HB.out | apply below_alloc | apply pw_below_drewN | apply below_drew1 | refine below_set ?_ GE213.out | refine below_set ?_ GE224.out) | exact HB.out)⟩

/-- THE ONE PURE STATEMENT of laws_FnExactHeapNew: yours. -/
def laws_FnExactHeapNew.Pure : Prop := ∀ (a0 : Int), (Lit.int .i64 a0).wf = true → ∃ k, laws_FnExactHeapNew.f k a0 = some true
theorem laws_FnExactHeapNew.walk (P : laws_FnExactHeapNew.Pure) (a0 : Int) (w : World) (w0 : (Lit.int .i64 a0).wf = true) :
    Calls Try.prog 4 #[.int .i64 a0] w fun e w' => e = .returned (.bool true) ∧ Below w.heap.size w w' := by
  obtain ⟨k, h⟩ := P a0 w0
  refine (laws_FnExactHeapNew.calls k a0 true w h).mono ?_
  rintro e w' ⟨rfl, hd⟩
  exact ⟨rfl, hd⟩

end Go.Proofs.Ytblaelhcgemdeaa.PA
