/-
  FnExactLowNodes is true, whatever its arguments are, and leaves them as they were.
-/
import Derived.Test.YtepljphcjpcpiaaRows
import Derived.Test.YtepljphcjpcpiaaPLowNodes
import Derived.Test.YtepljphcjpcpiaaEvRd
import Derived.WalkKit
import Derived.ProofKit
import Derived.OpenShut
import Derived.ShutString
import Derived.ChangeOld
import Derived.SizedLaws
import Derived.Carry
namespace Go.Ev.Q
open Go Go.Ev Go.RowKit Go.Proofs Go.Proofs.Ytepljphcjpcpiaa
set_option linter.unusedVariables false
theorem len3_ {cs : List Value} (h : cs.length = 3) : ∃ v0 v1 v2, cs = [v0, v1, v2] := by
  match cs, h with
  | [v0, v1, v2], _ => exact ⟨v0, v1, v2, rfl⟩
theorem len13_ {cs : List Value} (h : cs.length = 13) : ∃ v0 v1 v2 v3 v4 v5 v6 v7 v8 v9 v10 v11 v12, cs = [v0, v1, v2, v3, v4, v5, v6, v7, v8, v9, v10, v11, v12] := by
  match cs, h with
  | [v0, v1, v2, v3, v4, v5, v6, v7, v8, v9, v10, v11, v12], _ => exact ⟨v0, v1, v2, v3, v4, v5, v6, v7, v8, v9, v10, v11, v12, rfl⟩
theorem len15_ {cs : List Value} (h : cs.length = 15) : ∃ v0 v1 v2 v3 v4 v5 v6 v7 v8 v9 v10 v11 v12 v13 v14, cs = [v0, v1, v2, v3, v4, v5, v6, v7, v8, v9, v10, v11, v12, v13, v14] := by
  match cs, h with
  | [v0, v1, v2, v3, v4, v5, v6, v7, v8, v9, v10, v11, v12, v13, v14], _ => exact ⟨v0, v1, v2, v3, v4, v5, v6, v7, v8, v9, v10, v11, v12, v13, v14, rfl⟩
theorem rd_Ty {H : Type} {enc : TypeId × Value → H} {w : World} {base : Nat} {spare : Nat → Bool} {held : Bool} : ∀ (n : Nat), ∀ cs y, DataW.trod enc Try.prog w base spare held n 25 cs = some y → ∃ t : Ty, RVs w (allC w) [] cs (LS.encs sh_Ty t.ts) ∧ t.ok := by
  intro n
  induction n using Nat.strongRecOn with
  | _ n ih =>
  intro cs y h
  obtain ⟨xs, m, rfl, _, hl, hlen, hf⟩ := DataW.trod_struct Try.underlying25 h
  obtain ⟨v0, v1, v2, rfl⟩ := len3_ (hl.trans (by kernel_rfl))
  obtain ⟨y0, h0⟩ := read_field hlen hf 0 _ rfl (t := 3) (off := 0) rfl rfl (s := 1) (by kernel_rfl)
  replace h0 : DataW.trod enc Try.prog w base spare held m 3 [v0] = some y0 := h0
  obtain ⟨x0, e0, q0⟩ := read_int Try.underlying3 h0
  obtain rfl := List.head_eq_of_cons_eq e0
  obtain ⟨y1, h1⟩ := read_field hlen hf 1 _ rfl (t := 3) (off := 1) rfl rfl (s := 1) (by kernel_rfl)
  replace h1 : DataW.trod enc Try.prog w base spare held m 3 [v1] = some y1 := h1
  obtain ⟨x1, e1, q1⟩ := read_int Try.underlying3 h1
  obtain rfl := List.head_eq_of_cons_eq e1
  obtain ⟨y2, h2⟩ := read_field hlen hf 2 _ rfl (t := 23) (off := 2) rfl rfl (s := 1) (by kernel_rfl)
  replace h2 : DataW.trod enc Try.prog w base spare held m 23 [v2] = some y2 := h2
  obtain ⟨u2, x2, e2, r2, l2, q2⟩ := rd_rows (sh := sh_Ty) rfl Ty.ts Try.underlying23 (by kernel_rfl) (by decide) (Q := Ty.ok) (fun j hj => (ih j (by omega))) h2
  obtain rfl := List.head_eq_of_cons_eq e2
  exact ⟨.mk x0 x1 x2, by rw [Ty.ts_mk]; exact (z_cons z_int (z_cons z_int (z_cons (z_d r2) z_end))), .mk (wf_in q0) (wf_in q1) l2 q2⟩
theorem rd_Low_LowAlt {H : Type} {enc : TypeId × Value → H} {w : World} {base : Nat} {spare : Nat → Bool} {held : Bool} : ∀ (n : Nat), (∀ cs y, DataW.trod enc Try.prog w base spare held n 29 cs = some y → ∃ t : Low, RVs w (allC w) [] cs (LS.encs sh_Low t.ts) ∧ t.ok) ∧ (∀ cs y, DataW.trod enc Try.prog w base spare held n 165 cs = some y → ∃ t : LowAlt, RVs w (allC w) [] cs (LS.encs sh_LowAlt t.ts) ∧ t.ok) := by
  intro n
  induction n using Nat.strongRecOn with
  | _ n ih =>
  refine ⟨?_, ?_⟩
  · intro cs y h
    obtain ⟨xs, m, rfl, _, hl, hlen, hf⟩ := DataW.trod_struct Try.underlying29 h
    obtain ⟨v0, v1, v2, v3, v4, v5, v6, v7, v8, v9, v10, v11, v12, rfl⟩ := len13_ (hl.trans (by kernel_rfl))
    obtain ⟨y0, h0⟩ := read_field hlen hf 0 _ rfl (t := 3) (off := 0) rfl rfl (s := 1) (by kernel_rfl)
    replace h0 : DataW.trod enc Try.prog w base spare held m 3 [v0] = some y0 := h0
    obtain ⟨x0, e0, q0⟩ := read_int Try.underlying3 h0
    obtain rfl := List.head_eq_of_cons_eq e0
    obtain ⟨y1, h1⟩ := read_field hlen hf 1 _ rfl (t := 3) (off := 1) rfl rfl (s := 1) (by kernel_rfl)
    replace h1 : DataW.trod enc Try.prog w base spare held m 3 [v1] = some y1 := h1
    obtain ⟨x1, e1, q1⟩ := read_int Try.underlying3 h1
    obtain rfl := List.head_eq_of_cons_eq e1
    obtain ⟨y2, h2⟩ := read_field hlen hf 2 _ rfl (t := 3) (off := 2) rfl rfl (s := 1) (by kernel_rfl)
    replace h2 : DataW.trod enc Try.prog w base spare held m 3 [v2] = some y2 := h2
    obtain ⟨x2, e2, q2⟩ := read_int Try.underlying3 h2
    obtain rfl := List.head_eq_of_cons_eq e2
    obtain ⟨y3, h3⟩ := read_field hlen hf 3 _ rfl (t := 3) (off := 3) rfl rfl (s := 1) (by kernel_rfl)
    replace h3 : DataW.trod enc Try.prog w base spare held m 3 [v3] = some y3 := h3
    obtain ⟨x3, e3, q3⟩ := read_int Try.underlying3 h3
    obtain rfl := List.head_eq_of_cons_eq e3
    obtain ⟨y4, h4⟩ := read_field hlen hf 4 _ rfl (t := 22) (off := 4) rfl rfl (s := 1) (by kernel_rfl)
    replace h4 : DataW.trod enc Try.prog w base spare held m 22 [v4] = some y4 := h4
    obtain ⟨u4, x4, e4, r4, l4, q4⟩ := rd_nums Try.underlying22 Try.underlying5 (by kernel_rfl) h4
    obtain rfl := List.head_eq_of_cons_eq e4
    obtain ⟨y5, h5⟩ := read_field hlen hf 5 _ rfl (t := 25) (off := 5) rfl rfl (s := 3) (by kernel_rfl)
    replace h5 : DataW.trod enc Try.prog w base spare held m 25 [v5, v6, v7] = some y5 := h5
    obtain ⟨x5, k5, q5⟩ := rd_Ty m _ _ h5
    have p5_0 := z_un_cons k5
    have p5_1 := z_un_cons p5_0.2
    have p5_2 := z_un_cons p5_1.2
    obtain ⟨y6, h6⟩ := read_field hlen hf 6 _ rfl (t := 25) (off := 8) rfl rfl (s := 3) (by kernel_rfl)
    replace h6 : DataW.trod enc Try.prog w base spare held m 25 [v8, v9, v10] = some y6 := h6
    obtain ⟨x6, k6, q6⟩ := rd_Ty m _ _ h6
    have p6_0 := z_un_cons k6
    have p6_1 := z_un_cons p6_0.2
    have p6_2 := z_un_cons p6_1.2
    obtain ⟨y7, h7⟩ := read_field hlen hf 7 _ rfl (t := 26) (off := 11) rfl rfl (s := 1) (by kernel_rfl)
    replace h7 : DataW.trod enc Try.prog w base spare held m 26 [v11] = some y7 := h7
    obtain ⟨u7, x7, e7, r7, l7, q7⟩ := rd_rows (sh := sh_Low) rfl Low.ts Try.underlying26 (by kernel_rfl) (by decide) (Q := Low.ok) (fun j hj => (ih j (by omega)).1) h7
    obtain rfl := List.head_eq_of_cons_eq e7
    obtain ⟨y8, h8⟩ := read_field hlen hf 8 _ rfl (t := 27) (off := 12) rfl rfl (s := 1) (by kernel_rfl)
    replace h8 : DataW.trod enc Try.prog w base spare held m 27 [v12] = some y8 := h8
    obtain ⟨u8, x8, e8, r8, l8, q8⟩ := rd_rows (sh := sh_LowAlt) rfl LowAlt.ts Try.underlying27 (by kernel_rfl) (by decide) (Q := LowAlt.ok) (fun j hj => (ih j (by omega)).2) h8
    obtain rfl := List.head_eq_of_cons_eq e8
    exact ⟨.mk x0 x1 x2 x3 x4 x5 x6 x7 x8, by rw [Low.ts_mk]; exact (z_cons z_int (z_cons z_int (z_cons z_int (z_cons z_int (z_cons (z_d r4) (z_cons p5_0.1 (z_cons p5_1.1 (z_cons p5_2.1 (z_cons p6_0.1 (z_cons p6_1.1 (z_cons p6_2.1 (z_cons (z_d r7) (z_cons (z_d r8) z_end))))))))))))), .mk (wf_in q0) (wf_in q1) (wf_in q2) (wf_in q3) l4 q5 q6 l7 q7 l8 q8⟩
  · intro cs y h
    obtain ⟨xs, m, rfl, _, hl, hlen, hf⟩ := DataW.trod_struct Try.underlying165 h
    obtain ⟨v0, v1, v2, v3, v4, v5, v6, v7, v8, v9, v10, v11, v12, v13, v14, rfl⟩ := len15_ (hl.trans (by kernel_rfl))
    obtain ⟨y0, h0⟩ := read_field hlen hf 0 _ rfl (t := 3) (off := 0) rfl rfl (s := 1) (by kernel_rfl)
    replace h0 : DataW.trod enc Try.prog w base spare held m 3 [v0] = some y0 := h0
    obtain ⟨x0, e0, q0⟩ := read_int Try.underlying3 h0
    obtain rfl := List.head_eq_of_cons_eq e0
    obtain ⟨y1, h1⟩ := read_field hlen hf 1 _ rfl (t := 42) (off := 1) rfl rfl (s := 1) (by kernel_rfl)
    replace h1 : DataW.trod enc Try.prog w base spare held m 42 [v1] = some y1 := h1
    obtain ⟨u1, x1, e1, r1, l1, q1⟩ := rd_nums Try.underlying42 Try.underlying3 (by kernel_rfl) h1
    obtain rfl := List.head_eq_of_cons_eq e1
    obtain ⟨y2, h2⟩ := read_field hlen hf 2 _ rfl (t := 29) (off := 2) rfl rfl (s := 13) (by kernel_rfl)
    replace h2 : DataW.trod enc Try.prog w base spare held m 29 [v2, v3, v4, v5, v6, v7, v8, v9, v10, v11, v12, v13, v14] = some y2 := h2
    obtain ⟨x2, k2, q2⟩ := (ih m (by omega)).1 _ _ h2
    have p2_0 := z_un_cons k2
    have p2_1 := z_un_cons p2_0.2
    have p2_2 := z_un_cons p2_1.2
    have p2_3 := z_un_cons p2_2.2
    have p2_4 := z_un_cons p2_3.2
    have p2_5 := z_un_cons p2_4.2
    have p2_6 := z_un_cons p2_5.2
    have p2_7 := z_un_cons p2_6.2
    have p2_8 := z_un_cons p2_7.2
    have p2_9 := z_un_cons p2_8.2
    have p2_10 := z_un_cons p2_9.2
    have p2_11 := z_un_cons p2_10.2
    have p2_12 := z_un_cons p2_11.2
    exact ⟨.mk x0 x1 x2, by rw [LowAlt.ts_mk]; exact (z_cons z_int (z_cons (z_d r1) (z_cons p2_0.1 (z_cons p2_1.1 (z_cons p2_2.1 (z_cons p2_3.1 (z_cons p2_4.1 (z_cons p2_5.1 (z_cons p2_6.1 (z_cons p2_7.1 (z_cons p2_8.1 (z_cons p2_9.1 (z_cons p2_10.1 (z_cons p2_11.1 (z_cons p2_12.1 z_end))))))))))))))), .mk (wf_in q0) l1 q2⟩
theorem rd_Low {H : Type} {enc : TypeId × Value → H} {w : World} {base : Nat} {spare : Nat → Bool} {held : Bool} (n : Nat) : ∀ cs y, DataW.trod enc Try.prog w base spare held n 29 cs = some y → ∃ t : Low, RVs w (allC w) [] cs (LS.encs sh_Low t.ts) ∧ t.ok := (rd_Low_LowAlt n).1
theorem rd_LowAlt {H : Type} {enc : TypeId × Value → H} {w : World} {base : Nat} {spare : Nat → Bool} {held : Bool} (n : Nat) : ∀ cs y, DataW.trod enc Try.prog w base spare held n 165 cs = some y → ∃ t : LowAlt, RVs w (allC w) [] cs (LS.encs sh_LowAlt t.ts) ∧ t.ok := (rd_Low_LowAlt n).2
end Go.Ev.Q
namespace Go.Proofs.Ytepljphcjpcpiaa.fnExactLowNodes
open Go Go.Ev Go.Ev.Q Go.ChangeShapes Go.WideShapes Go.ChangeAt Go.RowKit
open Go.ChangeMaps (open_string shut_string)
set_option linter.unusedVariables false
theorem own : ownKnob Try.prog.godebug = none := by kernel_rfl
theorem laidOut : laidOutB Try.prog = true := by kernel_rfl
set_option maxRecDepth 100000 in
theorem lifted (os : Os) (started : os.Started) (H : Type) (enc : TypeId × Value → H) :
    ReturnsInHanded {} Try.checked os 3 .any (Rows.fnExactLowNodesSpec.pre6 enc Try.prog Try.f3 Rows.fnExactLowNodesRow.domain false) (Rows.fnExactLowNodesSpec.post enc Try.prog Try.f3 false true false false) := by
  refine returnsInHanded_of_change_sized (C := Try.checked) own started (by kernel_rfl) Try.func3
    (ChangeSpec.witness6 (enc := enc) (C := Try.checked) false ⟨#[], #[.agg #[.int .i64 0, .int .i64 0, .int .i64 0, .int .i64 0, .slice none 0 0, .int .i64 0, .int .i64 0, .slice none 0 0, .int .i64 0, .int .i64 0, .slice none 0 0, .slice none 0 0, .slice none 0 0]], []⟩ 8 (by kernel_rfl) (by kernel_rfl) (by kernel_rfl) (by kernel_rfl)) ?_
  intro W base args ds gs before hval0 hW hcnd hsz0 _
  have hval : ∀ (j : Nat) t v, Try.f3.params[j]? = some t → args[j]? = some v → Value.okWide Try.prog W .any base t v := hval0
  have hW' := hW
  obtain ⟨p, q, hA0, hV, rfl, hfz, hnd⟩ := hW
  have hA : DataW.TrodAll enc Try.prog W 0 (fun _ => true) true Try.f3.params.toList args.toList ds p := hA0
  rw [Try.params3] at hA hval
  obtain ⟨v0, vs0, d0, ds0, p0, q0, hargs, rfl, rfl, h0, r0⟩ := trodAll_cons hA
  obtain ⟨rfl, rfl, rfl⟩ := trodAll_nil r0
  obtain rfl : args = #[v0] := by cases args; simp_all
  obtain ⟨rfl, rfl⟩ := trodVars_none hV
  obtain ⟨cs0, rfl, _⟩ := okWide_struct Try.underlying29 (hval 0 29 v0 rfl rfl)
  have k0 := h0
  have lt0 : ∀ x ∈ p0, x.block < W.heap.size := by obtain ⟨m, hm⟩ := k0; exact DataW.trod_lt m _ _ _ hm
  obtain ⟨fuel0, hf0⟩ := h0
  obtain ⟨x0, K0, w0⟩ := rd_Low fuel0 cs0.toList _ hf0
  have Z0 : RV W (allC W) [] (.agg cs0) (.agg (LS.encs sh_Low x0.ts)) := by unfold RV; exact ⟨cs0, rfl, K0⟩
  clear hA0 hval0 hsz0
  refine (law_calls cxOk (lowNodes_true x0 w0) (z_cons Z0 z_end)).mono fun e W' ⟨he, bel⟩ => ?_
  subst he
  exact ⟨_, rfl, _, _, _, [], _, [], hW', trodAll_mk1 (shut_bool Try.underlying4 _), (trodAll_cons_mk (Below.trod laidOut (by kernel_rfl) (of_decide_eq_true (by kernel_rfl)) k0 bel lt0) trodAll_mk0), rfl, bel.frame _, fun h => by cases h⟩
theorem over : Rows.fnExactLowNodesRow.holds Try.pinned (OpenSpec.ofChange Rows.fnExactLowNodesSpec) :=
  OpenClaim.holds_of_wide 3 Try.f3 rfl rfl rfl rfl rfl rfl rfl ⟨rfl, rfl, rfl, rfl, rfl⟩ rfl rfl rfl rfl rfl (by kernel_rfl) Try.func3 (by kernel_rfl)
    (of_decide_eq_true (by kernel_rfl)) (by unfold Func.isWrapper; first | (rw [if_pos (by decide +kernel)]; kernel_rfl) | (rw [if_neg (by decide +kernel)]; exact ⟨rfl, rfl⟩))
    (fun os started H enc _ => lifted os started H enc)
theorem proved : Rows.FnExactLowNodesSaid := over
#print axioms proved
end Go.Proofs.Ytepljphcjpcpiaa.fnExactLowNodes
namespace Go.Proofs.Ytepljphcjpcpiaa
/-- The row, under a short name, for the claim. -/
theorem fnExactLowNodes_holds : Rows.FnExactLowNodesSaid := fnExactLowNodes.proved
end Go.Proofs.Ytepljphcjpcpiaa
