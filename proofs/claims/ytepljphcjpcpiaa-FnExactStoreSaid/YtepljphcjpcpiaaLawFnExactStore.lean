/-
  FnExactStore is true, whatever its arguments are, and leaves them as they were.
-/
import Derived.Test.YtepljphcjpcpiaaRows
import Derived.Test.YtepljphcjpcpiaaPStoreLaw
import Derived.Test.YtepljphcjpcpiaaEvRd
import Derived.WalkKit
import Derived.ProofKit
import Derived.OpenShut
import Derived.ShutString
import Derived.ChangeOld
import Derived.SizedLaws
import Derived.Carry
namespace Go.Ev.Q
open Go Go.Ev Go.RowKit Go.Proofs Go.Proofs.Ytepljphcjpcpiaa
set_option linter.unusedVariables false
theorem len3_ {cs : List Value} (h : cs.length = 3) : ∃ v0 v1 v2, cs = [v0, v1, v2] := by
  match cs, h with
  | [v0, v1, v2], _ => exact ⟨v0, v1, v2, rfl⟩
theorem len5_ {cs : List Value} (h : cs.length = 5) : ∃ v0 v1 v2 v3 v4, cs = [v0, v1, v2, v3, v4] := by
  match cs, h with
  | [v0, v1, v2, v3, v4], _ => exact ⟨v0, v1, v2, v3, v4, rfl⟩
theorem rd_Access {H : Type} {enc : TypeId × Value → H} {w : World} {base : Nat} {spare : Nat → Bool} {held : Bool} : ∀ (n : Nat), ∀ cs y, DataW.trod enc Try.prog w base spare held n 175 cs = some y → ∃ t : Access, RVs w (allC w) [] cs (LS.encs sh_Access t.ts) ∧ t.ok := by
  intro n
  induction n using Nat.strongRecOn with
  | _ n ih =>
  intro cs y h
  obtain ⟨xs, m, rfl, _, hl, hlen, hf⟩ := DataW.trod_struct Try.underlying175 h
  obtain ⟨v0, v1, v2, rfl⟩ := len3_ (hl.trans (by kernel_rfl))
  obtain ⟨y0, h0⟩ := read_field hlen hf 0 _ rfl (t := 3) (off := 0) rfl rfl (s := 1) (by kernel_rfl)
  replace h0 : DataW.trod enc Try.prog w base spare held m 3 [v0] = some y0 := h0
  obtain ⟨x0, e0, q0⟩ := read_int Try.underlying3 h0
  obtain rfl := List.head_eq_of_cons_eq e0
  obtain ⟨y1, h1⟩ := read_field hlen hf 1 _ rfl (t := 3) (off := 1) rfl rfl (s := 1) (by kernel_rfl)
  replace h1 : DataW.trod enc Try.prog w base spare held m 3 [v1] = some y1 := h1
  obtain ⟨x1, e1, q1⟩ := read_int Try.underlying3 h1
  obtain rfl := List.head_eq_of_cons_eq e1
  obtain ⟨y2, h2⟩ := read_field hlen hf 2 _ rfl (t := 3) (off := 2) rfl rfl (s := 1) (by kernel_rfl)
  replace h2 : DataW.trod enc Try.prog w base spare held m 3 [v2] = some y2 := h2
  obtain ⟨x2, e2, q2⟩ := read_int Try.underlying3 h2
  obtain rfl := List.head_eq_of_cons_eq e2
  exact ⟨.mk x0 x1 x2, by rw [Access.ts_mk]; exact (z_cons z_int (z_cons z_int (z_cons z_int z_end))), .mk (wf_in q0) (wf_in q1) (wf_in q2)⟩
theorem rd_Heap {H : Type} {enc : TypeId × Value → H} {w : World} {base : Nat} {spare : Nat → Bool} {held : Bool} : ∀ (n : Nat), ∀ cs y, DataW.trod enc Try.prog w base spare held n 45 cs = some y → ∃ t : Heap, RVs w (allC w) [] cs (LS.encs sh_Heap t.ts) ∧ t.ok := by
  intro n
  induction n using Nat.strongRecOn with
  | _ n ih =>
  intro cs y h
  obtain ⟨xs, m, rfl, _, hl, hlen, hf⟩ := DataW.trod_struct Try.underlying45 h
  obtain ⟨v0, v1, v2, v3, v4, rfl⟩ := len5_ (hl.trans (by kernel_rfl))
  obtain ⟨y0, h0⟩ := read_field hlen hf 0 _ rfl (t := 42) (off := 0) rfl rfl (s := 1) (by kernel_rfl)
  replace h0 : DataW.trod enc Try.prog w base spare held m 42 [v0] = some y0 := h0
  obtain ⟨u0, x0, e0, r0, l0, q0⟩ := rd_nums Try.underlying42 Try.underlying3 (by kernel_rfl) h0
  obtain rfl := List.head_eq_of_cons_eq e0
  obtain ⟨y1, h1⟩ := read_field hlen hf 1 _ rfl (t := 3) (off := 1) rfl rfl (s := 1) (by kernel_rfl)
  replace h1 : DataW.trod enc Try.prog w base spare held m 3 [v1] = some y1 := h1
  obtain ⟨x1, e1, q1⟩ := read_int Try.underlying3 h1
  obtain rfl := List.head_eq_of_cons_eq e1
  obtain ⟨y2, h2⟩ := read_field hlen hf 2 _ rfl (t := 3) (off := 2) rfl rfl (s := 1) (by kernel_rfl)
  replace h2 : DataW.trod enc Try.prog w base spare held m 3 [v2] = some y2 := h2
  obtain ⟨x2, e2, q2⟩ := read_int Try.underlying3 h2
  obtain rfl := List.head_eq_of_cons_eq e2
  obtain ⟨y3, h3⟩ := read_field hlen hf 3 _ rfl (t := 3) (off := 3) rfl rfl (s := 1) (by kernel_rfl)
  replace h3 : DataW.trod enc Try.prog w base spare held m 3 [v3] = some y3 := h3
  obtain ⟨x3, e3, q3⟩ := read_int Try.underlying3 h3
  obtain rfl := List.head_eq_of_cons_eq e3
  obtain ⟨y4, h4⟩ := read_field hlen hf 4 _ rfl (t := 43) (off := 4) rfl rfl (s := 1) (by kernel_rfl)
  replace h4 : DataW.trod enc Try.prog w base spare held m 43 [v4] = some y4 := h4
  obtain ⟨u4, x4, e4, r4, l4, q4⟩ := rd_rows (sh := sh_Access) rfl Access.ts Try.underlying43 (by kernel_rfl) (by decide) (Q := Access.ok) (fun j _ => rd_Access j) h4
  obtain rfl := List.head_eq_of_cons_eq e4
  exact ⟨.mk x0 x1 x2 x3 x4, by rw [Heap.ts_mk]; exact (z_cons (z_d r0) (z_cons z_int (z_cons z_int (z_cons z_int (z_cons (z_d r4) z_end))))), .mk l0 (wf_in q1) (wf_in q2) (wf_in q3) l4 q4⟩
end Go.Ev.Q
namespace Go.Proofs.Ytepljphcjpcpiaa.fnExactStore
open Go Go.Ev Go.Ev.Q Go.ChangeShapes Go.WideShapes Go.ChangeAt Go.RowKit
open Go.ChangeMaps (open_string shut_string)
set_option linter.unusedVariables false
theorem own : ownKnob Try.prog.godebug = none := by kernel_rfl
theorem laidOut : laidOutB Try.prog = true := by kernel_rfl
set_option maxRecDepth 100000 in
theorem lifted (os : Os) (started : os.Started) (H : Type) (enc : TypeId × Value → H) :
    ReturnsInHanded {} Try.checked os 6 .any (Rows.fnExactStoreSpec.pre6 enc Try.prog Try.f6 Rows.fnExactStoreRow.domain false) (Rows.fnExactStoreSpec.post enc Try.prog Try.f6 false true false false) := by
  refine returnsInHanded_of_change_sized (C := Try.checked) own started (by kernel_rfl) Try.func6
    (ChangeSpec.witness6 (enc := enc) (C := Try.checked) false ⟨#[], #[.agg #[.slice none 0 0, .int .i64 0, .int .i64 0, .int .i64 0, .slice none 0 0], .int .i64 0, .int .i64 0, .int .i64 0], []⟩ 8 (by kernel_rfl) (by kernel_rfl) (by kernel_rfl) (by kernel_rfl)) ?_
  intro W base args ds gs before hval0 hW hcnd hsz0 _
  have hval : ∀ (j : Nat) t v, Try.f6.params[j]? = some t → args[j]? = some v → Value.okWide Try.prog W .any base t v := hval0
  have hW' := hW
  obtain ⟨p, q, hA0, hV, rfl, hfz, hnd⟩ := hW
  have hA : DataW.TrodAll enc Try.prog W 0 (fun _ => true) true Try.f6.params.toList args.toList ds p := hA0
  rw [Try.params6] at hA hval
  obtain ⟨v0, vs0, d0, ds0, p0, q0, hargs, rfl, rfl, h0, r0⟩ := trodAll_cons hA
  obtain ⟨v1, vs1, d1, ds1, p1, q1, rfl, rfl, rfl, h1, r1⟩ := trodAll_cons r0
  obtain ⟨v2, vs2, d2, ds2, p2, q2, rfl, rfl, rfl, h2, r2⟩ := trodAll_cons r1
  obtain ⟨v3, vs3, d3, ds3, p3, q3, rfl, rfl, rfl, h3, r3⟩ := trodAll_cons r2
  obtain ⟨rfl, rfl, rfl⟩ := trodAll_nil r3
  obtain rfl : args = #[v0, v1, v2, v3] := by cases args; simp_all
  obtain ⟨rfl, rfl⟩ := trodVars_none hV
  obtain ⟨cs0, rfl, _⟩ := okWide_struct Try.underlying45 (hval 0 45 v0 rfl rfl)
  have k0 := h0
  have lt0 : ∀ x ∈ p0, x.block < W.heap.size := by obtain ⟨m, hm⟩ := k0; exact DataW.trod_lt m _ _ _ hm
  obtain ⟨fuel0, hf0⟩ := h0
  obtain ⟨x0, K0, w0⟩ := rd_Heap fuel0 cs0.toList _ hf0
  have Z0 : RV W (allC W) [] (.agg cs0) (.agg (LS.encs sh_Heap x0.ts)) := by unfold RV; exact ⟨cs0, rfl, K0⟩
  obtain ⟨z1, rfl, hz1⟩ := okWide_int Try.underlying3 (hval 1 3 v1 rfl rfl)
  have k1 := h1
  have lt1 : ∀ x ∈ p1, x.block < W.heap.size := by obtain ⟨m, hm⟩ := k1; exact DataW.trod_lt m _ _ _ hm
  obtain ⟨fuel1, hf1⟩ := h1
  obtain ⟨x1, e1, w1⟩ := read_int Try.underlying3 hf1
  have e1' := List.head_eq_of_cons_eq e1
  have K1 : RV W (allC W) [] (.int .i64 z1) (.d (.int .i64 x1)) := by rw [e1']; exact z_int
  obtain ⟨z2, rfl, hz2⟩ := okWide_int Try.underlying3 (hval 2 3 v2 rfl rfl)
  have k2 := h2
  have lt2 : ∀ x ∈ p2, x.block < W.heap.size := by obtain ⟨m, hm⟩ := k2; exact DataW.trod_lt m _ _ _ hm
  obtain ⟨fuel2, hf2⟩ := h2
  obtain ⟨x2, e2, w2⟩ := read_int Try.underlying3 hf2
  have e2' := List.head_eq_of_cons_eq e2
  have K2 : RV W (allC W) [] (.int .i64 z2) (.d (.int .i64 x2)) := by rw [e2']; exact z_int
  obtain ⟨z3, rfl, hz3⟩ := okWide_int Try.underlying3 (hval 3 3 v3 rfl rfl)
  have k3 := h3
  have lt3 : ∀ x ∈ p3, x.block < W.heap.size := by obtain ⟨m, hm⟩ := k3; exact DataW.trod_lt m _ _ _ hm
  obtain ⟨fuel3, hf3⟩ := h3
  obtain ⟨x3, e3, w3⟩ := read_int Try.underlying3 hf3
  have e3' := List.head_eq_of_cons_eq e3
  have K3 : RV W (allC W) [] (.int .i64 z3) (.d (.int .i64 x3)) := by rw [e3']; exact z_int
  clear hA0 hval0 hsz0
  refine (law_calls cxOk (store_true x0 w0 x1 (wf_in w1) x2 (wf_in w2) x3 (wf_in w3)) (z_cons Z0 (z_cons K1 (z_cons K2 (z_cons K3 z_end))))).mono fun e W' ⟨he, bel⟩ => ?_
  subst he
  exact ⟨_, rfl, _, _, _, [], _, [], hW', trodAll_mk1 (shut_bool Try.underlying4 _), (trodAll_cons_mk (Below.trod laidOut (by kernel_rfl) (of_decide_eq_true (by kernel_rfl)) k0 bel lt0) (trodAll_cons_mk (Below.trod laidOut (by kernel_rfl) (of_decide_eq_true (by kernel_rfl)) k1 bel lt1) (trodAll_cons_mk (Below.trod laidOut (by kernel_rfl) (of_decide_eq_true (by kernel_rfl)) k2 bel lt2) (trodAll_cons_mk (Below.trod laidOut (by kernel_rfl) (of_decide_eq_true (by kernel_rfl)) k3 bel lt3) trodAll_mk0)))), rfl, bel.frame _, fun h => by cases h⟩
theorem over : Rows.fnExactStoreRow.holds Try.pinned (OpenSpec.ofChange Rows.fnExactStoreSpec) :=
  OpenClaim.holds_of_wide 6 Try.f6 rfl rfl rfl rfl rfl rfl rfl ⟨rfl, rfl, rfl, rfl, rfl⟩ rfl rfl rfl rfl rfl (by kernel_rfl) Try.func6 (by kernel_rfl)
    (of_decide_eq_true (by kernel_rfl)) (by unfold Func.isWrapper; first | (rw [if_pos (by decide +kernel)]; kernel_rfl) | (rw [if_neg (by decide +kernel)]; exact ⟨rfl, rfl⟩))
    (fun os started H enc _ => lifted os started H enc)
theorem proved : Rows.FnExactStoreSaid := over
#print axioms proved
end Go.Proofs.Ytepljphcjpcpiaa.fnExactStore
namespace Go.Proofs.Ytepljphcjpcpiaa
/-- The row, under a short name, for the claim. -/
theorem fnExactStore_holds : Rows.FnExactStoreSaid := fnExactStore.proved
end Go.Proofs.Ytepljphcjpcpiaa
