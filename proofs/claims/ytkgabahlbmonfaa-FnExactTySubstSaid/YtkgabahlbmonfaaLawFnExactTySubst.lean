/-
  FnExactTySubst is true, whatever its arguments are, and leaves them as they were.
-/
import Derived.Test.YtkgabahlbmonfaaRows
import Derived.Test.YtkgabahlbmonfaaPSb
import Derived.Test.YtkgabahlbmonfaaEvRd
import Derived.WalkKit
import Derived.ProofKit
import Derived.OpenShut
import Derived.ShutString
import Derived.ChangeOld
import Derived.SizedLaws
import Derived.Carry
namespace Go.Ev.Q
open Go Go.Ev Go.RowKit Go.Proofs Go.Proofs.Ytkgabahlbmonfaa
set_option linter.unusedVariables false
theorem len3_ {cs : List Value} (h : cs.length = 3) : ∃ v0 v1 v2, cs = [v0, v1, v2] := by
  match cs, h with
  | [v0, v1, v2], _ => exact ⟨v0, v1, v2, rfl⟩
theorem rd_Ty {H : Type} {enc : TypeId × Value → H} {w : World} {base : Nat} {spare : Nat → Bool} {held : Bool} : ∀ (n : Nat), ∀ cs y, DataW.trod enc Try.prog w base spare held n 24 cs = some y → ∃ t : Ty, RVs w (allC w) [] cs (LS.encs sh_Ty t.ts) ∧ t.ok := by
  intro n
  induction n using Nat.strongRecOn with
  | _ n ih =>
  intro cs y h
  obtain ⟨xs, m, rfl, _, hl, hlen, hf⟩ := DataW.trod_struct Try.underlying24 h
  obtain ⟨v0, v1, v2, rfl⟩ := len3_ (hl.trans (by kernel_rfl))
  obtain ⟨y0, h0⟩ := read_field hlen hf 0 _ rfl (t := 3) (off := 0) rfl rfl (s := 1) (by kernel_rfl)
  replace h0 : DataW.trod enc Try.prog w base spare held m 3 [v0] = some y0 := h0
  obtain ⟨x0, e0, q0⟩ := read_int Try.underlying3 h0
  obtain rfl := List.head_eq_of_cons_eq e0
  obtain ⟨y1, h1⟩ := read_field hlen hf 1 _ rfl (t := 3) (off := 1) rfl rfl (s := 1) (by kernel_rfl)
  replace h1 : DataW.trod enc Try.prog w base spare held m 3 [v1] = some y1 := h1
  obtain ⟨x1, e1, q1⟩ := read_int Try.underlying3 h1
  obtain rfl := List.head_eq_of_cons_eq e1
  obtain ⟨y2, h2⟩ := read_field hlen hf 2 _ rfl (t := 22) (off := 2) rfl rfl (s := 1) (by kernel_rfl)
  replace h2 : DataW.trod enc Try.prog w base spare held m 22 [v2] = some y2 := h2
  obtain ⟨u2, x2, e2, r2, l2, q2⟩ := rd_rows (sh := sh_Ty) rfl Ty.ts Try.underlying22 (by kernel_rfl) (by decide) (Q := Ty.ok) (fun j hj => (ih j (by omega))) h2
  obtain rfl := List.head_eq_of_cons_eq e2
  exact ⟨.mk x0 x1 x2, by rw [Ty.ts_mk]; exact (z_cons z_int (z_cons z_int (z_cons (z_d r2) z_end))), .mk (wf_in q0) (wf_in q1) l2 q2⟩
end Go.Ev.Q
namespace Go.Proofs.Ytkgabahlbmonfaa.fnExactTySubst
open Go Go.Ev Go.Ev.Q Go.ChangeShapes Go.WideShapes Go.ChangeAt Go.RowKit
open Go.ChangeMaps (open_string shut_string)
set_option linter.unusedVariables false
theorem own : ownKnob Try.prog.godebug = none := by kernel_rfl
theorem laidOut : laidOutB Try.prog = true := by kernel_rfl
set_option maxRecDepth 100000 in
theorem lifted (os : Os) (started : os.Started) (H : Type) (enc : TypeId × Value → H) :
    ReturnsInHanded {} Try.checked os 3 .any (Rows.fnExactTySubstSpec.pre6 enc Try.prog Try.f3 Rows.fnExactTySubstRow.domain false) (Rows.fnExactTySubstSpec.post enc Try.prog Try.f3 false true false false) := by
  refine returnsInHanded_of_change_sized (C := Try.checked) own started (by kernel_rfl) Try.func3
    (ChangeSpec.witness6 (enc := enc) (C := Try.checked) false ⟨#[], #[.agg #[.int .i64 0, .int .i64 0, .slice none 0 0], .slice none 0 0], []⟩ 8 (by kernel_rfl) (by kernel_rfl) (by kernel_rfl) (by kernel_rfl)) ?_
  intro W base args ds gs before hval0 hW hcnd hsz0 _
  have hval : ∀ (j : Nat) t v, Try.f3.params[j]? = some t → args[j]? = some v → Value.okWide Try.prog W .any base t v := hval0
  have hW' := hW
  obtain ⟨p, q, hA0, hV, rfl, hfz, hnd⟩ := hW
  have hA : DataW.TrodAll enc Try.prog W 0 (fun _ => true) true Try.f3.params.toList args.toList ds p := hA0
  rw [Try.params3] at hA hval
  obtain ⟨v0, vs0, d0, ds0, p0, q0, hargs, rfl, rfl, h0, r0⟩ := trodAll_cons hA
  obtain ⟨v1, vs1, d1, ds1, p1, q1, rfl, rfl, rfl, h1, r1⟩ := trodAll_cons r0
  obtain ⟨rfl, rfl, rfl⟩ := trodAll_nil r1
  obtain rfl : args = #[v0, v1] := by cases args; simp_all
  obtain ⟨rfl, rfl⟩ := trodVars_none hV
  obtain ⟨cs0, rfl, _⟩ := okWide_struct Try.underlying24 (hval 0 24 v0 rfl rfl)
  have k0 := h0
  have lt0 : ∀ x ∈ p0, x.block < W.heap.size := by obtain ⟨m, hm⟩ := k0; exact DataW.trod_lt m _ _ _ hm
  obtain ⟨fuel0, hf0⟩ := h0
  obtain ⟨x0, K0, w0⟩ := rd_Ty fuel0 cs0.toList _ hf0
  have Z0 : RV W (allC W) [] (.agg cs0) (.agg (LS.encs sh_Ty x0.ts)) := by unfold RV; exact ⟨cs0, rfl, K0⟩
  obtain ⟨a1, len1, cap1, rfl⟩ := okWide_slice Try.underlying22 (hval 1 22 v1 rfl rfl)
  have k1 := h1
  have lt1 : ∀ x ∈ p1, x.block < W.heap.size := by obtain ⟨m, hm⟩ := k1; exact DataW.trod_lt m _ _ _ hm
  obtain ⟨fuel1, hf1⟩ := h1
  obtain ⟨u1, x1, e1, g1, l1, w1⟩ := rd_rows (sh := sh_Ty) rfl Ty.ts Try.underlying22 (by kernel_rfl) (by decide) (Q := Ty.ok) (fun j _ => rd_Ty j) hf1
  have e1' := List.head_eq_of_cons_eq e1
  rw [← e1'] at g1
  clear hA0 hval0 hsz0
  refine (law_calls cxOk (TySubst_ok x0 w0 x1 l1 w1) (z_cons Z0 (z_cons (z_d g1) z_end))).mono fun e W' ⟨he, bel⟩ => ?_
  subst he
  exact ⟨_, rfl, _, _, _, [], _, [], hW', trodAll_mk1 (shut_bool Try.underlying4 _), (trodAll_cons_mk (Below.trod laidOut (by kernel_rfl) (of_decide_eq_true (by kernel_rfl)) k0 bel lt0) (trodAll_cons_mk (Below.trod laidOut (by kernel_rfl) (of_decide_eq_true (by kernel_rfl)) k1 bel lt1) trodAll_mk0)), rfl, bel.frame _, fun h => by cases h⟩
theorem over : Rows.fnExactTySubstRow.holds Try.pinned (OpenSpec.ofChange Rows.fnExactTySubstSpec) :=
  OpenClaim.holds_of_wide 3 Try.f3 rfl rfl rfl rfl rfl rfl rfl ⟨rfl, rfl, rfl, rfl, rfl⟩ rfl rfl rfl rfl rfl (by kernel_rfl) Try.func3 (by kernel_rfl)
    (of_decide_eq_true (by kernel_rfl)) (by unfold Func.isWrapper; first | (rw [if_pos (by decide +kernel)]; kernel_rfl) | (rw [if_neg (by decide +kernel)]; exact ⟨rfl, rfl⟩))
    (fun os started H enc _ => lifted os started H enc)
theorem proved : Rows.FnExactTySubstSaid := over
#print axioms proved
end Go.Proofs.Ytkgabahlbmonfaa.fnExactTySubst
namespace Go.Proofs.Ytkgabahlbmonfaa
/-- The row, under a short name, for the claim. -/
theorem fnExactTySubst_holds : Rows.FnExactTySubstSaid := fnExactTySubst.proved
end Go.Proofs.Ytkgabahlbmonfaa
