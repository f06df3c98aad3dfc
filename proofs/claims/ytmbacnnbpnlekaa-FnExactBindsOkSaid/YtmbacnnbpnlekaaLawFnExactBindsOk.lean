-- Printed by a program of this session (wrap.py) out of the translation. Lean checks it.
import Derived.Test.YtmbacnnbpnlekaaRows
import Derived.Test.YtmbacnnbpnlekaaPDx18
import Derived.Test.YtmbacnnbpnlekaaPDR
import Derived.Test.YtmbacnnbpnlekaaRB
import Derived.Test.YtmbacnnbpnlekaaPureFnExactBindsOk
import Derived.WalkKit
import Derived.ProofKit
import Derived.OpenShut
import Derived.ShutString
import Derived.ChangeOld
import Derived.Below
import Derived.SizedLaws
import Derived.Carry
namespace Go.Proofs.Ytmbacnnbpnlekaa.fnExactBindsOk
open Go Go.ChangeShapes Go.WideShapes Go.ChangeAt Go.RowKit Go.Proofs.Ytmbacnnbpnlekaa.M Go.Proofs.Ytmbacnnbpnlekaa.PD Go.Proofs.YtmbacnnbpnlekaaW.PrintWords
open Go.ChangeMaps (open_string shut_string)
set_option linter.unusedVariables false
theorem own : ownKnob Try.prog.godebug = none := by kernel_rfl
theorem laidOut : laidOutB Try.prog = true := by kernel_rfl
set_option maxRecDepth 100000 in
theorem lifted (os : Os) (started : os.Started) (H : Type) (enc : TypeId × Value → H) :
    ReturnsInHanded {} Try.checked os 5 .any (Rows.fnExactBindsOkSpec.pre6 enc Try.prog Try.f5 Rows.fnExactBindsOkRow.domain false) (Rows.fnExactBindsOkSpec.post enc Try.prog Try.f5 false true false false) := by
  refine returnsInHanded_of_change_sized (C := Try.checked) own started (by kernel_rfl) Try.func5
    (ChangeSpec.witness6 (enc := enc) (C := Try.checked) false ⟨#[], #[.slice none 0 0], []⟩ 8 (by kernel_rfl) (by kernel_rfl) (by kernel_rfl) (by kernel_rfl)) ?_
  intro W base args ds gs before hval0 hW hcnd hsz0 _
  have hval : ∀ (j : Nat) t v, Try.f5.params[j]? = some t → args[j]? = some v → Value.okWide Try.prog W .any base t v := hval0
  have hW' := hW
  obtain ⟨p, q, hA0, hV, rfl, hfz, hnd⟩ := hW
  have hA : DataW.TrodAll enc Try.prog W 0 (fun _ => true) true Try.f5.params.toList args.toList ds p := hA0
  rw [Try.params5] at hA hval
  obtain ⟨v0, vs0, d0, ds0, p0, q0, hargs, rfl, rfl, h0, r0⟩ := trodAll_cons hA
  obtain ⟨rfl, rfl, rfl⟩ := trodAll_nil r0
  obtain rfl : args = #[v0] := by cases args; simp_all
  obtain ⟨rfl, rfl⟩ := trodVars_none hV
  obtain ⟨a0, len0, cap0, rfl⟩ := okWide_slice Try.underlying45 (hval 0 45 v0 rfl rfl)
  have k0 := h0
  have lt0 : ∀ x ∈ p0, x.block < W.heap.size := by obtain ⟨m, hm⟩ := k0; exact DataW.trod_lt m _ _ _ hm
  obtain ⟨fuel0, hf0⟩ := h0
  obtain ⟨A0, c0, x0, e0, le0, lm0, g0, w0⟩ := read_rows (Q := fun x => W114 x) k114 Try.underlying45 (by kernel_rfl) (fun j hj => k114_read j) hf0
  replace e0 := List.head_eq_of_cons_eq e0
  injection e0 with e0_1 e0_2 e0_3
  subst e0_1 e0_2 e0_3
  have w0' : (x0.length ≤ maxLen ∧ ∀ a0_ ∈ x0, W114 a0_) := ⟨Nat.le_trans le0 lm0, w0⟩
  clear hA0 hval0 hsz0
  obtain ⟨k, hP⟩ := Pure.FnExactBindsOk x0 w0'
  refine (laws_FnExactBindsOk.calls k _ _ x0 true W g0 le0 hP).mono fun e W' ⟨he, bel⟩ => ?_
  subst he
  exact ⟨_, rfl, _, _, _, [], _, [], hW', trodAll_mk1 (shut_bool Try.underlying4 _), (trodAll_cons_mk (Below.trod laidOut (by kernel_rfl) (of_decide_eq_true (by kernel_rfl)) k0 bel lt0) trodAll_mk0), rfl, bel.frame _, fun h => by cases h⟩
theorem over : Rows.fnExactBindsOkRow.holds Try.pinned (OpenSpec.ofChange Rows.fnExactBindsOkSpec) :=
  OpenClaim.holds_of_wide 5 Try.f5 rfl rfl rfl rfl rfl rfl rfl ⟨rfl, rfl, rfl, rfl, rfl⟩ rfl rfl rfl rfl rfl (by kernel_rfl) Try.func5 (by kernel_rfl)
    (of_decide_eq_true (by kernel_rfl)) (by unfold Func.isWrapper; first | (rw [if_pos (by decide +kernel)]; kernel_rfl) | (rw [if_neg (by decide +kernel)]; exact ⟨rfl, rfl⟩))
    (fun os started H enc _ => lifted os started H enc)
theorem proved : Rows.FnExactBindsOkSaid := over
#print axioms proved
end Go.Proofs.Ytmbacnnbpnlekaa.fnExactBindsOk
namespace Go.Proofs.Ytmbacnnbpnlekaa
/-- The row, under a short name, for the claim. -/
theorem fnExactBindsOk_holds : Rows.FnExactBindsOkSaid := fnExactBindsOk.proved
end Go.Proofs.Ytmbacnnbpnlekaa
