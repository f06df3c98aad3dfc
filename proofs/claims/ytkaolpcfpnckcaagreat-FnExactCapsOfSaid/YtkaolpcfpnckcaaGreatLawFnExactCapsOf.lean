/-
  FnExactCapsOf is true, whatever its arguments are, and leaves them as they were.
-/
import Derived.Test.YtkaolpcfpnckcaaGreatRows
import Derived.Test.YtkaolpcfpnckcaaGreatPOg
import Derived.Test.YtkaolpcfpnckcaaGreatEvRd
import Derived.WalkKit
import Derived.ProofKit
import Derived.OpenShut
import Derived.ShutString
import Derived.ChangeOld
import Derived.SizedLaws
import Derived.Carry
namespace Go.Ev.Q
open Go Go.Ev Go.RowKit Go.Proofs Go.Proofs.YtkaolpcfpnckcaaGreat
set_option linter.unusedVariables false
theorem len1_ {cs : List Value} (h : cs.length = 1) : ∃ v0, cs = [v0] := by
  match cs, h with
  | [v0], _ => exact ⟨v0, rfl⟩
theorem len3_ {cs : List Value} (h : cs.length = 3) : ∃ v0 v1 v2, cs = [v0, v1, v2] := by
  match cs, h with
  | [v0, v1, v2], _ => exact ⟨v0, v1, v2, rfl⟩
theorem len5_ {cs : List Value} (h : cs.length = 5) : ∃ v0 v1 v2 v3 v4, cs = [v0, v1, v2, v3, v4] := by
  match cs, h with
  | [v0, v1, v2, v3, v4], _ => exact ⟨v0, v1, v2, v3, v4, rfl⟩
theorem len9_ {cs : List Value} (h : cs.length = 9) : ∃ v0 v1 v2 v3 v4 v5 v6 v7 v8, cs = [v0, v1, v2, v3, v4, v5, v6, v7, v8] := by
  match cs, h with
  | [v0, v1, v2, v3, v4, v5, v6, v7, v8], _ => exact ⟨v0, v1, v2, v3, v4, v5, v6, v7, v8, rfl⟩
theorem rd_Ty {H : Type} {enc : TypeId × Value → H} {w : World} {base : Nat} {spare : Nat → Bool} {held : Bool} : ∀ (n : Nat), ∀ cs y, DataW.trod enc Tryz.prog w base spare held n 91 cs = some y → ∃ t : Ty, RVs w (allC w) [] cs (LS.encs sh_Ty t.ts) ∧ t.ok := by
  intro n
  induction n using Nat.strongRecOn with
  | _ n ih =>
  intro cs y h
  obtain ⟨xs, m, rfl, _, hl, hlen, hf⟩ := DataW.trod_struct Tryz.underlying91 h
  obtain ⟨v0, v1, v2, rfl⟩ := len3_ (hl.trans (by kernel_rfl))
  obtain ⟨y0, h0⟩ := read_field hlen hf 0 _ rfl (t := 3) (off := 0) rfl rfl (s := 1) (by kernel_rfl)
  replace h0 : DataW.trod enc Tryz.prog w base spare held m 3 [v0] = some y0 := h0
  obtain ⟨x0, e0, q0⟩ := read_int Tryz.underlying3 h0
  obtain rfl := List.head_eq_of_cons_eq e0
  obtain ⟨y1, h1⟩ := read_field hlen hf 1 _ rfl (t := 3) (off := 1) rfl rfl (s := 1) (by kernel_rfl)
  replace h1 : DataW.trod enc Tryz.prog w base spare held m 3 [v1] = some y1 := h1
  obtain ⟨x1, e1, q1⟩ := read_int Tryz.underlying3 h1
  obtain rfl := List.head_eq_of_cons_eq e1
  obtain ⟨y2, h2⟩ := read_field hlen hf 2 _ rfl (t := 89) (off := 2) rfl rfl (s := 1) (by kernel_rfl)
  replace h2 : DataW.trod enc Tryz.prog w base spare held m 89 [v2] = some y2 := h2
  obtain ⟨u2, x2, e2, r2, l2, q2⟩ := rd_rows (sh := sh_Ty) rfl Ty.ts Tryz.underlying89 (by kernel_rfl) (by decide) (Q := Ty.ok) (fun j hj => (ih j (by omega))) h2
  obtain rfl := List.head_eq_of_cons_eq e2
  exact ⟨.mk x0 x1 x2, by rw [Ty.ts_mk]; exact (z_cons z_int (z_cons z_int (z_cons (z_d r2) z_end))), .mk (wf_in q0) (wf_in q1) l2 q2⟩
theorem rd_Ins {H : Type} {enc : TypeId × Value → H} {w : World} {base : Nat} {spare : Nat → Bool} {held : Bool} : ∀ (n : Nat), ∀ cs y, DataW.trod enc Tryz.prog w base spare held n 153 cs = some y → ∃ t : Ins, RVs w (allC w) [] cs (LS.encs sh_Ins t.ts) ∧ t.ok := by
  intro n
  induction n using Nat.strongRecOn with
  | _ n ih =>
  intro cs y h
  obtain ⟨xs, m, rfl, _, hl, hlen, hf⟩ := DataW.trod_struct Tryz.underlying153 h
  obtain ⟨v0, v1, v2, v3, v4, rfl⟩ := len5_ (hl.trans (by kernel_rfl))
  obtain ⟨y0, h0⟩ := read_field hlen hf 0 _ rfl (t := 3) (off := 0) rfl rfl (s := 1) (by kernel_rfl)
  replace h0 : DataW.trod enc Tryz.prog w base spare held m 3 [v0] = some y0 := h0
  obtain ⟨x0, e0, q0⟩ := read_int Tryz.underlying3 h0
  obtain rfl := List.head_eq_of_cons_eq e0
  obtain ⟨y1, h1⟩ := read_field hlen hf 1 _ rfl (t := 3) (off := 1) rfl rfl (s := 1) (by kernel_rfl)
  replace h1 : DataW.trod enc Tryz.prog w base spare held m 3 [v1] = some y1 := h1
  obtain ⟨x1, e1, q1⟩ := read_int Tryz.underlying3 h1
  obtain rfl := List.head_eq_of_cons_eq e1
  obtain ⟨y2, h2⟩ := read_field hlen hf 2 _ rfl (t := 3) (off := 2) rfl rfl (s := 1) (by kernel_rfl)
  replace h2 : DataW.trod enc Tryz.prog w base spare held m 3 [v2] = some y2 := h2
  obtain ⟨x2, e2, q2⟩ := read_int Tryz.underlying3 h2
  obtain rfl := List.head_eq_of_cons_eq e2
  obtain ⟨y3, h3⟩ := read_field hlen hf 3 _ rfl (t := 28) (off := 3) rfl rfl (s := 1) (by kernel_rfl)
  replace h3 : DataW.trod enc Tryz.prog w base spare held m 28 [v3] = some y3 := h3
  obtain ⟨u3, x3, e3, r3, l3, q3⟩ := rd_nums Tryz.underlying28 Tryz.underlying5 (by kernel_rfl) h3
  obtain rfl := List.head_eq_of_cons_eq e3
  obtain ⟨y4, h4⟩ := read_field hlen hf 4 _ rfl (t := 24) (off := 4) rfl rfl (s := 1) (by kernel_rfl)
  replace h4 : DataW.trod enc Tryz.prog w base spare held m 24 [v4] = some y4 := h4
  obtain ⟨u4, x4, e4, r4, l4, q4⟩ := rd_nums Tryz.underlying24 Tryz.underlying3 (by kernel_rfl) h4
  obtain rfl := List.head_eq_of_cons_eq e4
  exact ⟨.mk x0 x1 x2 x3 x4, by rw [Ins.ts_mk]; exact (z_cons z_int (z_cons z_int (z_cons z_int (z_cons (z_d r3) (z_cons (z_d r4) z_end))))), .mk (wf_in q0) (wf_in q1) (wf_in q2) l3 l4⟩
theorem rd_Layout {H : Type} {enc : TypeId × Value → H} {w : World} {base : Nat} {spare : Nat → Bool} {held : Bool} : ∀ (n : Nat), ∀ cs y, DataW.trod enc Tryz.prog w base spare held n 87 cs = some y → ∃ t : Layout, RVs w (allC w) [] cs (LS.encs [.sl 1] t.ts) ∧ t.ok := by
  intro n
  induction n using Nat.strongRecOn with
  | _ n ih =>
  intro cs y h
  obtain ⟨xs, m, rfl, _, hl, hlen, hf⟩ := DataW.trod_struct Tryz.underlying87 h
  obtain ⟨v0, rfl⟩ := len1_ (hl.trans (by kernel_rfl))
  obtain ⟨y0, h0⟩ := read_field hlen hf 0 _ rfl (t := 85) (off := 0) rfl rfl (s := 1) (by kernel_rfl)
  replace h0 : DataW.trod enc Tryz.prog w base spare held m 85 [v0] = some y0 := h0
  obtain ⟨u0, x0, e0, r0, l0, q0⟩ := rd_rows (sh := [.sl 3]) rfl (fun l => (sl (sh := sh_Ty) Ty.ts l, ())) Tryz.underlying85 (by kernel_rfl) (by decide) (Q := fun l => lenOk l ∧ ∀ x ∈ l, Ty.ok x) (fun j _ cs y h => by
    obtain ⟨u, x, e, r, l, q⟩ := rd_rows (sh := sh_Ty) rfl Ty.ts Tryz.underlying89 (by kernel_rfl) (by decide) (Q := Ty.ok) (fun j _ => rd_Ty j) h
    subst e
    exact ⟨x, z_cons (z_d r) z_end, l, q⟩) h0
  obtain rfl := List.head_eq_of_cons_eq e0
  exact ⟨.mk x0, by rw [Layout.ts_mk]; exact (z_cons (z_d r0) z_end), .mk l0 q0⟩
theorem rd_Block {H : Type} {enc : TypeId × Value → H} {w : World} {base : Nat} {spare : Nat → Bool} {held : Bool} : ∀ (n : Nat), ∀ cs y, DataW.trod enc Tryz.prog w base spare held n 94 cs = some y → ∃ t : Blk, RVs w (allC w) [] cs (LS.encs sh_Block t.ts) ∧ t.ok := by
  intro n
  induction n using Nat.strongRecOn with
  | _ n ih =>
  intro cs y h
  obtain ⟨xs, m, rfl, _, hl, hlen, hf⟩ := DataW.trod_struct Tryz.underlying94 h
  obtain ⟨v0, v1, v2, v3, v4, v5, v6, v7, v8, rfl⟩ := len9_ (hl.trans (by kernel_rfl))
  obtain ⟨y0, h0⟩ := read_field hlen hf 0 _ rfl (t := 89) (off := 0) rfl rfl (s := 1) (by kernel_rfl)
  replace h0 : DataW.trod enc Tryz.prog w base spare held m 89 [v0] = some y0 := h0
  obtain ⟨u0, x0, e0, r0, l0, q0⟩ := rd_rows (sh := sh_Ty) rfl Ty.ts Tryz.underlying89 (by kernel_rfl) (by decide) (Q := Ty.ok) (fun j _ => rd_Ty j) h0
  obtain rfl := List.head_eq_of_cons_eq e0
  obtain ⟨y1, h1⟩ := read_field hlen hf 1 _ rfl (t := 91) (off := 1) rfl rfl (s := 3) (by kernel_rfl)
  replace h1 : DataW.trod enc Tryz.prog w base spare held m 91 [v1, v2, v3] = some y1 := h1
  obtain ⟨x1, k1, q1⟩ := rd_Ty m _ _ h1
  have p1_0 := z_un_cons k1
  have p1_1 := z_un_cons p1_0.2
  have p1_2 := z_un_cons p1_1.2
  obtain ⟨y2, h2⟩ := read_field hlen hf 2 _ rfl (t := 91) (off := 4) rfl rfl (s := 3) (by kernel_rfl)
  replace h2 : DataW.trod enc Tryz.prog w base spare held m 91 [v4, v5, v6] = some y2 := h2
  obtain ⟨x2, k2, q2⟩ := rd_Ty m _ _ h2
  have p2_0 := z_un_cons k2
  have p2_1 := z_un_cons p2_0.2
  have p2_2 := z_un_cons p2_1.2
  obtain ⟨y3, h3⟩ := read_field hlen hf 3 _ rfl (t := 89) (off := 7) rfl rfl (s := 1) (by kernel_rfl)
  replace h3 : DataW.trod enc Tryz.prog w base spare held m 89 [v7] = some y3 := h3
  obtain ⟨u3, x3, e3, r3, l3, q3⟩ := rd_rows (sh := sh_Ty) rfl Ty.ts Tryz.underlying89 (by kernel_rfl) (by decide) (Q := Ty.ok) (fun j _ => rd_Ty j) h3
  obtain rfl := List.head_eq_of_cons_eq e3
  obtain ⟨y4, h4⟩ := read_field hlen hf 4 _ rfl (t := 92) (off := 8) rfl rfl (s := 1) (by kernel_rfl)
  replace h4 : DataW.trod enc Tryz.prog w base spare held m 92 [v8] = some y4 := h4
  obtain ⟨u4, x4, e4, r4, l4, q4⟩ := rd_rows (sh := sh_Ins) rfl Ins.ts Tryz.underlying92 (by kernel_rfl) (by decide) (Q := Ins.ok) (fun j _ => rd_Ins j) h4
  obtain rfl := List.head_eq_of_cons_eq e4
  exact ⟨.mk x0 x1 x2 x3 x4, by rw [Blk.ts_mk]; exact (z_cons (z_d r0) (z_cons p1_0.1 (z_cons p1_1.1 (z_cons p1_2.1 (z_cons p2_0.1 (z_cons p2_1.1 (z_cons p2_2.1 (z_cons (z_d r3) (z_cons (z_d r4) z_end))))))))), .mk l0 q0 q1 q2 l3 q3 l4 q4⟩
theorem rd_Program {H : Type} {enc : TypeId × Value → H} {w : World} {base : Nat} {spare : Nat → Bool} {held : Bool} : ∀ (n : Nat), ∀ cs y, DataW.trod enc Tryz.prog w base spare held n 26 cs = some y → ∃ t : Prog, RVs w (allC w) [] cs (LS.encs sh_Program t.ts) ∧ t.ok := by
  intro n
  induction n using Nat.strongRecOn with
  | _ n ih =>
  intro cs y h
  obtain ⟨xs, m, rfl, _, hl, hlen, hf⟩ := DataW.trod_struct Tryz.underlying26 h
  obtain ⟨v0, v1, v2, rfl⟩ := len3_ (hl.trans (by kernel_rfl))
  obtain ⟨y0, h0⟩ := read_field hlen hf 0 _ rfl (t := 22) (off := 0) rfl rfl (s := 1) (by kernel_rfl)
  replace h0 : DataW.trod enc Tryz.prog w base spare held m 22 [v0] = some y0 := h0
  obtain ⟨u0, x0, e0, r0, l0, q0⟩ := rd_rows (sh := [.sl 1]) rfl Layout.ts Tryz.underlying22 (by kernel_rfl) (by decide) (Q := Layout.ok) (fun j _ => rd_Layout j) h0
  obtain rfl := List.head_eq_of_cons_eq e0
  obtain ⟨y1, h1⟩ := read_field hlen hf 1 _ rfl (t := 23) (off := 1) rfl rfl (s := 1) (by kernel_rfl)
  replace h1 : DataW.trod enc Tryz.prog w base spare held m 23 [v1] = some y1 := h1
  obtain ⟨u1, x1, e1, r1, l1, q1⟩ := rd_rows (sh := sh_Block) rfl Blk.ts Tryz.underlying23 (by kernel_rfl) (by decide) (Q := Blk.ok) (fun j _ => rd_Block j) h1
  obtain rfl := List.head_eq_of_cons_eq e1
  obtain ⟨y2, h2⟩ := read_field hlen hf 2 _ rfl (t := 24) (off := 2) rfl rfl (s := 1) (by kernel_rfl)
  replace h2 : DataW.trod enc Tryz.prog w base spare held m 24 [v2] = some y2 := h2
  obtain ⟨u2, x2, e2, r2, l2, q2⟩ := rd_nums Tryz.underlying24 Tryz.underlying3 (by kernel_rfl) h2
  obtain rfl := List.head_eq_of_cons_eq e2
  exact ⟨.mk x0 x1 x2, by rw [Prog.ts_mk]; exact (z_cons (z_d r0) (z_cons (z_d r1) (z_cons (z_d r2) z_end))), .mk l0 q0 l1 q1 l2⟩
end Go.Ev.Q
namespace Go.Proofs.YtkaolpcfpnckcaaGreat.fnExactCapsOf
open Go Go.Ev Go.Ev.Q Go.ChangeShapes Go.WideShapes Go.ChangeAt Go.RowKit
open Go.ChangeMaps (open_string shut_string)
set_option linter.unusedVariables false
theorem own : ownKnob Tryz.prog.godebug = none := by kernel_rfl
theorem laidOut : laidOutB Tryz.prog = true := by kernel_rfl
set_option maxRecDepth 100000 in
theorem lifted (os : Os) (started : os.Started) (H : Type) (enc : TypeId × Value → H) :
    ReturnsInHanded {} Tryz.checked os 5 .any (Rows.fnExactCapsOfSpec.pre6 enc Tryz.prog Tryz.f5 Rows.fnExactCapsOfRow.domain false) (Rows.fnExactCapsOfSpec.post enc Tryz.prog Tryz.f5 false true false false) := by
  refine returnsInHanded_of_change_sized (C := Tryz.checked) own started (by kernel_rfl) Tryz.func5
    (ChangeSpec.witness6 (enc := enc) (C := Tryz.checked) false ⟨#[], #[.agg #[.slice none 0 0, .slice none 0 0, .slice none 0 0]], []⟩ 8 (by kernel_rfl) (by kernel_rfl) (by kernel_rfl) (by kernel_rfl)) ?_
  intro W base args ds gs before hval0 hW hcnd hsz0 _
  have hval : ∀ (j : Nat) t v, Tryz.f5.params[j]? = some t → args[j]? = some v → Value.okWide Tryz.prog W .any base t v := hval0
  have hW' := hW
  obtain ⟨p, q, hA0, hV, rfl, hfz, hnd⟩ := hW
  have hA : DataW.TrodAll enc Tryz.prog W 0 (fun _ => true) true Tryz.f5.params.toList args.toList ds p := hA0
  rw [Tryz.params5] at hA hval
  obtain ⟨v0, vs0, d0, ds0, p0, q0, hargs, rfl, rfl, h0, r0⟩ := trodAll_cons hA
  obtain ⟨rfl, rfl, rfl⟩ := trodAll_nil r0
  obtain rfl : args = #[v0] := by cases args; simp_all
  obtain ⟨rfl, rfl⟩ := trodVars_none hV
  obtain ⟨cs0, rfl, _⟩ := okWide_struct Tryz.underlying26 (hval 0 26 v0 rfl rfl)
  have k0 := h0
  have lt0 : ∀ x ∈ p0, x.block < W.heap.size := by obtain ⟨m, hm⟩ := k0; exact DataW.trod_lt m _ _ _ hm
  obtain ⟨fuel0, hf0⟩ := h0
  obtain ⟨x0, K0, w0⟩ := rd_Program fuel0 cs0.toList _ hf0
  have Z0 : RV W (allC W) [] (.agg cs0) (.agg (LS.encs sh_Program x0.ts)) := by unfold RV; exact ⟨cs0, rfl, K0⟩
  clear hA0 hval0 hsz0
  refine (law_calls cxOk (CapsOf_ok x0 w0) (z_cons Z0 z_end)).mono fun e W' ⟨he, bel⟩ => ?_
  subst he
  exact ⟨_, rfl, _, _, _, [], _, [], hW', trodAll_mk1 (shut_bool Tryz.underlying4 _), (trodAll_cons_mk (Below.trod laidOut (by kernel_rfl) (of_decide_eq_true (by kernel_rfl)) k0 bel lt0) trodAll_mk0), rfl, bel.frame _, fun h => by cases h⟩
theorem over : Rows.fnExactCapsOfRow.holds Tryz.pinned (OpenSpec.ofChange Rows.fnExactCapsOfSpec) :=
  OpenClaim.holds_of_wide 5 Tryz.f5 rfl rfl rfl rfl rfl rfl rfl ⟨rfl, rfl, rfl, rfl, rfl⟩ rfl rfl rfl rfl rfl (by kernel_rfl) Tryz.func5 (by kernel_rfl)
    (of_decide_eq_true (by kernel_rfl)) (by unfold Func.isWrapper; first | (rw [if_pos (by decide +kernel)]; kernel_rfl) | (rw [if_neg (by decide +kernel)]; exact ⟨rfl, rfl⟩))
    (fun os started H enc _ => lifted os started H enc)
theorem proved : Rows.FnExactCapsOfSaid := over
#print axioms proved
end Go.Proofs.YtkaolpcfpnckcaaGreat.fnExactCapsOf
namespace Go.Proofs.YtkaolpcfpnckcaaGreat
/-- The row, under a short name, for the claim. -/
theorem fnExactCapsOf_holds : Rows.FnExactCapsOfSaid := fnExactCapsOf.proved
end Go.Proofs.YtkaolpcfpnckcaaGreat
