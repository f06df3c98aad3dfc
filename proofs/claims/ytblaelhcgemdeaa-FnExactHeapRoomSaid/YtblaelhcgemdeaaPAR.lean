-- Printed by a program of this session (wrap.py) out of the translation. Lean checks it.
import Derived.Test.YtblaelhcgemdeaaPAx0
import Derived.Test.YtblaelhcgemdeaaRB
namespace Go.Proofs.Ytblaelhcgemdeaa.PA
open Go.RowKit Go.Proofs.YtblaelhcgemdeaaW.PrintWords Go.Proofs.YtblaelhcgemdeaaW.PrintLast Go.Proofs.YtblaelhcgemdeaaW.PrintMore
attribute [local go_sem] max2_int min2_int max_two min_two max_three min_three max_four min_four   -- for this text's walks alone
set_option linter.unusedVariables false
set_option linter.unusedSimpArgs false

open Go.Proofs.Ytblaelhcgemdeaa.M
theorem len3_ {cs : List Value} (h : cs.length = 3) : ∃ v0 v1 v2, cs = [v0, v1, v2] := by
  match cs, h with
  | [v0, v1, v2], _ => exact ⟨v0, v1, v2, rfl⟩
theorem len5_ {cs : List Value} (h : cs.length = 5) : ∃ v0 v1 v2 v3 v4, cs = [v0, v1, v2, v3, v4] := by
  match cs, h with
  | [v0, v1, v2, v3, v4], _ => exact ⟨v0, v1, v2, v3, v4, rfl⟩
/-! ### type 77 -/
def W77 (x : S77) : Prop := (Lit.int .i64 x.f0).wf = true ∧ (Lit.int .i64 x.f1).wf = true ∧ (Lit.int .i64 x.f2).wf = true
theorem k77_read {H : Type} {enc : TypeId × Value → H} {w : World} {base : Nat} {spare : Nat → Bool} {held : Bool} : ∀ (n : Nat) (cs : List Value) (y : DataW H × List MemPlace), DataW.trod enc Try.prog w base spare held n 77 cs = some y → ∃ x : S77, k77.K w x cs ∧ W77 x := by
  intro n
  induction n using Nat.strongRecOn with
  | _ n ih =>
  intro cs y h
  obtain ⟨xs, m, rfl, _, hl, hlen, hf⟩ := DataW.trod_struct Try.underlying77 h
  obtain ⟨v0, v1, v2, rfl⟩ := len3_ (hl.trans (by kernel_rfl))
  obtain ⟨y0, h0⟩ := read_field hlen hf 0 _ rfl (t := 3) (off := 0) rfl rfl (s := 1) (by kernel_rfl)
  replace h0 : DataW.trod enc Try.prog w base spare held m 3 [v0] = some y0 := h0
  obtain ⟨x0, e0, q0⟩ := read_int Try.underlying3 h0
  obtain rfl := List.head_eq_of_cons_eq e0
  obtain ⟨y1, h1⟩ := read_field hlen hf 1 _ rfl (t := 3) (off := 1) rfl rfl (s := 1) (by kernel_rfl)
  replace h1 : DataW.trod enc Try.prog w base spare held m 3 [v1] = some y1 := h1
  obtain ⟨x1, e1, q1⟩ := read_int Try.underlying3 h1
  obtain rfl := List.head_eq_of_cons_eq e1
  obtain ⟨y2, h2⟩ := read_field hlen hf 2 _ rfl (t := 3) (off := 2) rfl rfl (s := 1) (by kernel_rfl)
  replace h2 : DataW.trod enc Try.prog w base spare held m 3 [v2] = some y2 := h2
  obtain ⟨x2, e2, q2⟩ := read_int Try.underlying3 h2
  obtain rfl := List.head_eq_of_cons_eq e2
  exact ⟨⟨x0, x1, x2⟩, k77_mk w _ , ⟨q0, q1, q2⟩⟩
/-! ### type 25 -/
def W25 (x : S25) : Prop := (x.f0.length ≤ maxLen ∧ ∀ a0_ ∈ x.f0, (Lit.int .i64 a0_).wf = true) ∧ (Lit.int .i64 x.f1).wf = true ∧ (Lit.int .i64 x.f2).wf = true ∧ (Lit.int .i64 x.f3).wf = true ∧ (x.f4.length ≤ maxLen ∧ ∀ a0_ ∈ x.f4, W77 a0_)
theorem k25_read {H : Type} {enc : TypeId × Value → H} {w : World} {base : Nat} {spare : Nat → Bool} {held : Bool} : ∀ (n : Nat) (cs : List Value) (y : DataW H × List MemPlace), DataW.trod enc Try.prog w base spare held n 25 cs = some y → ∃ x : S25, k25.K w x cs ∧ W25 x := by
  intro n
  induction n using Nat.strongRecOn with
  | _ n ih =>
  intro cs y h
  obtain ⟨xs, m, rfl, _, hl, hlen, hf⟩ := DataW.trod_struct Try.underlying25 h
  obtain ⟨v0, v1, v2, v3, v4, rfl⟩ := len5_ (hl.trans (by kernel_rfl))
  obtain ⟨y0, h0⟩ := read_field hlen hf 0 _ rfl (t := 22) (off := 0) rfl rfl (s := 1) (by kernel_rfl)
  replace h0 : DataW.trod enc Try.prog w base spare held m 22 [v0] = some y0 := h0
  obtain ⟨A0, c0, x0, e0, le0, lm0, g0, q0⟩ := read_rows (Q := fun x => (Lit.int .i64 x).wf = true) (Kd.int .i64) Try.underlying22 (by kernel_rfl) (fun j hj => read_Kint Try.underlying3 j) h0
  obtain rfl := List.head_eq_of_cons_eq e0
  obtain ⟨y1, h1⟩ := read_field hlen hf 1 _ rfl (t := 3) (off := 1) rfl rfl (s := 1) (by kernel_rfl)
  replace h1 : DataW.trod enc Try.prog w base spare held m 3 [v1] = some y1 := h1
  obtain ⟨x1, e1, q1⟩ := read_int Try.underlying3 h1
  obtain rfl := List.head_eq_of_cons_eq e1
  obtain ⟨y2, h2⟩ := read_field hlen hf 2 _ rfl (t := 3) (off := 2) rfl rfl (s := 1) (by kernel_rfl)
  replace h2 : DataW.trod enc Try.prog w base spare held m 3 [v2] = some y2 := h2
  obtain ⟨x2, e2, q2⟩ := read_int Try.underlying3 h2
  obtain rfl := List.head_eq_of_cons_eq e2
  obtain ⟨y3, h3⟩ := read_field hlen hf 3 _ rfl (t := 3) (off := 3) rfl rfl (s := 1) (by kernel_rfl)
  replace h3 : DataW.trod enc Try.prog w base spare held m 3 [v3] = some y3 := h3
  obtain ⟨x3, e3, q3⟩ := read_int Try.underlying3 h3
  obtain rfl := List.head_eq_of_cons_eq e3
  obtain ⟨y4, h4⟩ := read_field hlen hf 4 _ rfl (t := 23) (off := 4) rfl rfl (s := 1) (by kernel_rfl)
  replace h4 : DataW.trod enc Try.prog w base spare held m 23 [v4] = some y4 := h4
  obtain ⟨A4, c4, x4, e4, le4, lm4, g4, q4⟩ := read_rows (Q := fun x => W77 x) k77 Try.underlying23 (by kernel_rfl) (fun j hj => k77_read j) h4
  obtain rfl := List.head_eq_of_cons_eq e4
  exact ⟨⟨x0, x1, x2, x3, x4⟩, k25_mk w _ le0 g0 le4 g4, ⟨⟨Nat.le_trans le0 lm0, q0⟩, q1, q2, q3, ⟨Nat.le_trans le4 lm4, q4⟩⟩⟩
end Go.Proofs.Ytblaelhcgemdeaa.PA
