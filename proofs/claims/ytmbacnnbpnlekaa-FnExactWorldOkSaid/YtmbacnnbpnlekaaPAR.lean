-- Printed by a program of this session (wrap.py) out of the translation. Lean checks it.
import Derived.Test.YtmbacnnbpnlekaaPAx0
import Derived.Test.YtmbacnnbpnlekaaRB
namespace Go.Proofs.Ytmbacnnbpnlekaa.PA
open Go.RowKit Go.Proofs.YtmbacnnbpnlekaaW.PrintWords Go.Proofs.YtmbacnnbpnlekaaW.PrintLast Go.Proofs.YtmbacnnbpnlekaaW.PrintMore
attribute [local go_sem] max2_int min2_int max_two min_two max_three min_three max_four min_four   -- for this text's walks alone
set_option linter.unusedVariables false
set_option linter.unusedSimpArgs false

open Go.Proofs.Ytmbacnnbpnlekaa.M
theorem len2_ {cs : List Value} (h : cs.length = 2) : ∃ v0 v1, cs = [v0, v1] := by
  match cs, h with
  | [v0, v1], _ => exact ⟨v0, v1, rfl⟩
theorem len4_ {cs : List Value} (h : cs.length = 4) : ∃ v0 v1 v2 v3, cs = [v0, v1, v2, v3] := by
  match cs, h with
  | [v0, v1, v2, v3], _ => exact ⟨v0, v1, v2, v3, rfl⟩
theorem len5_ {cs : List Value} (h : cs.length = 5) : ∃ v0 v1 v2 v3 v4, cs = [v0, v1, v2, v3, v4] := by
  match cs, h with
  | [v0, v1, v2, v3, v4], _ => exact ⟨v0, v1, v2, v3, v4, rfl⟩
/-! ### type 25 -/
def W25 (x : S25) : Prop := (Lit.int .i64 x.f0).wf = true ∧ (Lit.int .i64 x.f1).wf = true ∧ (Lit.int .i64 x.f2).wf = true ∧ (x.f3.length ≤ maxLen ∧ ∀ a0_ ∈ x.f3, (Lit.int .u8 a0_).wf = true) ∧ (x.f4.length ≤ maxLen ∧ ∀ a0_ ∈ x.f4, (Lit.int .i64 a0_).wf = true)
theorem k25_read {H : Type} {enc : TypeId × Value → H} {w : World} {base : Nat} {spare : Nat → Bool} {held : Bool} : ∀ (n : Nat) (cs : List Value) (y : DataW H × List MemPlace), DataW.trod enc Try.prog w base spare held n 25 cs = some y → ∃ x : S25, k25.K w x cs ∧ W25 x := by
  intro n
  induction n using Nat.strongRecOn with
  | _ n ih =>
  intro cs y h
  obtain ⟨xs, m, rfl, _, hl, hlen, hf⟩ := DataW.trod_struct Try.underlying25 h
  obtain ⟨v0, v1, v2, v3, v4, rfl⟩ := len5_ (hl.trans (by kernel_rfl))
  obtain ⟨y0, h0⟩ := read_field hlen hf 0 _ rfl (t := 3) (off := 0) rfl rfl (s := 1) (by kernel_rfl)
  replace h0 : DataW.trod enc Try.prog w base spare held m 3 [v0] = some y0 := h0
  obtain ⟨x0, e0, q0⟩ := read_int Try.underlying3 h0
  obtain rfl := List.head_eq_of_cons_eq e0
  obtain ⟨y1, h1⟩ := read_field hlen hf 1 _ rfl (t := 3) (off := 1) rfl rfl (s := 1) (by kernel_rfl)
  replace h1 : DataW.trod enc Try.prog w base spare held m 3 [v1] = some y1 := h1
  obtain ⟨x1, e1, q1⟩ := read_int Try.underlying3 h1
  obtain rfl := List.head_eq_of_cons_eq e1
  obtain ⟨y2, h2⟩ := read_field hlen hf 2 _ rfl (t := 3) (off := 2) rfl rfl (s := 1) (by kernel_rfl)
  replace h2 : DataW.trod enc Try.prog w base spare held m 3 [v2] = some y2 := h2
  obtain ⟨x2, e2, q2⟩ := read_int Try.underlying3 h2
  obtain rfl := List.head_eq_of_cons_eq e2
  obtain ⟨y3, h3⟩ := read_field hlen hf 3 _ rfl (t := 22) (off := 3) rfl rfl (s := 1) (by kernel_rfl)
  replace h3 : DataW.trod enc Try.prog w base spare held m 22 [v3] = some y3 := h3
  obtain ⟨A3, c3, x3, e3, le3, lm3, g3, q3⟩ := read_rows (Q := fun x => (Lit.int .u8 x).wf = true) (Kd.int .u8) Try.underlying22 (by kernel_rfl) (fun j hj => read_Kint Try.underlying5 j) h3
  obtain rfl := List.head_eq_of_cons_eq e3
  obtain ⟨y4, h4⟩ := read_field hlen hf 4 _ rfl (t := 23) (off := 4) rfl rfl (s := 1) (by kernel_rfl)
  replace h4 : DataW.trod enc Try.prog w base spare held m 23 [v4] = some y4 := h4
  obtain ⟨A4, c4, x4, e4, le4, lm4, g4, q4⟩ := read_rows (Q := fun x => (Lit.int .i64 x).wf = true) (Kd.int .i64) Try.underlying23 (by kernel_rfl) (fun j hj => read_Kint Try.underlying3 j) h4
  obtain rfl := List.head_eq_of_cons_eq e4
  exact ⟨⟨x0, x1, x2, x3, x4⟩, k25_mk w _ le3 g3 le4 g4, ⟨q0, q1, q2, ⟨Nat.le_trans le3 lm3, q3⟩, ⟨Nat.le_trans le4 lm4, q4⟩⟩⟩
/-! ### type 165 -/
def W165 (x : S165) : Prop := (Lit.int .i64 x.f0).wf = true ∧ (Lit.int .i64 x.f1).wf = true
theorem k165_read {H : Type} {enc : TypeId × Value → H} {w : World} {base : Nat} {spare : Nat → Bool} {held : Bool} : ∀ (n : Nat) (cs : List Value) (y : DataW H × List MemPlace), DataW.trod enc Try.prog w base spare held n 165 cs = some y → ∃ x : S165, k165.K w x cs ∧ W165 x := by
  intro n
  induction n using Nat.strongRecOn with
  | _ n ih =>
  intro cs y h
  obtain ⟨xs, m, rfl, _, hl, hlen, hf⟩ := DataW.trod_struct Try.underlying165 h
  obtain ⟨v0, v1, rfl⟩ := len2_ (hl.trans (by kernel_rfl))
  obtain ⟨y0, h0⟩ := read_field hlen hf 0 _ rfl (t := 3) (off := 0) rfl rfl (s := 1) (by kernel_rfl)
  replace h0 : DataW.trod enc Try.prog w base spare held m 3 [v0] = some y0 := h0
  obtain ⟨x0, e0, q0⟩ := read_int Try.underlying3 h0
  obtain rfl := List.head_eq_of_cons_eq e0
  obtain ⟨y1, h1⟩ := read_field hlen hf 1 _ rfl (t := 3) (off := 1) rfl rfl (s := 1) (by kernel_rfl)
  replace h1 : DataW.trod enc Try.prog w base spare held m 3 [v1] = some y1 := h1
  obtain ⟨x1, e1, q1⟩ := read_int Try.underlying3 h1
  obtain rfl := List.head_eq_of_cons_eq e1
  exact ⟨⟨x0, x1⟩, k165_mk w _ , ⟨q0, q1⟩⟩
/-! ### type 162 -/
def W162 (x : S162) : Prop := (Lit.int .i64 x.f0).wf = true ∧ (Lit.int .i64 x.f1).wf = true ∧ (Lit.int .i64 x.f2).wf = true ∧ (x.f3.length ≤ maxLen ∧ ∀ a0_ ∈ x.f3, (Lit.int .u8 a0_).wf = true) ∧ (Lit.int .i64 x.f4).wf = true
theorem k162_read {H : Type} {enc : TypeId × Value → H} {w : World} {base : Nat} {spare : Nat → Bool} {held : Bool} : ∀ (n : Nat) (cs : List Value) (y : DataW H × List MemPlace), DataW.trod enc Try.prog w base spare held n 162 cs = some y → ∃ x : S162, k162.K w x cs ∧ W162 x := by
  intro n
  induction n using Nat.strongRecOn with
  | _ n ih =>
  intro cs y h
  obtain ⟨xs, m, rfl, _, hl, hlen, hf⟩ := DataW.trod_struct Try.underlying162 h
  obtain ⟨v0, v1, v2, v3, v4, rfl⟩ := len5_ (hl.trans (by kernel_rfl))
  obtain ⟨y0, h0⟩ := read_field hlen hf 0 _ rfl (t := 3) (off := 0) rfl rfl (s := 1) (by kernel_rfl)
  replace h0 : DataW.trod enc Try.prog w base spare held m 3 [v0] = some y0 := h0
  obtain ⟨x0, e0, q0⟩ := read_int Try.underlying3 h0
  obtain rfl := List.head_eq_of_cons_eq e0
  obtain ⟨y1, h1⟩ := read_field hlen hf 1 _ rfl (t := 3) (off := 1) rfl rfl (s := 1) (by kernel_rfl)
  replace h1 : DataW.trod enc Try.prog w base spare held m 3 [v1] = some y1 := h1
  obtain ⟨x1, e1, q1⟩ := read_int Try.underlying3 h1
  obtain rfl := List.head_eq_of_cons_eq e1
  obtain ⟨y2, h2⟩ := read_field hlen hf 2 _ rfl (t := 3) (off := 2) rfl rfl (s := 1) (by kernel_rfl)
  replace h2 : DataW.trod enc Try.prog w base spare held m 3 [v2] = some y2 := h2
  obtain ⟨x2, e2, q2⟩ := read_int Try.underlying3 h2
  obtain rfl := List.head_eq_of_cons_eq e2
  obtain ⟨y3, h3⟩ := read_field hlen hf 3 _ rfl (t := 22) (off := 3) rfl rfl (s := 1) (by kernel_rfl)
  replace h3 : DataW.trod enc Try.prog w base spare held m 22 [v3] = some y3 := h3
  obtain ⟨A3, c3, x3, e3, le3, lm3, g3, q3⟩ := read_rows (Q := fun x => (Lit.int .u8 x).wf = true) (Kd.int .u8) Try.underlying22 (by kernel_rfl) (fun j hj => read_Kint Try.underlying5 j) h3
  obtain rfl := List.head_eq_of_cons_eq e3
  obtain ⟨y4, h4⟩ := read_field hlen hf 4 _ rfl (t := 3) (off := 4) rfl rfl (s := 1) (by kernel_rfl)
  replace h4 : DataW.trod enc Try.prog w base spare held m 3 [v4] = some y4 := h4
  obtain ⟨x4, e4, q4⟩ := read_int Try.underlying3 h4
  obtain rfl := List.head_eq_of_cons_eq e4
  exact ⟨⟨x0, x1, x2, x3, x4⟩, k162_mk w _ le3 g3, ⟨q0, q1, q2, ⟨Nat.le_trans le3 lm3, q3⟩, q4⟩⟩
/-! ### type 35 -/
def W35 (x : S35) : Prop := (Lit.int .i64 x.f0).wf = true ∧ (x.f1.length ≤ maxLen ∧ ∀ a0_ ∈ x.f1, (Lit.int .i64 a0_).wf = true) ∧ (x.f2.length ≤ maxLen ∧ ∀ a0_ ∈ x.f2, W165 a0_) ∧ (x.f3.length ≤ maxLen ∧ ∀ a0_ ∈ x.f3, W162 a0_)
theorem k35_read {H : Type} {enc : TypeId × Value → H} {w : World} {base : Nat} {spare : Nat → Bool} {held : Bool} : ∀ (n : Nat) (cs : List Value) (y : DataW H × List MemPlace), DataW.trod enc Try.prog w base spare held n 35 cs = some y → ∃ x : S35, k35.K w x cs ∧ W35 x := by
  intro n
  induction n using Nat.strongRecOn with
  | _ n ih =>
  intro cs y h
  obtain ⟨xs, m, rfl, _, hl, hlen, hf⟩ := DataW.trod_struct Try.underlying35 h
  obtain ⟨v0, v1, v2, v3, rfl⟩ := len4_ (hl.trans (by kernel_rfl))
  obtain ⟨y0, h0⟩ := read_field hlen hf 0 _ rfl (t := 3) (off := 0) rfl rfl (s := 1) (by kernel_rfl)
  replace h0 : DataW.trod enc Try.prog w base spare held m 3 [v0] = some y0 := h0
  obtain ⟨x0, e0, q0⟩ := read_int Try.underlying3 h0
  obtain rfl := List.head_eq_of_cons_eq e0
  obtain ⟨y1, h1⟩ := read_field hlen hf 1 _ rfl (t := 23) (off := 1) rfl rfl (s := 1) (by kernel_rfl)
  replace h1 : DataW.trod enc Try.prog w base spare held m 23 [v1] = some y1 := h1
  obtain ⟨A1, c1, x1, e1, le1, lm1, g1, q1⟩ := read_rows (Q := fun x => (Lit.int .i64 x).wf = true) (Kd.int .i64) Try.underlying23 (by kernel_rfl) (fun j hj => read_Kint Try.underlying3 j) h1
  obtain rfl := List.head_eq_of_cons_eq e1
  obtain ⟨y2, h2⟩ := read_field hlen hf 2 _ rfl (t := 32) (off := 2) rfl rfl (s := 1) (by kernel_rfl)
  replace h2 : DataW.trod enc Try.prog w base spare held m 32 [v2] = some y2 := h2
  obtain ⟨A2, c2, x2, e2, le2, lm2, g2, q2⟩ := read_rows (Q := fun x => W165 x) k165 Try.underlying32 (by kernel_rfl) (fun j hj => k165_read j) h2
  obtain rfl := List.head_eq_of_cons_eq e2
  obtain ⟨y3, h3⟩ := read_field hlen hf 3 _ rfl (t := 33) (off := 3) rfl rfl (s := 1) (by kernel_rfl)
  replace h3 : DataW.trod enc Try.prog w base spare held m 33 [v3] = some y3 := h3
  obtain ⟨A3, c3, x3, e3, le3, lm3, g3, q3⟩ := read_rows (Q := fun x => W162 x) k162 Try.underlying33 (by kernel_rfl) (fun j hj => k162_read j) h3
  obtain rfl := List.head_eq_of_cons_eq e3
  exact ⟨⟨x0, x1, x2, x3⟩, k35_mk w _ le1 g1 le2 g2 le3 g3, ⟨q0, ⟨Nat.le_trans le1 lm1, q1⟩, ⟨Nat.le_trans le2 lm2, q2⟩, ⟨Nat.le_trans le3 lm3, q3⟩⟩⟩
end Go.Proofs.Ytmbacnnbpnlekaa.PA
