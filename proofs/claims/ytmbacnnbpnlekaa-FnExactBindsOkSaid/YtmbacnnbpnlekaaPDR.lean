-- Printed by a program of this session (wrap.py) out of the translation. Lean checks it.
import Derived.Test.YtmbacnnbpnlekaaPDx0
import Derived.Test.YtmbacnnbpnlekaaRB
namespace Go.Proofs.Ytmbacnnbpnlekaa.PD
open Go.RowKit Go.Proofs.YtmbacnnbpnlekaaW.PrintWords Go.Proofs.YtmbacnnbpnlekaaW.PrintLast Go.Proofs.YtmbacnnbpnlekaaW.PrintMore
attribute [local go_sem] max2_int min2_int max_two min_two max_three min_three max_four min_four   -- for this text's walks alone
set_option linter.unusedVariables false
set_option linter.unusedSimpArgs false

open Go.Proofs.Ytmbacnnbpnlekaa.M
theorem len3_ {cs : List Value} (h : cs.length = 3) : ∃ v0 v1 v2, cs = [v0, v1, v2] := by
  match cs, h with
  | [v0, v1, v2], _ => exact ⟨v0, v1, v2, rfl⟩
theorem len4_ {cs : List Value} (h : cs.length = 4) : ∃ v0 v1 v2 v3, cs = [v0, v1, v2, v3] := by
  match cs, h with
  | [v0, v1, v2, v3], _ => exact ⟨v0, v1, v2, v3, rfl⟩
/-! ### type 54 -/
def Q54 : Nat → S54 → Prop
  | 0, _ => False
  | n + 1, x => (Lit.int .i64 x.f0).wf = true ∧ (Lit.int .i64 x.f1).wf = true ∧ (x.f2.length ≤ maxLen ∧ ∀ a0_ ∈ x.f2, Q54 n a0_)
theorem Q54_mono : ∀ (n m : Nat) (x : S54), n ≤ m → Q54 n x → Q54 m x := by
  intro n
  induction n with
  | zero => exact fun m x _ h => h.elim
  | succ n ih =>
    intro m x hm h
    obtain ⟨m, rfl⟩ : ∃ j, m = j + 1 := ⟨m - 1, by omega⟩
    exact ⟨h.1, h.2.1, ⟨h.2.2.1, fun a ha => ih m a (by omega) (h.2.2.2 a ha)⟩⟩
def W54 (x : S54) : Prop := ∃ n, Q54 n x
theorem k54_readQ {H : Type} {enc : TypeId × Value → H} {w : World} {base : Nat} {spare : Nat → Bool} {held : Bool} : ∀ (n : Nat) (cs : List Value) (y : DataW H × List MemPlace), DataW.trod enc Try.prog w base spare held n 54 cs = some y → ∃ x : S54, k54.K w x cs ∧ Q54 n x := by
  intro n
  induction n using Nat.strongRecOn with
  | _ n ih =>
  intro cs y h
  obtain ⟨xs, m, rfl, _, hl, hlen, hf⟩ := DataW.trod_struct Try.underlying54 h
  obtain ⟨v0, v1, v2, rfl⟩ := len3_ (hl.trans (by kernel_rfl))
  obtain ⟨y0, h0⟩ := read_field hlen hf 0 _ rfl (t := 3) (off := 0) rfl rfl (s := 1) (by kernel_rfl)
  replace h0 : DataW.trod enc Try.prog w base spare held m 3 [v0] = some y0 := h0
  obtain ⟨x0, e0, q0⟩ := read_int Try.underlying3 h0
  obtain rfl := List.head_eq_of_cons_eq e0
  obtain ⟨y1, h1⟩ := read_field hlen hf 1 _ rfl (t := 3) (off := 1) rfl rfl (s := 1) (by kernel_rfl)
  replace h1 : DataW.trod enc Try.prog w base spare held m 3 [v1] = some y1 := h1
  obtain ⟨x1, e1, q1⟩ := read_int Try.underlying3 h1
  obtain rfl := List.head_eq_of_cons_eq e1
  obtain ⟨y2, h2⟩ := read_field hlen hf 2 _ rfl (t := 52) (off := 2) rfl rfl (s := 1) (by kernel_rfl)
  replace h2 : DataW.trod enc Try.prog w base spare held m 52 [v2] = some y2 := h2
  obtain ⟨A2, c2, x2, e2, le2, lm2, g2, q2⟩ := read_rows (Q := fun x => Q54 m x) k54 Try.underlying52 (by kernel_rfl) (fun j hj => fun cs y h => (fun ⟨x, h1, h2⟩ => ⟨x, h1, Q54_mono _ _ _ (by omega) h2⟩) (ih j (by omega) cs y h)) h2
  obtain rfl := List.head_eq_of_cons_eq e2
  exact ⟨⟨x0, x1, x2⟩, k54_mk w _ le2 g2, ⟨q0, q1, ⟨Nat.le_trans le2 lm2, q2⟩⟩⟩
theorem k54_read {H : Type} {enc : TypeId × Value → H} {w : World} {base : Nat} {spare : Nat → Bool} {held : Bool} (n : Nat) (cs : List Value) (y : DataW H × List MemPlace) (h : DataW.trod enc Try.prog w base spare held n 54 cs = some y) : ∃ x : S54, k54.K w x cs ∧ W54 x := by
  obtain ⟨x, h1, h2⟩ := k54_readQ n cs y h
  exact ⟨x, h1, n, h2⟩
/-! ### type 114 -/
def W114 (x : S114) : Prop := (Lit.int .i64 x.f0).wf = true ∧ W54 x.f1
theorem k114_read {H : Type} {enc : TypeId × Value → H} {w : World} {base : Nat} {spare : Nat → Bool} {held : Bool} : ∀ (n : Nat) (cs : List Value) (y : DataW H × List MemPlace), DataW.trod enc Try.prog w base spare held n 114 cs = some y → ∃ x : S114, k114.K w x cs ∧ W114 x := by
  intro n
  induction n using Nat.strongRecOn with
  | _ n ih =>
  intro cs y h
  obtain ⟨xs, m, rfl, _, hl, hlen, hf⟩ := DataW.trod_struct Try.underlying114 h
  obtain ⟨v0, v1, v2, v3, rfl⟩ := len4_ (hl.trans (by kernel_rfl))
  obtain ⟨y0, h0⟩ := read_field hlen hf 0 _ rfl (t := 3) (off := 0) rfl rfl (s := 1) (by kernel_rfl)
  replace h0 : DataW.trod enc Try.prog w base spare held m 3 [v0] = some y0 := h0
  obtain ⟨x0, e0, q0⟩ := read_int Try.underlying3 h0
  obtain rfl := List.head_eq_of_cons_eq e0
  obtain ⟨y1, h1⟩ := read_field hlen hf 1 _ rfl (t := 54) (off := 1) rfl rfl (s := 3) (by kernel_rfl)
  replace h1 : DataW.trod enc Try.prog w base spare held m 54 [v1, v2, v3] = some y1 := h1
  obtain ⟨x1, K1, q1⟩ := k54_read m _ _ h1
  obtain ⟨A1_2, c1_2, e1, le1_2, g1_2⟩ := k54_open K1
  simp only [List.cons.injEq, and_true] at e1
  obtain ⟨rfl, rfl, rfl⟩ := e1
  exact ⟨⟨x0, x1⟩, k114_mk w _ le1_2 g1_2, ⟨q0, q1⟩⟩
end Go.Proofs.Ytmbacnnbpnlekaa.PD
