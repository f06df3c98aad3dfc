/- A map[int]bool that the call has made: which numbers it holds as true (TM: the map's type; TK: the key's; TE: the element's). -/
import Derived.Test.YtmbacnnbpnlekaaProg
import Derived.Test.YtmbacnnbpnlekaaWWords
import Derived.Test.YtmbacnnbpnlekaaWKept
import Derived.Maps.Own
import Derived.Maps.Views
import Derived.Maps.Keyed
namespace Go.Proofs.Ytmbacnnbpnlekaa.MB
open Go Go.Maps Go.RowKit Go.Proofs.YtmbacnnbpnlekaaW.PrintWords

theorem zeroE (w : World) : (zeroValue 4).run Try.prog w = .ok (.bool false) w := by kernel_rfl

def Seen (w : World) (b n : Nat) (S : List Int) : Prop :=
  ∃ D : DataW Unit, w.ownsMap Try.prog 3 (plainElem Try.prog 4) b n D ∧ IsMap D ∧ ∀ x, (Lit.int .i64 x).wf = true → D.atKey (.int .i64 x) (.lit (.bool false)) = .lit (.bool (decide (x ∈ S)))

theorem Seen.lt {w : World} {b n : Nat} {S : List Int} (h : Seen w b n S) : b < w.heap.size := by
  obtain ⟨D, h, _⟩ := h
  exact h.lt
theorem Seen.heap {w w1 : World} {b n : Nat} {S : List Int} (h : Seen w b n S) (hb : w1.heap[b]? = w.heap[b]?) : Seen w1 b n S := by
  obtain ⟨D, ⟨es, clock, h1, F, hs, hD⟩, h2, h3⟩ := h
  exact ⟨D, ⟨es, clock, hb.trans h1, F, hs, hD⟩, h2, h3⟩
theorem Seen.below {w w1 : World} {b n : Nat} {S : List Int} (h : Seen w b n S) (hb : Below w.heap.size w w1) : Seen w1 b n S := h.heap (hb.block b h.lt)
theorem Seen.kept {w w1 : World} {b n : Nat} {S : List Int} {P : Nat → Prop} (h : Seen w b n S) (hk : Kept w w1 P) (hn : ¬ P b) : Seen w1 b n S := h.heap (hk.2 b h.lt hn)
theorem Seen.far {w : World} {b n : Nat} {S : List Int} (h : Seen w b n S) {p : Addr} (hp : b ≠ p.block) (u : Value) : Seen (w.setCell p u) b n S := h.heap (Below.heap_setCell w p u b hp)
theorem Seen.alloc {w : World} {b n : Nat} {S : List Int} (h : Seen w b n S) (o : Obj) : Seen (w.alloc o) b n S := h.below (below_alloc (Below.refl _ _) o)
theorem Seen.drew {w : World} {b n : Nat} {S : List Int} (h : Seen w b n S) : Seen w.drew b n S := h
theorem Seen.drewN {w : World} {b n : Nat} {S : List Int} (h : Seen w b n S) (m : Nat) : Seen (w.drewN m) b n S := h
theorem seen_made (w : World) : Seen (w.alloc (.map #[] 0)) w.heap.size 0 [] := ⟨.map [], World.ownsMap_made _ _ _ _, isMap_empty, fun x _ => by simp [DataW.atKey]⟩

theorem bool_inv {P : Program} {e : TypeId} (he : P.underlying e = some .bool) {v : Value} {z : DataW Unit × List MemPlace} (h : plainElem P e v = some z) : ∃ x, v = .bool x ∧ z = (.lit (.bool x), []) := by
  unfold plainElem at h
  rw [he] at h
  cases v <;> simp at h
  exact ⟨_, rfl, h.symm⟩

/-- m[x]: the world doesn't turn. -/
theorem Seen.look {w : World} {b n : Nat} {S : List Int} (h : Seen w b n S) {x : Int} (hx : (Lit.int .i64 x).wf = true) : (Instr.lookup 117 (.map (some b)) (.int .i64 x) false).run Try.prog w = .ok (.bool (decide (x ∈ S))) w := by
  obtain ⟨D, h1, _, h3⟩ := h
  obtain ⟨v, ps, hrun, hv⟩ := h1.lookup (int_keyed Try.underlying3) Try.underlying117 (zeroE w) (plainElem_bool Try.underlying4 false) (keyOf_int_mk Try.underlying3 hx)
  obtain ⟨y, rfl, hy⟩ := bool_inv Try.underlying4 hv
  rw [h3 x hx] at hy
  simp only [Prod.mk.injEq, DataW.lit.injEq, Lit.bool.injEq] at hy
  rw [hrun, hy.1]
/-- m[x] = true -/
theorem Seen.put {w : World} {b n : Nat} {S : List Int} (h : Seen w b n S) (hn : n < maxLen) {x : Int} (hx : (Lit.int .i64 x).wf = true) :
    ∃ w', (Instr.mapUpdate 117 (.map (some b)) (.int .i64 x) (.bool true)).run Try.prog w = .ok () w' ∧ Seen w' b (n + 1) (x :: S) ∧ w.grownBy w' (some b) := by
  obtain ⟨D, h1, h2, h3⟩ := h
  obtain ⟨w', hrun, h4, h5⟩ := h1.update (int_keyed Try.underlying3) Try.underlying117 hn (keyOf_int_mk Try.underlying3 hx) (plainElem_bool Try.underlying4 true)
  refine ⟨w', hrun, ⟨_, h4, h2.put _ _, fun y hy => ?_⟩, h5⟩
  by_cases e : y = x
  · subst e
    rw [atKey_put_same h2 (show WideAt.IsKeyLit (.int .i64 y) from trivial)]
    simp
  · rw [atKey_put_other (by intro h; cases h; exact e rfl), h3 y hy]
    simp [e]

section
variable {ops : Array Oper} {rest : List Oper} {o : Oper} {a : Act} {Q : Exit → Act → World → Prop}
theorem put_event {W : World} (hg : o.guard = none) (m x v : Operand) (hop : o.op = Op.mapUpdate 117 m x v) {b n : Nat} {S : List Int} (hm : a.eval m = .map (some b)) {y : Int} (hx : a.eval x = .int .i64 y) (hv : a.eval v = .bool true) (hs : Seen W b n S) (hn : n < maxLen) (hy : (Lit.int .i64 y).wf = true)
    (h : ∀ w1, Seen w1 b (n + 1) (y :: S) → W.grownBy w1 (some b) → wpList Try.prog ops Q rest (a.put o.dst undef) w1) : wpList Try.prog ops Q (o :: rest) a W := by
  refine wpList_plain hg fun K' hK' => ?_
  obtain ⟨w', hrun, r1, r2⟩ := hs.put hn hy
  unfold Oper.wp
  simp [execOp, hop, hm, hx, hv, hrun, Result.andThen]
  exact hK' _ _ (h w' r1 r2)
theorem made_event {W : World} (hgd : o.guard = none) {N : Tmp} (_hd : o.dst = some N) (hrun : (execOp a.eval o).run Try.prog W = .ok (.value (.map (some W.heap.size))) (W.alloc (.map #[] 0)))
    (h : ∀ g, g = W.heap.size → ∀ w1, Seen w1 g 0 [] → Below W.heap.size W w1 → wpList Try.prog ops Q rest (a.put o.dst (.map (some g))) w1) : wpList Try.prog ops Q (o :: rest) a W :=
  Kd.event_run hgd hrun (h _ rfl _ (seen_made W) (below_alloc (Below.refl _ _) _))
end
end Go.Proofs.Ytmbacnnbpnlekaa.MB
