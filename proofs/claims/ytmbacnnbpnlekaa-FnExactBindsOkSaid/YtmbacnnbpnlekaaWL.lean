/- Steps for laws that are walked in one straight line: what a call makes lies between two sizes of the heap. -/
import Derived.Test.YtmbacnnbpnlekaaWS
import Derived.Test.YtmbacnnbpnlekaaWKept
import Derived.Test.YtmbacnnbpnlekaaWMore
namespace Go.Proofs.YtmbacnnbpnlekaaW.PrintWords
open Go Go.RowKit
theorem sz_set {z : Nat} {w : World} {p : Addr} (u : Value) (h : z ≤ w.heap.size) : z ≤ (w.setCell p u).heap.size := Nat.le_trans h ((Below.refl 0 w).setCell (p := p) (Nat.zero_le _) u).size
theorem sz_drewN {z : Nat} {w : World} (m : Nat) (h : z ≤ w.heap.size) : z ≤ (w.drewN m).heap.size := h
theorem sz_drew {z : Nat} {w : World} (h : z ≤ w.heap.size) : z ≤ w.drew.heap.size := h
theorem sz_alloc {z : Nat} {w : World} (o : Obj) (h : z ≤ w.heap.size) : z ≤ (w.alloc o).heap.size := Nat.le_trans h (below_alloc (Below.refl w.heap.size w) o).size
theorem sz_next {z : Nat} {W w1 : World} (h : z ≤ W.heap.size) (hb : Below W.heap.size W w1) : z ≤ w1.heap.size := Nat.le_trans h hb.size
theorem sz_kept {z : Nat} {W w1 : World} {P : Nat → Prop} (h : z ≤ W.heap.size) (hk : Kept W w1 P) : z ≤ w1.heap.size := Nat.le_trans h hk.1
theorem kept_src {W w1 : World} {S : Nat → Prop} (_hk : Kept W w1 S) : ∃ W', W' = W := ⟨W, rfl⟩
theorem line_drawn {W w1 : World} (h : Drawn0 W w1) : Below W.heap.size W w1 := by
  obtain ⟨n, rfl⟩ := h
  exact pw_below_drewN (Below.refl _ _) n
namespace Kd
variable {α : Type} {d : Kd α} {e N M b : Nat} {W w1 : World} {ok ok' : Nat → Prop} {v : Value} {xs ys : List α}
theorem S_made (h : S d e w1 W.heap.size ok v xs) (hN : N ≤ W.heap.size) (hM : M = w1.heap.size) (hb : b ≤ W.heap.size) : S d e w1 b (fun k => N ≤ k ∧ k < M) v xs :=
  S_lower (S_mono (S_bound h) (fun _ hk => ⟨Nat.le_trans hN hk.2.1, hM ▸ hk.2.2.1⟩)) hb
theorem R_made (h : d.R e w1 W.heap.size ok v xs) (hN : N ≤ W.heap.size) (hM : M = w1.heap.size) (hb : b ≤ W.heap.size) : d.R e w1 b (fun k => N ≤ k ∧ k < M) v xs :=
  R_lower (R_mono (R_bound h) (fun _ hk => ⟨Nat.le_trans hN hk.2.1, hM ▸ hk.2.2.1⟩)) hb
theorem R_marked (hE : d.E = []) (h : d.R e w1 b ok' v ys) (h0 : d.R e W b ok v xs) : d.R e w1 b ok v ys := R_reok hE h (fun k hk => h0.1 k hk)
end Kd
end Go.Proofs.YtmbacnnbpnlekaaW.PrintWords
