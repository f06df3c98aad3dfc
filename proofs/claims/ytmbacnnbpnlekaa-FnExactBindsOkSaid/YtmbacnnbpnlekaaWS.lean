/- Slices whose elements lie apart, as a kind: for types that are nested in themselves. -/
import Derived.Test.YtmbacnnbpnlekaaWApart
import Derived.Test.YtmbacnnbpnlekaaWFoot
namespace Go.Proofs.YtmbacnnbpnlekaaW.PrintWords
open Go Go.RowKit
namespace Kd

def sliceS {α : Type} (e : Nat) (d : Kd α) : Kd (List α) where
  sz := 1
  E := e :: d.E
  K := (slice e d).K
  M := fun w base ok xs cs => ∃ v, cs = [v] ∧ S d e w base ok v xs
  K_len := (slice e d).K_len
  K_one := (slice e d).K_one
  K_below := (slice e d).K_below
  K_of_M := fun ⟨v, hv, h⟩ => (slice e d).K_of_M ⟨v, hv, S_R h⟩
  M_mono := fun hok ⟨v, hv, f, h⟩ => ⟨v, hv, f, R_mono h hok⟩
  M_bound := fun ⟨v, hv, f, h⟩ => ⟨v, hv, f, R_bound h⟩
  M_move := fun hm ⟨v, hv, f, h⟩ => ⟨v, hv, f, R_move h hm⟩
  M_lower := fun hb ⟨v, hv, f, h⟩ => ⟨v, hv, f, R_lower h hb⟩

theorem sub_sliceS {α β : Type} {E : List Nat} (e : Nat) {G : Kd α → Kd β} (he : e ∈ E) (hG : Sub G E) : Sub (fun d => sliceS e (G d)) E := fun d h q hq => by
  rcases List.mem_cons.1 hq with rfl | hq
  · exact he
  · exact hG d h q hq

theorem mono_sliceS {α β : Type} (e : Nat) {G : Kd α → Kd β} (hG : Mono G) : Mono (fun d => sliceS e (G d)) := by
  refine ⟨fun _ _ _ => rfl, fun d d' hs h => (mono_slice e hG).K d d' hs h, ?_⟩
  rintro d d' hs h w base ok x cs ⟨v, rfl, f, hr⟩
  exact ⟨v, rfl, f, R_imp (d := tag f (G d)) (d' := tag f (G d')) (hG.sz d d' hs) (fun w base ok x cs hx => hG.M d d' hs h w base _ x.1 cs hx) hr⟩

theorem heap_sliceS {α : Type} {d : Kd α} (e : Nat) (hd : Heap d) : Heap (sliceS e d) := ⟨fun hb h => (heap_slice e hd).K hb h⟩

section
variable {α : Type} {F : Kd α → Kd α} {sz : Nat} {E : List Nat} {hs : ∀ n, (upto F sz E n).sz = sz} {hE : ∀ n q, q ∈ (upto F sz E n).E → q ∈ E}
theorem fix_S {n : Nat} {e : Nat} {w : World} {base : Nat} {ok : Nat → Prop} {v : Value} {xs : List α} (h : S (upto F sz E n) e w base ok v xs) : S (fix F sz E hs hE) e w base ok v xs := by
  obtain ⟨f, h⟩ := h
  exact ⟨f, R_imp (d := tag f (upto F sz E n)) (d' := tag f (fix F sz E hs hE)) (hs n) (fun w base ok x cs hp => (⟨n, hp⟩ : ∃ n, (upto F sz E n).M w base _ x.1 cs)) h⟩
theorem upto_S_le (hm : Mono F) (hs : ∀ n, (upto F sz E n).sz = sz) {n m : Nat} (hnm : n ≤ m) {e : Nat} {w : World} {base : Nat} {ok : Nat → Prop} {v : Value} {xs : List α} (h : S (upto F sz E n) e w base ok v xs) : S (upto F sz E m) e w base ok v xs := by
  obtain ⟨f, h⟩ := h
  exact ⟨f, R_imp (d := tag f (upto F sz E n)) (d' := tag f (upto F sz E m)) ((hs n).trans (hs m).symm) (fun w base ok x cs hp => upto_M_le hm hs hnm hp) h⟩
theorem fix_S_back (hm : Mono F) {e : Nat} {w : World} {base : Nat} {ok : Nat → Prop} {v : Value} {xs : List α} (h : S (fix F sz E hs hE) e w base ok v xs) : ∃ n, S (upto F sz E n) e w base ok v xs := by
  obtain ⟨f, h0, inner, ho, hr⟩ := h
  obtain ⟨N, hN⟩ := reps_bounded (R := fun n p c => (tag f (upto F sz E n)).M w base (fun k => ok k ∧ some k ≠ v.ownBlock) p c) (fun n m p c hnm hp => upto_M_le hm hs hnm hp) hr
  refine ⟨N, f, h0, inner, ?_, ?_⟩
  · show w.ownsRow base e (upto F sz E N).sz v xs.zipIdx.length inner
    rw [hs N]; exact ho
  · show Reps _ (upto F sz E N).sz _ _
    rw [hs N]; exact hN
end

section
variable {α : Type} {d : Kd α} {e : Nat} {base : Nat} {W w1 : World} {ok : Nat → Prop} {u v : Value} {xs : List α}
/-- What was there before a call is below the call's first block; what the call makes is not. -/
theorem S_elderP (hu : S d e W base ok u xs) (hb : Below W.heap.size W w1) : S d e w1 base (fun k => ok k ∧ k < W.heap.size) u xs := S_below (S_mono (S_bound hu) (fun _ hk => ⟨hk.1, hk.2.2.1⟩)) hb
theorem S_freshP (h : S d e w1 W.heap.size ok v xs) : S d e w1 W.heap.size (fun k => ok k ∧ W.heap.size ≤ k) v xs := S_mono (S_bound h) (fun _ hk => ⟨hk.1, hk.2.1⟩)
theorem size_of (_hb : Below W.heap.size W w1) : ∃ N, N = W.heap.size := ⟨_, rfl⟩
theorem S_elderN {N : Nat} (hN : N = W.heap.size) (hu : S d e W base ok u xs) (hb : Below W.heap.size W w1) : S d e w1 base (fun k => ok k ∧ k < N) u xs := hN ▸ S_elderP hu hb
theorem S_freshN {N : Nat} (hN : N = W.heap.size) (h : S d e w1 W.heap.size ok v xs) : S d e w1 W.heap.size (fun k => ok k ∧ N ≤ k) v xs := hN ▸ S_freshP h
theorem S_ok (h : S d e W base ok v xs) : ∀ k, v.ownBlock = some k → ok k := by
  obtain ⟨f, h0, _⟩ := h
  exact h0
end

end Kd
end Go.Proofs.YtmbacnnbpnlekaaW.PrintWords
