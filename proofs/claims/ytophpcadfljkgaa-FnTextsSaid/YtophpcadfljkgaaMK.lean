/- The mark that a constant's bytes get: a step of a walk's region, and what it leaves. -/
import Derived.Lib.SlBytesConst
import Derived.Test.YtophpcadfljkgaaPAx0
namespace Go.Proofs.Ytophpcadfljkgaa.MK
open Go Go.RowKit Go.Proofs.YtophpcadfljkgaaW.PrintWords Go.Proofs.YtophpcadfljkgaaW.PrintLast Go.Proofs.YtophpcadfljkgaaW.PrintMore

theorem cell_freeze (W : World) (p : Addr) (n : Nat) (a : Addr) : (W.freeze p n).cell? a = W.cell? a := by
  unfold World.freeze
  split
  · rfl
  · unfold World.cell?
    by_cases h : p.block = a.block
    · simp only [Array.getElem?_modify, if_pos h]
      cases W.heap[a.block]? with
      | none => rfl
      | some o => cases o <;> rfl
    · simp only [Array.getElem?_modify, if_neg h]

theorem size_freeze (W : World) (p : Addr) (n : Nat) : (W.freeze p n).heap.size = W.heap.size := by
  unfold World.freeze
  split
  · rfl
  · simp

theorem block_freeze (W : World) (p : Addr) (n : Nat) {k : Nat} (h : k ≠ p.block) : (W.freeze p n).heap[k]? = W.heap[k]? := by
  unfold World.freeze
  split
  · rfl
  · simp only [Array.getElem?_modify, if_neg (Ne.symm h)]

theorem C_freeze {W : World} {A : Option Addr} {n : Nat} {xs : List Int} (p : Addr) (m : Nat) (h : Kd.C (Kd.int .u8) W A n xs) : Kd.C (Kd.int .u8) (W.freeze p m) A n xs := by
  refine ⟨h.1, h.2.1, fun h0 => ?_⟩
  obtain ⟨ad, ea, hc⟩ := h.2.2 h0
  refine ⟨ad, ea, fun j q hj => ?_⟩
  obtain ⟨c, hl, hk, hcell⟩ := hc j q hj
  exact ⟨c, hl, hk, fun i u hu => by rw [cell_freeze]; exact hcell i u hu⟩

variable {P : Program} {ops : Array Oper} {o : Oper} {a : Act} {Kc : Act → World → Prop} {Q : Exit → Act → World → Prop}

theorem mark_step {w0 W : World} (base e : Nat) (hw : Region.wanted o (yielded ops a.tmps) = true) (t : TypeId) (x : Operand) (ho : o.op = .convert t t x)
    (ht : P.underlying t = some (.slice e)) (he : P.underlying e = some (.int .u8)) {A : Option Addr} {n c : Nat} {xs : List Int} {ok : Nat → Prop} (hx : a.eval x = .slice A n c)
    (HO : Kd.R (Kd.int .u8) e W base ok (.slice A n c) xs) (hne : xs ≠ []) (HB : Below base w0 W)
    (h : ∀ w1, Kd.C (Kd.int .u8) w1 A xs.length xs → Below base w0 w1 → W.grownBy w1 (Value.slice A n c).ownBlock → (∀ k, (Value.slice A n c).ownBlock = some k → k < w1.heap.size) → Kc (a.put o.dst (.slice A n c)) w1) :
    if Region.wanted o (yielded ops a.tmps) = true then Oper.wp P o a W Kc Q else Kc (a.put o.dst undef) W := by
  have hC := (Kd.R_reads' HO).2.2
  have hlt := Kd.R_lt HO
  obtain ⟨_, inner, ⟨hl, hown⟩, hr⟩ := HO
  rcases hown with ⟨hv, hn⟩ | ⟨g, cap, cur, hv, hb, hg, h1, h2, h3, h4⟩
  · exact absurd (List.length_eq_zero_iff.mp hn) hne
  · injection hv with hA hn hc
    subst hA
    have hsh : W.shape? g = some (e, cur.size) := by unfold World.shape?; rw [hg]
    have hrun : (execOp a.eval o).run P W = .ok (.value (.slice (some ⟨g, 0, none⟩) n c)) (W.freeze ⟨g, cur.size, none⟩ 1) := by
      have : (convert t t (.slice (some ⟨g, 0, none⟩) n c)).run P W = .ok (.slice (some ⟨g, 0, none⟩) n c) (W.freeze ⟨g, cur.size, none⟩ 1) := by
        simp [convert, run_underlying ht, run_underlying he, markStringish, hsh]
      unfold execOp
      rw [ho]
      simp only [hx]
      simp [this]
    refine event_step hw hrun (h _ (C_freeze _ _ hC) ?_ ?_ ?_)
    · refine ⟨?_, ?_, ?_, by rw [size_freeze]; exact HB.size, fun k hk => by rw [block_freeze _ _ _ (by show k ≠ g; omega)]; exact HB.block k hk⟩
      · rw [← HB.os]; unfold World.freeze; split <;> rfl
      · rw [← HB.tape]; unfold World.freeze; split <;> rfl
      · rw [← HB.output]; unfold World.freeze; split <;> rfl
    · refine ⟨?_, ?_, ?_, by rw [size_freeze]; exact Nat.le_refl _, fun k _ hk => block_freeze _ _ _ (fun e => hk (by rw [e]; rfl))⟩
      all_goals (unfold World.freeze; split <;> rfl)
    · intro k hk
      rw [size_freeze]
      exact hlt k hk

end Go.Proofs.Ytophpcadfljkgaa.MK
