-- Printed by a program of this session (wrap.py) out of the translation. Lean checks it.
import Derived.Test.YtbifoajnmikhiaaPDx0
import Derived.Test.YtbifoajnmikhiaaPDx15
import Derived.Test.YtbifoajnmikhiaaPDx16
import Derived.Test.YtbifoajnmikhiaaPDx20
namespace Go.Proofs.Ytbifoajnmikhiaa.PD
open Go.RowKit Go.Proofs.YtbifoajnmikhiaaW.PrintWords Go.Proofs.YtbifoajnmikhiaaW.PrintLast Go.Proofs.YtbifoajnmikhiaaW.PrintMore
attribute [local go_sem] max2_int min2_int max_two min_two max_three min_three max_four min_four   -- for this text's walks alone
set_option linter.unusedVariables false
set_option linter.unusedSimpArgs false

/-! ### impl_readTy: function 62 -/
mutual
def impl_readTy.j0 : Nat → List Int → Int → Int → Bool → Option (Int × Int × (List (S29)) × Int)
  | 0, _, _, _, _ => none
  | k + 1, x0, x1, x2, x21 => if x21 = true then (some (0, 0, ([] : List (S29)), (-1))) else (if 0 ≤ x1 then (if x1 < (x0.length : Int) then ((impl_argsOf.f k (wrap64 (rd x0 x1))).bind fun t175 => (if t175 = (-2) then (some (0, 0, ([] : List (S29)), (-1))) else (if (wrap64 (rd x0 x1)) = 6 then (impl_readTy.j1 k x0 (wrap64 (x1 + 1)) x2 t175 true (wrap64 (rd x0 x1)) 0) else (impl_readTy.j1 k x0 (wrap64 (x1 + 1)) x2 t175 ((wrap64 (rd x0 x1)) == 7) (wrap64 (rd x0 x1)) 0)))) else (none)) else (none))
def impl_readTy.j1 : Nat → List Int → Int → Int → Int → Bool → Int → Int → Option (Int × Int × (List (S29)) × Int)
  | 0, _, _, _, _, _, _, _ => none
  | k + 1, x0, x1, x2, x9, x44, x175000, x175001 => if x44 = true then ((impl_GetNum.f k x0 x1).bind fun bt176 => (impl_readTy.j2 k x0 bt176.2 x2 x9 x175000 bt176.1)) else (impl_readTy.j2 k x0 x1 x2 x9 x175000 x175001)
def impl_readTy.j2 : Nat → List Int → Int → Int → Int → Int → Int → Option (Int × Int × (List (S29)) × Int)
  | 0, _, _, _, _, _, _ => none
  | k + 1, x0, x1, x2, x9, x175000, x175001 => if x175000 = 6 then (impl_readTy.j3 k x0 x1 x2 x9 (decide (x1 ≥ 0)) x175000 x175001) else (impl_readTy.j3 k x0 x1 x2 x9 false x175000 x175001)
def impl_readTy.j3 : Nat → List Int → Int → Int → Int → Bool → Int → Int → Option (Int × Int × (List (S29)) × Int)
  | 0, _, _, _, _, _, _, _ => none
  | k + 1, x0, x1, x2, x9, x58, x175000, x175001 => if x58 = true then ((impl_GetNum.f k x0 x1).bind fun bt178 => (impl_readTy.j4 k x0 bt178.2 x2 bt178.1 x175000 x175001)) else (impl_readTy.j4 k x0 x1 x2 x9 x175000 x175001)
def impl_readTy.j4 : Nat → List Int → Int → Int → Int → Int → Int → Option (Int × Int × (List (S29)) × Int)
  | 0, _, _, _, _, _, _ => none
  | k + 1, x0, x1, x2, x9, x175000, x175001 => if x1 < 0 then (impl_readTy.j5 k x0 x1 x2 x9 true x175000 x175001) else (impl_readTy.j5 k x0 x1 x2 x9 (decide (x9 > 3)) x175000 x175001)
def impl_readTy.j5 : Nat → List Int → Int → Int → Int → Bool → Int → Int → Option (Int × Int × (List (S29)) × Int)
  | 0, _, _, _, _, _, _, _ => none
  | k + 1, x0, x1, x2, x9, x70, x175000, x175001 => if x70 = true then (some (0, 0, ([] : List (S29)), (-1))) else (impl_readTy.l0 k x0 x1 x2 x9 0 x175000 x175001 ([] : List (S29)))
def impl_readTy.l0 : Nat → List Int → Int → Int → Int → Int → Int → Int → List (S29) → Option (Int × Int × (List (S29)) × Int)
  | 0, _, _, _, _, _, _, _, _ => none
  | k + 1, x0, x1, x2, x72, x73, x175000, x175001, x175002 => if x73 < x72 then ((impl_readTy.f k x0 x1 (wrap64 (x2 + 1))).bind fun bt180 => (if bt180.2.2.2 < 0 then (some (0, 0, ([] : List (S29)), (-1))) else (if x175002.length < 3518437208883 then (impl_readTy.l0 k x0 bt180.2.2.2 x2 x72 (wrap64 (x73 + 1)) x175000 x175001 (x175002 ++ [(⟨bt180.1, bt180.2.1, bt180.2.2.1⟩ : S29)])) else (none)))) else (some (x175000, x175001, x175002, x1))
def impl_readTy.f : Nat → List Int → Int → Int → Option (Int × Int × (List (S29)) × Int)
  | 0, _, _, _ => none
  | k + 1, l0, a1, a2 => if a2 > 10 then (impl_readTy.j0 k l0 a1 a2 true) else ((impl_within.f a1 0 (wrap64 ((l0.length : Int) - 1))).bind fun t172 => (impl_readTy.j0 k l0 a1 a2 (!t172)))
end
theorem impl_readTy.mono_l : ∀ k, (∀ y0 y1 y2, LeO (impl_readTy.f k y0 y1 y2) (impl_readTy.f (k + 1) y0 y1 y2)) ∧ (∀ y0 y1 y2 y3, LeO (impl_readTy.j0 k y0 y1 y2 y3) (impl_readTy.j0 (k + 1) y0 y1 y2 y3)) ∧ (∀ y0 y1 y2 y3 y4 y5 y6, LeO (impl_readTy.j1 k y0 y1 y2 y3 y4 y5 y6) (impl_readTy.j1 (k + 1) y0 y1 y2 y3 y4 y5 y6)) ∧ (∀ y0 y1 y2 y3 y4 y5, LeO (impl_readTy.j2 k y0 y1 y2 y3 y4 y5) (impl_readTy.j2 (k + 1) y0 y1 y2 y3 y4 y5)) ∧ (∀ y0 y1 y2 y3 y4 y5 y6, LeO (impl_readTy.j3 k y0 y1 y2 y3 y4 y5 y6) (impl_readTy.j3 (k + 1) y0 y1 y2 y3 y4 y5 y6)) ∧ (∀ y0 y1 y2 y3 y4 y5, LeO (impl_readTy.j4 k y0 y1 y2 y3 y4 y5) (impl_readTy.j4 (k + 1) y0 y1 y2 y3 y4 y5)) ∧ (∀ y0 y1 y2 y3 y4 y5 y6, LeO (impl_readTy.j5 k y0 y1 y2 y3 y4 y5 y6) (impl_readTy.j5 (k + 1) y0 y1 y2 y3 y4 y5 y6)) ∧ (∀ y0 y1 y2 y3 y4 y5 y6 y7, LeO (impl_readTy.l0 k y0 y1 y2 y3 y4 y5 y6 y7) (impl_readTy.l0 (k + 1) y0 y1 y2 y3 y4 y5 y6 y7))
  | 0 => ⟨fun _ _ _ r h => by simp [impl_readTy.f] at h, fun _ _ _ _ r h => by simp [impl_readTy.j0] at h, fun _ _ _ _ _ _ _ r h => by simp [impl_readTy.j1] at h, fun _ _ _ _ _ _ r h => by simp [impl_readTy.j2] at h, fun _ _ _ _ _ _ _ r h => by simp [impl_readTy.j3] at h, fun _ _ _ _ _ _ r h => by simp [impl_readTy.j4] at h, fun _ _ _ _ _ _ _ r h => by simp [impl_readTy.j5] at h, fun _ _ _ _ _ _ _ _ r h => by simp [impl_readTy.l0] at h⟩
  | k + 1 => by
    obtain ⟨ih0, ih1, ih2, ih3, ih4, ih5, ih6, ih7⟩ := impl_readTy.mono_l k
    refine ⟨?_, ?_, ?_, ?_, ?_, ?_, ?_, ?_⟩
    · intro y0 y1 y2
      unfold impl_readTy.f
      repeat' first
      | (with_reducible exact ih0 _ _ _)
      | (with_reducible exact ih1 _ _ _ _)
      | (with_reducible exact ih2 _ _ _ _ _ _ _)
      | (with_reducible exact ih3 _ _ _ _ _ _)
      | (with_reducible exact ih4 _ _ _ _ _ _ _)
      | (with_reducible exact ih5 _ _ _ _ _ _)
      | (with_reducible exact ih6 _ _ _ _ _ _ _)
      | (with_reducible exact ih7 _ _ _ _ _ _ _ _)
      | (with_reducible exact impl_GetNum.mono _ _ _)
      | (with_reducible exact impl_argsOf.mono _ _)
      | (with_reducible exact LeO.refl _)
      | (with_reducible exact LeO.none _)
      | (with_reducible refine LeO.ite ?_ ?_)
      | (with_reducible refine LeO.bind ?_ (fun _ => ?_))
      | exact ih0 _ _ _
      | exact ih1 _ _ _ _
      | exact ih2 _ _ _ _ _ _ _
      | exact ih3 _ _ _ _ _ _
      | exact ih4 _ _ _ _ _ _ _
      | exact ih5 _ _ _ _ _ _
      | exact ih6 _ _ _ _ _ _ _
      | exact ih7 _ _ _ _ _ _ _ _
      | exact impl_GetNum.mono _ _ _
      | exact impl_argsOf.mono _ _
      | exact LeO.none _
      | refine LeO.ite ?_ ?_
      | refine LeO.bind ?_ (fun _ => ?_)
    · intro y0 y1 y2 y3
      unfold impl_readTy.j0
      repeat' first
      | (with_reducible exact ih0 _ _ _)
      | (with_reducible exact ih1 _ _ _ _)
      | (with_reducible exact ih2 _ _ _ _ _ _ _)
      | (with_reducible exact ih3 _ _ _ _ _ _)
      | (with_reducible exact ih4 _ _ _ _ _ _ _)
      | (with_reducible exact ih5 _ _ _ _ _ _)
      | (with_reducible exact ih6 _ _ _ _ _ _ _)
      | (with_reducible exact ih7 _ _ _ _ _ _ _ _)
      | (with_reducible exact impl_GetNum.mono _ _ _)
      | (with_reducible exact impl_argsOf.mono _ _)
      | (with_reducible exact LeO.refl _)
      | (with_reducible exact LeO.none _)
      | (with_reducible refine LeO.ite ?_ ?_)
      | (with_reducible refine LeO.bind ?_ (fun _ => ?_))
      | exact ih0 _ _ _
      | exact ih1 _ _ _ _
      | exact ih2 _ _ _ _ _ _ _
      | exact ih3 _ _ _ _ _ _
      | exact ih4 _ _ _ _ _ _ _
      | exact ih5 _ _ _ _ _ _
      | exact ih6 _ _ _ _ _ _ _
      | exact ih7 _ _ _ _ _ _ _ _
      | exact impl_GetNum.mono _ _ _
      | exact impl_argsOf.mono _ _
      | exact LeO.none _
      | refine LeO.ite ?_ ?_
      | refine LeO.bind ?_ (fun _ => ?_)
    · intro y0 y1 y2 y3 y4 y5 y6
      unfold impl_readTy.j1
      repeat' first
      | (with_reducible exact ih0 _ _ _)
      | (with_reducible exact ih1 _ _ _ _)
      | (with_reducible exact ih2 _ _ _ _ _ _ _)
      | (with_reducible exact ih3 _ _ _ _ _ _)
      | (with_reducible exact ih4 _ _ _ _ _ _ _)
      | (with_reducible exact ih5 _ _ _ _ _ _)
      | (with_reducible exact ih6 _ _ _ _ _ _ _)
      | (with_reducible exact ih7 _ _ _ _ _ _ _ _)
      | (with_reducible exact impl_GetNum.mono _ _ _)
      | (with_reducible exact impl_argsOf.mono _ _)
      | (with_reducible exact LeO.refl _)
      | (with_reducible exact LeO.none _)
      | (with_reducible refine LeO.ite ?_ ?_)
      | (with_reducible refine LeO.bind ?_ (fun _ => ?_))
      | exact ih0 _ _ _
      | exact ih1 _ _ _ _
      | exact ih2 _ _ _ _ _ _ _
      | exact ih3 _ _ _ _ _ _
      | exact ih4 _ _ _ _ _ _ _
      | exact ih5 _ _ _ _ _ _
      | exact ih6 _ _ _ _ _ _ _
      | exact ih7 _ _ _ _ _ _ _ _
      | exact impl_GetNum.mono _ _ _
      | exact impl_argsOf.mono _ _
      | exact LeO.none _
      | refine LeO.ite ?_ ?_
      | refine LeO.bind ?_ (fun _ => ?_)
    · intro y0 y1 y2 y3 y4 y5
      unfold impl_readTy.j2
      repeat' first
      | (with_reducible exact ih0 _ _ _)
      | (with_reducible exact ih1 _ _ _ _)
      | (with_reducible exact ih2 _ _ _ _ _ _ _)
      | (with_reducible exact ih3 _ _ _ _ _ _)
      | (with_reducible exact ih4 _ _ _ _ _ _ _)
      | (with_reducible exact ih5 _ _ _ _ _ _)
      | (with_reducible exact ih6 _ _ _ _ _ _ _)
      | (with_reducible exact ih7 _ _ _ _ _ _ _ _)
      | (with_reducible exact impl_GetNum.mono _ _ _)
      | (with_reducible exact impl_argsOf.mono _ _)
      | (with_reducible exact LeO.refl _)
      | (with_reducible exact LeO.none _)
      | (with_reducible refine LeO.ite ?_ ?_)
      | (with_reducible refine LeO.bind ?_ (fun _ => ?_))
      | exact ih0 _ _ _
      | exact ih1 _ _ _ _
      | exact ih2 _ _ _ _ _ _ _
      | exact ih3 _ _ _ _ _ _
      | exact ih4 _ _ _ _ _ _ _
      | exact ih5 _ _ _ _ _ _
      | exact ih6 _ _ _ _ _ _ _
      | exact ih7 _ _ _ _ _ _ _ _
      | exact impl_GetNum.mono _ _ _
      | exact impl_argsOf.mono _ _
      | exact LeO.none _
      | refine LeO.ite ?_ ?_
      | refine LeO.bind ?_ (fun _ => ?_)
    · intro y0 y1 y2 y3 y4 y5 y6
      unfold impl_readTy.j3
      repeat' first
      | (with_reducible exact ih0 _ _ _)
      | (with_reducible exact ih1 _ _ _ _)
      | (with_reducible exact ih2 _ _ _ _ _ _ _)
      | (with_reducible exact ih3 _ _ _ _ _ _)
      | (with_reducible exact ih4 _ _ _ _ _ _ _)
      | (with_reducible exact ih5 _ _ _ _ _ _)
      | (with_reducible exact ih6 _ _ _ _ _ _ _)
      | (with_reducible exact ih7 _ _ _ _ _ _ _ _)
      | (with_reducible exact impl_GetNum.mono _ _ _)
      | (with_reducible exact impl_argsOf.mono _ _)
      | (with_reducible exact LeO.refl _)
      | (with_reducible exact LeO.none _)
      | (with_reducible refine LeO.ite ?_ ?_)
      | (with_reducible refine LeO.bind ?_ (fun _ => ?_))
      | exact ih0 _ _ _
      | exact ih1 _ _ _ _
      | exact ih2 _ _ _ _ _ _ _
      | exact ih3 _ _ _ _ _ _
      | exact ih4 _ _ _ _ _ _ _
      | exact ih5 _ _ _ _ _ _
      | exact ih6 _ _ _ _ _ _ _
      | exact ih7 _ _ _ _ _ _ _ _
      | exact impl_GetNum.mono _ _ _
      | exact impl_argsOf.mono _ _
      | exact LeO.none _
      | refine LeO.ite ?_ ?_
      | refine LeO.bind ?_ (fun _ => ?_)
    · intro y0 y1 y2 y3 y4 y5
      unfold impl_readTy.j4
      repeat' first
      | (with_reducible exact ih0 _ _ _)
      | (with_reducible exact ih1 _ _ _ _)
      | (with_reducible exact ih2 _ _ _ _ _ _ _)
      | (with_reducible exact ih3 _ _ _ _ _ _)
      | (with_reducible exact ih4 _ _ _ _ _ _ _)
      | (with_reducible exact ih5 _ _ _ _ _ _)
      | (with_reducible exact ih6 _ _ _ _ _ _ _)
      | (with_reducible exact ih7 _ _ _ _ _ _ _ _)
      | (with_reducible exact impl_GetNum.mono _ _ _)
      | (with_reducible exact impl_argsOf.mono _ _)
      | (with_reducible exact LeO.refl _)
      | (with_reducible exact LeO.none _)
      | (with_reducible refine LeO.ite ?_ ?_)
      | (with_reducible refine LeO.bind ?_ (fun _ => ?_))
      | exact ih0 _ _ _
      | exact ih1 _ _ _ _
      | exact ih2 _ _ _ _ _ _ _
      | exact ih3 _ _ _ _ _ _
      | exact ih4 _ _ _ _ _ _ _
      | exact ih5 _ _ _ _ _ _
      | exact ih6 _ _ _ _ _ _ _
      | exact ih7 _ _ _ _ _ _ _ _
      | exact impl_GetNum.mono _ _ _
      | exact impl_argsOf.mono _ _
      | exact LeO.none _
      | refine LeO.ite ?_ ?_
      | refine LeO.bind ?_ (fun _ => ?_)
    · intro y0 y1 y2 y3 y4 y5 y6
      unfold impl_readTy.j5
      repeat' first
      | (with_reducible exact ih0 _ _ _)
      | (with_reducible exact ih1 _ _ _ _)
      | (with_reducible exact ih2 _ _ _ _ _ _ _)
      | (with_reducible exact ih3 _ _ _ _ _ _)
      | (with_reducible exact ih4 _ _ _ _ _ _ _)
      | (with_reducible exact ih5 _ _ _ _ _ _)
      | (with_reducible exact ih6 _ _ _ _ _ _ _)
      | (with_reducible exact ih7 _ _ _ _ _ _ _ _)
      | (with_reducible exact impl_GetNum.mono _ _ _)
      | (with_reducible exact impl_argsOf.mono _ _)
      | (with_reducible exact LeO.refl _)
      | (with_reducible exact LeO.none _)
      | (with_reducible refine LeO.ite ?_ ?_)
      | (with_reducible refine LeO.bind ?_ (fun _ => ?_))
      | exact ih0 _ _ _
      | exact ih1 _ _ _ _
      | exact ih2 _ _ _ _ _ _ _
      | exact ih3 _ _ _ _ _ _
      | exact ih4 _ _ _ _ _ _ _
      | exact ih5 _ _ _ _ _ _
      | exact ih6 _ _ _ _ _ _ _
      | exact ih7 _ _ _ _ _ _ _ _
      | exact impl_GetNum.mono _ _ _
      | exact impl_argsOf.mono _ _
      | exact LeO.none _
      | refine LeO.ite ?_ ?_
      | refine LeO.bind ?_ (fun _ => ?_)
    · intro y0 y1 y2 y3 y4 y5 y6 y7
      unfold impl_readTy.l0
      repeat' first
      | (with_reducible exact ih0 _ _ _)
      | (with_reducible exact ih1 _ _ _ _)
      | (with_reducible exact ih2 _ _ _ _ _ _ _)
      | (with_reducible exact ih3 _ _ _ _ _ _)
      | (with_reducible exact ih4 _ _ _ _ _ _ _)
      | (with_reducible exact ih5 _ _ _ _ _ _)
      | (with_reducible exact ih6 _ _ _ _ _ _ _)
      | (with_reducible exact ih7 _ _ _ _ _ _ _ _)
      | (with_reducible exact impl_GetNum.mono _ _ _)
      | (with_reducible exact impl_argsOf.mono _ _)
      | (with_reducible exact LeO.refl _)
      | (with_reducible exact LeO.none _)
      | (with_reducible refine LeO.ite ?_ ?_)
      | (with_reducible refine LeO.bind ?_ (fun _ => ?_))
      | exact ih0 _ _ _
      | exact ih1 _ _ _ _
      | exact ih2 _ _ _ _ _ _ _
      | exact ih3 _ _ _ _ _ _
      | exact ih4 _ _ _ _ _ _ _
      | exact ih5 _ _ _ _ _ _
      | exact ih6 _ _ _ _ _ _ _
      | exact ih7 _ _ _ _ _ _ _ _
      | exact impl_GetNum.mono _ _ _
      | exact impl_argsOf.mono _ _
      | exact LeO.none _
      | refine LeO.ite ?_ ?_
      | refine LeO.bind ?_ (fun _ => ?_)
theorem impl_readTy.mono : ∀ a0 a1 a2 k, LeO (impl_readTy.f k a0 a1 a2) (impl_readTy.f (k + 1) a0 a1 a2) := by
  intro a0 a1 a2 k
  obtain ⟨ih0, ih1, ih2, ih3, ih4, ih5, ih6, ih7⟩ := impl_readTy.mono_l k
  exact ih0 a0 a1 a2
set_option maxHeartbeats 8000000 in
set_option maxRecDepth 100000 in
theorem impl_readTy.calls (k : Nat) : ∀ (A0 : Option Addr) (c0 : Nat) (l0 : List Int) (a1 : Int) (a2 : Int) (r1 : Int) (r2 : Int) (r3 : List (S29)) (r4 : Int) (w : World) (hr0 : Kd.C (Kd.int .u8) w A0 l0.length l0) (hc0 : l0.length ≤ c0) (h : impl_readTy.f k l0 a1 a2 = some (r1, r2, r3, r4)),
    Calls Try.prog 62 #[.slice A0 l0.length c0, .int .i64 a1, .int .i64 a2] w fun e w' => ∃ v2_ : Value, e = .returned (.tuple #[.agg #[.int .i64 r1, .int .i64 r2, v2_], .int .i64 r4]) ∧ Kd.S k29 29 w' w.heap.size (fun _ => True) v2_ r3 ∧ Below w.heap.size w w' := by
  induction k using Nat.strongRecOn with
  | _ k ih =>
  intro A0 c0 l0 a1 a2 r1 r2 r3 r4 w hr0 hc0 h
  cases k with
  | zero => exact absurd h (by simp [impl_readTy.f])
  | succ k =>
  simp only [impl_readTy.f] at h
  have hu29 := Try.underlying29
  have HR0 := Aside0.mk hr0
  have HC0 := Aside0.mk hc0
  clear hr0 hc0
  have HB := Aside0.mk (Below.refl w.heap.size w)
  have H : (if a2 > 10 then (impl_readTy.j0 k l0 a1 a2 true) else ((impl_within.f a1 0 (wrap64 ((l0.length : Int) - 1))).bind fun t172 => (impl_readTy.j0 k l0 a1 a2 (!t172)))) = some (r1, r2, r3, r4) := h
  clear h
  have HC4 := Aside0.mk H
  clear H
  go_enter Try.func62, Try.ntmps62
  go_upto_region 1 with (first | ((with_reducible refine gate_dst (N := 6) rfl ?_); (try (refine gate_guard (by rfl) ?_; dsimp only)); refine box_event ?hg (N := 6) ?hd (cs := #[.int .i64 0, .int .i64 0, .slice none 0 0]) (t := 29) ?hr ?_; (case hd => rfl); (case hg => rfl); (case hr => first | (go_simp; done) | (go_simp; rfl)); intro gb171 hg w5 hbox hb; have n0_ := Aside0.mk (below_step (by repeat (first | (with_reducible first | exact HB.out | apply below_alloc | apply pw_below_drewN | apply below_drew1) | exact HB.out)) hb); have n1_ := Aside0.mk (hbox); have n2_ := Aside0.mk ((by rw [hg]; exact (below_size (by repeat (first | (with_reducible first | exact HB.out | apply below_alloc | apply pw_below_drewN | apply below_drew1) | exact HB.out))) : w.heap.size ≤ gb171)); have n3_ := Aside0.mk ((by rw [hg]; exact (below_size (by repeat (first | (with_reducible first | exact HB.out | apply below_alloc | apply pw_below_drewN | apply below_drew1) | exact HB.out))) : w.heap.size ≤ gb171)); clear HB; have HB := n0_; have BK171 := n1_; have GW171 := n2_; have GE171 := n3_; clear n0_ n1_ n2_ n3_; clear hb hbox hg))
  (try simp only [Act.put, List.setIfInBounds_toArray, List.set_cons_zero, List.set_cons_succ])
  go_cut [21] (fun v21 wc => ∃ (kq : Nat) (x21_3 : Bool), v21 = .bool x21_3 ∧ Aside0 (impl_readTy.j0 kq l0 a1 a2 x21_3 = some (r1, r2, r3, r4)) ∧ Aside0 (kq ≤ k) ∧ Aside0 (wc.heap[gb171]? = some (.cells #[.int .i64 0, .int .i64 0, (.slice none 0 0)] 29 (0, 0))) ∧ Aside0 (Below w.heap.size w wc))
  case first =>
    have H := HC4.out
    clear HC4
    by_cases c6 : a2 > 10
    · rw [if_pos c6] at H
      have c6b0 : decide (10 < a2) = true := decide_eq_true c6
      clear c6
      (first | rw [c6b0] | (simp only [i64_w, i32_w]; rw [c6b0]) | skip)
      have H' := Aside0.mk H
      clear H
      go_wp2
      go_meet
      case rel => exact ⟨_, (true), (by first | rfl | (simp; done) | (simp [*]; done) | (simp [bne]; done)), H', ⟨by first | omega | exact Nat.le_refl _⟩, ⟨by (with_reducible repeat (first | refine blk_drewN ?_ _ | refine blk_drew ?_ | refine blk_alloc ?_ _)); exact BK171.out⟩, ⟨by repeat (first | (with_reducible first | exact HB.out | apply below_alloc | apply pw_below_drewN | apply below_drew1 | refine below_set ?_ GE171.out) | exact HB.out)⟩⟩
    · rw [if_neg c6] at H
      have c6b0 : decide (10 < a2) = false := decide_eq_false c6
      clear c6
      (first | rw [c6b0] | (simp only [i64_w, i32_w]; rw [c6b0]) | skip)
      replace H := Option.bind_eq_some_iff.mp H
      obtain ⟨t172, A70, H⟩ := H
      replace H : (impl_readTy.j0 k l0 a1 a2 (!t172)) = some (r1, r2, r3, r4) := H
      have A7 := Aside0.mk A70
      clear A70
      have H' := Aside0.mk H
      clear H
      go_wp2_with (first | (go_at_call 81; (with_reducible refine (impl_within.calls a1 0 (wrap64 ((l0.length : Int) - 1)) t172 _ A7.out).mono ?_); rintro e w' ⟨rfl, ⟨nd, rfl⟩⟩))
      go_meet
      case rel => exact ⟨_, (!t172), (by first | rfl | (simp; done) | (simp [*]; done) | (simp [bne]; done)), H', ⟨by first | omega | exact Nat.le_refl _⟩, ⟨by (with_reducible repeat (first | refine blk_drewN ?_ _ | refine blk_drew ?_ | refine blk_alloc ?_ _)); exact BK171.out⟩, ⟨by repeat (first | (with_reducible first | exact HB.out | apply below_alloc | apply pw_below_drewN | apply below_drew1 | refine below_set ?_ GE171.out) | exact HB.out)⟩⟩
  case rest =>
    clear HC4
    try clear p2
    try clear c6
    try clear c6b0
    try clear p6
    obtain ⟨kq, x21_3, rfl, HA, HJ3, BK171, HB⟩ := hcut
    cases kq with
    | zero => exact absurd HA.out (by simp [impl_readTy.j0])
    | succ kj3 =>
      have H := HA.out
      clear HA
      simp only [impl_readTy.j0] at H
      by_cases c8 : x21_3 = true
      · subst c8
        have H1 : (some (0, 0, ([] : List (S29)), (-1))) = some (r1, r2, r3, r4) := by rw [if_pos rfl] at H; exact H
        clear H
        have H := H1
        clear H1
        simp only [Option.some.injEq, Prod.mk.injEq] at H
        obtain ⟨rfl, rfl, rfl, rfl⟩ := H
        have hcz9_0 : wc.cell? ⟨gb171, 0, none⟩ = some (.int .i64 0) := (blk_cell BK171.out 0).trans rfl
        have hcz9_1 : wc.cell? ⟨gb171, 1, none⟩ = some (.int .i64 0) := (blk_cell BK171.out 1).trans rfl
        have hcz9_2 : wc.cell? ⟨gb171, 2, none⟩ = some (.slice none 0 0) := (blk_cell BK171.out 2).trans rfl
        have hfz9_0 := blk_frozen BK171.out 0
        have hfz9_1 := blk_frozen BK171.out 1
        have hfz9_2 := blk_frozen BK171.out 2
        go_wp2
        refine bodyPost_ret (results_ct rfl _ _ gb171 29 #[.int .i64 0, .int .i64 0, .slice none 0 0] (0, 0) _ rfl (by (with_reducible repeat (first | refine blk_drewN ?_ _ | refine blk_drew ?_ | refine blk_alloc ?_ _)); refine blk_put (cs := #[.int .i64 0, .int .i64 0, .slice none 0 0]) ?_ 2 _ rfl; (with_reducible repeat (first | refine blk_drewN ?_ _ | refine blk_drew ?_ | refine blk_alloc ?_ _)); refine blk_put (cs := #[.int .i64 0, .int .i64 0, .slice none 0 0]) ?_ 1 _ rfl; (with_reducible repeat (first | refine blk_drewN ?_ _ | refine blk_drew ?_ | refine blk_alloc ?_ _)); refine blk_put (cs := #[.int .i64 0, .int .i64 0, .slice none 0 0]) ?_ 0 _ rfl; (with_reducible repeat (first | refine blk_drewN ?_ _ | refine blk_drew ?_ | refine blk_alloc ?_ _)); exact BK171.out) Try.underlying29 rfl (by kernel_rfl)) rfl ?_
        exact ⟨_, by first | rfl | (simp [errW_none, errW_some] <;> rfl) | (simp [*, errW_none, errW_some] <;> rfl), by first | exact Kd.S_nil _ _ _ _ _ | exact Kd.N_nil _ _ _ _ _ | exact Kd.V_nil _ _ _ _ _ | exact Kd.Q_nil _ _ _ _ _ | exact Kd.R_nil _ _ _ _ _, by repeat (first | (with_reducible first | exact HB.out | apply below_alloc | apply pw_below_drewN | apply below_drew1 | refine below_set ?_ GE171.out) | exact HB.out)⟩
      · replace c8 := Bool.eq_false_iff.mpr c8
        subst c8
        have H1 : (if 0 ≤ a1 then (if a1 < (l0.length : Int) then ((impl_argsOf.f kj3 (wrap64 (rd l0 a1))).bind fun t175 => (if t175 = (-2) then (some (0, 0, ([] : List (S29)), (-1))) else (if (wrap64 (rd l0 a1)) = 6 then (impl_readTy.j1 kj3 l0 (wrap64 (a1 + 1)) a2 t175 true (wrap64 (rd l0 a1)) 0) else (impl_readTy.j1 kj3 l0 (wrap64 (a1 + 1)) a2 t175 ((wrap64 (rd l0 a1)) == 7) (wrap64 (rd l0 a1)) 0)))) else (none)) else (none)) = some (r1, r2, r3, r4) := by rw [if_neg (show ¬ (false = true) by decide)] at H; exact H
        clear H
        have H := H1
        clear H1
        by_cases c10 : 0 ≤ a1
        · rw [if_pos c10] at H
          have c10b0 : decide (0 ≤ a1) = true := decide_eq_true c10
          clear c10
          by_cases c11 : a1 < (l0.length : Int)
          · rw [if_pos c11] at H
            have c11b0 : decide (a1 < (l0.length : Int)) = true := decide_eq_true c11
            clear c11
            replace H := Option.bind_eq_some_iff.mp H
            obtain ⟨t175, A120, H⟩ := H
            replace H : (if t175 = (-2) then (some (0, 0, ([] : List (S29)), (-1))) else (if (wrap64 (rd l0 a1)) = 6 then (impl_readTy.j1 kj3 l0 (wrap64 (a1 + 1)) a2 t175 true (wrap64 (rd l0 a1)) 0) else (impl_readTy.j1 kj3 l0 (wrap64 (a1 + 1)) a2 t175 ((wrap64 (rd l0 a1)) == 7) (wrap64 (rd l0 a1)) 0))) = some (r1, r2, r3, r4) := H
            have A12 := Aside0.mk A120
            clear A120
            by_cases c13 : t175 = (-2)
            · rw [if_pos c13] at H
              have c13b0 : (t175 == (-2)) = true := beq_iff_eq.mpr c13
              have c13b1 : (t175 != (-2)) = false := bne_eq_false_iff_eq.mpr c13
              clear c13
              simp only [Option.some.injEq, Prod.mk.injEq] at H
              obtain ⟨rfl, rfl, rfl, rfl⟩ := H
              have p173 : 0 ≤ (a1 : Int) := of_decide_eq_true (by first | (with_reducible assumption) | assumption)
              have q173 : a1 < (l0.length : Int) := of_decide_eq_true (by first | (with_reducible assumption) | assumption)
              obtain ⟨ad173, e173, hx173_0⟩ := Kd.at_int HR0.out a1 p173 q173
              cases e173
              replace hx173_0 := (HB.out.cell (World.block_lt_of_cell? w _ hx173_0)).trans hx173_0
              replace p173 := eq_true p173
              replace q173 := eq_true q173
              go_wp2_with (first | ((with_reducible refine gate_dst (N := 8) rfl ?_); (try (refine gate_guard (by rfl) ?_; dsimp only)); refine box_event ?hg (N := 8) ?hd (cs := #[.int .i64 0, .int .i64 0, .slice none 0 0]) (t := 29) ?hr ?_; (case hd => rfl); (case hg => rfl); (case hr => first | (go_simp; done) | (go_simp; rfl)); intro gb174 hg w14 hbox hb; have n0_ := Aside0.mk (blk_below (g := gb171) (o := .cells #[.int .i64 0, .int .i64 0, .slice none 0 0] 29 (0, 0)) (by (with_reducible repeat (first | refine blk_drewN ?_ _ | refine blk_drew ?_ | refine blk_alloc ?_ _)); exact BK171.out) hb); have n1_ := Aside0.mk (below_step (by repeat (first | (with_reducible first | exact HB.out | apply below_alloc | apply pw_below_drewN | apply below_drew1 | refine below_set ?_ GE171.out) | exact HB.out)) hb); have n2_ := Aside0.mk (hbox); have n3_ := Aside0.mk ((by rw [hg]; exact (below_size (by repeat (first | (with_reducible first | exact HB.out | apply below_alloc | apply pw_below_drewN | apply below_drew1 | refine below_set ?_ GE171.out) | exact HB.out))) : w.heap.size ≤ gb174)); have n4_ := Aside0.mk ((by rw [hg]; exact (below_size (by repeat (first | (with_reducible first | exact HB.out | apply below_alloc | apply pw_below_drewN | apply below_drew1 | refine below_set ?_ GE171.out) | exact HB.out))) : w.heap.size ≤ gb174)); have n5_ := Aside0.mk ((by rw [hg]; exact Nat.ne_of_lt (blk_lt (g := gb171) (o := .cells #[.int .i64 0, .int .i64 0, .slice none 0 0] 29 (0, 0)) (by (with_reducible repeat (first | refine blk_drewN ?_ _ | refine blk_drew ?_ | refine blk_alloc ?_ _)); exact BK171.out)) : gb171 ≠ gb174)); have n6_ := Aside0.mk ((by rw [hg]; exact Nat.ne_of_gt (blk_lt (g := gb171) (o := .cells #[.int .i64 0, .int .i64 0, .slice none 0 0] 29 (0, 0)) (by (with_reducible repeat (first | refine blk_drewN ?_ _ | refine blk_drew ?_ | refine blk_alloc ?_ _)); exact BK171.out)) : gb174 ≠ gb171)); clear BK171; clear HB; have BK171 := n0_; have HB := n1_; have BK174 := n2_; have GW174 := n3_; have GE174 := n4_; have NB171_174 := n5_; have NB174_171 := n6_; clear n0_ n1_ n2_ n3_ n4_ n5_ n6_; clear hb hbox hg; have hnb15 := NB174_171.out; have hnc15 := NB171_174.out; have hcz16_0 : w14.cell? ⟨gb174, 0, none⟩ = some (.int .i64 0) := (blk_cell BK174.out 0).trans rfl; have hcz16_1 : w14.cell? ⟨gb174, 1, none⟩ = some (.int .i64 0) := (blk_cell BK174.out 1).trans rfl; have hcz16_2 : w14.cell? ⟨gb174, 2, none⟩ = some (.slice none 0 0) := (blk_cell BK174.out 2).trans rfl; have hfz16_0 := blk_frozen BK174.out 0; have hfz16_1 := blk_frozen BK174.out 1; have hfz16_2 := blk_frozen BK174.out 2) | ((with_reducible refine gate_callee (f := 82) rfl ?_); refine goesL_ (some 31) rfl rfl Try.func82 (by kernel_rfl) rfl #[.int .i64 (wrap64 (rd l0 a1))] rfl (by (try simp only [List.map_toArray, List.map_cons, List.map_nil]); first | done | rfl | (simp only [List.length_drop, List.length_take]; rfl)) ?_; (with_reducible refine (impl_argsOf.calls kj3 (wrap64 (rd l0 a1)) t175 _ A12.out).mono ?_); rintro e w' ⟨rfl, ⟨nd, rfl⟩⟩; refine ⟨_, rfl, ?_⟩; have hcz17_0 : w14.cell? ⟨gb171, 0, none⟩ = some (.int .i64 0) := (blk_cell BK171.out 0).trans rfl; have hcz17_1 : w14.cell? ⟨gb171, 1, none⟩ = some (.int .i64 0) := (blk_cell BK171.out 1).trans rfl; have hcz17_2 : w14.cell? ⟨gb171, 2, none⟩ = some (.slice none 0 0) := (blk_cell BK171.out 2).trans rfl; have hfz17_0 := blk_frozen BK171.out 0; have hfz17_1 := blk_frozen BK171.out 1; have hfz17_2 := blk_frozen BK171.out 2))
              refine bodyPost_ret (results_ct rfl _ _ gb171 29 #[.int .i64 0, .int .i64 0, .slice none 0 0] (0, 0) _ rfl (by (with_reducible repeat (first | refine blk_drewN ?_ _ | refine blk_drew ?_ | refine blk_alloc ?_ _)); refine blk_put (cs := #[.int .i64 0, .int .i64 0, .slice none 0 0]) ?_ 2 _ rfl; (with_reducible repeat (first | refine blk_drewN ?_ _ | refine blk_drew ?_ | refine blk_alloc ?_ _)); refine blk_put (cs := #[.int .i64 0, .int .i64 0, .slice none 0 0]) ?_ 1 _ rfl; (with_reducible repeat (first | refine blk_drewN ?_ _ | refine blk_drew ?_ | refine blk_alloc ?_ _)); refine blk_put (cs := #[.int .i64 0, .int .i64 0, .slice none 0 0]) ?_ 0 _ rfl; (with_reducible repeat (first | refine blk_drewN ?_ _ | refine blk_drew ?_ | refine blk_alloc ?_ _)); refine blk_far ?_ NB171_174.out _; (with_reducible repeat (first | refine blk_drewN ?_ _ | refine blk_drew ?_ | refine blk_alloc ?_ _)); refine blk_far ?_ NB171_174.out _; (with_reducible repeat (first | refine blk_drewN ?_ _ | refine blk_drew ?_ | refine blk_alloc ?_ _)); refine blk_far ?_ NB171_174.out _; (with_reducible repeat (first | refine blk_drewN ?_ _ | refine blk_drew ?_ | refine blk_alloc ?_ _)); exact BK171.out) Try.underlying29 rfl (by kernel_rfl)) rfl ?_
              exact ⟨_, by first | rfl | (simp [errW_none, errW_some] <;> rfl) | (simp [*, errW_none, errW_some] <;> rfl), by first | exact Kd.S_nil _ _ _ _ _ | exact Kd.N_nil _ _ _ _ _ | exact Kd.V_nil _ _ _ _ _ | exact Kd.Q_nil _ _ _ _ _ | exact Kd.R_nil _ _ _ _ _, by repeat (first | (with_reducible first | exact HB.out | apply below_alloc | apply pw_below_drewN | apply below_drew1 | refine below_set ?_ GE171.out | refine below_set ?_ GE174.out) | exact HB.out)⟩
            · rw [if_neg c13] at H
              have c13b0 : (t175 == (-2)) = false := beq_eq_false_iff_ne.mpr c13
              have c13b1 : (t175 != (-2)) = true := bne_iff_ne.mpr c13
              have HC18 := Aside0.mk H
              clear H
              have p173 : 0 ≤ (a1 : Int) := of_decide_eq_true (by first | (with_reducible assumption) | assumption)
              have q173 : a1 < (l0.length : Int) := of_decide_eq_true (by first | (with_reducible assumption) | assumption)
              obtain ⟨ad173, e173, hx173_0⟩ := Kd.at_int HR0.out a1 p173 q173
              cases e173
              replace hx173_0 := (HB.out.cell (World.block_lt_of_cell? w _ hx173_0)).trans hx173_0
              replace p173 := eq_true p173
              replace q173 := eq_true q173
              go_upto_region 8 with (first | ((with_reducible refine gate_dst (N := 8) rfl ?_); (try (refine gate_guard (by rfl) ?_; dsimp only)); refine box_event ?hg (N := 8) ?hd (cs := #[.int .i64 0, .int .i64 0, .slice none 0 0]) (t := 29) ?hr ?_; (case hd => rfl); (case hg => rfl); (case hr => first | (go_simp; done) | (go_simp; rfl)); intro gb174 hg w19 hbox hb; have n0_ := Aside0.mk (blk_below (g := gb171) (o := .cells #[.int .i64 0, .int .i64 0, .slice none 0 0] 29 (0, 0)) (by (with_reducible repeat (first | refine blk_drewN ?_ _ | refine blk_drew ?_ | refine blk_alloc ?_ _)); exact BK171.out) hb); have n1_ := Aside0.mk (below_step (by repeat (first | (with_reducible first | exact HB.out | apply below_alloc | apply pw_below_drewN | apply below_drew1 | refine below_set ?_ GE171.out) | exact HB.out)) hb); have n2_ := Aside0.mk (hbox); have n3_ := Aside0.mk ((by rw [hg]; exact (below_size (by repeat (first | (with_reducible first | exact HB.out | apply below_alloc | apply pw_below_drewN | apply below_drew1 | refine below_set ?_ GE171.out) | exact HB.out))) : w.heap.size ≤ gb174)); have n4_ := Aside0.mk ((by rw [hg]; exact (below_size (by repeat (first | (with_reducible first | exact HB.out | apply below_alloc | apply pw_below_drewN | apply below_drew1 | refine below_set ?_ GE171.out) | exact HB.out))) : w.heap.size ≤ gb174)); have n5_ := Aside0.mk ((by rw [hg]; exact Nat.ne_of_lt (blk_lt (g := gb171) (o := .cells #[.int .i64 0, .int .i64 0, .slice none 0 0] 29 (0, 0)) (by (with_reducible repeat (first | refine blk_drewN ?_ _ | refine blk_drew ?_ | refine blk_alloc ?_ _)); exact BK171.out)) : gb171 ≠ gb174)); have n6_ := Aside0.mk ((by rw [hg]; exact Nat.ne_of_gt (blk_lt (g := gb171) (o := .cells #[.int .i64 0, .int .i64 0, .slice none 0 0] 29 (0, 0)) (by (with_reducible repeat (first | refine blk_drewN ?_ _ | refine blk_drew ?_ | refine blk_alloc ?_ _)); exact BK171.out)) : gb174 ≠ gb171)); clear BK171; clear HB; have BK171 := n0_; have HB := n1_; have BK174 := n2_; have GW174 := n3_; have GE174 := n4_; have NB171_174 := n5_; have NB174_171 := n6_; clear n0_ n1_ n2_ n3_ n4_ n5_ n6_; clear hb hbox hg; have hnb20 := NB174_171.out; have hnc20 := NB171_174.out; have hcz21_0 : w19.cell? ⟨gb174, 0, none⟩ = some (.int .i64 0) := (blk_cell BK174.out 0).trans rfl; have hcz21_1 : w19.cell? ⟨gb174, 1, none⟩ = some (.int .i64 0) := (blk_cell BK174.out 1).trans rfl; have hcz21_2 : w19.cell? ⟨gb174, 2, none⟩ = some (.slice none 0 0) := (blk_cell BK174.out 2).trans rfl; have hfz21_0 := blk_frozen BK174.out 0; have hfz21_1 := blk_frozen BK174.out 1; have hfz21_2 := blk_frozen BK174.out 2) | ((with_reducible refine gate_callee (f := 82) rfl ?_); refine goesL_ (some 31) rfl rfl Try.func82 (by kernel_rfl) rfl #[.int .i64 (wrap64 (rd l0 a1))] rfl (by (try simp only [List.map_toArray, List.map_cons, List.map_nil]); first | done | rfl | (simp only [List.length_drop, List.length_take]; rfl)) ?_; (with_reducible refine (impl_argsOf.calls kj3 (wrap64 (rd l0 a1)) t175 _ A12.out).mono ?_); rintro e w' ⟨rfl, ⟨nd, rfl⟩⟩; refine ⟨_, rfl, ?_⟩))
              (try simp only [Act.put, List.setIfInBounds_toArray, List.set_cons_zero, List.set_cons_succ])
              go_cut [44] (fun v44 wc => ∃ (kq : Nat) (x44_17 : Bool), v44 = .bool x44_17 ∧ Aside0 (impl_readTy.j1 kq l0 (wrap64 (a1 + 1)) a2 t175 x44_17 (wrap64 (rd l0 a1)) 0 = some (r1, r2, r3, r4)) ∧ Aside0 (kq ≤ kj3) ∧ Aside0 (wc.heap[gb171]? = some (.cells #[.int .i64 0, .int .i64 0, (.slice none 0 0)] 29 (0, 0))) ∧ Aside0 (wc.heap[gb174]? = some (.cells #[.int .i64 (wrap64 (rd l0 a1)), .int .i64 0, (.slice none 0 0)] 29 (0, 0))) ∧ Aside0 (Below w.heap.size w wc))
              case first =>
                have H := HC18.out
                clear HC18
                by_cases c22 : (wrap64 (rd l0 a1)) = 6
                · rw [if_pos c22] at H
                  have c22b0 : ((wrap64 (rd l0 a1)) == 6) = true := beq_iff_eq.mpr c22
                  have c22b1 : ((wrap64 (rd l0 a1)) != 6) = false := bne_eq_false_iff_eq.mpr c22
                  clear c22
                  (first | rw [c22b0] | (simp only [i64_w, i32_w]; rw [c22b0]) | skip)
                  have H' := Aside0.mk H
                  clear H
                  have hnb23 := NB174_171.out
                  have hnc23 := NB171_174.out
                  have hcz24_0 : w19.cell? ⟨gb174, 0, none⟩ = some (.int .i64 0) := (blk_cell BK174.out 0).trans rfl
                  have hcz24_1 : w19.cell? ⟨gb174, 1, none⟩ = some (.int .i64 0) := (blk_cell BK174.out 1).trans rfl
                  have hcz24_2 : w19.cell? ⟨gb174, 2, none⟩ = some (.slice none 0 0) := (blk_cell BK174.out 2).trans rfl
                  have hfz24_0 := blk_frozen BK174.out 0
                  have hfz24_1 := blk_frozen BK174.out 1
                  have hfz24_2 := blk_frozen BK174.out 2
                  go_wp2
                  go_meet
                  case rel => exact ⟨_, (true), (by first | rfl | (simp; done) | (simp [*]; done) | (simp [bne]; done)), H', ⟨by have := HJ3.out; first | omega | exact Nat.le_refl _⟩, ⟨by (with_reducible repeat (first | refine blk_drewN ?_ _ | refine blk_drew ?_ | refine blk_alloc ?_ _)); refine blk_far ?_ NB171_174.out _; (with_reducible repeat (first | refine blk_drewN ?_ _ | refine blk_drew ?_ | refine blk_alloc ?_ _)); refine blk_far ?_ NB171_174.out _; (with_reducible repeat (first | refine blk_drewN ?_ _ | refine blk_drew ?_ | refine blk_alloc ?_ _)); refine blk_far ?_ NB171_174.out _; (with_reducible repeat (first | refine blk_drewN ?_ _ | refine blk_drew ?_ | refine blk_alloc ?_ _)); exact BK171.out⟩, ⟨by (with_reducible repeat (first | refine blk_drewN ?_ _ | refine blk_drew ?_ | refine blk_alloc ?_ _)); refine blk_put (cs := #[.int .i64 (wrap64 (rd l0 a1)), .int .i64 0, .slice none 0 0]) ?_ 2 _ rfl; (with_reducible repeat (first | refine blk_drewN ?_ _ | refine blk_drew ?_ | refine blk_alloc ?_ _)); refine blk_put (cs := #[.int .i64 (wrap64 (rd l0 a1)), .int .i64 0, .slice none 0 0]) ?_ 1 _ rfl; (with_reducible repeat (first | refine blk_drewN ?_ _ | refine blk_drew ?_ | refine blk_alloc ?_ _)); refine blk_put (cs := #[.int .i64 0, .int .i64 0, .slice none 0 0]) ?_ 0 _ rfl; (with_reducible repeat (first | refine blk_drewN ?_ _ | refine blk_drew ?_ | refine blk_alloc ?_ _)); exact BK174.out⟩, ⟨by repeat (first | (with_reducible first | exact HB.out | apply below_alloc | apply pw_below_drewN | apply below_drew1 | refine below_set ?_ GE171.out | refine below_set ?_ GE174.out) | exact HB.out)⟩⟩
                · rw [if_neg c22] at H
                  have c22b0 : ((wrap64 (rd l0 a1)) == 6) = false := beq_eq_false_iff_ne.mpr c22
                  have c22b1 : ((wrap64 (rd l0 a1)) != 6) = true := bne_iff_ne.mpr c22
                  (first | rw [c22b0] | (simp only [i64_w, i32_w]; rw [c22b0]) | skip)
                  have H' := Aside0.mk H
                  clear H
                  have hnb25 := NB174_171.out
                  have hnc25 := NB171_174.out
                  have hcz26_0 : w19.cell? ⟨gb174, 0, none⟩ = some (.int .i64 0) := (blk_cell BK174.out 0).trans rfl
                  have hcz26_1 : w19.cell? ⟨gb174, 1, none⟩ = some (.int .i64 0) := (blk_cell BK174.out 1).trans rfl
                  have hcz26_2 : w19.cell? ⟨gb174, 2, none⟩ = some (.slice none 0 0) := (blk_cell BK174.out 2).trans rfl
                  have hfz26_0 := blk_frozen BK174.out 0
                  have hfz26_1 := blk_frozen BK174.out 1
                  have hfz26_2 := blk_frozen BK174.out 2
                  go_wp2
                  go_meet
                  case rel => exact ⟨_, (((wrap64 (rd l0 a1)) == 7)), (by first | rfl | (simp; done) | (simp [*]; done) | (simp [bne]; done)), H', ⟨by have := HJ3.out; first | omega | exact Nat.le_refl _⟩, ⟨by (with_reducible repeat (first | refine blk_drewN ?_ _ | refine blk_drew ?_ | refine blk_alloc ?_ _)); refine blk_far ?_ NB171_174.out _; (with_reducible repeat (first | refine blk_drewN ?_ _ | refine blk_drew ?_ | refine blk_alloc ?_ _)); refine blk_far ?_ NB171_174.out _; (with_reducible repeat (first | refine blk_drewN ?_ _ | refine blk_drew ?_ | refine blk_alloc ?_ _)); refine blk_far ?_ NB171_174.out _; (with_reducible repeat (first | refine blk_drewN ?_ _ | refine blk_drew ?_ | refine blk_alloc ?_ _)); exact BK171.out⟩, ⟨by (with_reducible repeat (first | refine blk_drewN ?_ _ | refine blk_drew ?_ | refine blk_alloc ?_ _)); refine blk_put (cs := #[.int .i64 (wrap64 (rd l0 a1)), .int .i64 0, .slice none 0 0]) ?_ 2 _ rfl; (with_reducible repeat (first | refine blk_drewN ?_ _ | refine blk_drew ?_ | refine blk_alloc ?_ _)); refine blk_put (cs := #[.int .i64 (wrap64 (rd l0 a1)), .int .i64 0, .slice none 0 0]) ?_ 1 _ rfl; (with_reducible repeat (first | refine blk_drewN ?_ _ | refine blk_drew ?_ | refine blk_alloc ?_ _)); refine blk_put (cs := #[.int .i64 0, .int .i64 0, .slice none 0 0]) ?_ 0 _ rfl; (with_reducible repeat (first | refine blk_drewN ?_ _ | refine blk_drew ?_ | refine blk_alloc ?_ _)); exact BK174.out⟩, ⟨by repeat (first | (with_reducible first | exact HB.out | apply below_alloc | apply pw_below_drewN | apply below_drew1 | refine below_set ?_ GE171.out | refine below_set ?_ GE174.out) | exact HB.out)⟩⟩
              case rest =>
                clear HC18
                try clear c1
                try clear p1
                try clear q1
                try clear hx1
                try clear c2
                try clear p2
                try clear c6
                try clear c6b0
                try clear p6
                try clear c8
                try clear c10
                try clear c10b0
                try clear c11
                try clear c11b0
                try clear c13
                try clear c13b0
                try clear c13b1
                try clear c15
                try clear p17
                try clear q17
                try clear hx17
                try clear c20
                try clear c22
                try clear c22b0
                try clear c22b1
                try clear c23
                try clear c25
                try clear hcz16_0
                try clear hcz16_1
                try clear hcz16_2
                try clear hcz17_0
                try clear hcz17_1
                try clear hcz17_2
                try clear hcz21_0
                try clear hcz21_1
                try clear hcz21_2
                try clear hcz24_0
                try clear hcz24_1
                try clear hcz24_2
                try clear hcz26_0
                try clear hcz26_1
                try clear hcz26_2
                try clear hcz9_0
                try clear hcz9_1
                try clear hcz9_2
                try clear hfz16_0
                try clear hfz16_1
                try clear hfz16_2
                try clear hfz17_0
                try clear hfz17_1
                try clear hfz17_2
                try clear hfz21_0
                try clear hfz21_1
                try clear hfz21_2
                try clear hfz24_0
                try clear hfz24_1
                try clear hfz24_2
                try clear hfz26_0
                try clear hfz26_1
                try clear hfz26_2
                try clear hfz9_0
                try clear hfz9_1
                try clear hfz9_2
                try clear hx173_0
                try clear p173
                try clear p2
                try clear p6
                try clear q173
                obtain ⟨kq, x44_17, rfl, HA, HJ17, BK171, BK174, HB⟩ := hcut
                cases kq with
                | zero => exact absurd HA.out (by simp [impl_readTy.j1])
                | succ kj17 =>
                  have H := HA.out
                  clear HA
                  simp only [impl_readTy.j1] at H
                  have HC27 := Aside0.mk H
                  clear H
                  go_upto_if 44 with (fail)
                  go_cut [1] (fun v1 wc => ∃ (kq : Nat) (x1_26 : Int) (x175001_26 : Int), v1 = .int .i64 x1_26 ∧ Aside0 (impl_readTy.j2 kq l0 x1_26 a2 t175 (wrap64 (rd l0 a1)) x175001_26 = some (r1, r2, r3, r4)) ∧ Aside0 (kq ≤ kj17) ∧ Aside0 (wc.heap[gb171]? = some (.cells #[.int .i64 0, .int .i64 0, (.slice none 0 0)] 29 (0, 0))) ∧ Aside0 (wc.heap[gb174]? = some (.cells #[.int .i64 (wrap64 (rd l0 a1)), .int .i64 x175001_26, (.slice none 0 0)] 29 (0, 0))) ∧ Aside0 (Below w.heap.size w wc))
                  case first =>
                    have H := HC27.out
                    clear HC27
                    by_cases c28 : x44_17 = true
                    · subst c28
                      have H1 : ((impl_GetNum.f kj17 l0 (wrap64 (a1 + 1))).bind fun bt176 => (impl_readTy.j2 kj17 l0 bt176.2 a2 t175 (wrap64 (rd l0 a1)) bt176.1)) = some (r1, r2, r3, r4) := by rw [if_pos rfl] at H; exact H
                      clear H
                      have H := H1
                      clear H1
                      replace H := Option.bind_eq_some_iff.mp H
                      obtain ⟨⟨t176, t177⟩, A290, H⟩ := H
                      replace H : (impl_readTy.j2 kj17 l0 t177 a2 t175 (wrap64 (rd l0 a1)) t176) = some (r1, r2, r3, r4) := H
                      have A29 := Aside0.mk A290
                      clear A290
                      have H' := Aside0.mk H
                      clear H
                      go_wp2_with (first | ((with_reducible refine gate_callee (f := 83) rfl ?_); refine goesL_ (some 48) rfl rfl Try.func83 (by kernel_rfl) rfl #[.slice (some ad173) l0.length c0, .int .i64 (wrap64 (a1 + 1))] rfl (by (try simp only [List.map_toArray, List.map_cons, List.map_nil]); first | done | rfl | (simp only [List.length_drop, List.length_take]; rfl)) ?_; (with_reducible refine (impl_GetNum.calls kj17 _ _ l0 (wrap64 (a1 + 1)) t176 t177 _ ?side1 ?side2 A29.out).mono ?_); (case side1 => repeat (first | exact (Kd.C_below HR0.out HB.out) | (with_reducible refine Kd.C_alloc ?_ _) | (with_reducible refine Kd.C_drewN ?_ _) | (with_reducible refine Kd.C_drew ?_))); (case side2 => exact HC0.out); rintro e w' ⟨rfl, ⟨nd, rfl⟩⟩; refine ⟨_, rfl, ?_⟩; (try (rw [drewN_self wc]; generalize hq_ : World.drewN wc _ = wc; have n0_ : Aside0 (wc.heap[gb171]? = some (.cells #[.int .i64 0, .int .i64 0, .slice none 0 0] 29 (0, 0))) := ⟨by rw [← hq_]; exact (by (with_reducible repeat (first | refine blk_drewN ?_ _ | refine blk_drew ?_ | refine blk_alloc ?_ _)); exact BK171.out)⟩; have n1_ : Aside0 (wc.heap[gb174]? = some (.cells #[.int .i64 (wrap64 (rd l0 a1)), .int .i64 0, .slice none 0 0] 29 (0, 0))) := ⟨by rw [← hq_]; exact (by (with_reducible repeat (first | refine blk_drewN ?_ _ | refine blk_drew ?_ | refine blk_alloc ?_ _)); exact BK174.out)⟩; have n2_ : Aside0 (Below w.heap.size w wc) := ⟨by rw [← hq_]; exact (by repeat (first | (with_reducible first | exact HB.out | apply below_alloc | apply pw_below_drewN | apply below_drew1 | refine below_set ?_ GE171.out | refine below_set ?_ GE174.out) | exact HB.out))⟩; clear BK171 BK174 HB hq_; have BK171 := n0_; have BK174 := n1_; have HB := n2_; clear n0_ n1_ n2_)); have hnb30 := NB174_171.out; have hnc30 := NB171_174.out; have hcz31_0 : wc.cell? ⟨gb174, 0, none⟩ = some (.int .i64 (wrap64 (rd l0 a1))) := (blk_cell BK174.out 0).trans rfl; have hcz31_1 : wc.cell? ⟨gb174, 1, none⟩ = some (.int .i64 0) := (blk_cell BK174.out 1).trans rfl; have hcz31_2 : wc.cell? ⟨gb174, 2, none⟩ = some (.slice none 0 0) := (blk_cell BK174.out 2).trans rfl; have hfz31_0 := blk_frozen BK174.out 0; have hfz31_1 := blk_frozen BK174.out 1; have hfz31_2 := blk_frozen BK174.out 2))
                      go_meet
                      case rel => exact ⟨_, (t177), (t176), (by first | rfl | (simp; done) | (simp [*]; done) | (simp [bne]; done)), H', ⟨by have := HJ3.out; have := HJ17.out; first | omega | exact Nat.le_refl _⟩, ⟨by (with_reducible repeat (first | refine blk_drewN ?_ _ | refine blk_drew ?_ | refine blk_alloc ?_ _)); refine blk_far ?_ NB171_174.out _; (with_reducible repeat (first | refine blk_drewN ?_ _ | refine blk_drew ?_ | refine blk_alloc ?_ _)); exact BK171.out⟩, ⟨by (with_reducible repeat (first | refine blk_drewN ?_ _ | refine blk_drew ?_ | refine blk_alloc ?_ _)); refine blk_put (cs := #[.int .i64 (wrap64 (rd l0 a1)), .int .i64 0, .slice none 0 0]) ?_ 1 _ rfl; (with_reducible repeat (first | refine blk_drewN ?_ _ | refine blk_drew ?_ | refine blk_alloc ?_ _)); exact BK174.out⟩, ⟨by repeat (first | (with_reducible first | exact HB.out | apply below_alloc | apply pw_below_drewN | apply below_drew1 | refine below_set ?_ GE171.out | refine below_set ?_ GE174.out) | exact HB.out)⟩⟩
                    · replace c28 := Bool.eq_false_iff.mpr c28
                      subst c28
                      have H1 : (impl_readTy.j2 kj17 l0 (wrap64 (a1 + 1)) a2 t175 (wrap64 (rd l0 a1)) 0) = some (r1, r2, r3, r4) := by rw [if_neg (show ¬ (false = true) by decide)] at H; exact H
                      clear H
                      have H := H1
                      clear H1
                      have H' := Aside0.mk H
                      clear H
                      go_wp2
                      go_meet
                      case rel => exact ⟨_, ((wrap64 (a1 + 1))), (0), (by first | rfl | (simp; done) | (simp [*]; done) | (simp [bne]; done)), H', ⟨by have := HJ3.out; have := HJ17.out; first | omega | exact Nat.le_refl _⟩, ⟨by (with_reducible repeat (first | refine blk_drewN ?_ _ | refine blk_drew ?_ | refine blk_alloc ?_ _)); exact BK171.out⟩, ⟨by (with_reducible repeat (first | refine blk_drewN ?_ _ | refine blk_drew ?_ | refine blk_alloc ?_ _)); exact BK174.out⟩, ⟨by repeat (first | (with_reducible first | exact HB.out | apply below_alloc | apply pw_below_drewN | apply below_drew1 | refine below_set ?_ GE171.out | refine below_set ?_ GE174.out) | exact HB.out)⟩⟩
                  case rest =>
                    clear HC27
                    try clear c1
                    try clear p1
                    try clear q1
                    try clear hx1
                    try clear c2
                    try clear p2
                    try clear c3
                    try clear c6
                    try clear c6b0
                    try clear p6
                    try clear c8
                    try clear c10
                    try clear c10b0
                    try clear c11
                    try clear c11b0
                    try clear c13
                    try clear c13b0
                    try clear c13b1
                    try clear c15
                    try clear p17
                    try clear q17
                    try clear hx17
                    try clear c20
                    try clear c22
                    try clear c22b0
                    try clear c22b1
                    try clear c23
                    try clear c25
                    try clear c28
                    try clear c30
                    try clear hcz16_0
                    try clear hcz16_1
                    try clear hcz16_2
                    try clear hcz17_0
                    try clear hcz17_1
                    try clear hcz17_2
                    try clear hcz21_0
                    try clear hcz21_1
                    try clear hcz21_2
                    try clear hcz24_0
                    try clear hcz24_1
                    try clear hcz24_2
                    try clear hcz26_0
                    try clear hcz26_1
                    try clear hcz26_2
                    try clear hcz31_0
                    try clear hcz31_1
                    try clear hcz31_2
                    try clear hcz9_0
                    try clear hcz9_1
                    try clear hcz9_2
                    try clear hfz16_0
                    try clear hfz16_1
                    try clear hfz16_2
                    try clear hfz17_0
                    try clear hfz17_1
                    try clear hfz17_2
                    try clear hfz21_0
                    try clear hfz21_1
                    try clear hfz21_2
                    try clear hfz24_0
                    try clear hfz24_1
                    try clear hfz24_2
                    try clear hfz26_0
                    try clear hfz26_1
                    try clear hfz26_2
                    try clear hfz31_0
                    try clear hfz31_1
                    try clear hfz31_2
                    try clear hfz9_0
                    try clear hfz9_1
                    try clear hfz9_2
                    try clear hx173_0
                    try clear p1
                    try clear p17
                    try clear p173
                    try clear p2
                    try clear p6
                    try clear q1
                    try clear q17
                    try clear q173
                    obtain ⟨kq, x1_26, x175001_26, rfl, HA, HJ26, BK171, BK174, HB⟩ := hcut
                    cases kq with
                    | zero => exact absurd HA.out (by simp [impl_readTy.j2])
                    | succ kj26 =>
                      have H := HA.out
                      clear HA
                      simp only [impl_readTy.j2] at H
                      have HC32 := Aside0.mk H
                      clear H
                      go_upto_region 10 with (fail)
                      go_cut [58] (fun v58 wc => ∃ (kq : Nat) (x58_31 : Bool), v58 = .bool x58_31 ∧ Aside0 (impl_readTy.j3 kq l0 x1_26 a2 t175 x58_31 (wrap64 (rd l0 a1)) x175001_26 = some (r1, r2, r3, r4)) ∧ Aside0 (kq ≤ kj26) ∧ Aside0 (wc.heap[gb171]? = some (.cells #[.int .i64 0, .int .i64 0, (.slice none 0 0)] 29 (0, 0))) ∧ Aside0 (wc.heap[gb174]? = some (.cells #[.int .i64 (wrap64 (rd l0 a1)), .int .i64 x175001_26, (.slice none 0 0)] 29 (0, 0))) ∧ Aside0 (Below w.heap.size w wc))
                      case first =>
                        have H := HC32.out
                        clear HC32
                        by_cases c33 : (wrap64 (rd l0 a1)) = 6
                        · rw [if_pos c33] at H
                          have c33b0 : ((wrap64 (rd l0 a1)) == 6) = true := beq_iff_eq.mpr c33
                          have c33b1 : ((wrap64 (rd l0 a1)) != 6) = false := bne_eq_false_iff_eq.mpr c33
                          clear c33
                          (first | rw [c33b0] | (simp only [i64_w, i32_w]; rw [c33b0]) | skip)
                          have H' := Aside0.mk H
                          clear H
                          have hnb34 := NB174_171.out
                          have hnc34 := NB171_174.out
                          have hcz35_0 : wc.cell? ⟨gb174, 0, none⟩ = some (.int .i64 (wrap64 (rd l0 a1))) := (blk_cell BK174.out 0).trans rfl
                          have hcz35_1 : wc.cell? ⟨gb174, 1, none⟩ = some (.int .i64 x175001_26) := (blk_cell BK174.out 1).trans rfl
                          have hcz35_2 : wc.cell? ⟨gb174, 2, none⟩ = some (.slice none 0 0) := (blk_cell BK174.out 2).trans rfl
                          have hfz35_0 := blk_frozen BK174.out 0
                          have hfz35_1 := blk_frozen BK174.out 1
                          have hfz35_2 := blk_frozen BK174.out 2
                          go_wp2
                          go_meet
                          case rel => exact ⟨_, (decide (x1_26 ≥ 0)), (by first | rfl | (simp; done) | (simp [*]; done) | (simp [bne]; done)), H', ⟨by have := HJ3.out; have := HJ17.out; have := HJ26.out; first | omega | exact Nat.le_refl _⟩, ⟨by (with_reducible repeat (first | refine blk_drewN ?_ _ | refine blk_drew ?_ | refine blk_alloc ?_ _)); exact BK171.out⟩, ⟨by (with_reducible repeat (first | refine blk_drewN ?_ _ | refine blk_drew ?_ | refine blk_alloc ?_ _)); exact BK174.out⟩, ⟨by repeat (first | (with_reducible first | exact HB.out | apply below_alloc | apply pw_below_drewN | apply below_drew1 | refine below_set ?_ GE171.out | refine below_set ?_ GE174.out) | exact HB.out)⟩⟩
                        · rw [if_neg c33] at H
                          have c33b0 : ((wrap64 (rd l0 a1)) == 6) = false := beq_eq_false_iff_ne.mpr c33
                          have c33b1 : ((wrap64 (rd l0 a1)) != 6) = true := bne_iff_ne.mpr c33
                          (first | rw [c33b0] | (simp only [i64_w, i32_w]; rw [c33b0]) | skip)
                          have H' := Aside0.mk H
                          clear H
                          have hnb36 := NB174_171.out
                          have hnc36 := NB171_174.out
                          have hcz37_0 : wc.cell? ⟨gb174, 0, none⟩ = some (.int .i64 (wrap64 (rd l0 a1))) := (blk_cell BK174.out 0).trans rfl
                          have hcz37_1 : wc.cell? ⟨gb174, 1, none⟩ = some (.int .i64 x175001_26) := (blk_cell BK174.out 1).trans rfl
                          have hcz37_2 : wc.cell? ⟨gb174, 2, none⟩ = some (.slice none 0 0) := (blk_cell BK174.out 2).trans rfl
                          have hfz37_0 := blk_frozen BK174.out 0
                          have hfz37_1 := blk_frozen BK174.out 1
                          have hfz37_2 := blk_frozen BK174.out 2
                          go_wp2
                          go_meet
                          case rel => exact ⟨_, (false), (by first | rfl | (simp; done) | (simp [*]; done) | (simp [bne]; done)), H', ⟨by have := HJ3.out; have := HJ17.out; have := HJ26.out; first | omega | exact Nat.le_refl _⟩, ⟨by (with_reducible repeat (first | refine blk_drewN ?_ _ | refine blk_drew ?_ | refine blk_alloc ?_ _)); exact BK171.out⟩, ⟨by (with_reducible repeat (first | refine blk_drewN ?_ _ | refine blk_drew ?_ | refine blk_alloc ?_ _)); exact BK174.out⟩, ⟨by repeat (first | (with_reducible first | exact HB.out | apply below_alloc | apply pw_below_drewN | apply below_drew1 | refine below_set ?_ GE171.out | refine below_set ?_ GE174.out) | exact HB.out)⟩⟩
                      case rest =>
                        clear HC32
                        try clear c1
                        try clear p1
                        try clear q1
                        try clear hx1
                        try clear c2
                        try clear p2
                        try clear c3
                        try clear c6
                        try clear c6b0
                        try clear p6
                        try clear c8
                        try clear c10
                        try clear c10b0
                        try clear c11
                        try clear c11b0
                        try clear c13
                        try clear c13b0
                        try clear c13b1
                        try clear c15
                        try clear p17
                        try clear q17
                        try clear hx17
                        try clear c20
                        try clear c22
                        try clear c22b0
                        try clear c22b1
                        try clear c23
                        try clear c25
                        try clear c28
                        try clear c30
                        try clear c33
                        try clear c33b0
                        try clear c33b1
                        try clear c34
                        try clear c36
                        try clear hcz16_0
                        try clear hcz16_1
                        try clear hcz16_2
                        try clear hcz17_0
                        try clear hcz17_1
                        try clear hcz17_2
                        try clear hcz21_0
                        try clear hcz21_1
                        try clear hcz21_2
                        try clear hcz24_0
                        try clear hcz24_1
                        try clear hcz24_2
                        try clear hcz26_0
                        try clear hcz26_1
                        try clear hcz26_2
                        try clear hcz31_0
                        try clear hcz31_1
                        try clear hcz31_2
                        try clear hcz35_0
                        try clear hcz35_1
                        try clear hcz35_2
                        try clear hcz37_0
                        try clear hcz37_1
                        try clear hcz37_2
                        try clear hcz9_0
                        try clear hcz9_1
                        try clear hcz9_2
                        try clear hfz16_0
                        try clear hfz16_1
                        try clear hfz16_2
                        try clear hfz17_0
                        try clear hfz17_1
                        try clear hfz17_2
                        try clear hfz21_0
                        try clear hfz21_1
                        try clear hfz21_2
                        try clear hfz24_0
                        try clear hfz24_1
                        try clear hfz24_2
                        try clear hfz26_0
                        try clear hfz26_1
                        try clear hfz26_2
                        try clear hfz31_0
                        try clear hfz31_1
                        try clear hfz31_2
                        try clear hfz35_0
                        try clear hfz35_1
                        try clear hfz35_2
                        try clear hfz37_0
                        try clear hfz37_1
                        try clear hfz37_2
                        try clear hfz9_0
                        try clear hfz9_1
                        try clear hfz9_2
                        try clear hx173_0
                        try clear p1
                        try clear p17
                        try clear p173
                        try clear p2
                        try clear p6
                        try clear q1
                        try clear q17
                        try clear q173
                        obtain ⟨kq, x58_31, rfl, HA, HJ31, BK171, BK174, HB⟩ := hcut
                        cases kq with
                        | zero => exact absurd HA.out (by simp [impl_readTy.j3])
                        | succ kj31 =>
                          have H := HA.out
                          clear HA
                          simp only [impl_readTy.j3] at H
                          have HC38 := Aside0.mk H
                          clear H
                          go_upto_if 58 with (fail)
                          go_cut [1, 9] (fun v1 v9 wc => ∃ (kq : Nat) (x1_37 : Int) (x9_37 : Int), v1 = .int .i64 x1_37 ∧ v9 = .int .i64 x9_37 ∧ Aside0 (impl_readTy.j4 kq l0 x1_37 a2 x9_37 (wrap64 (rd l0 a1)) x175001_26 = some (r1, r2, r3, r4)) ∧ Aside0 (kq ≤ kj31) ∧ Aside0 (wc.heap[gb171]? = some (.cells #[.int .i64 0, .int .i64 0, (.slice none 0 0)] 29 (0, 0))) ∧ Aside0 (wc.heap[gb174]? = some (.cells #[.int .i64 (wrap64 (rd l0 a1)), .int .i64 x175001_26, (.slice none 0 0)] 29 (0, 0))) ∧ Aside0 (Below w.heap.size w wc))
                          case first =>
                            have H := HC38.out
                            clear HC38
                            by_cases c39 : x58_31 = true
                            · subst c39
                              have H1 : ((impl_GetNum.f kj31 l0 x1_26).bind fun bt178 => (impl_readTy.j4 kj31 l0 bt178.2 a2 bt178.1 (wrap64 (rd l0 a1)) x175001_26)) = some (r1, r2, r3, r4) := by rw [if_pos rfl] at H; exact H
                              clear H
                              have H := H1
                              clear H1
                              replace H := Option.bind_eq_some_iff.mp H
                              obtain ⟨⟨t178, t179⟩, A400, H⟩ := H
                              replace H : (impl_readTy.j4 kj31 l0 t179 a2 t178 (wrap64 (rd l0 a1)) x175001_26) = some (r1, r2, r3, r4) := H
                              have A40 := Aside0.mk A400
                              clear A400
                              have H' := Aside0.mk H
                              clear H
                              go_wp2_with (first | ((with_reducible refine gate_callee (f := 83) rfl ?_); refine goesL_ (some 62) rfl rfl Try.func83 (by kernel_rfl) rfl #[.slice (some ad173) l0.length c0, .int .i64 x1_26] rfl (by (try simp only [List.map_toArray, List.map_cons, List.map_nil]); first | done | rfl | (simp only [List.length_drop, List.length_take]; rfl)) ?_; (with_reducible refine (impl_GetNum.calls kj31 _ _ l0 x1_26 t178 t179 _ ?side1 ?side2 A40.out).mono ?_); (case side1 => repeat (first | exact (Kd.C_below HR0.out HB.out) | (with_reducible refine Kd.C_alloc ?_ _) | (with_reducible refine Kd.C_drewN ?_ _) | (with_reducible refine Kd.C_drew ?_))); (case side2 => exact HC0.out); rintro e w' ⟨rfl, ⟨nd, rfl⟩⟩; refine ⟨_, rfl, ?_⟩))
                              go_meet
                              case rel => exact ⟨_, (t179), (t178), (by first | rfl | (simp; done) | (simp [*]; done) | (simp [bne]; done)), (by first | rfl | (simp; done) | (simp [*]; done) | (simp [bne]; done)), H', ⟨by have := HJ3.out; have := HJ17.out; have := HJ26.out; have := HJ31.out; first | omega | exact Nat.le_refl _⟩, ⟨by (with_reducible repeat (first | refine blk_drewN ?_ _ | refine blk_drew ?_ | refine blk_alloc ?_ _)); exact BK171.out⟩, ⟨by (with_reducible repeat (first | refine blk_drewN ?_ _ | refine blk_drew ?_ | refine blk_alloc ?_ _)); exact BK174.out⟩, ⟨by repeat (first | (with_reducible first | exact HB.out | apply below_alloc | apply pw_below_drewN | apply below_drew1 | refine below_set ?_ GE171.out | refine below_set ?_ GE174.out) | exact HB.out)⟩⟩
                            · replace c39 := Bool.eq_false_iff.mpr c39
                              subst c39
                              have H1 : (impl_readTy.j4 kj31 l0 x1_26 a2 t175 (wrap64 (rd l0 a1)) x175001_26) = some (r1, r2, r3, r4) := by rw [if_neg (show ¬ (false = true) by decide)] at H; exact H
                              clear H
                              have H := H1
                              clear H1
                              have H' := Aside0.mk H
                              clear H
                              go_wp2
                              go_meet
                              case rel => exact ⟨_, (x1_26), (t175), (by first | rfl | (simp; done) | (simp [*]; done) | (simp [bne]; done)), (by first | rfl | (simp; done) | (simp [*]; done) | (simp [bne]; done)), H', ⟨by have := HJ3.out; have := HJ17.out; have := HJ26.out; have := HJ31.out; first | omega | exact Nat.le_refl _⟩, ⟨by (with_reducible repeat (first | refine blk_drewN ?_ _ | refine blk_drew ?_ | refine blk_alloc ?_ _)); exact BK171.out⟩, ⟨by (with_reducible repeat (first | refine blk_drewN ?_ _ | refine blk_drew ?_ | refine blk_alloc ?_ _)); exact BK174.out⟩, ⟨by repeat (first | (with_reducible first | exact HB.out | apply below_alloc | apply pw_below_drewN | apply below_drew1 | refine below_set ?_ GE171.out | refine below_set ?_ GE174.out) | exact HB.out)⟩⟩
                          case rest =>
                            clear HC38
                            try clear c1
                            try clear p1
                            try clear q1
                            try clear hx1
                            try clear c2
                            try clear p2
                            try clear c3
                            try clear c6
                            try clear c6b0
                            try clear p6
                            try clear c8
                            try clear c10
                            try clear c10b0
                            try clear c11
                            try clear c11b0
                            try clear c13
                            try clear c13b0
                            try clear c13b1
                            try clear c15
                            try clear p17
                            try clear q17
                            try clear hx17
                            try clear c20
                            try clear c22
                            try clear c22b0
                            try clear c22b1
                            try clear c23
                            try clear c25
                            try clear c28
                            try clear c30
                            try clear c33
                            try clear c33b0
                            try clear c33b1
                            try clear c34
                            try clear c36
                            try clear c39
                            try clear hcz16_0
                            try clear hcz16_1
                            try clear hcz16_2
                            try clear hcz17_0
                            try clear hcz17_1
                            try clear hcz17_2
                            try clear hcz21_0
                            try clear hcz21_1
                            try clear hcz21_2
                            try clear hcz24_0
                            try clear hcz24_1
                            try clear hcz24_2
                            try clear hcz26_0
                            try clear hcz26_1
                            try clear hcz26_2
                            try clear hcz31_0
                            try clear hcz31_1
                            try clear hcz31_2
                            try clear hcz35_0
                            try clear hcz35_1
                            try clear hcz35_2
                            try clear hcz37_0
                            try clear hcz37_1
                            try clear hcz37_2
                            try clear hcz9_0
                            try clear hcz9_1
                            try clear hcz9_2
                            try clear hfz16_0
                            try clear hfz16_1
                            try clear hfz16_2
                            try clear hfz17_0
                            try clear hfz17_1
                            try clear hfz17_2
                            try clear hfz21_0
                            try clear hfz21_1
                            try clear hfz21_2
                            try clear hfz24_0
                            try clear hfz24_1
                            try clear hfz24_2
                            try clear hfz26_0
                            try clear hfz26_1
                            try clear hfz26_2
                            try clear hfz31_0
                            try clear hfz31_1
                            try clear hfz31_2
                            try clear hfz35_0
                            try clear hfz35_1
                            try clear hfz35_2
                            try clear hfz37_0
                            try clear hfz37_1
                            try clear hfz37_2
                            try clear hfz9_0
                            try clear hfz9_1
                            try clear hfz9_2
                            try clear hx173_0
                            try clear p1
                            try clear p17
                            try clear p173
                            try clear p2
                            try clear p6
                            try clear q1
                            try clear q17
                            try clear q173
                            obtain ⟨kq, x1_37, x9_37, rfl, rfl, HA, HJ37, BK171, BK174, HB⟩ := hcut
                            cases kq with
                            | zero => exact absurd HA.out (by simp [impl_readTy.j4])
                            | succ kj37 =>
                              have H := HA.out
                              clear HA
                              simp only [impl_readTy.j4] at H
                              have HC41 := Aside0.mk H
                              clear H
                              go_upto_region 12 with (fail)
                              go_cut [70] (fun v70 wc => ∃ (kq : Nat) (x70_40 : Bool), v70 = .bool x70_40 ∧ Aside0 (impl_readTy.j5 kq l0 x1_37 a2 x9_37 x70_40 (wrap64 (rd l0 a1)) x175001_26 = some (r1, r2, r3, r4)) ∧ Aside0 (kq ≤ kj37) ∧ Aside0 (wc.heap[gb171]? = some (.cells #[.int .i64 0, .int .i64 0, (.slice none 0 0)] 29 (0, 0))) ∧ Aside0 (wc.heap[gb174]? = some (.cells #[.int .i64 (wrap64 (rd l0 a1)), .int .i64 x175001_26, (.slice none 0 0)] 29 (0, 0))) ∧ Aside0 (Below w.heap.size w wc))
                              case first =>
                                have H := HC41.out
                                clear HC41
                                by_cases c42 : x1_37 < 0
                                · rw [if_pos c42] at H
                                  have c42b0 : decide (x1_37 < 0) = true := decide_eq_true c42
                                  clear c42
                                  (first | rw [c42b0] | (simp only [i64_w, i32_w]; rw [c42b0]) | skip)
                                  have H' := Aside0.mk H
                                  clear H
                                  go_wp2
                                  go_meet
                                  case rel => exact ⟨_, (true), (by first | rfl | (simp; done) | (simp [*]; done) | (simp [bne]; done)), H', ⟨by have := HJ3.out; have := HJ17.out; have := HJ26.out; have := HJ31.out; have := HJ37.out; first | omega | exact Nat.le_refl _⟩, ⟨by (with_reducible repeat (first | refine blk_drewN ?_ _ | refine blk_drew ?_ | refine blk_alloc ?_ _)); exact BK171.out⟩, ⟨by (with_reducible repeat (first | refine blk_drewN ?_ _ | refine blk_drew ?_ | refine blk_alloc ?_ _)); exact BK174.out⟩, ⟨by repeat (first | (with_reducible first | exact HB.out | apply below_alloc | apply pw_below_drewN | apply below_drew1 | refine below_set ?_ GE171.out | refine below_set ?_ GE174.out) | exact HB.out)⟩⟩
                                · rw [if_neg c42] at H
                                  have c42b0 : decide (x1_37 < 0) = false := decide_eq_false c42
                                  clear c42
                                  (first | rw [c42b0] | (simp only [i64_w, i32_w]; rw [c42b0]) | skip)
                                  have H' := Aside0.mk H
                                  clear H
                                  go_wp2
                                  go_meet
                                  case rel => exact ⟨_, (decide (x9_37 > 3)), (by first | rfl | (simp; done) | (simp [*]; done) | (simp [bne]; done)), H', ⟨by have := HJ3.out; have := HJ17.out; have := HJ26.out; have := HJ31.out; have := HJ37.out; first | omega | exact Nat.le_refl _⟩, ⟨by (with_reducible repeat (first | refine blk_drewN ?_ _ | refine blk_drew ?_ | refine blk_alloc ?_ _)); exact BK171.out⟩, ⟨by (with_reducible repeat (first | refine blk_drewN ?_ _ | refine blk_drew ?_ | refine blk_alloc ?_ _)); exact BK174.out⟩, ⟨by repeat (first | (with_reducible first | exact HB.out | apply below_alloc | apply pw_below_drewN | apply below_drew1 | refine below_set ?_ GE171.out | refine below_set ?_ GE174.out) | exact HB.out)⟩⟩
                              case rest =>
                                clear HC41
                                try clear c1
                                try clear p1
                                try clear q1
                                try clear hx1
                                try clear c2
                                try clear p2
                                try clear c3
                                try clear c4
                                try clear c6
                                try clear c6b0
                                try clear p6
                                try clear c8
                                try clear c10
                                try clear c10b0
                                try clear c11
                                try clear c11b0
                                try clear c13
                                try clear c13b0
                                try clear c13b1
                                try clear c15
                                try clear p17
                                try clear q17
                                try clear hx17
                                try clear c20
                                try clear c22
                                try clear c22b0
                                try clear c22b1
                                try clear c23
                                try clear c25
                                try clear c28
                                try clear c30
                                try clear c33
                                try clear c33b0
                                try clear c33b1
                                try clear c34
                                try clear c36
                                try clear c39
                                try clear c42
                                try clear c42b0
                                try clear hcz16_0
                                try clear hcz16_1
                                try clear hcz16_2
                                try clear hcz17_0
                                try clear hcz17_1
                                try clear hcz17_2
                                try clear hcz21_0
                                try clear hcz21_1
                                try clear hcz21_2
                                try clear hcz24_0
                                try clear hcz24_1
                                try clear hcz24_2
                                try clear hcz26_0
                                try clear hcz26_1
                                try clear hcz26_2
                                try clear hcz31_0
                                try clear hcz31_1
                                try clear hcz31_2
                                try clear hcz35_0
                                try clear hcz35_1
                                try clear hcz35_2
                                try clear hcz37_0
                                try clear hcz37_1
                                try clear hcz37_2
                                try clear hcz9_0
                                try clear hcz9_1
                                try clear hcz9_2
                                try clear hfz16_0
                                try clear hfz16_1
                                try clear hfz16_2
                                try clear hfz17_0
                                try clear hfz17_1
                                try clear hfz17_2
                                try clear hfz21_0
                                try clear hfz21_1
                                try clear hfz21_2
                                try clear hfz24_0
                                try clear hfz24_1
                                try clear hfz24_2
                                try clear hfz26_0
                                try clear hfz26_1
                                try clear hfz26_2
                                try clear hfz31_0
                                try clear hfz31_1
                                try clear hfz31_2
                                try clear hfz35_0
                                try clear hfz35_1
                                try clear hfz35_2
                                try clear hfz37_0
                                try clear hfz37_1
                                try clear hfz37_2
                                try clear hfz9_0
                                try clear hfz9_1
                                try clear hfz9_2
                                try clear hx173_0
                                try clear p1
                                try clear p17
                                try clear p173
                                try clear p2
                                try clear p6
                                try clear q1
                                try clear q17
                                try clear q173
                                obtain ⟨kq, x70_40, rfl, HA, HJ40, BK171, BK174, HB⟩ := hcut
                                cases kq with
                                | zero => exact absurd HA.out (by simp [impl_readTy.j5])
                                | succ kj40 =>
                                  have H := HA.out
                                  clear HA
                                  simp only [impl_readTy.j5] at H
                                  by_cases c43 : x70_40 = true
                                  · subst c43
                                    have H1 : (some (0, 0, ([] : List (S29)), (-1))) = some (r1, r2, r3, r4) := by rw [if_pos rfl] at H; exact H
                                    clear H
                                    have H := H1
                                    clear H1
                                    simp only [Option.some.injEq, Prod.mk.injEq] at H
                                    obtain ⟨rfl, rfl, rfl, rfl⟩ := H
                                    have hnb44 := NB171_174.out
                                    have hnc44 := NB174_171.out
                                    have hcz45_0 : wc.cell? ⟨gb171, 0, none⟩ = some (.int .i64 0) := (blk_cell BK171.out 0).trans rfl
                                    have hcz45_1 : wc.cell? ⟨gb171, 1, none⟩ = some (.int .i64 0) := (blk_cell BK171.out 1).trans rfl
                                    have hcz45_2 : wc.cell? ⟨gb171, 2, none⟩ = some (.slice none 0 0) := (blk_cell BK171.out 2).trans rfl
                                    have hfz45_0 := blk_frozen BK171.out 0
                                    have hfz45_1 := blk_frozen BK171.out 1
                                    have hfz45_2 := blk_frozen BK171.out 2
                                    go_wp2
                                    refine bodyPost_ret (results_ct rfl _ _ gb171 29 #[.int .i64 0, .int .i64 0, .slice none 0 0] (0, 0) _ rfl (by (with_reducible repeat (first | refine blk_drewN ?_ _ | refine blk_drew ?_ | refine blk_alloc ?_ _)); refine blk_put (cs := #[.int .i64 0, .int .i64 0, .slice none 0 0]) ?_ 2 _ rfl; (with_reducible repeat (first | refine blk_drewN ?_ _ | refine blk_drew ?_ | refine blk_alloc ?_ _)); refine blk_put (cs := #[.int .i64 0, .int .i64 0, .slice none 0 0]) ?_ 1 _ rfl; (with_reducible repeat (first | refine blk_drewN ?_ _ | refine blk_drew ?_ | refine blk_alloc ?_ _)); refine blk_put (cs := #[.int .i64 0, .int .i64 0, .slice none 0 0]) ?_ 0 _ rfl; (with_reducible repeat (first | refine blk_drewN ?_ _ | refine blk_drew ?_ | refine blk_alloc ?_ _)); exact BK171.out) Try.underlying29 rfl (by kernel_rfl)) rfl ?_
                                    exact ⟨_, by first | rfl | (simp [errW_none, errW_some] <;> rfl) | (simp [*, errW_none, errW_some] <;> rfl), by first | exact Kd.S_nil _ _ _ _ _ | exact Kd.N_nil _ _ _ _ _ | exact Kd.V_nil _ _ _ _ _ | exact Kd.Q_nil _ _ _ _ _ | exact Kd.R_nil _ _ _ _ _, by repeat (first | (with_reducible first | exact HB.out | apply below_alloc | apply pw_below_drewN | apply below_drew1 | refine below_set ?_ GE171.out | refine below_set ?_ GE174.out) | exact HB.out)⟩
                                  · replace c43 := Bool.eq_false_iff.mpr c43
                                    subst c43
                                    have H1 : (impl_readTy.l0 kj40 l0 x1_37 a2 x9_37 0 (wrap64 (rd l0 a1)) x175001_26 ([] : List (S29))) = some (r1, r2, r3, r4) := by rw [if_neg (show ¬ (false = true) by decide)] at H; exact H
                                    clear H
                                    have H := H1
                                    clear H1
                                    have H' := Aside0.mk H
                                    clear H
                                    go_wp2
                                    go_loopg [1, 73] kj40 (fun kq v1 v73 w' => ∃ (x1_7 : Int) (x73_7 : Int) (x172000_7 : Int) (x172001_7 : Int) (x175002_7 : List (S29)) (u175002 : Value), v1 = .int .i64 x1_7 ∧ v73 = .int .i64 x73_7 ∧ Aside0 (impl_readTy.l0 kq l0 x1_7 a2 x9_37 x73_7 (wrap64 (rd l0 a1)) x175001_26 x175002_7 = some (r1, r2, r3, r4)) ∧ Aside0 (kq ≤ kj40) ∧ Aside0 (Kd.S k29 29 w' w.heap.size (fun k_ => k_ ≠ gb171 ∧ k_ ≠ gb174) u175002 x175002_7) ∧ Aside0 (w'.heap[gb171]? = some (.cells #[.int .i64 x172000_7, .int .i64 x172001_7, (.slice none 0 0)] 29 (0, 0))) ∧ Aside0 (w'.heap[gb174]? = some (.cells #[.int .i64 (wrap64 (rd l0 a1)), .int .i64 x175001_26, u175002] 29 (0, 0))) ∧ Aside0 (Below w.heap.size w w'))
                                    case atStart => exact ⟨(x1_37), (0), (0), (0), (([] : List (S29))), (.slice none 0 0), (by first | rfl | (simp; done) | (simp [*]; done) | (simp [bne]; done)), (by first | rfl | (simp; done) | (simp [*]; done) | (simp [bne]; done)), H', ⟨Nat.le_refl _⟩, ⟨by first | exact Kd.S_nil _ _ _ _ _ | exact Kd.N_nil _ _ _ _ _ | exact Kd.V_nil _ _ _ _ _ | exact Kd.Q_nil _ _ _ _ _ | exact Kd.R_nil _ _ _ _ _⟩, ⟨by (with_reducible repeat (first | refine blk_drewN ?_ _ | refine blk_drew ?_ | refine blk_alloc ?_ _)); exact BK171.out⟩, ⟨by (with_reducible repeat (first | refine blk_drewN ?_ _ | refine blk_drew ?_ | refine blk_alloc ?_ _)); exact BK174.out⟩, ⟨by repeat (first | (with_reducible first | exact HB.out | apply below_alloc | apply pw_below_drewN | apply below_drew1 | refine below_set ?_ GE171.out | refine below_set ?_ GE174.out) | exact HB.out)⟩⟩
                                    case round =>
                                      clear H'
                                      try clear c1
                                      try clear p1
                                      try clear q1
                                      try clear hx1
                                      try clear c2
                                      try clear p2
                                      try clear c3
                                      try clear c4
                                      try clear c6
                                      try clear c6b0
                                      try clear p6
                                      try clear c8
                                      try clear c10
                                      try clear c10b0
                                      try clear c11
                                      try clear c11b0
                                      try clear c13
                                      try clear c13b0
                                      try clear c13b1
                                      try clear c15
                                      try clear p17
                                      try clear q17
                                      try clear hx17
                                      try clear c20
                                      try clear c22
                                      try clear c22b0
                                      try clear c22b1
                                      try clear c23
                                      try clear c25
                                      try clear c28
                                      try clear c30
                                      try clear c33
                                      try clear c33b0
                                      try clear c33b1
                                      try clear c34
                                      try clear c36
                                      try clear c39
                                      try clear c42
                                      try clear c42b0
                                      try clear c43
                                      try clear c44
                                      try clear hcz16_0
                                      try clear hcz16_1
                                      try clear hcz16_2
                                      try clear hcz17_0
                                      try clear hcz17_1
                                      try clear hcz17_2
                                      try clear hcz21_0
                                      try clear hcz21_1
                                      try clear hcz21_2
                                      try clear hcz24_0
                                      try clear hcz24_1
                                      try clear hcz24_2
                                      try clear hcz26_0
                                      try clear hcz26_1
                                      try clear hcz26_2
                                      try clear hcz31_0
                                      try clear hcz31_1
                                      try clear hcz31_2
                                      try clear hcz35_0
                                      try clear hcz35_1
                                      try clear hcz35_2
                                      try clear hcz37_0
                                      try clear hcz37_1
                                      try clear hcz37_2
                                      try clear hcz45_0
                                      try clear hcz45_1
                                      try clear hcz45_2
                                      try clear hcz9_0
                                      try clear hcz9_1
                                      try clear hcz9_2
                                      try clear hfz16_0
                                      try clear hfz16_1
                                      try clear hfz16_2
                                      try clear hfz17_0
                                      try clear hfz17_1
                                      try clear hfz17_2
                                      try clear hfz21_0
                                      try clear hfz21_1
                                      try clear hfz21_2
                                      try clear hfz24_0
                                      try clear hfz24_1
                                      try clear hfz24_2
                                      try clear hfz26_0
                                      try clear hfz26_1
                                      try clear hfz26_2
                                      try clear hfz31_0
                                      try clear hfz31_1
                                      try clear hfz31_2
                                      try clear hfz35_0
                                      try clear hfz35_1
                                      try clear hfz35_2
                                      try clear hfz37_0
                                      try clear hfz37_1
                                      try clear hfz37_2
                                      try clear hfz45_0
                                      try clear hfz45_1
                                      try clear hfz45_2
                                      try clear hfz9_0
                                      try clear hfz9_1
                                      try clear hfz9_2
                                      try clear hx173_0
                                      try clear p1
                                      try clear p17
                                      try clear p173
                                      try clear p2
                                      try clear p6
                                      try clear q1
                                      try clear q17
                                      try clear q173
                                      obtain ⟨x1_7, x73_7, x172000_7, x172001_7, x175002_7, u175002, rfl, rfl, HA, HK7, HO_175002, BK171, BK174, HB⟩ := hrel
                                      cases gk with
                                      | zero => exact absurd HA.out (by simp [impl_readTy.l0])
                                      | succ k7 =>
                                        have H := HA.out
                                        clear HA
                                        simp only [impl_readTy.l0] at H
                                        by_cases c46 : x73_7 < x9_37
                                        · rw [if_pos c46] at H
                                          have c46b0 : decide (x73_7 < x9_37) = true := decide_eq_true c46
                                          clear c46
                                          replace H := Option.bind_eq_some_iff.mp H
                                          obtain ⟨⟨t180, t181, t182, t185⟩, A470, H⟩ := H
                                          replace H : (if t185 < 0 then (some (0, 0, ([] : List (S29)), (-1))) else (if x175002_7.length < 3518437208883 then (impl_readTy.l0 k7 l0 t185 a2 x9_37 (wrap64 (x73_7 + 1)) (wrap64 (rd l0 a1)) x175001_26 (x175002_7 ++ [(⟨t180, t181, t182⟩ : S29)])) else (none))) = some (r1, r2, r3, r4) := H
                                          have A47 := Aside0.mk A470
                                          clear A470
                                          by_cases c48 : t185 < 0
                                          · rw [if_pos c48] at H
                                            have c48b0 : decide (t185 < 0) = true := decide_eq_true c48
                                            clear c48
                                            simp only [Option.some.injEq, Prod.mk.injEq] at H
                                            obtain ⟨rfl, rfl, rfl, rfl⟩ := H
                                            go_wp2_with (first | ((with_reducible refine gate_callee (f := 62) rfl ?_); refine goesL_ (some 80) rfl rfl Try.func62 (by kernel_rfl) rfl #[.slice (some ad173) l0.length c0, .int .i64 x1_7, .int .i64 (wrap64 (a2 + 1))] rfl (by (try simp only [List.map_toArray, List.map_cons, List.map_nil]); first | done | rfl | (simp only [List.length_drop, List.length_take]; rfl)) ?_; (with_reducible refine (ih k7 (by have := HJ3.out; have := HJ17.out; have := HJ26.out; have := HJ31.out; have := HJ37.out; have := HJ40.out; have := HK7.out; omega) _ _ l0 x1_7 (wrap64 (a2 + 1)) t180 t181 t182 t185 _ ?side1 ?side2 A47.out).mono ?_); (case side1 => repeat (first | exact (Kd.C_below HR0.out HB.out) | (with_reducible refine Kd.C_alloc ?_ _) | (with_reducible refine Kd.C_drewN ?_ _) | (with_reducible refine Kd.C_drew ?_))); (case side2 => exact HC0.out); rintro e w49 ⟨v183, rfl, ho0, hb⟩; refine ⟨_, rfl, ?_⟩; have n0_ := Aside0.mk (Kd.S_elder' (by (with_reducible repeat (first | apply Kd.S_alloc | apply Kd.S_drewN | apply Kd.S_drew)); exact HO_175002.out) (Kd.S_base ho0) hb); have n1_ := Aside0.mk (Kd.S_lower (Kd.S_newB (Kd.S_newB (Kd.S_new' ho0 (Kd.S_lt (by (with_reducible repeat (first | apply Kd.S_alloc | apply Kd.S_drewN | apply Kd.S_drew)); exact HO_175002.out))) (g := gb171) (o := .cells #[.int .i64 x172000_7, .int .i64 x172001_7, .slice none 0 0] 29 (0, 0)) (by (with_reducible repeat (first | refine blk_drewN ?_ _ | refine blk_drew ?_ | refine blk_alloc ?_ _)); exact BK171.out)) (g := gb174) (o := .cells #[.int .i64 (wrap64 (rd l0 a1)), .int .i64 x175001_26, u175002] 29 (0, 0)) (by (with_reducible repeat (first | refine blk_drewN ?_ _ | refine blk_drew ?_ | refine blk_alloc ?_ _)); exact BK174.out)) (below_size (by repeat (first | (with_reducible first | exact HB.out | apply below_alloc | apply pw_below_drewN | apply below_drew1 | refine below_set ?_ GE171.out | refine below_set ?_ GE174.out) | exact HB.out)))); have n2_ := Aside0.mk (blk_below (g := gb171) (o := .cells #[.int .i64 x172000_7, .int .i64 x172001_7, .slice none 0 0] 29 (0, 0)) (by (with_reducible repeat (first | refine blk_drewN ?_ _ | refine blk_drew ?_ | refine blk_alloc ?_ _)); exact BK171.out) hb); have n3_ := Aside0.mk (blk_below (g := gb174) (o := .cells #[.int .i64 (wrap64 (rd l0 a1)), .int .i64 x175001_26, u175002] 29 (0, 0)) (by (with_reducible repeat (first | refine blk_drewN ?_ _ | refine blk_drew ?_ | refine blk_alloc ?_ _)); exact BK174.out) hb); have n4_ := Aside0.mk (below_step (by repeat (first | (with_reducible first | exact HB.out | apply below_alloc | apply pw_below_drewN | apply below_drew1 | refine below_set ?_ GE171.out | refine below_set ?_ GE174.out) | exact HB.out)) hb); clear HO_175002; clear BK171; clear BK174; clear HB; have HO_175002 := n0_; have HO184 := n1_; have BK171 := n2_; have BK174 := n3_; have HB := n4_; clear n0_ n1_ n2_ n3_ n4_; (try clear hb); (try clear hb2); (try clear hk); (try clear hi); (try clear ho0)) | ((with_reducible refine gate_dst (N := 10) rfl ?_); (try (refine gate_guard (by rfl) ?_; dsimp only)); refine box_event ?hg (N := 10) ?hd (cs := #[.int .i64 0, .int .i64 0, .slice none 0 0]) (t := 29) ?hr ?_; (case hd => rfl); (case hg => rfl); (case hr => first | (go_simp; done) | (go_simp; rfl)); intro gb186 hg w50 hbox hb; have n0_ := Aside0.mk (Kd.S_below (Kd.S_elderB (by (with_reducible repeat (first | apply Kd.S_alloc | apply Kd.S_drewN | apply Kd.S_drew)); exact HO_175002.out) gb186 (Nat.le_of_eq hg.symm)) hb); have n1_ := Aside0.mk (Kd.S_below (Kd.S_elderB (by (with_reducible repeat (first | apply Kd.S_alloc | apply Kd.S_drewN | apply Kd.S_drew)); exact HO184.out) gb186 (Nat.le_of_eq hg.symm)) hb); have n2_ := Aside0.mk (blk_below (g := gb171) (o := .cells #[.int .i64 x172000_7, .int .i64 x172001_7, .slice none 0 0] 29 (0, 0)) (by (with_reducible repeat (first | refine blk_drewN ?_ _ | refine blk_drew ?_ | refine blk_alloc ?_ _)); exact BK171.out) hb); have n3_ := Aside0.mk (blk_below (g := gb174) (o := .cells #[.int .i64 (wrap64 (rd l0 a1)), .int .i64 x175001_26, u175002] 29 (0, 0)) (by (with_reducible repeat (first | refine blk_drewN ?_ _ | refine blk_drew ?_ | refine blk_alloc ?_ _)); exact BK174.out) hb); have n4_ := Aside0.mk (below_step (by repeat (first | (with_reducible first | exact HB.out | apply below_alloc | apply pw_below_drewN | apply below_drew1 | refine below_set ?_ GE171.out | refine below_set ?_ GE174.out) | exact HB.out)) hb); have n5_ := Aside0.mk (hbox); have n6_ := Aside0.mk ((by rw [hg]; exact (below_size (by repeat (first | (with_reducible first | exact HB.out | apply below_alloc | apply pw_below_drewN | apply below_drew1 | refine below_set ?_ GE171.out | refine below_set ?_ GE174.out) | exact HB.out))) : w.heap.size ≤ gb186)); have n7_ := Aside0.mk ((by rw [hg]; exact (below_size (by repeat (first | (with_reducible first | exact HB.out | apply below_alloc | apply pw_below_drewN | apply below_drew1 | refine below_set ?_ GE171.out | refine below_set ?_ GE174.out) | exact HB.out))) : w.heap.size ≤ gb186)); have n8_ := Aside0.mk ((by rw [hg]; exact Nat.ne_of_lt (blk_lt (g := gb171) (o := .cells #[.int .i64 x172000_7, .int .i64 x172001_7, .slice none 0 0] 29 (0, 0)) (by (with_reducible repeat (first | refine blk_drewN ?_ _ | refine blk_drew ?_ | refine blk_alloc ?_ _)); exact BK171.out)) : gb171 ≠ gb186)); have n9_ := Aside0.mk ((by rw [hg]; exact Nat.ne_of_gt (blk_lt (g := gb171) (o := .cells #[.int .i64 x172000_7, .int .i64 x172001_7, .slice none 0 0] 29 (0, 0)) (by (with_reducible repeat (first | refine blk_drewN ?_ _ | refine blk_drew ?_ | refine blk_alloc ?_ _)); exact BK171.out)) : gb186 ≠ gb171)); have n10_ := Aside0.mk ((by rw [hg]; exact Nat.ne_of_lt (blk_lt (g := gb174) (o := .cells #[.int .i64 (wrap64 (rd l0 a1)), .int .i64 x175001_26, u175002] 29 (0, 0)) (by (with_reducible repeat (first | refine blk_drewN ?_ _ | refine blk_drew ?_ | refine blk_alloc ?_ _)); exact BK174.out)) : gb174 ≠ gb186)); have n11_ := Aside0.mk ((by rw [hg]; exact Nat.ne_of_gt (blk_lt (g := gb174) (o := .cells #[.int .i64 (wrap64 (rd l0 a1)), .int .i64 x175001_26, u175002] 29 (0, 0)) (by (with_reducible repeat (first | refine blk_drewN ?_ _ | refine blk_drew ?_ | refine blk_alloc ?_ _)); exact BK174.out)) : gb186 ≠ gb174)); clear HO_175002; clear HO184; clear BK171; clear BK174; clear HB; have HO_175002 := n0_; have HO184 := n1_; have BK171 := n2_; have BK174 := n3_; have HB := n4_; have BK186 := n5_; have GW186 := n6_; have GE186 := n7_; have NB171_186 := n8_; have NB186_171 := n9_; have NB174_186 := n10_; have NB186_174 := n11_; clear n0_ n1_ n2_ n3_ n4_ n5_ n6_ n7_ n8_ n9_ n10_ n11_; clear hb hbox hg; have hnb51 := NB186_171.out; have hnc51 := NB171_186.out; have hnb52 := NB186_174.out; have hnc52 := NB174_186.out; have hcz53_0 : w50.cell? ⟨gb186, 0, none⟩ = some (.int .i64 0) := (blk_cell BK186.out 0).trans rfl; have hcz53_1 : w50.cell? ⟨gb186, 1, none⟩ = some (.int .i64 0) := (blk_cell BK186.out 1).trans rfl; have hcz53_2 : w50.cell? ⟨gb186, 2, none⟩ = some (.slice none 0 0) := (blk_cell BK186.out 2).trans rfl; have hfz53_0 := blk_frozen BK186.out 0; have hfz53_1 := blk_frozen BK186.out 1; have hfz53_2 := blk_frozen BK186.out 2; obtain ⟨Ao54, co54, eo54⟩ := Kd.S_slice HO184.out; subst eo54; have hnb55 := NB171_174.out; have hnc55 := NB174_171.out; have hcz56_0 : w50.cell? ⟨gb171, 0, none⟩ = some (.int .i64 x172000_7) := (blk_cell BK171.out 0).trans rfl; have hcz56_1 : w50.cell? ⟨gb171, 1, none⟩ = some (.int .i64 x172001_7) := (blk_cell BK171.out 1).trans rfl; have hcz56_2 : w50.cell? ⟨gb171, 2, none⟩ = some (.slice none 0 0) := (blk_cell BK171.out 2).trans rfl; have hfz56_0 := blk_frozen BK171.out 0; have hfz56_1 := blk_frozen BK171.out 1; have hfz56_2 := blk_frozen BK171.out 2))
                                            refine bodyPost_ret (results_ct rfl _ _ gb171 29 #[.int .i64 0, .int .i64 0, .slice none 0 0] (0, 0) _ rfl (by (with_reducible repeat (first | refine blk_drewN ?_ _ | refine blk_drew ?_ | refine blk_alloc ?_ _)); refine blk_put (cs := #[.int .i64 0, .int .i64 0, .slice none 0 0]) ?_ 2 _ rfl; (with_reducible repeat (first | refine blk_drewN ?_ _ | refine blk_drew ?_ | refine blk_alloc ?_ _)); refine blk_put (cs := #[.int .i64 0, .int .i64 x172001_7, .slice none 0 0]) ?_ 1 _ rfl; (with_reducible repeat (first | refine blk_drewN ?_ _ | refine blk_drew ?_ | refine blk_alloc ?_ _)); refine blk_put (cs := #[.int .i64 x172000_7, .int .i64 x172001_7, .slice none 0 0]) ?_ 0 _ rfl; (with_reducible repeat (first | refine blk_drewN ?_ _ | refine blk_drew ?_ | refine blk_alloc ?_ _)); refine blk_far ?_ NB171_186.out _; (with_reducible repeat (first | refine blk_drewN ?_ _ | refine blk_drew ?_ | refine blk_alloc ?_ _)); refine blk_far ?_ NB171_186.out _; (with_reducible repeat (first | refine blk_drewN ?_ _ | refine blk_drew ?_ | refine blk_alloc ?_ _)); refine blk_far ?_ NB171_186.out _; (with_reducible repeat (first | refine blk_drewN ?_ _ | refine blk_drew ?_ | refine blk_alloc ?_ _)); exact BK171.out) Try.underlying29 rfl (by kernel_rfl)) rfl ?_
                                            exact ⟨_, by first | rfl | (simp [errW_none, errW_some] <;> rfl) | (simp [*, errW_none, errW_some] <;> rfl), by first | exact Kd.S_nil _ _ _ _ _ | exact Kd.N_nil _ _ _ _ _ | exact Kd.V_nil _ _ _ _ _ | exact Kd.Q_nil _ _ _ _ _ | exact Kd.R_nil _ _ _ _ _, by repeat (first | (with_reducible first | exact HB.out | apply below_alloc | apply pw_below_drewN | apply below_drew1 | refine below_set ?_ GE171.out | refine below_set ?_ GE174.out | refine below_set ?_ GE186.out) | exact HB.out)⟩
                                          · rw [if_neg c48] at H
                                            have c48b0 : decide (t185 < 0) = false := decide_eq_false c48
                                            clear c48
                                            by_cases c57 : x175002_7.length < 3518437208883
                                            · rw [if_pos c57] at H
                                              have LMc57 := Aside0.mk c57
                                              clear c57
                                              obtain ⟨y187, hy187⟩ : ∃ y_ : List (S29), y_ = (x175002_7 ++ [(⟨t180, t181, t182⟩ : S29)]) := ⟨_, rfl⟩
                                              replace H : (impl_readTy.l0 k7 l0 t185 a2 x9_37 (wrap64 (x73_7 + 1)) (wrap64 (rd l0 a1)) x175001_26 y187) = some (r1, r2, r3, r4) := by first | (rw [hy187]; with_reducible exact H) | (have H2_ := (Option.bind_some _ _).symm.trans H; rw [hy187]; with_reducible exact H2_) | (have H2_ := (Option.bind_some _ _).symm.trans H; with_reducible exact H2_) | with_reducible exact H | (rw [hy187]; exact H) | exact H
                                              have Ny187 := Aside0.mk hy187
                                              clear hy187
                                              have H' := Aside0.mk H
                                              clear H
                                              go_wp2_with (first | ((with_reducible refine gate_callee (f := 62) rfl ?_); refine goesL_ (some 80) rfl rfl Try.func62 (by kernel_rfl) rfl #[.slice (some ad173) l0.length c0, .int .i64 x1_7, .int .i64 (wrap64 (a2 + 1))] rfl (by (try simp only [List.map_toArray, List.map_cons, List.map_nil]); first | done | rfl | (simp only [List.length_drop, List.length_take]; rfl)) ?_; (with_reducible refine (ih k7 (by have := HJ3.out; have := HJ17.out; have := HJ26.out; have := HJ31.out; have := HJ37.out; have := HJ40.out; have := HK7.out; omega) _ _ l0 x1_7 (wrap64 (a2 + 1)) t180 t181 t182 t185 _ ?side1 ?side2 A47.out).mono ?_); (case side1 => repeat (first | exact (Kd.C_below HR0.out HB.out) | (with_reducible refine Kd.C_alloc ?_ _) | (with_reducible refine Kd.C_drewN ?_ _) | (with_reducible refine Kd.C_drew ?_))); (case side2 => exact HC0.out); rintro e w58 ⟨v183, rfl, ho0, hb⟩; refine ⟨_, rfl, ?_⟩; obtain ⟨SZ9, hSZ9⟩ := Kd.size_of hb; have n0_ := Aside0.mk (Kd.S_elderN hSZ9 (by (with_reducible repeat (first | apply Kd.S_alloc | apply Kd.S_drewN | apply Kd.S_drew)); exact HO_175002.out) hb); have n1_ := Aside0.mk (Kd.S_lower (Kd.S_newB (Kd.S_newB (Kd.S_freshN hSZ9 ho0) (g := gb171) (o := .cells #[.int .i64 x172000_7, .int .i64 x172001_7, .slice none 0 0] 29 (0, 0)) (by (with_reducible repeat (first | refine blk_drewN ?_ _ | refine blk_drew ?_ | refine blk_alloc ?_ _)); exact BK171.out)) (g := gb174) (o := .cells #[.int .i64 (wrap64 (rd l0 a1)), .int .i64 x175001_26, u175002] 29 (0, 0)) (by (with_reducible repeat (first | refine blk_drewN ?_ _ | refine blk_drew ?_ | refine blk_alloc ?_ _)); exact BK174.out)) (below_size (by repeat (first | (with_reducible first | exact HB.out | apply below_alloc | apply pw_below_drewN | apply below_drew1 | refine below_set ?_ GE171.out | refine below_set ?_ GE174.out) | exact HB.out)))); have n2_ := Aside0.mk (blk_below (g := gb171) (o := .cells #[.int .i64 x172000_7, .int .i64 x172001_7, .slice none 0 0] 29 (0, 0)) (by (with_reducible repeat (first | refine blk_drewN ?_ _ | refine blk_drew ?_ | refine blk_alloc ?_ _)); exact BK171.out) hb); have n3_ := Aside0.mk (blk_below (g := gb174) (o := .cells #[.int .i64 (wrap64 (rd l0 a1)), .int .i64 x175001_26, u175002] 29 (0, 0)) (by (with_reducible repeat (first | refine blk_drewN ?_ _ | refine blk_drew ?_ | refine blk_alloc ?_ _)); exact BK174.out) hb); have n4_ := Aside0.mk (below_step (by repeat (first | (with_reducible first | exact HB.out | apply below_alloc | apply pw_below_drewN | apply below_drew1 | refine below_set ?_ GE171.out | refine below_set ?_ GE174.out) | exact HB.out)) hb); clear HO_175002; clear BK171; clear BK174; clear HB; have HO_175002 := n0_; have HO184 := n1_; have BK171 := n2_; have BK174 := n3_; have HB := n4_; clear n0_ n1_ n2_ n3_ n4_; (try clear hb); (try clear hb2); (try clear hk); (try clear hi); (try clear ho0)) | ((with_reducible refine gate_dst (N := 10) rfl ?_); (try (refine gate_guard (by rfl) ?_; dsimp only)); refine box_event ?hg (N := 10) ?hd (cs := #[.int .i64 0, .int .i64 0, .slice none 0 0]) (t := 29) ?hr ?_; (case hd => rfl); (case hg => rfl); (case hr => first | (go_simp; done) | (go_simp; rfl)); intro gb186 hg w59 hbox hb; have n0_ := Aside0.mk (Kd.S_below (Kd.S_elderB (by (with_reducible repeat (first | apply Kd.S_alloc | apply Kd.S_drewN | apply Kd.S_drew)); exact HO_175002.out) gb186 (Nat.le_of_eq hg.symm)) hb); have n1_ := Aside0.mk (Kd.S_below (Kd.S_elderB (by (with_reducible repeat (first | apply Kd.S_alloc | apply Kd.S_drewN | apply Kd.S_drew)); exact HO184.out) gb186 (Nat.le_of_eq hg.symm)) hb); have n2_ := Aside0.mk (blk_below (g := gb171) (o := .cells #[.int .i64 x172000_7, .int .i64 x172001_7, .slice none 0 0] 29 (0, 0)) (by (with_reducible repeat (first | refine blk_drewN ?_ _ | refine blk_drew ?_ | refine blk_alloc ?_ _)); exact BK171.out) hb); have n3_ := Aside0.mk (blk_below (g := gb174) (o := .cells #[.int .i64 (wrap64 (rd l0 a1)), .int .i64 x175001_26, u175002] 29 (0, 0)) (by (with_reducible repeat (first | refine blk_drewN ?_ _ | refine blk_drew ?_ | refine blk_alloc ?_ _)); exact BK174.out) hb); have n4_ := Aside0.mk (below_step (by repeat (first | (with_reducible first | exact HB.out | apply below_alloc | apply pw_below_drewN | apply below_drew1 | refine below_set ?_ GE171.out | refine below_set ?_ GE174.out) | exact HB.out)) hb); have n5_ := Aside0.mk (hbox); have n6_ := Aside0.mk ((by rw [hg]; exact (below_size (by repeat (first | (with_reducible first | exact HB.out | apply below_alloc | apply pw_below_drewN | apply below_drew1 | refine below_set ?_ GE171.out | refine below_set ?_ GE174.out) | exact HB.out))) : w.heap.size ≤ gb186)); have n7_ := Aside0.mk ((by rw [hg]; exact (below_size (by repeat (first | (with_reducible first | exact HB.out | apply below_alloc | apply pw_below_drewN | apply below_drew1 | refine below_set ?_ GE171.out | refine below_set ?_ GE174.out) | exact HB.out))) : w.heap.size ≤ gb186)); have n8_ := Aside0.mk ((by rw [hg]; exact Nat.ne_of_lt (blk_lt (g := gb171) (o := .cells #[.int .i64 x172000_7, .int .i64 x172001_7, .slice none 0 0] 29 (0, 0)) (by (with_reducible repeat (first | refine blk_drewN ?_ _ | refine blk_drew ?_ | refine blk_alloc ?_ _)); exact BK171.out)) : gb171 ≠ gb186)); have n9_ := Aside0.mk ((by rw [hg]; exact Nat.ne_of_gt (blk_lt (g := gb171) (o := .cells #[.int .i64 x172000_7, .int .i64 x172001_7, .slice none 0 0] 29 (0, 0)) (by (with_reducible repeat (first | refine blk_drewN ?_ _ | refine blk_drew ?_ | refine blk_alloc ?_ _)); exact BK171.out)) : gb186 ≠ gb171)); have n10_ := Aside0.mk ((by rw [hg]; exact Nat.ne_of_lt (blk_lt (g := gb174) (o := .cells #[.int .i64 (wrap64 (rd l0 a1)), .int .i64 x175001_26, u175002] 29 (0, 0)) (by (with_reducible repeat (first | refine blk_drewN ?_ _ | refine blk_drew ?_ | refine blk_alloc ?_ _)); exact BK174.out)) : gb174 ≠ gb186)); have n11_ := Aside0.mk ((by rw [hg]; exact Nat.ne_of_gt (blk_lt (g := gb174) (o := .cells #[.int .i64 (wrap64 (rd l0 a1)), .int .i64 x175001_26, u175002] 29 (0, 0)) (by (with_reducible repeat (first | refine blk_drewN ?_ _ | refine blk_drew ?_ | refine blk_alloc ?_ _)); exact BK174.out)) : gb186 ≠ gb174)); clear HO_175002; clear HO184; clear BK171; clear BK174; clear HB; have HO_175002 := n0_; have HO184 := n1_; have BK171 := n2_; have BK174 := n3_; have HB := n4_; have BK186 := n5_; have GW186 := n6_; have GE186 := n7_; have NB171_186 := n8_; have NB186_171 := n9_; have NB174_186 := n10_; have NB186_174 := n11_; clear n0_ n1_ n2_ n3_ n4_ n5_ n6_ n7_ n8_ n9_ n10_ n11_; clear hb hbox hg; have hnb60 := NB186_171.out; have hnc60 := NB171_186.out; have hnb61 := NB186_174.out; have hnc61 := NB174_186.out; have hcz62_0 : w59.cell? ⟨gb186, 0, none⟩ = some (.int .i64 0) := (blk_cell BK186.out 0).trans rfl; have hcz62_1 : w59.cell? ⟨gb186, 1, none⟩ = some (.int .i64 0) := (blk_cell BK186.out 1).trans rfl; have hcz62_2 : w59.cell? ⟨gb186, 2, none⟩ = some (.slice none 0 0) := (blk_cell BK186.out 2).trans rfl; have hfz62_0 := blk_frozen BK186.out 0; have hfz62_1 := blk_frozen BK186.out 1; have hfz62_2 := blk_frozen BK186.out 2; obtain ⟨Ao63, co63, eo63⟩ := Kd.S_slice HO184.out; subst eo63) | ((with_reducible refine gate_store (t := 29) (p := 10) rfl ?_); refine store_event (t := 29) (p := 10) (v := ?vo_w64) (w1 := (((w59.setCell ⟨gb186, 0, none⟩ (.int .i64 t180)).setCell ⟨gb186, 1, none⟩ (.int .i64 t181)).setCell ⟨gb186, 2, none⟩ (.slice Ao63 t182.length co63))) ?hg ?ho ?hn ?hr ?_; (case ho => rfl); (case hg => rfl); (case hn => rfl); (case hr => first | (go_simp; done) | (go_simp; rfl)); intro w64 hw; have n0_ : Aside0 (Kd.S k29 29 w64 w.heap.size (fun k_ => k_ < SZ9 ∧ k_ ≠ gb171 ∧ k_ ≠ gb174 ∧ k_ ≠ gb186) u175002 x175002_7) := ⟨(by rw [hw]; exact (by (with_reducible repeat (first | apply Kd.S_alloc | apply Kd.S_drewN | apply Kd.S_drew)); exact Kd.S_mono (Kd.S_far (p := ⟨gb186, 2, none⟩) (Kd.S_far (p := ⟨gb186, 1, none⟩) (Kd.S_far (p := ⟨gb186, 0, none⟩) (Kd.S_mono HO_175002.out (fun k_ hk => (⟨hk, hk.2⟩ : _ ∧ k_ ≠ gb186))) (fun _ hk => hk.2) (.int .i64 t180)) (fun _ hk => hk.2) (.int .i64 t181)) (fun _ hk => hk.2) (.slice Ao63 t182.length co63)) (fun _ hk => ⟨hk.1.1.2, ⟨hk.1.1.1.1, ⟨hk.1.1.1.2, hk.1.2⟩⟩⟩)))⟩; have n1_ : Aside0 (Kd.S k29 29 w64 w.heap.size (fun k_ => SZ9 ≤ k_ ∧ k_ ≠ gb171 ∧ k_ ≠ gb174 ∧ k_ ≠ gb186) (.slice Ao63 t182.length co63) t182) := ⟨(by rw [hw]; exact (by (with_reducible repeat (first | apply Kd.S_alloc | apply Kd.S_drewN | apply Kd.S_drew)); exact Kd.S_mono (Kd.S_far (p := ⟨gb186, 2, none⟩) (Kd.S_far (p := ⟨gb186, 1, none⟩) (Kd.S_far (p := ⟨gb186, 0, none⟩) (Kd.S_mono HO184.out (fun k_ hk => (⟨hk, hk.2⟩ : _ ∧ k_ ≠ gb186))) (fun _ hk => hk.2) (.int .i64 t180)) (fun _ hk => hk.2) (.int .i64 t181)) (fun _ hk => hk.2) (.slice Ao63 t182.length co63)) (fun _ hk => ⟨hk.1.1.1.1.2, ⟨hk.1.1.1.2, ⟨hk.1.1.2, hk.1.2⟩⟩⟩)))⟩; have n2_ : Aside0 (w64.heap[gb171]? = some (.cells #[.int .i64 x172000_7, .int .i64 x172001_7, .slice none 0 0] 29 (0, 0))) := ⟨(by rw [hw]; exact (by (with_reducible repeat (first | refine blk_drewN ?_ _ | refine blk_drew ?_ | refine blk_alloc ?_ _)); refine blk_far ?_ NB171_186.out _; (with_reducible repeat (first | refine blk_drewN ?_ _ | refine blk_drew ?_ | refine blk_alloc ?_ _)); refine blk_far ?_ NB171_186.out _; (with_reducible repeat (first | refine blk_drewN ?_ _ | refine blk_drew ?_ | refine blk_alloc ?_ _)); refine blk_far ?_ NB171_186.out _; (with_reducible repeat (first | refine blk_drewN ?_ _ | refine blk_drew ?_ | refine blk_alloc ?_ _)); exact BK171.out))⟩; have n3_ : Aside0 (w64.heap[gb174]? = some (.cells #[.int .i64 (wrap64 (rd l0 a1)), .int .i64 x175001_26, u175002] 29 (0, 0))) := ⟨(by rw [hw]; exact (by (with_reducible repeat (first | refine blk_drewN ?_ _ | refine blk_drew ?_ | refine blk_alloc ?_ _)); refine blk_far ?_ NB174_186.out _; (with_reducible repeat (first | refine blk_drewN ?_ _ | refine blk_drew ?_ | refine blk_alloc ?_ _)); refine blk_far ?_ NB174_186.out _; (with_reducible repeat (first | refine blk_drewN ?_ _ | refine blk_drew ?_ | refine blk_alloc ?_ _)); refine blk_far ?_ NB174_186.out _; (with_reducible repeat (first | refine blk_drewN ?_ _ | refine blk_drew ?_ | refine blk_alloc ?_ _)); exact BK174.out))⟩; have n4_ : Aside0 (w64.heap[gb186]? = some (.cells #[.int .i64 t180, .int .i64 t181, .slice Ao63 t182.length co63] 29 (0, 0))) := ⟨(by rw [hw]; exact (by (with_reducible repeat (first | refine blk_drewN ?_ _ | refine blk_drew ?_ | refine blk_alloc ?_ _)); refine blk_put (cs := #[.int .i64 t180, .int .i64 t181, .slice none 0 0]) ?_ 2 _ rfl; (with_reducible repeat (first | refine blk_drewN ?_ _ | refine blk_drew ?_ | refine blk_alloc ?_ _)); refine blk_put (cs := #[.int .i64 t180, .int .i64 0, .slice none 0 0]) ?_ 1 _ rfl; (with_reducible repeat (first | refine blk_drewN ?_ _ | refine blk_drew ?_ | refine blk_alloc ?_ _)); refine blk_put (cs := #[.int .i64 0, .int .i64 0, .slice none 0 0]) ?_ 0 _ rfl; (with_reducible repeat (first | refine blk_drewN ?_ _ | refine blk_drew ?_ | refine blk_alloc ?_ _)); exact BK186.out))⟩; have n5_ : Aside0 (Below w.heap.size w w64) := ⟨(by rw [hw]; exact (by repeat (first | (with_reducible first | exact HB.out | apply below_alloc | apply pw_below_drewN | apply below_drew1 | refine below_set ?_ GE171.out | refine below_set ?_ GE174.out | refine below_set ?_ GE186.out) | exact HB.out)))⟩; clear hw; clear HO_175002; clear HO184; clear BK171; clear BK174; clear BK186; clear HB; have HO_175002 := n0_; have HO184 := n1_; have BK171 := n2_; have BK174 := n3_; have BK186 := n4_; have HB := n5_; clear n0_ n1_ n2_ n3_ n4_ n5_; have hnb65 := NB174_171.out; have hnc65 := NB171_174.out; have hcz66_0 : w64.cell? ⟨gb174, 0, none⟩ = some (.int .i64 (wrap64 (rd l0 a1))) := (blk_cell BK174.out 0).trans rfl; have hcz66_1 : w64.cell? ⟨gb174, 1, none⟩ = some (.int .i64 x175001_26) := (blk_cell BK174.out 1).trans rfl; have hcz66_2 : w64.cell? ⟨gb174, 2, none⟩ = some (u175002) := (blk_cell BK174.out 2).trans rfl; have hfz66_0 := blk_frozen BK174.out 0; have hfz66_1 := blk_frozen BK174.out 1; have hfz66_2 := blk_frozen BK174.out 2; have hcz67_0 : w64.cell? ⟨gb186, 0, none⟩ = some (.int .i64 t180) := (blk_cell BK186.out 0).trans rfl; have hcz67_1 : w64.cell? ⟨gb186, 1, none⟩ = some (.int .i64 t181) := (blk_cell BK186.out 1).trans rfl; have hcz67_2 : w64.cell? ⟨gb186, 2, none⟩ = some (.slice Ao63 t182.length co63) := (blk_cell BK186.out 2).trans rfl; have hfz67_0 := blk_frozen BK186.out 0; have hfz67_1 := blk_frozen BK186.out 1; have hfz67_2 := blk_frozen BK186.out 2) | ((with_reducible refine gate_builtin (b := .append) (xs := #[.tmp 87, .tmp 89]) rfl ?_); (try (refine gate_guard (by rfl) ?_; dsimp only)); at_builtin; refine Kd.S_append k29 (w0 := w) w.heap.size rfl (.tmp 87) (.tmp 89) 27 29 (.agg #[(.int .i64 0), (.int .i64 0), (.slice none 0 0)]) 40 rfl Try.underlying27 info29 rfl (by decide) (by omega) u175002 x175002_7 (⟨t180, t181, t182⟩ : S29) [.int .i64 t180, .int .i64 t181, .slice Ao63 t182.length co63] (fun k_ => k_ ≠ gb171 ∧ k_ ≠ gb174 ∧ k_ ≠ gb186) (fun k_ => (k_ ≠ gb171 ∧ k_ ≠ gb174 ∧ k_ ≠ gb186) ∧ SZ9 ≤ k_) rfl rfl ?aP (fun k_ hk => ⟨hk.1, fun e_ => Nat.not_le.2 (Kd.S_ok HO_175002.out k_ e_.symm).1 hk.2⟩) ?aF ?aO ?aB ?aS ?aL ?_; (case aP => exact k29_mkM _ _ _ (⟨t180, t181, t182⟩ : S29) (Kd.S_mono HO184.out (fun k_ hk => ⟨⟨hk.2.1, ⟨hk.2.2.1, hk.2.2.2⟩⟩, hk.1⟩))); (case aB => exact (by repeat (first | (with_reducible first | exact HB.out | apply below_alloc | apply pw_below_drewN | apply below_drew1 | refine below_set ?_ GE171.out | refine below_set ?_ GE174.out | refine below_set ?_ GE186.out) | exact HB.out))); (case aF => exact (fun k_ hk => ⟨Kd.freshB (g := gb171) (o := .cells #[.int .i64 x172000_7, .int .i64 x172001_7, .slice none 0 0] 29 (0, 0)) (by (with_reducible repeat (first | refine blk_drewN ?_ _ | refine blk_drew ?_ | refine blk_alloc ?_ _)); exact BK171.out) k_ hk, Kd.freshB (g := gb174) (o := .cells #[.int .i64 (wrap64 (rd l0 a1)), .int .i64 x175001_26, u175002] 29 (0, 0)) (by (with_reducible repeat (first | refine blk_drewN ?_ _ | refine blk_drew ?_ | refine blk_alloc ?_ _)); exact BK174.out) k_ hk, Kd.freshB (g := gb186) (o := .cells #[.int .i64 t180, .int .i64 t181, .slice Ao63 t182.length co63] 29 (0, 0)) (by (with_reducible repeat (first | refine blk_drewN ?_ _ | refine blk_drew ?_ | refine blk_alloc ?_ _)); exact BK186.out) k_ hk⟩)); (case aO => exact (by (with_reducible repeat (first | apply Kd.S_alloc | apply Kd.S_drewN | apply Kd.S_drew)); exact Kd.S_mono HO_175002.out (fun k_ hk => ⟨⟨hk.2.1, ⟨hk.2.2.1, hk.2.2.2⟩⟩, fun h_ => Nat.not_le.2 hk.1 h_.2⟩))); (case aS => exact (below_size (by repeat (first | (with_reducible first | exact HB.out | apply below_alloc | apply pw_below_drewN | apply below_drew1 | refine below_set ?_ GE171.out | refine below_set ?_ GE174.out | refine below_set ?_ GE186.out) | exact HB.out)))); (case aL => have := LMc57.out; omega); intro v188 w68 ho hb hg hat; (first | (simp only [Int.reduceToNat] at ho; rw [← Ny187.out] at ho) | rw [← Ny187.out] at ho); have n0_ := Aside0.mk (blk_grown (g := gb171) (o := .cells #[.int .i64 x172000_7, .int .i64 x172001_7, .slice none 0 0] 29 (0, 0)) (by (with_reducible repeat (first | refine blk_drewN ?_ _ | refine blk_drew ?_ | refine blk_alloc ?_ _)); exact BK171.out) hg (Kd.S_away HO_175002.out (fun _ hk => hk.2.1))); have n1_ := Aside0.mk (blk_grown (g := gb174) (o := .cells #[.int .i64 (wrap64 (rd l0 a1)), .int .i64 x175001_26, u175002] 29 (0, 0)) (by (with_reducible repeat (first | refine blk_drewN ?_ _ | refine blk_drew ?_ | refine blk_alloc ?_ _)); exact BK174.out) hg (Kd.S_away HO_175002.out (fun _ hk => hk.2.2.1))); have n2_ := Aside0.mk (blk_grown (g := gb186) (o := .cells #[.int .i64 t180, .int .i64 t181, .slice Ao63 t182.length co63] 29 (0, 0)) (by (with_reducible repeat (first | refine blk_drewN ?_ _ | refine blk_drew ?_ | refine blk_alloc ?_ _)); exact BK186.out) hg (Kd.S_away HO_175002.out (fun _ hk => hk.2.2.2))); have n3_ := Aside0.mk (hb); have n4_ := Aside0.mk (ho); clear BK171; clear BK174; clear BK186; clear HB; clear HO_175002; clear HO184; have BK171 := n0_; have BK174 := n1_; have BK186 := n2_; have HB := n3_; have HO189 := n4_; clear n0_ n1_ n2_ n3_ n4_; clear ho hb hg hat; obtain ⟨Ao69, co69, eo69⟩ := Kd.S_slice HO189.out; subst eo69; have hcz70_0 : w68.cell? ⟨gb174, 0, none⟩ = some (.int .i64 (wrap64 (rd l0 a1))) := (blk_cell BK174.out 0).trans rfl; have hcz70_1 : w68.cell? ⟨gb174, 1, none⟩ = some (.int .i64 x175001_26) := (blk_cell BK174.out 1).trans rfl; have hcz70_2 : w68.cell? ⟨gb174, 2, none⟩ = some (u175002) := (blk_cell BK174.out 2).trans rfl; have hfz70_0 := blk_frozen BK174.out 0; have hfz70_1 := blk_frozen BK174.out 1; have hfz70_2 := blk_frozen BK174.out 2))
                                              go_roundg k7
                                              case measure => have := HJ3.out; have := HJ17.out; have := HJ26.out; have := HJ31.out; have := HJ37.out; have := HJ40.out; have := HK7.out; omega
                                              case rel => exact ⟨(t185), (wrap64 (x73_7 + 1)), (x172000_7), (x172001_7), (y187), (.slice Ao69 y187.length co69), (by first | rfl | (simp; done) | (simp [*]; done) | (simp [bne]; done)), (by first | rfl | (simp; done) | (simp [*]; done) | (simp [bne]; done)), H', ⟨by have := HJ3.out; have := HJ17.out; have := HJ26.out; have := HJ31.out; have := HJ37.out; have := HJ40.out; have := HK7.out; omega⟩, ⟨by (with_reducible repeat (first | apply Kd.S_alloc | apply Kd.S_drewN | apply Kd.S_drew)); exact Kd.S_mono (Kd.S_far (p := ⟨gb174, 2, none⟩) (Kd.S_mono HO189.out (fun k_ hk => (⟨hk, hk.2.1⟩ : _ ∧ k_ ≠ gb174))) (fun _ hk => hk.2) (.slice Ao69 y187.length co69)) (fun _ hk => ⟨hk.1.1, hk.1.2.1⟩)⟩, ⟨by (with_reducible repeat (first | refine blk_drewN ?_ _ | refine blk_drew ?_ | refine blk_alloc ?_ _)); refine blk_far ?_ NB171_174.out _; (with_reducible repeat (first | refine blk_drewN ?_ _ | refine blk_drew ?_ | refine blk_alloc ?_ _)); exact BK171.out⟩, ⟨by (with_reducible repeat (first | refine blk_drewN ?_ _ | refine blk_drew ?_ | refine blk_alloc ?_ _)); refine blk_put (cs := #[.int .i64 (wrap64 (rd l0 a1)), .int .i64 x175001_26, u175002]) ?_ 2 _ rfl; (with_reducible repeat (first | refine blk_drewN ?_ _ | refine blk_drew ?_ | refine blk_alloc ?_ _)); exact BK174.out⟩, ⟨by repeat (first | (with_reducible first | exact HB.out | apply below_alloc | apply pw_below_drewN | apply below_drew1 | refine below_set ?_ GE171.out | refine below_set ?_ GE174.out | refine below_set ?_ GE186.out) | exact HB.out)⟩⟩
                                            · rw [if_neg c57] at H
                                              exact absurd H (by simp)
                                        · rw [if_neg c46] at H
                                          have c46b0 : decide (x73_7 < x9_37) = false := decide_eq_false c46
                                          clear c46
                                          simp only [Option.some.injEq, Prod.mk.injEq] at H
                                          obtain ⟨rfl, rfl, rfl, rfl⟩ := H
                                          have hnb71 := NB174_171.out
                                          have hnc71 := NB171_174.out
                                          have hcz72_0 : wr.cell? ⟨gb174, 0, none⟩ = some (.int .i64 (wrap64 (rd l0 a1))) := (blk_cell BK174.out 0).trans rfl
                                          have hcz72_1 : wr.cell? ⟨gb174, 1, none⟩ = some (.int .i64 x175001_26) := (blk_cell BK174.out 1).trans rfl
                                          have hcz72_2 : wr.cell? ⟨gb174, 2, none⟩ = some (u175002) := (blk_cell BK174.out 2).trans rfl
                                          have hfz72_0 := blk_frozen BK174.out 0
                                          have hfz72_1 := blk_frozen BK174.out 1
                                          have hfz72_2 := blk_frozen BK174.out 2
                                          have hcz73_0 : wr.cell? ⟨gb171, 0, none⟩ = some (.int .i64 x172000_7) := (blk_cell BK171.out 0).trans rfl
                                          have hcz73_1 : wr.cell? ⟨gb171, 1, none⟩ = some (.int .i64 x172001_7) := (blk_cell BK171.out 1).trans rfl
                                          have hcz73_2 : wr.cell? ⟨gb171, 2, none⟩ = some (.slice none 0 0) := (blk_cell BK171.out 2).trans rfl
                                          have hfz73_0 := blk_frozen BK171.out 0
                                          have hfz73_1 := blk_frozen BK171.out 1
                                          have hfz73_2 := blk_frozen BK171.out 2
                                          obtain ⟨Ao74, co74, eo74⟩ := Kd.S_slice HO_175002.out
                                          subst eo74
                                          go_wp2
                                          refine bodyPost_ret (results_ct rfl _ _ gb171 29 #[.int .i64 (wrap64 (rd l0 a1)), .int .i64 x175001_26, .slice Ao74 x175002_7.length co74] (0, 0) _ rfl (by (with_reducible repeat (first | refine blk_drewN ?_ _ | refine blk_drew ?_ | refine blk_alloc ?_ _)); refine blk_put (cs := #[.int .i64 (wrap64 (rd l0 a1)), .int .i64 x175001_26, .slice none 0 0]) ?_ 2 _ rfl; (with_reducible repeat (first | refine blk_drewN ?_ _ | refine blk_drew ?_ | refine blk_alloc ?_ _)); refine blk_put (cs := #[.int .i64 (wrap64 (rd l0 a1)), .int .i64 x172001_7, .slice none 0 0]) ?_ 1 _ rfl; (with_reducible repeat (first | refine blk_drewN ?_ _ | refine blk_drew ?_ | refine blk_alloc ?_ _)); refine blk_put (cs := #[.int .i64 x172000_7, .int .i64 x172001_7, .slice none 0 0]) ?_ 0 _ rfl; (with_reducible repeat (first | refine blk_drewN ?_ _ | refine blk_drew ?_ | refine blk_alloc ?_ _)); exact BK171.out) Try.underlying29 rfl (by kernel_rfl)) rfl ?_
                                          exact ⟨_, by first | rfl | (simp [errW_none, errW_some] <;> rfl) | (simp [*, errW_none, errW_some] <;> rfl), by (with_reducible repeat (first | apply Kd.S_alloc | apply Kd.S_drewN | apply Kd.S_drew)); exact Kd.S_mono (Kd.S_far (p := ⟨gb171, 2, none⟩) (Kd.S_far (p := ⟨gb171, 1, none⟩) (Kd.S_far (p := ⟨gb171, 0, none⟩) (Kd.S_mono HO_175002.out (fun k_ hk => (⟨hk, hk.1⟩ : _ ∧ k_ ≠ gb171))) (fun _ hk => hk.2) (.int .i64 (wrap64 (rd l0 a1)))) (fun _ hk => hk.2) (.int .i64 x175001_26)) (fun _ hk => hk.2) (.slice Ao74 x175002_7.length co74)) (fun _ hk => trivial), by repeat (first | (with_reducible first | exact HB.out | apply below_alloc | apply pw_below_drewN | apply below_drew1 | refine below_set ?_ GE171.out | refine below_set ?_ GE174.out) | exact HB.out)⟩
          · rw [if_neg c11] at H
            exact absurd H (by simp)
        · rw [if_neg c10] at H
          exact absurd H (by simp)

end Go.Proofs.Ytbifoajnmikhiaa.PD
