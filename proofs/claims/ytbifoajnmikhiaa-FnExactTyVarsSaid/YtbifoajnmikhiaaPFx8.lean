-- Printed by a program of this session (wrap.py) out of the translation. Lean checks it.
import Derived.Test.YtbifoajnmikhiaaPFx0
namespace Go.Proofs.Ytbifoajnmikhiaa.PF
open Go.RowKit Go.Proofs.YtbifoajnmikhiaaW.PrintWords Go.Proofs.YtbifoajnmikhiaaW.PrintLast Go.Proofs.YtbifoajnmikhiaaW.PrintMore
attribute [local go_sem] max2_int min2_int max_two min_two max_three min_three max_four min_four   -- for this text's walks alone
set_option linter.unusedVariables false
set_option linter.unusedSimpArgs false

/-! ### laws_markTyS: function 34 -/
def laws_markTyS.l0 : Nat → List (S29) → Int → Int → Option (Int × (List (S29)))
  | 0, _, _, _ => none
  | k + 1, x0, x1, x5 => if x5 < (x0.length : Int) then (if 0 ≤ x5 then ((some (x0.set (x5 : Int).toNat (⟨x1, (rd_T29 x0 x5).f1, (rd_T29 x0 x5).f2⟩ : S29) : List (S29))).bind fun y113 => ((some (y113.set (x5 : Int).toNat (⟨(rd_T29 y113 x5).f0, wrap64 (x1 + 1), (rd_T29 y113 x5).f2⟩ : S29) : List (S29))).bind fun y114 => ((laws_markTyS.l0 k ((rd_T29 y114 x5).f2) (wrap64 ((wrap64 (x1 + 1)) + 1)) 0).bind fun t116 => (laws_markTyS.l0 k (y114.set (x5 : Int).toNat (⟨(rd_T29 y114 x5).f0, (rd_T29 y114 x5).f1, t116.2⟩ : S29)) t116.1 (wrap64 (x5 + 1)))))) else (none)) else (some (x1, x0))
def laws_markTyS.f (k : Nat) (l0 : List (S29)) (a1 : Int) : Option (Int × (List (S29))) := laws_markTyS.l0 k l0 a1 0
theorem laws_markTyS.mono_l : ∀ k, (∀ y0 y1 y2, LeO (laws_markTyS.l0 k y0 y1 y2) (laws_markTyS.l0 (k + 1) y0 y1 y2))
  | 0 => fun _ _ _ r h => by simp [laws_markTyS.l0] at h
  | k + 1 => by
    have ih0 := laws_markTyS.mono_l k
    · intro y0 y1 y2
      unfold laws_markTyS.l0
      repeat' first
      | (with_reducible exact ih0 _ _ _)
      | (with_reducible exact LeO.refl _)
      | (with_reducible exact LeO.none _)
      | (with_reducible refine LeO.ite ?_ ?_)
      | (with_reducible refine LeO.bind ?_ (fun _ => ?_))
      | exact ih0 _ _ _
      | exact LeO.none _
      | refine LeO.ite ?_ ?_
      | refine LeO.bind ?_ (fun _ => ?_)
theorem laws_markTyS.mono : ∀ a0 a1 k, LeO (laws_markTyS.f k a0 a1) (laws_markTyS.f (k + 1) a0 a1) := by
  intro a0 a1 k
  have ih0 := laws_markTyS.mono_l k
  unfold laws_markTyS.f
  repeat' first
      | (with_reducible exact ih0 _ _ _)
      | (with_reducible exact LeO.refl _)
      | (with_reducible exact LeO.none _)
      | (with_reducible refine LeO.ite ?_ ?_)
      | (with_reducible refine LeO.bind ?_ (fun _ => ?_))
      | exact ih0 _ _ _
      | exact LeO.none _
      | refine LeO.ite ?_ ?_
      | refine LeO.bind ?_ (fun _ => ?_)
set_option maxHeartbeats 8000000 in
set_option maxRecDepth 100000 in
theorem laws_markTyS.calls (k : Nat) : ∀ (P0_ : Nat → Prop) (u9000_ : Value) (l0 : List (S29)) (a1 : Int) (r1 : Int) (r2 : List (S29)) (w0 w : World) (hB : Below w0.heap.size w0 w) (ho0 : Kd.S k29 29 w w0.heap.size P0_ u9000_ l0) (h : laws_markTyS.f k l0 a1 = some (r1, r2)),
    Calls Try.prog 34 #[u9000_, .int .i64 a1] w fun e w' => e = .returned (.int .i64 r1) ∧ Kd.S k29 29 w' w0.heap.size (fun k_ => (P0_ k_)) u9000_ r2 ∧ Below w0.heap.size w0 w' ∧ Kept w w' (fun k_ => P0_ k_) := by
  induction k using Nat.strongRecOn with
  | _ k ih =>
    intro P0_ u9000_ l0 a1 r1 r2 w0 w hB ho0 h
    have HO0 := Aside0.mk (show Kd.S k29 29 w w0.heap.size (fun k_ => (P0_ k_)) u9000_ l0 from ho0)
    have HK := Aside0.mk (Kept.refl w (fun k_ => P0_ k_))
    have HW0 := Aside0.mk hB.size
    have HB := Aside0.mk hB
    clear hB
    have H : (laws_markTyS.l0 k l0 a1 0) = some (r1, r2) := h
    clear h
    have H' := Aside0.mk H
    clear H
    go_enter Try.func34, Try.ntmps34
    go_wp2
    go_loopg [1, 5] k (fun kq v1 v5 w' => ∃ (x0_1 : List (S29)) (x1_1 : Int) (x5_1 : Int), v1 = .int .i64 x1_1 ∧ v5 = .int .i64 x5_1 ∧ Aside0 (laws_markTyS.l0 kq x0_1 x1_1 x5_1 = some (r1, r2)) ∧ Aside0 (kq ≤ k) ∧ Aside0 (Kd.S k29 29 w' w0.heap.size (fun k_ => (P0_ k_)) u9000_ x0_1) ∧ Aside0 (Kept w w' (fun k_ => P0_ k_)) ∧ Aside0 (Below w0.heap.size w0 w'))
    case atStart => exact ⟨(l0), (a1), (0), (by first | rfl | (simp; done) | (simp [*]; done) | (simp [bne]; done)), (by first | rfl | (simp; done) | (simp [*]; done) | (simp [bne]; done)), H', ⟨Nat.le_refl _⟩, ⟨by (with_reducible repeat (first | apply Kd.S_alloc | apply Kd.S_drewN | apply Kd.S_drew)); exact HO0.out⟩, ⟨by repeat (first | (with_reducible first | exact HK.out | apply Kept.alloc | apply Kept.drewN | apply Kept.drew) | exact HK.out)⟩, ⟨by repeat (first | (with_reducible first | exact HB.out | apply below_alloc | apply pw_below_drewN | apply below_drew1) | exact HB.out)⟩⟩
    case round =>
      clear H'
      try clear p2
      obtain ⟨x0_1, x1_1, x5_1, rfl, rfl, HA, HK1, HO_0, HK, HB⟩ := hrel
      cases gk with
      | zero => exact absurd HA.out (by simp [laws_markTyS.l0])
      | succ k1 =>
        have H := HA.out
        clear HA
        simp only [laws_markTyS.l0] at H
        by_cases c3 : x5_1 < (x0_1.length : Int)
        · rw [if_pos c3] at H
          have c3b0 : decide (x5_1 < (x0_1.length : Int)) = true := decide_eq_true c3
          clear c3
          by_cases c4 : 0 ≤ x5_1
          · rw [if_pos c4] at H
            have c4b0 : decide (0 ≤ x5_1) = true := decide_eq_true c4
            clear c4
            obtain ⟨y113, hy113⟩ : ∃ y_ : List (S29), y_ = (x0_1.set (x5_1 : Int).toNat (⟨x1_1, (rd_T29 x0_1 x5_1).f1, (rd_T29 x0_1 x5_1).f2⟩ : S29)) := ⟨_, rfl⟩
            replace H : ((some (y113.set (x5_1 : Int).toNat (⟨(rd_T29 y113 x5_1).f0, wrap64 (x1_1 + 1), (rd_T29 y113 x5_1).f2⟩ : S29) : List (S29))).bind fun y114 => ((laws_markTyS.l0 k1 ((rd_T29 y114 x5_1).f2) (wrap64 ((wrap64 (x1_1 + 1)) + 1)) 0).bind fun t116 => (laws_markTyS.l0 k1 (y114.set (x5_1 : Int).toNat (⟨(rd_T29 y114 x5_1).f0, (rd_T29 y114 x5_1).f1, t116.2⟩ : S29)) t116.1 (wrap64 (x5_1 + 1))))) = some (r1, r2) := by first | (rw [hy113]; with_reducible exact H) | (have H2_ := (Option.bind_some _ _).symm.trans H; rw [hy113]; with_reducible exact H2_) | (have H2_ := (Option.bind_some _ _).symm.trans H; with_reducible exact H2_) | with_reducible exact H | (rw [hy113]; exact H) | exact H
            have Ny113 := Aside0.mk hy113
            clear hy113
            obtain ⟨y114, hy114⟩ : ∃ y_ : List (S29), y_ = (y113.set (x5_1 : Int).toNat (⟨(rd_T29 y113 x5_1).f0, wrap64 (x1_1 + 1), (rd_T29 y113 x5_1).f2⟩ : S29)) := ⟨_, rfl⟩
            replace H : ((laws_markTyS.l0 k1 ((rd_T29 y114 x5_1).f2) (wrap64 ((wrap64 (x1_1 + 1)) + 1)) 0).bind fun t116 => (laws_markTyS.l0 k1 (y114.set (x5_1 : Int).toNat (⟨(rd_T29 y114 x5_1).f0, (rd_T29 y114 x5_1).f1, t116.2⟩ : S29)) t116.1 (wrap64 (x5_1 + 1)))) = some (r1, r2) := by first | (rw [hy114]; with_reducible exact H) | (have H2_ := (Option.bind_some _ _).symm.trans H; rw [hy114]; with_reducible exact H2_) | (have H2_ := (Option.bind_some _ _).symm.trans H; with_reducible exact H2_) | with_reducible exact H | (rw [hy114]; exact H) | exact H
            have Ny114 := Aside0.mk hy114
            clear hy114
            replace H := Option.bind_eq_some_iff.mp H
            obtain ⟨⟨t116, t116b⟩, A70, H⟩ := H
            replace H : (laws_markTyS.l0 k1 (y114.set (x5_1 : Int).toNat (⟨(rd_T29 y114 x5_1).f0, (rd_T29 y114 x5_1).f1, t116b⟩ : S29)) t116 (wrap64 (x5_1 + 1))) = some (r1, r2) := H
            have A7 := Aside0.mk (show laws_markTyS.f k1 _ _ = some (t116, t116b) from A70)
            clear A70
            have H' := Aside0.mk H
            clear H
            obtain ⟨Ao8, co8, eo8⟩ := Kd.S_slice HO_0.out
            subst eo8
            have p5 : 0 ≤ (x5_1 : Int) := of_decide_eq_true (by first | (with_reducible assumption) | assumption)
            have q5 : (x5_1 : Int) < ((x0_1.length : Int) : Int) := of_decide_eq_true (by first | (with_reducible assumption) | assumption)
            obtain ⟨go5, co5, eo5, gb5, gl5, cl5, HG5⟩ := Kd.S_form HO_0.out (by omega)
            (first | cases eo5 | (injection eo5 with ea_ en_ ec_; (first | subst ea_ | (injection ea_ with ea_; subst ea_)); subst ec_; clear en_))
            have GB5 := Aside0.mk gb5
            have GG5 := Aside0.mk HG5
            clear gb5 gl5 HG5
            have HMgo5 := Aside0.mk (show (P0_ go5) from (Kd.S_ok HO_0.out _ rfl))
            obtain ⟨_, ce5, hcl5, hM5, hcc5, hfr5, _, _⟩ := Kd.S_elem HO_0.out z29 (x5_1 : Int) p5 q5
            obtain ⟨ve5_2, rfl, ge5_2⟩ := k29_openM hM5
            have hx5_0 : wr.cell? ⟨go5, (x5_1 : Int).toNat * 3, none⟩ = some (.int .i64 ((rd_T29 x0_1 x5_1).f0)) := hcc5 0 _ rfl
            have hx5_1 : wr.cell? ⟨go5, (x5_1 : Int).toNat * 3 + 1, none⟩ = some (.int .i64 ((rd_T29 x0_1 x5_1).f1)) := hcc5 1 _ rfl
            have hx5_2 : wr.cell? ⟨go5, (x5_1 : Int).toNat * 3 + 2, none⟩ = some (ve5_2) := hcc5 2 _ rfl
            have hf5_0 : wr.frozen? ⟨go5, (x5_1 : Int).toNat * 3, none⟩ = false := hfr5 0
            have hf5_1 : wr.frozen? ⟨go5, (x5_1 : Int).toNat * 3 + 1, none⟩ = false := hfr5 1
            have hf5_2 : wr.frozen? ⟨go5, (x5_1 : Int).toNat * 3 + 2, none⟩ = false := hfr5 2
            clear hcl5 hcc5 hfr5 hM5
            replace p5 := eq_true p5
            replace q5 := eq_true q5
            have HX9 := Aside0.mk (show Kd.S k29 29 wr w0.heap.size (fun k_ => ((fun k_ => (P0_ k_))) k_ ∧ ¬ ((fun _ => False)) k_) (.slice (some ⟨go5, 0, none⟩) x0_1.length co8) x0_1 from (by (with_reducible repeat (first | apply Kd.S_alloc | apply Kd.S_drewN | apply Kd.S_drew)); exact Kd.S_mono HO_0.out (fun k_ hk => ⟨hk, fun e_ => e_⟩)))
            obtain ⟨oki9, ce9, hcl9, hM9, hcc9, hfr9, hoki9, hH9⟩ := Kd.S_elem HX9.out z29 (x5_1 : Int) (of_decide_eq_true (by first | (with_reducible assumption) | assumption)) (by have h_ : (x5_1 : Int) < ((x0_1.length : Int) : Int) := of_decide_eq_true (by first | (with_reducible assumption) | assumption); first | exact h_ | (have e_ := (Kd.S_reads' HO_0.out).1; omega) | simpa using h_)
            obtain ⟨ve9_2, rfl, ge9_2⟩ := k29_openM hM9
            have HP9 := Kd.S_seg hH9 (of_decide_eq_true (by first | (with_reducible assumption) | assumption)) (by have h_ : (x5_1 : Int) < ((x0_1.length : Int) : Int) := of_decide_eq_true (by first | (with_reducible assumption) | assumption); first | exact h_ | (have e_ := (Kd.S_reads' HO_0.out).1; omega) | simpa using h_) (seg := [.int .i64 x1_1]) (j := 0) (show 1 ≤ 3 from by decide) (x' := (⟨x1_1, (rd_T29 x0_1 x5_1).f1, (rd_T29 x0_1 x5_1).f2⟩ : S29)) (k29_mkM _ _ _ (⟨x1_1, (rd_T29 x0_1 x5_1).f1, (rd_T29 x0_1 x5_1).f2⟩ : S29) (Kd.S_mono ge9_2 (fun _ h_ => Or.inl h_))) (fun _ hk => hk) (fun k_ hk_ => hk_.elim)
            have hx9_0 := hcc9 0 _ rfl
            (try simp only [show (k29).sz = 3 from rfl, Nat.mul_one, Nat.add_zero] at hx9_0)
            have hf9_0 := hfr9 0
            (try simp only [show (k29).sz = 3 from rfl, Nat.mul_one, Nat.add_zero] at hf9_0)
            clear hcl9 hcc9 hfr9 hM9 hoki9 hH9
            go_wp2_with (first | ((with_reducible refine gate_store (t := 3) (p := 16) rfl ?_); refine store_event (t := 3) (p := 16) (v := ?vo_w10) (w1 := (wr.setCell ⟨go5, (x5_1 : Int).toNat * 3, none⟩ (.int .i64 x1_1))) ?hg ?ho ?hn ?hr ?_; (case ho => rfl); (case hg => rfl); (case hn => rfl); (case hr => first | (go_simp; done) | (go_simp; rfl)); intro w10 hw; have hg : wr.grownBy w10 (some go5) := (by rw [hw]; exact HP9.2); have hp_ : Kd.S k29 29 w10 w0.heap.size (fun k_ => (P0_ k_)) (.slice (some ⟨go5, 0, none⟩) x0_1.length co8) y113 := (by rw [hw, Ny113.out]; exact HP9.1); clear HP9; have n0_ := Aside0.mk (hp_); have n1_ := Aside0.mk ((by rw [hw]; exact below_set (HB.out) GB5.out : Below w0.heap.size w0 w10)); have n2_ := Aside0.mk (Kept.of_grown (S := (fun k_ => P0_ k_)) hg (by repeat (first | (with_reducible first | exact HK.out | apply Kept.alloc | apply Kept.drewN | apply Kept.drew) | exact HK.out)) (fun k_ e_ => (.inl (Kd.S_ok HO_0.out k_ e_)))); clear HO_0; clear HB; clear HK; have HO_0 := n0_; have HB := n1_; have HK := n2_; clear n0_ n1_ n2_; clear hg hw hp_; have p6 : 0 ≤ (x5_1 : Int) := of_decide_eq_true (by first | (with_reducible assumption) | assumption); have q6 : (x5_1 : Int) < ((x0_1.length : Int) : Int) := of_decide_eq_true (by first | (with_reducible assumption) | assumption); obtain ⟨_, ce6, hcl6, hM6, hcc6, hfr6, _, _⟩ := Kd.S_elem HO_0.out z29 (x5_1 : Int) p6 q6; obtain ⟨ve6_2, rfl, ge6_2⟩ := k29_openM hM6; have hx6_0 : w10.cell? ⟨go5, (x5_1 : Int).toNat * 3, none⟩ = some (.int .i64 ((rd_T29 y113 x5_1).f0)) := hcc6 0 _ rfl; have hx6_1 : w10.cell? ⟨go5, (x5_1 : Int).toNat * 3 + 1, none⟩ = some (.int .i64 ((rd_T29 y113 x5_1).f1)) := hcc6 1 _ rfl; have hx6_2 : w10.cell? ⟨go5, (x5_1 : Int).toNat * 3 + 2, none⟩ = some (ve6_2) := hcc6 2 _ rfl; have hf6_0 : w10.frozen? ⟨go5, (x5_1 : Int).toNat * 3, none⟩ = false := hfr6 0; have hf6_1 : w10.frozen? ⟨go5, (x5_1 : Int).toNat * 3 + 1, none⟩ = false := hfr6 1; have hf6_2 : w10.frozen? ⟨go5, (x5_1 : Int).toNat * 3 + 2, none⟩ = false := hfr6 2; clear hcl6 hcc6 hfr6 hM6; replace p6 := eq_true p6; replace q6 := eq_true q6; have HX11 := Aside0.mk (show Kd.S k29 29 w10 w0.heap.size (fun k_ => ((fun k_ => (P0_ k_))) k_ ∧ ¬ ((fun _ => False)) k_) (.slice (some ⟨go5, 0, none⟩) x0_1.length co8) y113 from (by (with_reducible repeat (first | apply Kd.S_alloc | apply Kd.S_drewN | apply Kd.S_drew)); exact Kd.S_mono HO_0.out (fun k_ hk => ⟨hk, fun e_ => e_⟩))); obtain ⟨oki11, ce11, hcl11, hM11, hcc11, hfr11, hoki11, hH11⟩ := Kd.S_elem HX11.out z29 (x5_1 : Int) (of_decide_eq_true (by first | (with_reducible assumption) | assumption)) (by have h_ : (x5_1 : Int) < ((x0_1.length : Int) : Int) := of_decide_eq_true (by first | (with_reducible assumption) | assumption); first | exact h_ | (have e_ := (Kd.S_reads' HO_0.out).1; omega) | simpa using h_); obtain ⟨ve11_2, rfl, ge11_2⟩ := k29_openM hM11; have HP11 := Kd.S_seg hH11 (of_decide_eq_true (by first | (with_reducible assumption) | assumption)) (by have h_ : (x5_1 : Int) < ((x0_1.length : Int) : Int) := of_decide_eq_true (by first | (with_reducible assumption) | assumption); first | exact h_ | (have e_ := (Kd.S_reads' HO_0.out).1; omega) | simpa using h_) (seg := [.int .i64 (wrap64 (x1_1 + 1))]) (j := 1) (show 2 ≤ 3 from by decide) (x' := (⟨(rd_T29 y113 x5_1).f0, wrap64 (x1_1 + 1), (rd_T29 y113 x5_1).f2⟩ : S29)) (k29_mkM _ _ _ (⟨(rd_T29 y113 x5_1).f0, wrap64 (x1_1 + 1), (rd_T29 y113 x5_1).f2⟩ : S29) (Kd.S_mono ge11_2 (fun _ h_ => Or.inl h_))) (fun _ hk => hk) (fun k_ hk_ => hk_.elim); have hx11_1 := hcc11 1 _ rfl; (try simp only [show (k29).sz = 3 from rfl, Nat.mul_one, Nat.add_zero] at hx11_1); have hf11_1 := hfr11 1; (try simp only [show (k29).sz = 3 from rfl, Nat.mul_one, Nat.add_zero] at hf11_1); clear hcl11 hcc11 hfr11 hM11 hoki11 hH11) | ((with_reducible refine gate_store (t := 3) (p := 23) rfl ?_); refine store_event (t := 3) (p := 23) (v := ?vo_w12) (w1 := (w10.setCell ⟨go5, (x5_1 : Int).toNat * 3 + 1, none⟩ (.int .i64 (wrap64 (x1_1 + 1))))) ?hg ?ho ?hn ?hr ?_; (case ho => rfl); (case hg => rfl); (case hn => rfl); (case hr => first | (go_simp; done) | (go_simp; rfl)); intro w12 hw; have hg : w10.grownBy w12 (some go5) := (by rw [hw]; exact HP11.2); have hp_ : Kd.S k29 29 w12 w0.heap.size (fun k_ => (P0_ k_)) (.slice (some ⟨go5, 0, none⟩) x0_1.length co8) y114 := (by rw [hw, Ny114.out]; exact HP11.1); clear HP11; have n0_ := Aside0.mk (hp_); have n1_ := Aside0.mk ((by rw [hw]; exact below_set (HB.out) GB5.out : Below w0.heap.size w0 w12)); have n2_ := Aside0.mk (Kept.of_grown (S := (fun k_ => P0_ k_)) hg (by repeat (first | (with_reducible first | exact HK.out | apply Kept.alloc | apply Kept.drewN | apply Kept.drew) | exact HK.out)) (fun k_ e_ => (.inl (Kd.S_ok HO_0.out k_ e_)))); clear HO_0; clear HB; clear HK; have HO_0 := n0_; have HB := n1_; have HK := n2_; clear n0_ n1_ n2_; clear hg hw hp_; have p115 : 0 ≤ (x5_1 : Int) := of_decide_eq_true (by first | (with_reducible assumption) | assumption); have q115 : x5_1 < (y114.length : Int) := (by have h_ : (x5_1 : Int) < ((x0_1.length : Int) : Int) := of_decide_eq_true (by first | (with_reducible assumption) | assumption); first | (have e_ := (Kd.S_reads' HO_0.out).1; omega) | simpa only [Ny113.out, Ny114.out, List.length_set] using h_); have ql115 : ((x5_1 : Int) < ((x0_1.length : Int) : Int)) = True := eq_true (of_decide_eq_true (by first | (with_reducible assumption) | assumption)); obtain ⟨ad115, A115_2, c115_2, e115, hx115_0, hx115_1, hx115_2, hl115_2, hi115_2⟩ := at_T29 (Kd.S_reads' HO_0.out).2.2 x5_1 p115 q115; obtain rfl : (⟨go5, 0, none⟩ : Addr) = ad115 := (by injection e115); obtain ⟨oki115, ce115, hce115, hMe115, hcc115, hfr115, hoki115, hH115⟩ := Kd.S_elem HO_0.out z29 x5_1 p115 (by first | exact q115 | exact of_decide_eq_true (by first | (with_reducible assumption) | assumption) | (have e_ := (Kd.S_reads' HO_0.out).1; omega)); obtain ⟨ve115_2, rfl, ge115_2⟩ := k29_openM hMe115; have hv115_2 := hcc115 2 _ rfl; have hx115_2c := hx115_2; (first | simp only [add_at, Nat.zero_add] at hx115_2c | skip); replace hv115_2 := Option.some.inj (hv115_2.symm.trans hx115_2c); clear hx115_2c; subst hv115_2; have HL115_2 := Aside0.mk (show Kd.S k29 29 _ _ _ _ ((rd_T29 y114 x5_1).f2) from ge115_2); have HH115 := Aside0.mk hH115; have HI115 := Aside0.mk hoki115; clear ge115_2 hMe115 hH115 hoki115 hfr115; clear hcc115 hce115; (first | simp only [add_plain] at hx115_0 | simp only [add_at] at hx115_0 | simp only [Addr.add, Nat.zero_add] at hx115_0 | skip); (first | simp only [add_plain] at hx115_1 | simp only [add_at] at hx115_1 | simp only [Addr.add, Nat.zero_add] at hx115_1 | skip); (first | simp only [add_plain] at hx115_2 | simp only [add_at] at hx115_2 | simp only [Addr.add, Nat.zero_add] at hx115_2 | skip); have HR115_2 := Aside0.mk hi115_2; have HC115_2 := Aside0.mk hl115_2; clear hi115_2 hl115_2; replace p115 := eq_true p115; replace q115 := eq_true q115) | ((with_reducible refine gate_callee (f := 34) rfl ?_); refine goesL_ (some 32) rfl rfl Try.func34 (by kernel_rfl) rfl #[.slice A115_2 ((rd_T29 y114 x5_1).f2).length c115_2, .int .i64 (wrap64 ((wrap64 (x1_1 + 1)) + 1))] rfl (by (try simp only [List.map_toArray, List.map_cons, List.map_nil]); first | done | rfl | (simp only [List.length_drop, List.length_take]; rfl)) ?_; (with_reducible refine (ih k1 (by have := HK1.out; omega) oki115 _ ((rd_T29 y114 x5_1).f2) (wrap64 ((wrap64 (x1_1 + 1)) + 1)) t116 t116b w0 _ ?side1 ?side2 A7.out).mono ?_); (case side1 => repeat (first | (with_reducible first | exact HB.out | apply below_alloc | apply pw_below_drewN | apply below_drew1) | exact HB.out)); (case side2 => (with_reducible repeat (first | apply Kd.S_alloc | apply Kd.S_drewN | apply Kd.S_drew)); exact HL115_2.out); rintro e w13 ⟨rfl, hS13, hb13, hk13⟩; refine ⟨_, rfl, ?_⟩; have HK13 := Aside0.mk (show Kept w _ (fun k_ => P0_ k_) from (by repeat (first | (with_reducible first | exact HK.out | apply Kept.alloc | apply Kept.drewN | apply Kept.drew) | exact HK.out))); have hk13c := hk13; have hH13 := Kd.H_kept (show Kd.H k29 _ _ _ _ _ _ _ _ _ from (by (with_reducible repeat (first | apply Kd.H_alloc | apply Kd.H_drewN | apply Kd.H_drew)); exact HH115.out)) hk13 (fun k_ _ hn_ hs_ => hn_ hs_); have n0_ := Aside0.mk (Kd.H_back hH13 (k29_mkM _ _ _ (⟨(rd_T29 y114 x5_1).f0, (rd_T29 y114 x5_1).f1, t116b⟩ : S29) hS13) (fun _ hk_ => hk_)); have n1_ := Aside0.mk hb13; have n2_ := Aside0.mk (Kept.then_ HK13.out hk13c (fun k_ hk_ => .inl (HI115.out k_ hk_).1)); clear hH13 hS13 hb13 hk13 hk13c HK13; clear HO_0; clear HB; clear HK; have HO_0 := n0_; have HB := n1_; have HK := n2_; clear n0_ n1_ n2_))
            go_roundg k1
            case measure => have := HK1.out; omega
            case rel => exact ⟨(y114.set (x5_1 : Int).toNat (⟨(rd_T29 y114 x5_1).f0, (rd_T29 y114 x5_1).f1, t116b⟩ : S29)), (t116), (wrap64 (x5_1 + 1)), (by first | rfl | (simp; done) | (simp [*]; done) | (simp [bne]; done)), (by first | rfl | (simp; done) | (simp [*]; done) | (simp [bne]; done)), H', ⟨by have := HK1.out; omega⟩, ⟨by (with_reducible repeat (first | apply Kd.S_alloc | apply Kd.S_drewN | apply Kd.S_drew)); exact HO_0.out⟩, ⟨by repeat (first | (with_reducible first | exact HK.out | apply Kept.alloc | apply Kept.drewN | apply Kept.drew) | exact HK.out)⟩, ⟨by repeat (first | (with_reducible first | exact HB.out | apply below_alloc | apply pw_below_drewN | apply below_drew1) | exact HB.out)⟩⟩
          · rw [if_neg c4] at H
            exact absurd H (by simp)
        · rw [if_neg c3] at H
          have c3b0 : decide (x5_1 < (x0_1.length : Int)) = false := decide_eq_false c3
          clear c3
          simp only [Option.some.injEq, Prod.mk.injEq] at H
          obtain ⟨rfl, rfl⟩ := H
          obtain ⟨Ao13, co13, eo13⟩ := Kd.S_slice HO_0.out
          subst eo13
          go_wp2
          go_ret
          exact ⟨by first | rfl | (simp [errW_none, errW_some] <;> rfl) | (simp [*, errW_none, errW_some] <;> rfl), by (with_reducible repeat (first | apply Kd.S_alloc | apply Kd.S_drewN | apply Kd.S_drew)); exact HO_0.out, by repeat (first | (with_reducible first | exact HB.out | apply below_alloc | apply pw_below_drewN | apply below_drew1) | exact HB.out), by repeat (first | (with_reducible first | exact HK.out | apply Kept.alloc | apply Kept.drewN | apply Kept.drew) | exact HK.out)⟩

end Go.Proofs.Ytbifoajnmikhiaa.PF
