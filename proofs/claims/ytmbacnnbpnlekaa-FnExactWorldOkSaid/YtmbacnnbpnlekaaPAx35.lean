-- Printed by a program of this session (wrap.py) out of the translation. Lean checks it.
import Derived.Test.YtmbacnnbpnlekaaPAx0
import Derived.Test.YtmbacnnbpnlekaaPAx34
namespace Go.Proofs.Ytmbacnnbpnlekaa.PA
open Go.RowKit Go.Proofs.YtmbacnnbpnlekaaW.PrintWords Go.Proofs.YtmbacnnbpnlekaaW.PrintLast Go.Proofs.YtmbacnnbpnlekaaW.PrintMore
attribute [local go_sem] max2_int min2_int max_two min_two max_three min_three max_four min_four   -- for this text's walks alone
set_option linter.unusedVariables false
set_option linter.unusedSimpArgs false

/-! ### laws_toEventS: function 68 -/
def laws_toEventS.l0 : Nat → List (S162) → List (S166) → Int → Option ((List (S166)))
  | 0,_,_,_ => none
  | k + 1,x0,x3,x4 => if x4 < (x0.length : Int) then (if 0 ≤ x4 then ((laws_toEvent.f k ((rd_T162 x0 x4).f0) ((rd_T162 x0 x4).f1) ((rd_T162 x0 x4).f2) ((rd_T162 x0 x4).f3) ((rd_T162 x0 x4).f4)).bind fun bt238 => (if x4 < (x3.length : Int) then (laws_toEventS.l0 k x0 (x3.set (x4 : Int).toNat (⟨bt238.1,bt238.2.1,bt238.2.2.1,bt238.2.2.2.1,bt238.2.2.2.2⟩ : S166)) (wrap64 (x4 + 1))) else (none))) else (none)) else (some x3)
def laws_toEventS.f (k : Nat) (l0 : List (S162)) : Option ((List (S166))) := if 0 ≤ (l0.length : Int) then (if ((l0.length : Int) : Int).toNat ≤ 5026338869833 then (laws_toEventS.l0 k l0 (List.replicate ((l0.length : Int) : Int).toNat z166) 0) else (none)) else (none)
theorem laws_toEventS.mono_l : ∀ k,(∀ y0 y1 y2,LeO (laws_toEventS.l0 k y0 y1 y2) (laws_toEventS.l0 (k + 1) y0 y1 y2))
  | 0 => fun _ _ _ r h => by simp [laws_toEventS.l0] at h
  | k + 1 => by
    have ih0 := laws_toEventS.mono_l k
    · intro y0 y1 y2
      unfold laws_toEventS.l0
      repeat' first
      | (with_reducible exact ih0 _ _ _)
      | (with_reducible exact laws_toEvent.mono _ _ _ _ _ _)
      | (with_reducible exact LeO.refl _)
      | (with_reducible exact LeO.none _)
      | (with_reducible refine LeO.ite ?_ ?_)
      | (with_reducible refine LeO.bind ?_ (fun _ => ?_))
      | exact ih0 _ _ _
      | exact laws_toEvent.mono _ _ _ _ _ _
      | exact LeO.none _
      | refine LeO.ite ?_ ?_
      | refine LeO.bind ?_ (fun _ => ?_)
theorem laws_toEventS.mono : ∀ a0 k,LeO (laws_toEventS.f k a0) (laws_toEventS.f (k + 1) a0) := by
  intro a0 k
  have ih0 := laws_toEventS.mono_l k
  unfold laws_toEventS.f
  repeat' first
      | (with_reducible exact ih0 _ _ _)
      | (with_reducible exact laws_toEvent.mono _ _ _ _ _ _)
      | (with_reducible exact LeO.refl _)
      | (with_reducible exact LeO.none _)
      | (with_reducible refine LeO.ite ?_ ?_)
      | (with_reducible refine LeO.bind ?_ (fun _ => ?_))
      | exact ih0 _ _ _
      | exact laws_toEvent.mono _ _ _ _ _ _
      | exact LeO.none _
      | refine LeO.ite ?_ ?_
      | refine LeO.bind ?_ (fun _ => ?_)
set_option maxHeartbeats 8000000 in
set_option maxRecDepth 100000 in
theorem laws_toEventS.calls (k : Nat) (A0 : Option Addr) (c0 : Nat) (l0 : List (S162)) (r : List (S166)) (w : World) (hr0 : Kd.C k162 w A0 l0.length l0) (hc0 : l0.length ≤ c0) (h : laws_toEventS.f k l0 = some r) :
    Calls Try.prog 68 #[.slice A0 l0.length c0] w fun e w' => ∃ v0_ : Value,e = .returned (v0_) ∧ Kd.S k166 166 w' w.heap.size (fun _ => True) v0_ r ∧ Below w.heap.size w w' := by
  have hu162 := Try.underlying162
  have hu166 := Try.underlying166
  have HR0 := Aside0.mk hr0
  have HC0 := Aside0.mk hc0
  clear hr0 hc0
  have HB := Aside0.mk (Below.refl w.heap.size w)
  have H : (if 0 ≤ (l0.length : Int) then (if ((l0.length : Int) : Int).toNat ≤ 5026338869833 then (laws_toEventS.l0 k l0 (List.replicate ((l0.length : Int) : Int).toNat z166) 0) else (none)) else (none)) = some r := h
  clear h
  by_cases c2 : 0 ≤ (l0.length : Int)
  · rw [if_pos c2] at H
    have c2b0 := eq_true c2
    have c2b1 : decide (0 ≤ (l0.length : Int)) = true := decide_eq_true c2
    clear c2
    by_cases c3 : ((l0.length : Int) : Int).toNat ≤ 5026338869833
    · rw [if_pos c3] at H
      have c3b0 := eq_true c3
      have c3b1 : decide (((l0.length : Int) : Int).toNat ≤ 5026338869833) = true := decide_eq_true c3
      clear c3
      obtain ⟨y234,hy234⟩ : ∃ y_ : List (S166),y_ = (List.replicate ((l0.length : Int) : Int).toNat z166) := ⟨_,rfl⟩
      replace H : (laws_toEventS.l0 k l0 y234 0) = some r := by first | (rw [hy234]; with_reducible exact H) | (have H2_ := (Option.bind_some _ _).symm.trans H; rw [hy234]; with_reducible exact H2_) | (have H2_ := (Option.bind_some _ _).symm.trans H; with_reducible exact H2_) | with_reducible exact H | (rw [hy234]; exact H) | exact H
      have Ny234 := Aside0.mk hy234
      clear hy234
      have H' := Aside0.mk H
      clear H
      go_enter Try.func68,Try.ntmps68
      go_wp2_with (first | ((with_reducible refine gate_dst (N := 7) rfl ?_); refine Kd.S_make k166 _ 166 rfl (N := 7) rfl 39 _ _ rfl (l0.length : Int) rfl rfl Try.underlying39 (.agg #[(.int .i64 0),(.int .i64 0),(.int .i64 0),(.slice none 0 0),(.int .i64 0)]) 56 info166 rfl (by decide) (by omega) z166 (ok := fun _ => True) (okp := fun _ => True) (k166_mkM _ _ _ z166 (Kd.R_nil _ _ _ _ _)) (fun _ hk => hk) trivial (of_decide_eq_true (by first | (with_reducible assumption) | assumption)) (Nat.le_trans (Nat.mul_le_mul_right _ (of_decide_eq_true (by first | (with_reducible assumption) | assumption) : (l0.length : Int).toNat ≤ 5026338869833)) (by omega)) (Below.refl _ _) (Nat.le_refl _) ?_; intro v235 w4 ho5 hb hg_ hnew_; clear hg_ hnew_; (first | rw [← Ny234.out] at ho5 | (simp only [Int.reduceToNat] at ho5; rw [← Ny234.out] at ho5)); have n0_ := Aside0.mk (Kd.S_lower ho5 (below_size (by repeat (first | (with_reducible first | exact HB.out | apply below_alloc | apply pw_below_drewN | apply below_drew1) | exact HB.out)))); have n1_ := Aside0.mk (below_step (by repeat (first | (with_reducible first | exact HB.out | apply below_alloc | apply pw_below_drewN | apply below_drew1) | exact HB.out)) hb); clear HB; have HO236 := n0_; have HB := n1_; clear n0_ n1_; clear hb ho5))
      go_loopg [4] k (fun kq v4 w' => ∃ (x3_1 : List (S166)) (x4_1 : Int),v4 = .int .i64 x4_1 ∧ Aside0 (laws_toEventS.l0 kq l0 x3_1 x4_1 = some r) ∧ Aside0 (kq ≤ k) ∧ Aside0 (Kd.S k166 166 w' w.heap.size (fun _ => True) v235 x3_1) ∧ Aside0 (Below w.heap.size w w'))
      case atStart => exact ⟨(y234),(0),(by first | rfl | (simp; done) | (simp [*]; done) | (simp [bne]; done)),H',⟨Nat.le_refl _⟩,⟨by (with_reducible repeat (first | apply Kd.S_alloc | apply Kd.S_drewN | apply Kd.S_drew)); exact HO236.out⟩,⟨by repeat (first | (with_reducible first | exact HB.out | apply below_alloc | apply pw_below_drewN | apply below_drew1) | exact HB.out)⟩⟩
      case round =>
        clear H'
        try clear c2
        try clear c2b0
        try clear c2b1
        try clear p2
        try clear c3
        try clear c3b0
        try clear c3b1
        obtain ⟨x3_1,x4_1,rfl,HA,HK1,HO_3,HB⟩ := hrel
        cases gk with
        | zero => exact absurd HA.out (by simp [laws_toEventS.l0])
        | succ k1 =>
          have H := HA.out
          clear HA
          simp only [laws_toEventS.l0] at H
          by_cases c6 : x4_1 < (l0.length : Int)
          · rw [if_pos c6] at H
            have c6b0 : decide (x4_1 < (l0.length : Int)) = true := decide_eq_true c6
            clear c6
            by_cases c7 : 0 ≤ x4_1
            · rw [if_pos c7] at H
              have c7b0 : decide (0 ≤ x4_1) = true := decide_eq_true c7
              clear c7
              replace H := Option.bind_eq_some_iff.mp H
              obtain ⟨⟨t238,t239,t240,t241,t244⟩,A80,H⟩ := H
              replace H : (if x4_1 < (x3_1.length : Int) then (laws_toEventS.l0 k1 l0 (x3_1.set (x4_1 : Int).toNat (⟨t238,t239,t240,t241,t244⟩ : S166)) (wrap64 (x4_1 + 1))) else (none)) = some r := H
              have A8 := Aside0.mk A80
              clear A80
              by_cases c9 : x4_1 < (x3_1.length : Int)
              · rw [if_pos c9] at H
                have c9b0 : decide (x4_1 < (x3_1.length : Int)) = true := decide_eq_true c9
                clear c9
                obtain ⟨y245,hy245⟩ : ∃ y_ : List (S166),y_ = (x3_1.set (x4_1 : Int).toNat (⟨t238,t239,t240,t241,t244⟩ : S166)) := ⟨_,rfl⟩
                replace H : (laws_toEventS.l0 k1 l0 y245 (wrap64 (x4_1 + 1))) = some r := by first | (rw [hy245]; with_reducible exact H) | (have H2_ := (Option.bind_some _ _).symm.trans H; rw [hy245]; with_reducible exact H2_) | (have H2_ := (Option.bind_some _ _).symm.trans H; with_reducible exact H2_) | with_reducible exact H | (rw [hy245]; exact H) | exact H
                have Ny245 := Aside0.mk hy245
                clear hy245
                have H' := Aside0.mk H
                clear H
                have p237 : 0 ≤ (x4_1 : Int) := of_decide_eq_true (by first | (with_reducible assumption) | assumption)
                have q237 : x4_1 < (l0.length : Int) := of_decide_eq_true (by first | (with_reducible assumption) | assumption)
                obtain ⟨ad237,A237_3,c237_3,e237,hx237_0,hx237_1,hx237_2,hx237_3,hx237_4,hl237_3,hi237_3⟩ := at_T162 HR0.out x4_1 p237 q237
                cases e237
                replace hx237_0 := (HB.out.cell (World.block_lt_of_cell? w _ hx237_0)).trans hx237_0
                replace hx237_1 := (HB.out.cell (World.block_lt_of_cell? w _ hx237_1)).trans hx237_1
                replace hx237_2 := (HB.out.cell (World.block_lt_of_cell? w _ hx237_2)).trans hx237_2
                replace hx237_3 := (HB.out.cell (World.block_lt_of_cell? w _ hx237_3)).trans hx237_3
                replace hx237_4 := (HB.out.cell (World.block_lt_of_cell? w _ hx237_4)).trans hx237_4
                have HR237_3 := Aside0.mk hi237_3
                have HC237_3 := Aside0.mk hl237_3
                clear hi237_3 hl237_3
                replace p237 := eq_true p237
                replace q237 := eq_true q237
                go_wp2_with (first | ((with_reducible refine gate_callee (f := 120) rfl ?_); refine goesL_ (some 20) rfl rfl Try.func120 (by kernel_rfl) rfl #[.agg #[.int .i64 ((rd_T162 l0 x4_1).f0),.int .i64 ((rd_T162 l0 x4_1).f1),.int .i64 ((rd_T162 l0 x4_1).f2),.slice A237_3 ((rd_T162 l0 x4_1).f3).length c237_3,.int .i64 ((rd_T162 l0 x4_1).f4)]] rfl (by (try simp only [List.map_toArray,List.map_cons,List.map_nil]); first | done | rfl) ?_; (with_reducible refine (laws_toEvent.calls k1 ((rd_T162 l0 x4_1).f0) ((rd_T162 l0 x4_1).f1) ((rd_T162 l0 x4_1).f2) _ _ ((rd_T162 l0 x4_1).f3) ((rd_T162 l0 x4_1).f4) t238 t239 t240 t241 t244 _ ?side1 ?side2 A8.out).mono ?_); (case side1 => repeat (first | exact (Kd.C_below HR237_3.out HB.out) | (with_reducible refine Kd.C_alloc ?_ _) | (with_reducible refine Kd.C_drewN ?_ _) | (with_reducible refine Kd.C_drew ?_))); (case side2 => exact HC237_3.out); rintro e w11 ⟨v242,rfl,ho0,hb⟩; refine ⟨_,rfl,?_⟩; have n0_ := Aside0.mk (Kd.S_elder' (by (with_reducible repeat (first | apply Kd.S_alloc | apply Kd.S_drewN | apply Kd.S_drew)); exact HO_3.out) (Kd.R_base ho0) hb); have n1_ := Aside0.mk (Kd.R_lower ho0 (below_size (by repeat (first | (with_reducible first | exact HB.out | apply below_alloc | apply pw_below_drewN | apply below_drew1) | exact HB.out)))); have n2_ := Aside0.mk (below_step (by repeat (first | (with_reducible first | exact HB.out | apply below_alloc | apply pw_below_drewN | apply below_drew1) | exact HB.out)) hb); clear HO_3; clear HB; have HO_3 := n0_; have HO243 := n1_; have HB := n2_; clear n0_ n1_ n2_; (try clear hb); (try clear hb2); (try clear hk); (try clear hi); (try clear ho0); have p10 : 0 ≤ (x4_1 : Int) := of_decide_eq_true (by first | (with_reducible assumption) | assumption); have q10 : (x4_1 : Int) < ((x3_1.length : Int) : Int) := of_decide_eq_true (by first | (with_reducible assumption) | assumption); obtain ⟨go10,co10,eo10,gb10,gl10,cl10,HG10⟩ := Kd.S_form HO_3.out (by omega); (first | cases eo10 | (injection eo10 with ea_ en_ ec_; (first | subst ea_ | (injection ea_ with ea_; subst ea_)); subst ec_; clear en_)); have GB10 := Aside0.mk gb10; have GG10 := Aside0.mk HG10; clear gb10 gl10 HG10; obtain ⟨_,ce10,hcl10,hM10,hcc10,hfr10,_,_⟩ := Kd.S_elem HO_3.out z166 (x4_1 : Int) p10 q10; obtain ⟨ve10_3,rfl,ge10_3⟩ := k166_openM hM10; have hx10_0 : w11.cell? ⟨go10,(x4_1 : Int).toNat * 5,none⟩ = some (.int .i64 ((rd_T166 x3_1 x4_1).f0)) := hcc10 0 _ rfl; have hx10_1 : w11.cell? ⟨go10,(x4_1 : Int).toNat * 5 + 1,none⟩ = some (.int .i64 ((rd_T166 x3_1 x4_1).f1)) := hcc10 1 _ rfl; have hx10_2 : w11.cell? ⟨go10,(x4_1 : Int).toNat * 5 + 2,none⟩ = some (.int .i64 ((rd_T166 x3_1 x4_1).f2)) := hcc10 2 _ rfl; have hx10_3 : w11.cell? ⟨go10,(x4_1 : Int).toNat * 5 + 3,none⟩ = some (ve10_3) := hcc10 3 _ rfl; have hx10_4 : w11.cell? ⟨go10,(x4_1 : Int).toNat * 5 + 4,none⟩ = some (.int .i64 ((rd_T166 x3_1 x4_1).f4)) := hcc10 4 _ rfl; have hf10_0 : w11.frozen? ⟨go10,(x4_1 : Int).toNat * 5,none⟩ = false := hfr10 0; have hf10_1 : w11.frozen? ⟨go10,(x4_1 : Int).toNat * 5 + 1,none⟩ = false := hfr10 1; have hf10_2 : w11.frozen? ⟨go10,(x4_1 : Int).toNat * 5 + 2,none⟩ = false := hfr10 2; have hf10_3 : w11.frozen? ⟨go10,(x4_1 : Int).toNat * 5 + 3,none⟩ = false := hfr10 3; have hf10_4 : w11.frozen? ⟨go10,(x4_1 : Int).toNat * 5 + 4,none⟩ = false := hfr10 4; clear hcl10 hcc10 hfr10 hM10; replace p10 := eq_true p10; replace q10 := eq_true q10; obtain ⟨Ao12,co12,eo12⟩ := Kd.R_slice HO243.out; subst eo12; have n_ := Aside0.mk (Kd.S_mono (ok' := (fun k_ => some k_ ≠ (.slice Ao12 t241.length co12 : Value).ownBlock)) HO_3.out (fun k_ hk => hk.2)); clear HO_3; have HO_3 := n_; clear n_; have HX13 := Aside0.mk (show Kd.S k166 166 w11 w.heap.size (fun k_ => ((fun _ => True)) k_ ∧ ¬ ((fun k_ => some k_ = (.slice Ao12 t241.length co12 : Value).ownBlock)) k_) (.slice (some ⟨go10,0,none⟩) x3_1.length co10) x3_1 from (by (with_reducible repeat (first | apply Kd.S_alloc | apply Kd.S_drewN | apply Kd.S_drew)); exact Kd.S_mono HO_3.out (fun k_ hk => ⟨trivial,fun e_ => hk e_⟩))); obtain ⟨oki13,ce13,hcl13,hM13,hcc13,hfr13,hoki13,hH13⟩ := Kd.S_elem HX13.out z166 (x4_1 : Int) (of_decide_eq_true (by first | (with_reducible assumption) | assumption)) (by have h_ : (x4_1 : Int) < ((x3_1.length : Int) : Int) := of_decide_eq_true (by first | (with_reducible assumption) | assumption); first | exact h_ | (have e_ := (Kd.S_reads' HO_3.out).1; omega) | simpa using h_); obtain ⟨ve13_3,rfl,ge13_3⟩ := k166_openM hM13; have HP13 := Kd.S_seg hH13 (of_decide_eq_true (by first | (with_reducible assumption) | assumption)) (by have h_ : (x4_1 : Int) < ((x3_1.length : Int) : Int) := of_decide_eq_true (by first | (with_reducible assumption) | assumption); first | exact h_ | (have e_ := (Kd.S_reads' HO_3.out).1; omega) | simpa using h_) (seg := [.int .i64 t238,.int .i64 t239,.int .i64 t240,.slice Ao12 t241.length co12,.int .i64 t244]) (j := 0) (show 5 ≤ 5 from by decide) (x' := (⟨t238,t239,t240,t241,t244⟩ : S166)) (k166_mkM _ _ _ (⟨t238,t239,t240,t241,t244⟩ : S166) (Kd.R_mono (Kd.R_tight rfl (Kd.R_mono (ok' := fun k_ => ((fun _ => True)) k_ ∧ k_ ≠ go10) (Kd.R_apart' (HO243.out) (Kd.S_typed HO_3.out) (by decide)) (fun k_ hk => ⟨trivial,fun e_ => (hk.2) (by rw [e_]; rfl)⟩))) (fun _ h_ => Or.inr (h_)))) (fun _ hk => hk) (fun k_ hk_ => ((Kd.R_mono (ok' := fun k_ => ((fun _ => True)) k_ ∧ k_ ≠ go10) (Kd.R_apart' (HO243.out) (Kd.S_typed HO_3.out) (by decide)) (fun k_ hk => ⟨trivial,fun e_ => (hk.2) (by rw [e_]; rfl)⟩))).1 k_ hk_.symm); have hx13_0 := hcc13 0 _ rfl; (try simp only [show (k166).sz = 5 from rfl,Nat.mul_one,Nat.add_zero] at hx13_0); have hf13_0 := hfr13 0; (try simp only [show (k166).sz = 5 from rfl,Nat.mul_one,Nat.add_zero] at hf13_0); have hx13_1 := hcc13 1 _ rfl; (try simp only [show (k166).sz = 5 from rfl,Nat.mul_one,Nat.add_zero] at hx13_1); have hf13_1 := hfr13 1; (try simp only [show (k166).sz = 5 from rfl,Nat.mul_one,Nat.add_zero] at hf13_1); have hx13_2 := hcc13 2 _ rfl; (try simp only [show (k166).sz = 5 from rfl,Nat.mul_one,Nat.add_zero] at hx13_2); have hf13_2 := hfr13 2; (try simp only [show (k166).sz = 5 from rfl,Nat.mul_one,Nat.add_zero] at hf13_2); have hx13_3 := hcc13 3 _ rfl; (try simp only [show (k166).sz = 5 from rfl,Nat.mul_one,Nat.add_zero] at hx13_3); have hf13_3 := hfr13 3; (try simp only [show (k166).sz = 5 from rfl,Nat.mul_one,Nat.add_zero] at hf13_3); have hx13_4 := hcc13 4 _ rfl; (try simp only [show (k166).sz = 5 from rfl,Nat.mul_one,Nat.add_zero] at hx13_4); have hf13_4 := hfr13 4; (try simp only [show (k166).sz = 5 from rfl,Nat.mul_one,Nat.add_zero] at hf13_4); clear hcl13 hcc13 hfr13 hM13 hoki13 hH13) | ((with_reducible refine gate_store (t := 166) (p := 21) rfl ?_); refine store_event (t := 166) (p := 21) (v := ?vo_w14) (w1 := (((((w11.setCell ⟨go10,(x4_1 : Int).toNat * 5,none⟩ (.int .i64 t238)).setCell ⟨go10,(x4_1 : Int).toNat * 5 + 1,none⟩ (.int .i64 t239)).setCell ⟨go10,(x4_1 : Int).toNat * 5 + 2,none⟩ (.int .i64 t240)).setCell ⟨go10,(x4_1 : Int).toNat * 5 + 3,none⟩ (.slice Ao12 t241.length co12)).setCell ⟨go10,(x4_1 : Int).toNat * 5 + 4,none⟩ (.int .i64 t244))) ?hg ?ho ?hn ?hr ?_; (case ho => rfl); (case hg => rfl); (case hn => rfl); (case hr => first | (go_simp; done) | (go_simp; rfl)); intro w14 hw; have hg : w11.grownBy w14 (some go10) := (by rw [hw]; exact HP13.2); have hp_ : Kd.S k166 166 w14 w.heap.size (fun _ => True) (.slice (some ⟨go10,0,none⟩) x3_1.length co10) y245 := (by rw [hw,Ny245.out]; exact HP13.1); clear HP13; have n0_ := Aside0.mk (hp_); have n1_ := Aside0.mk ((by rw [hw]; exact below_set (below_set (below_set (below_set (below_set (HB.out) GB10.out) GB10.out) GB10.out) GB10.out) GB10.out : Below w.heap.size w w14)); clear HO_3; clear HB; clear HO243; have HO_3 := n0_; have HB := n1_; clear n0_ n1_; clear hg hw hp_))
                go_roundg k1
                case measure => have := HK1.out; omega
                case rel => exact ⟨(y245),(wrap64 (x4_1 + 1)),(by first | rfl | (simp; done) | (simp [*]; done) | (simp [bne]; done)),H',⟨by have := HK1.out; omega⟩,⟨by (with_reducible repeat (first | apply Kd.S_alloc | apply Kd.S_drewN | apply Kd.S_drew)); exact HO_3.out⟩,⟨by repeat (first | (with_reducible first | exact HB.out | apply below_alloc | apply pw_below_drewN | apply below_drew1) | exact HB.out)⟩⟩
              · rw [if_neg c9] at H
                exact absurd H (by simp)
            · rw [if_neg c7] at H
              exact absurd H (by simp)
          · rw [if_neg c6] at H
            have c6b0 : decide (x4_1 < (l0.length : Int)) = false := decide_eq_false c6
            clear c6
            obtain rfl := Option.some.inj H
            go_wp2
            go_ret
            exact ⟨_,by first | rfl | (simp <;> rfl) | (simp [*] <;> rfl),by (with_reducible repeat (first | apply Kd.S_alloc | apply Kd.S_drewN | apply Kd.S_drew)); exact HO_3.out,by repeat (first | (with_reducible first | exact HB.out | apply below_alloc | apply pw_below_drewN | apply below_drew1) | exact HB.out)⟩
    · rw [if_neg c3] at H
      exact absurd H (by simp)
  · rw [if_neg c2] at H
    exact absurd H (by simp)

end Go.Proofs.Ytmbacnnbpnlekaa.PA
