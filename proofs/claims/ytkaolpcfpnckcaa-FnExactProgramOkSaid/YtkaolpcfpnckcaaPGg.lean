import Derived.Test.YtkaolpcfpnckcaaPGf
import Derived.Test.YtkaolpcfpnckcaaPGe
set_option linter.unusedVariables false
set_option linter.unusedSimpArgs false
/-
  Bytes are put alike by both sides: programs.
-/
namespace Go.Ev.Q
open Go Go.Ev

theorem loop_same {α : Type} {J : Int → Sl → Res} {xs : List α} {enc : α → List Int} (l : List Int) (h : (l ++ (xs.map enc).flatten).length ≤ lim) (hs : ∀ pre a q l, pre ++ a :: q = xs → (l ++ enc a).length ≤ lim → J (pre.length : Int) (bytes l) = J ((pre.length + 1 : Nat) : Int) (bytes (l ++ enc a))) :
    J 0 (bytes l) = J (xs.length : Int) (bytes (l ++ (xs.map enc).flatten)) := loop_put (K := fun s => J (xs.length : Int) s) hs (fun _ => rfl) l h
theorem Prog.enc_eq (ly : List Layout) (bl : List Blk) (cp : List Int) : Prog.enc (.mk ly bl cp) = [76, 75] ++ encNum ly.length ++ (ly.map Layout.enc).flatten ++ encNum cp.length ++ (cp.map encNum).flatten ++ encNum bl.length ++ (bl.map Blk.enc).flatten := by
  simp only [Prog.enc, encLays, encNums, encBlks, List.append_assoc]
theorem Blk.enc_eq (env : List Ty) (arg res : Ty) (locals : List Ty) (code : List Ins) (l : List Int) : l ++ Blk.enc (.mk env arg res locals code) = l ++ encTys env ++ arg.enc ++ res.enc ++ encTys locals ++ encNum code.length ++ (code.map Ins.enc).flatten := by
  simp only [Blk.enc, encIns, List.append_assoc]

theorem codeS_ok (x : Prog) (hs : x.size ≤ 1048576) : P1 (spec_l8bytes x.ts) x.enc := by
  obtain ⟨ly, bl, cp⟩ := x
  have hsz : (ly.length + (ly.map Layout.size).sum) + (bl.length + (bl.map Blk.size).sum) + cp.length ≤ 1048576 := hs
  have hl : (Prog.enc (.mk ly bl cp)).length ≤ lim := by
    have := Prog.enc_len (.mk ly bl cp)
    unfold lim; omega
  rw [Prog.enc_eq] at hl ⊢
  let X := Prog.ts (.mk ly bl cp)
  refine P1.of ?_
  show spec_l8bytes X = _
  rw [spec_l8bytes_eq]
  have h6 := lim_le hl
  have h5 := lim_le h6
  have h4 := lim_le h5
  have h3 := lim_le h4
  have h2 := lim_le h3
  refine Eq.trans (PutNumS ly.length [76, 75] h2).call ?_
  -- layouts
  refine Eq.trans (loop_same (J := fun i s => spec_l8bytes_j1 i X s) (xs := ly) (enc := Layout.enc) _ h3 (fun pre a q l hp hm => ?_)) ?_
  · have hlt := len_mid hp
    have has := lay_sz (by omega) (mem_mid hp)
    have at1 : ∀ {R : Type} (f : LS.Ts [.sl 1] → Option R), oat [(.sl 1)] X.1.1 X.1.2 (pre.length : Int) f = f a.ts := fun f => oat_mid hp rfl
    try simp only
    rw [spec_l8bytes_j1_eq, oite_dec, if_pos (show (pre.length : Int) < (X.1.1 : Nat) by show (pre.length : Int) < (ly.length : Nat); omega)]
    simp only [at1]
    unfold Layout.enc at hm ⊢
    rw [← List.append_assoc] at hm ⊢
    refine Eq.trans (PutNumS a.cons.length l (lim_le hm)).call ?_
    refine Eq.trans (loop_same (J := fun i s => spec_l8bytes_j2 i (pre.length : Int) X s) (xs := a.cons) (enc := encTys) _ hm (fun pre2 c q2 l hp2 hm => ?_)) ?_
    · have hlt2 := len_mid hp2
      have hcs := con_sz has (mem_mid hp2)
      have at2 : ∀ {R : Type} (f : LS.Ts [.sl 3] → Option R), oat [(.sl 3)] a.ts.1.1 a.ts.1.2 (pre2.length : Int) f = f (tys c, ()) := fun f => oat_mid (g := consTs) hp2 rfl
      try simp only
      rw [spec_l8bytes_j2_eq]
      simp only [at1, at2]
      rw [oite_dec, if_pos (show (pre2.length : Int) < (a.ts.1.1 : Nat) by show (pre2.length : Int) < (a.cons.length : Nat); omega)]
      rw [(l8tys_ok c (by unfold tysSize; omega) l hm).call, w64_succ (by omega)]
    · try simp only
      rw [spec_l8bytes_j2_eq]
      simp only [at1]
      rw [oite_dec, if_neg (show ¬ (a.cons.length : Int) < (a.ts.1.1 : Nat) by show ¬ (a.cons.length : Int) < (a.cons.length : Nat); omega), w64_succ (by omega)]
  try simp only
  rw [spec_l8bytes_j1_eq, oite_dec, if_neg (show ¬ (ly.length : Int) < (X.1.1 : Nat) by show ¬ (ly.length : Int) < (ly.length : Nat); omega)]
  refine Eq.trans (PutNumS cp.length _ h4).call ?_
  -- caps
  refine Eq.trans (loop_same (J := fun i s => spec_l8bytes_j3 i X s) (xs := cp) (enc := encNum) _ h5 (fun pre a q l hp hm => ?_)) ?_
  · have hlt := len_mid hp
    try simp only
    rw [spec_l8bytes_j3_eq, show X.2.2.1 = ints cp from rfl, oite_dec, if_pos (show (pre.length : Int) < ((ints cp).1 : Nat) by show (pre.length : Int) < (cp.length : Nat); omega)]
    simp only [at_nums hp]
    refine Eq.trans (PutNumS a l hm).call ?_
    rw [w64_succ (by omega)]
  try simp only
  rw [spec_l8bytes_j3_eq, oite_dec, if_neg (show ¬ (cp.length : Int) < (X.2.2.1.1 : Nat) by show ¬ (cp.length : Int) < (cp.length : Nat); omega)]
  refine Eq.trans (PutNumS bl.length _ h6).call ?_
  -- blocks
  refine Eq.trans (loop_same (J := fun i s => spec_l8bytes_j4 i s X) (xs := bl) (enc := Blk.enc) _ hl (fun pre b q l hp hm => ?_)) ?_
  · have hlt := len_mid hp
    have hbs := sizes_mem (f := Blk.size) (mem_mid hp)
    have at1 : ∀ {R : Type} (f : T_Block → Option R), oat sh_Block X.2.1.1 X.2.1.2 (pre.length : Int) f = f b.ts := fun f => oat_mid hp rfl
    obtain ⟨env, arg, res, locals, code⟩ := b
    have hb : tysSize env + arg.size + res.size + tysSize locals + (code.length + (code.map Ins.size).sum) = Blk.size (.mk env arg res locals code) := rfl
    rw [Blk.enc_eq] at hm ⊢
    have g6 := lim_le hm
    have g5 := lim_le g6
    have g4 := lim_le g5
    have g3 := lim_le g4
    have g2 := lim_le g3
    try simp only
    rw [spec_l8bytes_j4_eq, oite_dec, if_pos (show (pre.length : Int) < (X.2.1.1 : Nat) by show (pre.length : Int) < (bl.length : Nat); omega)]
    simp only [at1]
    refine Eq.trans (l8tys_ok env (by omega) l g2).call ?_
    refine Eq.trans (l3bytes_ok arg (by omega) _ g3).call ?_
    rw [osame_t]
    refine Eq.trans (l3bytes_ok res (by omega) _ g4).call ?_
    refine Eq.trans (l8tys_ok locals (by omega) _ g5).call ?_
    refine Eq.trans (PutNumS code.length _ g6).call ?_
    refine Eq.trans (loop_same (J := fun i s => spec_l8bytes_j5 i (pre.length : Int) (Blk.ts (.mk env arg res locals code)) s X) (xs := code) (enc := Ins.enc) _ hm (fun pre2 c q2 l hp2 hm => ?_)) ?_
    · have hlt2 := len_mid hp2
      have hcs := sizes_mem (f := Ins.size) (mem_mid hp2)
      have at2 : ∀ {R : Type} (f : T_Ins → Option R), oat sh_Ins (inss code).1 (inss code).2 (pre2.length : Int) f = f c.ts := fun f => oat_mid hp2 rfl
      try simp only
      rw [spec_l8bytes_j5_eq, show (Blk.ts (.mk env arg res locals code)).2.2.2.2.2.2.2.2.1 = inss code from rfl, oite_dec, if_pos (show (pre2.length : Int) < ((inss code).1 : Nat) by show (pre2.length : Int) < (code.length : Nat); omega)]
      simp only [at2]
      rw [(l8ins_ok c (by omega) l hm).call, w64_succ (by omega)]
    · try simp only
      rw [spec_l8bytes_j5_eq, oite_dec, if_neg (show ¬ (code.length : Int) < ((Blk.ts (.mk env arg res locals code)).2.2.2.2.2.2.2.2.1.1 : Nat) by show ¬ (code.length : Int) < (code.length : Nat); omega), w64_succ (by omega)]
  try simp only
  rw [spec_l8bytes_j4_eq, oite_dec, if_neg (show ¬ (bl.length : Int) < (X.2.1.1 : Nat) by show ¬ (bl.length : Int) < (bl.length : Nat); omega)]

theorem j4_same (x0 : Int) (x1 x2 : Sl) (x3 x4 x5 : Int) (x6 x7 : Sl) : impl_codeBytes_j4 x0 x1 x2 x3 x4 x5 x6 x7 = impl_codeBytes_j4v1 x0 x1 x2 x3 x4 x5 x6 x7 := by
  rw [impl_codeBytes_j4_eq, impl_codeBytes_j4v1_eq]
theorem codeI_ok (x : Prog) (hs : x.size ≤ 1048576) : P1 (impl_codeBytes x.ts) x.enc := by
  obtain ⟨ly, bl, cp⟩ := x
  have hsz : (ly.length + (ly.map Layout.size).sum) + (bl.length + (bl.map Blk.size).sum) + cp.length ≤ 1048576 := hs
  have hl : (Prog.enc (.mk ly bl cp)).length ≤ lim := by
    have := Prog.enc_len (.mk ly bl cp)
    unfold lim; omega
  rw [Prog.enc_eq] at hl ⊢
  let X := Prog.ts (.mk ly bl cp)
  refine P1.of ?_
  show impl_codeBytes X = _
  rw [impl_codeBytes_eq]
  have h6 := lim_le hl
  have h5 := lim_le h6
  have h4 := lim_le h5
  have h3 := lim_le h4
  have h2 := lim_le h3
  refine Eq.trans (PutNumI ly.length [76, 75] h2).call ?_
  -- layouts
  refine Eq.trans (loop_same (J := fun i s => impl_codeBytes_j1 i (layouts ly) (((layouts ly).1 : Nat) : Int) s X) (xs := ly) (enc := Layout.enc) _ h3 (fun pre a q l hp hm => ?_)) ?_
  · have hlt := len_mid hp
    have has := lay_sz (by omega) (mem_mid hp)
    have at1 : ∀ {R : Type} (f : LS.Ts [.sl 1] → Option R), oat [(.sl 1)] (layouts ly).1 (layouts ly).2 (pre.length : Int) f = f a.ts := fun f => oat_mid hp rfl
    try simp only
    rw [impl_codeBytes_j1_eq, oite_dec, if_pos (show (pre.length : Int) < ((layouts ly).1 : Nat) by show (pre.length : Int) < (ly.length : Nat); omega)]
    simp only [at1]
    unfold Layout.enc at hm ⊢
    rw [← List.append_assoc] at hm ⊢
    refine Eq.trans (PutNumI a.cons.length l (lim_le hm)).call ?_
    refine Eq.trans (loop_same (J := fun i s => impl_codeBytes_j2 i a.ts.1 (layouts ly) (((layouts ly).1 : Nat) : Int) (pre.length : Int) ((a.ts.1.1 : Nat) : Int) s X) (xs := a.cons) (enc := encTys) _ hm (fun pre2 c q2 l hp2 hm => ?_)) ?_
    · have hlt2 := len_mid hp2
      have hcs := con_sz has (mem_mid hp2)
      have at2 : ∀ {R : Type} (f : LS.Ts [.sl 3] → Option R), oat [(.sl 3)] a.ts.1.1 a.ts.1.2 (pre2.length : Int) f = f (tys c, ()) := fun f => oat_mid (g := consTs) hp2 rfl
      try simp only
      rw [impl_codeBytes_j2_eq]
      simp only [at2]
      rw [oite_dec, if_pos (show (pre2.length : Int) < (a.ts.1.1 : Nat) by show (pre2.length : Int) < (a.cons.length : Nat); omega)]
      rw [(putTys_ok c (by unfold tysSize; omega) l hm).call, w64_succ (by omega)]
    · try simp only
      rw [impl_codeBytes_j2_eq]
      rw [oite_dec, if_neg (show ¬ (a.cons.length : Int) < (a.ts.1.1 : Nat) by show ¬ (a.cons.length : Int) < (a.cons.length : Nat); omega), w64_succ (by omega)]
  try simp only
  rw [impl_codeBytes_j1_eq, oite_dec, if_neg (show ¬ (ly.length : Int) < ((layouts ly).1 : Nat) by show ¬ (ly.length : Int) < (ly.length : Nat); omega)]
  -- caps
  have hn : ∀ l : List Int, l ++ encNum cp.length ++ (cp.map encNum).flatten = l ++ encNums cp := fun l => by simp [encNums]
  rw [hn] at h5 hl h6 ⊢
  refine Eq.trans (putNums_ok cp (by omega) _ h5).call ?_
  rw [osame_t, osame_t]
  refine Eq.trans (PutNumI bl.length _ h6).call ?_
  -- blocks
  refine Eq.trans (loop_same (J := fun i s => impl_codeBytes_j3 i (blocks bl) (((blocks bl).1 : Nat) : Int) s) (xs := bl) (enc := Blk.enc) _ hl (fun pre b q l hp hm => ?_)) ?_
  · have hlt := len_mid hp
    have hbs := sizes_mem (f := Blk.size) (mem_mid hp)
    have at1 : ∀ {R : Type} (f : T_Block → Option R), oat sh_Block (blocks bl).1 (blocks bl).2 (pre.length : Int) f = f b.ts := fun f => oat_mid hp rfl
    obtain ⟨env, arg, res, locals, code⟩ := b
    have hb : tysSize env + arg.size + res.size + tysSize locals + (code.length + (code.map Ins.size).sum) = Blk.size (.mk env arg res locals code) := rfl
    rw [Blk.enc_eq] at hm ⊢
    have g6 := lim_le hm
    have g5 := lim_le g6
    have g4 := lim_le g5
    have g3 := lim_le g4
    have g2 := lim_le g3
    try simp only
    rw [impl_codeBytes_j3_eq, oite_dec, if_pos (show (pre.length : Int) < ((blocks bl).1 : Nat) by show (pre.length : Int) < (bl.length : Nat); omega)]
    simp only [at1]
    refine Eq.trans (putTys_ok env (by omega) l g2).call ?_
    refine Eq.trans (putTy_ok arg (by omega) _ g3).call ?_
    rw [osame_t]
    refine Eq.trans (putTy_ok res (by omega) _ g4).call ?_
    refine Eq.trans (putTys_ok locals (by omega) _ g5).call ?_
    rw [osame_t, osame_t]
    refine Eq.trans (PutNumI code.length _ g6).call ?_
    rw [j4_same]
    have hcd : ([] ++ (code.map Ins.enc).flatten).length ≤ lim := by rw [List.length_append] at hm; simp only [List.nil_append]; omega
    refine Eq.trans (loop_same (J := fun i s => impl_codeBytes_j4v1 i (inss code) (blocks bl) (((blocks bl).1 : Nat) : Int) (pre.length : Int) (((inss code).1 : Nat) : Int) s (bytes (l ++ encTys env ++ arg.enc ++ res.enc ++ encTys locals ++ encNum code.length))) (xs := code) (enc := Ins.enc) [] hcd (fun pre2 c q2 l hp2 hm => ?_)) ?_
    · have hlt2 := len_mid hp2
      have hcs := sizes_mem (f := Ins.size) (mem_mid hp2)
      have at2 : ∀ {R : Type} (f : T_Ins → Option R), oat sh_Ins (inss code).1 (inss code).2 (pre2.length : Int) f = f c.ts := fun f => oat_mid hp2 rfl
      try simp only
      rw [impl_codeBytes_j4v1_eq, oite_dec, if_pos (show (pre2.length : Int) < ((inss code).1 : Nat) by show (pre2.length : Int) < (code.length : Nat); omega)]
      simp only [at2]
      have hc := putIns_ok c (by omega) [] (by rw [List.length_append] at hm; simp only [List.nil_append]; omega)
      refine Eq.trans hc.call ?_
      rw [List.nil_append, oguard_dec (show ((bytes l).1 + (bytes c.enc).1) * 1 ≤ 140737488351232 by rw [bytes_n, bytes_n, ← List.length_append]; unfold lim at hm; omega), olet_eq, bytes_app, w64_succ (by omega)]
    · try simp only
      rw [impl_codeBytes_j4v1_eq, oite_dec, if_neg (show ¬ (code.length : Int) < ((inss code).1 : Nat) by show ¬ (code.length : Int) < (code.length : Nat); omega)]
      rw [List.nil_append]
      rw [oguard_dec (by rw [bytes_n, bytes_n, ← List.length_append]; unfold lim at hm; omega), olet_eq, bytes_app, w64_succ (by omega)]
  try simp only
  rw [impl_codeBytes_j3_eq, oite_dec, if_neg (show ¬ (bl.length : Int) < ((blocks bl).1 : Nat) by show ¬ (bl.length : Int) < (bl.length : Nat); omega)]

theorem ProgramOk_ok (x : Prog) (ho : x.ok) : laws_FnExactProgramOk x.ts = some (.d (.bool true), []) := by
  rw [laws_FnExactProgramOk_eq, show (1048576 : Int) = ((1048576 : Nat) : Int) from rfl, szProgram_ok x ho 1048576 (by omega)]
  unfold szR
  rw [ocall_int, oite_dec]
  by_cases hs : x.size ≤ 1048576
  · rw [if_pos hs, if_neg (by omega)]
    have hS : spec_ProgramOk x.ts = rB (formB x && decide (x.enc.length ≤ 30000)) := by
      rw [spec_ProgramOk_eq, formS_ok x hs, ocall_bool, (codeS_ok x hs).call, oite_rB']
      refine resP ?_
      rw [bytes_n]
      simp only [Bool.and_eq_true, decide_eq_true_eq]
      exact ⟨fun h => ⟨h.1, by omega⟩, fun h => ⟨h.1, by omega⟩⟩
    have hI : impl_ProgramOk x.ts = rB (formB x && decide (x.enc.length ≤ 30000)) := by
      rw [impl_ProgramOk_eq, formI_ok x hs, ocall_bool, (codeI_ok x hs).call, oite_rB']
      refine resP ?_
      rw [bytes_n]
      simp only [Bool.and_eq_true, decide_eq_true_eq]
      exact ⟨fun h => ⟨h.1, by omega⟩, fun h => ⟨h.1, by omega⟩⟩
    rw [toProgram_ok x hs, ocall_agg rfl, hS, ocall_bool, ocall_agg rfl, hI, ocall_bool, ocall_agg rfl, osame_t, eqProgram_ok x hs, ocall_bool]
    simp only [oite_not, beq_self_eq_true, oite_t]
  · rw [if_neg hs, if_pos (by decide)]
end Go.Ev.Q
