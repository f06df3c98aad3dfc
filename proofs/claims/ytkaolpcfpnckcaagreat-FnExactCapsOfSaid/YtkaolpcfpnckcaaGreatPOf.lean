import Derived.Test.YtkaolpcfpnckcaaGreatPOe
import Derived.Test.YtkaolpcfpnckcaaGreatPOd
import Derived.Test.YtkaolpcfpnckcaaGreatPOa
set_option linter.unusedVariables false
set_option linter.unusedSimpArgs false
/-
  Bytes are put alike by both sides: programs.
-/
namespace Go.Ev.Q
open Go Go.Ev

theorem loop_same {α : Type} {J : Int → Sl → Res} {xs : List α} {enc : α → List Int} (l : List Int) (h : (l ++ (xs.map enc).flatten).length ≤ lim) (hs : ∀ pre a q l, pre ++ a :: q = xs → (l ++ enc a).length ≤ lim → J (pre.length : Int) (bytes l) = J ((pre.length + 1 : Nat) : Int) (bytes (l ++ enc a))) :
    J 0 (bytes l) = J (xs.length : Int) (bytes (l ++ (xs.map enc).flatten)) := loop_put (K := fun s => J (xs.length : Int) s) hs (fun _ => rfl) l h
theorem Prog.enc_eq (ly : List Layout) (bl : List Blk) (cp : List Int) : Prog.enc (.mk ly bl cp) = [76, 75] ++ encNum ly.length ++ (ly.map Layout.enc).flatten ++ encNum cp.length ++ (cp.map encNum).flatten ++ encNum bl.length ++ (bl.map Blk.enc).flatten := by
  simp only [Prog.enc, encLays, encNums, encBlks, List.append_assoc]
theorem Blk.enc_eq (env : List Ty) (arg res : Ty) (locals : List Ty) (code : List Ins) (l : List Int) : l ++ Blk.enc (.mk env arg res locals code) = l ++ encTys env ++ arg.enc ++ res.enc ++ encTys locals ++ encNum code.length ++ (code.map Ins.enc).flatten := by
  simp only [Blk.enc, encIns, List.append_assoc]

theorem codeS_ok (x : Prog) (hs : x.size ≤ 1048576) : P1 (spec_l8bytes x.ts) x.enc := by
  obtain ⟨ly, bl, cp⟩ := x
  have hsz : (ly.length + (ly.map Layout.size).sum) + (bl.length + (bl.map Blk.size).sum) + cp.length ≤ 1048576 := hs
  have hl : (Prog.enc (.mk ly bl cp)).length ≤ lim := by
    have := Prog.enc_len (.mk ly bl cp)
    unfold lim; omega
  rw [Prog.enc_eq] at hl ⊢
  let X := Prog.ts (.mk ly bl cp)
  refine P1.of ?_
  show spec_l8bytes X = _
  rw [spec_l8bytes_eq]
  have h6 := lim_le hl
  have h5 := lim_le h6
  have h4 := lim_le h5
  have h3 := lim_le h4
  have h2 := lim_le h3
  refine Eq.trans (PutNumS ly.length [76, 75] h2).call ?_
  -- layouts
  refine Eq.trans (loop_same (J := fun i s => spec_l8bytes_j1 i X s) (xs := ly) (enc := Layout.enc) _ h3 (fun pre a q l hp hm => ?_)) ?_
  · have hlt := len_mid hp
    have has := lay_sz (by omega) (mem_mid hp)
    have at1 : ∀ {R : Type} (f : LS.Ts [.sl 1] → Option R), oat [(.sl 1)] X.1.1 X.1.2 (pre.length : Int) f = f a.ts := fun f => oat_mid hp rfl
    try simp only
    rw [spec_l8bytes_j1_eq, oite_dec, if_pos (show (pre.length : Int) < (X.1.1 : Nat) by show (pre.length : Int) < (ly.length : Nat); omega)]
    simp only [at1]
    unfold Layout.enc at hm ⊢
    rw [← List.append_assoc] at hm ⊢
    refine Eq.trans (PutNumS a.cons.length l (lim_le hm)).call ?_
    refine Eq.trans (loop_same (J := fun i s => spec_l8bytes_j2 i (pre.length : Int) X s) (xs := a.cons) (enc := encTys) _ hm (fun pre2 c q2 l hp2 hm => ?_)) ?_
    · have hlt2 := len_mid hp2
      have hcs := con_sz has (mem_mid hp2)
      have at2 : ∀ {R : Type} (f : LS.Ts [.sl 3] → Option R), oat [(.sl 3)] a.ts.1.1 a.ts.1.2 (pre2.length : Int) f = f (tys c, ()) := fun f => oat_mid (g := consTs) hp2 rfl
      try simp only
      rw [spec_l8bytes_j2_eq]
      simp only [at1, at2]
      rw [oite_dec, if_pos (show (pre2.length : Int) < (a.ts.1.1 : Nat) by show (pre2.length : Int) < (a.cons.length : Nat); omega)]
      rw [(l8tys_ok c (by unfold tysSize; omega) l hm).call, w64_succ (by omega)]
    · try simp only
      rw [spec_l8bytes_j2_eq]
      simp only [at1]
      rw [oite_dec, if_neg (show ¬ (a.cons.length : Int) < (a.ts.1.1 : Nat) by show ¬ (a.cons.length : Int) < (a.cons.length : Nat); omega), w64_succ (by omega)]
  try simp only
  rw [spec_l8bytes_j1_eq, oite_dec, if_neg (show ¬ (ly.length : Int) < (X.1.1 : Nat) by show ¬ (ly.length : Int) < (ly.length : Nat); omega)]
  refine Eq.trans (PutNumS cp.length _ h4).call ?_
  -- caps
  refine Eq.trans (loop_same (J := fun i s => spec_l8bytes_j3 i X s) (xs := cp) (enc := encNum) _ h5 (fun pre a q l hp hm => ?_)) ?_
  · have hlt := len_mid hp
    try simp only
    rw [spec_l8bytes_j3_eq, show X.2.2.1 = ints cp from rfl, oite_dec, if_pos (show (pre.length : Int) < ((ints cp).1 : Nat) by show (pre.length : Int) < (cp.length : Nat); omega)]
    simp only [at_nums hp]
    refine Eq.trans (PutNumS a l hm).call ?_
    rw [w64_succ (by omega)]
  try simp only
  rw [spec_l8bytes_j3_eq, oite_dec, if_neg (show ¬ (cp.length : Int) < (X.2.2.1.1 : Nat) by show ¬ (cp.length : Int) < (cp.length : Nat); omega)]
  refine Eq.trans (PutNumS bl.length _ h6).call ?_
  -- blocks
  refine Eq.trans (loop_same (J := fun i s => spec_l8bytes_j4 i s X) (xs := bl) (enc := Blk.enc) _ hl (fun pre b q l hp hm => ?_)) ?_
  · have hlt := len_mid hp
    have hbs := sizes_mem (f := Blk.size) (mem_mid hp)
    have at1 : ∀ {R : Type} (f : T_Block → Option R), oat sh_Block X.2.1.1 X.2.1.2 (pre.length : Int) f = f b.ts := fun f => oat_mid hp rfl
    obtain ⟨env, arg, res, locals, code⟩ := b
    have hb : tysSize env + arg.size + res.size + tysSize locals + (code.length + (code.map Ins.size).sum) = Blk.size (.mk env arg res locals code) := rfl
    rw [Blk.enc_eq] at hm ⊢
    have g6 := lim_le hm
    have g5 := lim_le g6
    have g4 := lim_le g5
    have g3 := lim_le g4
    have g2 := lim_le g3
    try simp only
    rw [spec_l8bytes_j4_eq, oite_dec, if_pos (show (pre.length : Int) < (X.2.1.1 : Nat) by show (pre.length : Int) < (bl.length : Nat); omega)]
    simp only [at1]
    refine Eq.trans (l8tys_ok env (by omega) l g2).call ?_
    refine Eq.trans (l3bytes_ok arg (by omega) _ g3).call ?_
    rw [osame_t]
    refine Eq.trans (l3bytes_ok res (by omega) _ g4).call ?_
    refine Eq.trans (l8tys_ok locals (by omega) _ g5).call ?_
    refine Eq.trans (PutNumS code.length _ g6).call ?_
    refine Eq.trans (loop_same (J := fun i s => spec_l8bytes_j5 i (pre.length : Int) (Blk.ts (.mk env arg res locals code)) s X) (xs := code) (enc := Ins.enc) _ hm (fun pre2 c q2 l hp2 hm => ?_)) ?_
    · have hlt2 := len_mid hp2
      have hcs := sizes_mem (f := Ins.size) (mem_mid hp2)
      have at2 : ∀ {R : Type} (f : T_Ins → Option R), oat sh_Ins (inss code).1 (inss code).2 (pre2.length : Int) f = f c.ts := fun f => oat_mid hp2 rfl
      try simp only
      rw [spec_l8bytes_j5_eq, show (Blk.ts (.mk env arg res locals code)).2.2.2.2.2.2.2.2.1 = inss code from rfl, oite_dec, if_pos (show (pre2.length : Int) < ((inss code).1 : Nat) by show (pre2.length : Int) < (code.length : Nat); omega)]
      simp only [at2]
      rw [(l8ins_ok c (by omega) l hm).call, w64_succ (by omega)]
    · try simp only
      rw [spec_l8bytes_j5_eq, oite_dec, if_neg (show ¬ (code.length : Int) < ((Blk.ts (.mk env arg res locals code)).2.2.2.2.2.2.2.2.1.1 : Nat) by show ¬ (code.length : Int) < (code.length : Nat); omega), w64_succ (by omega)]
  try simp only
  rw [spec_l8bytes_j4_eq, oite_dec, if_neg (show ¬ (bl.length : Int) < (X.2.1.1 : Nat) by show ¬ (bl.length : Int) < (bl.length : Nat); omega)]

theorem j4_same (x0 : Int) (x1 x2 : Sl) (x3 x4 x5 : Int) (x6 x7 : Sl) : impl_codeBytes_j4 x0 x1 x2 x3 x4 x5 x6 x7 = impl_codeBytes_j4v1 x0 x1 x2 x3 x4 x5 x6 x7 := by
  rw [impl_codeBytes_j4_eq, impl_codeBytes_j4v1_eq]
theorem codeI_ok (x : Prog) (hs : x.size ≤ 1048576) : P1 (impl_codeBytes x.ts) x.enc := by
  obtain ⟨ly, bl, cp⟩ := x
  have hsz : (ly.length + (ly.map Layout.size).sum) + (bl.length + (bl.map Blk.size).sum) + cp.length ≤ 1048576 := hs
  have hl : (Prog.enc (.mk ly bl cp)).length ≤ lim := by
    have := Prog.enc_len (.mk ly bl cp)
    unfold lim; omega
  rw [Prog.enc_eq] at hl ⊢
  let X := Prog.ts (.mk ly bl cp)
  refine P1.of ?_
  show impl_codeBytes X = _
  rw [impl_codeBytes_eq]
  have h6 := lim_le hl
  have h5 := lim_le h6
  have h4 := lim_le h5
  have h3 := lim_le h4
  have h2 := lim_le h3
  refine Eq.trans (PutNumI ly.length [76, 75] h2).call ?_
  -- layouts
  refine Eq.trans (loop_same (J := fun i s => impl_codeBytes_j1 i (layouts ly) (((layouts ly).1 : Nat) : Int) s X) (xs := ly) (enc := Layout.enc) _ h3 (fun pre a q l hp hm => ?_)) ?_
  · have hlt := len_mid hp
    have has := lay_sz (by omega) (mem_mid hp)
    have at1 : ∀ {R : Type} (f : LS.Ts [.sl 1] → Option R), oat [(.sl 1)] (layouts ly).1 (layouts ly).2 (pre.length : Int) f = f a.ts := fun f => oat_mid hp rfl
    try simp only
    rw [impl_codeBytes_j1_eq, oite_dec, if_pos (show (pre.length : Int) < ((layouts ly).1 : Nat) by show (pre.length : Int) < (ly.length : Nat); omega)]
    simp only [at1]
    unfold Layout.enc at hm ⊢
    rw [← List.append_assoc] at hm ⊢
    refine Eq.trans (PutNumI a.cons.length l (lim_le hm)).call ?_
    refine Eq.trans (loop_same (J := fun i s => impl_codeBytes_j2 i a.ts.1 (layouts ly) (((layouts ly).1 : Nat) : Int) (pre.length : Int) ((a.ts.1.1 : Nat) : Int) s X) (xs := a.cons) (enc := encTys) _ hm (fun pre2 c q2 l hp2 hm => ?_)) ?_
    · have hlt2 := len_mid hp2
      have hcs := con_sz has (mem_mid hp2)
      have at2 : ∀ {R : Type} (f : LS.Ts [.sl 3] → Option R), oat [(.sl 3)] a.ts.1.1 a.ts.1.2 (pre2.length : Int) f = f (tys c, ()) := fun f => oat_mid (g := consTs) hp2 rfl
      try simp only
      rw [impl_codeBytes_j2_eq]
      simp only [at2]
      rw [oite_dec, if_pos (show (pre2.length : Int) < (a.ts.1.1 : Nat) by show (pre2.length : Int) < (a.cons.length : Nat); omega)]
      rw [(putTys_ok c (by unfold tysSize; omega) l hm).call, w64_succ (by omega)]
    · try simp only
      rw [impl_codeBytes_j2_eq]
      rw [oite_dec, if_neg (show ¬ (a.cons.length : Int) < (a.ts.1.1 : Nat) by show ¬ (a.cons.length : Int) < (a.cons.length : Nat); omega), w64_succ (by omega)]
  try simp only
  rw [impl_codeBytes_j1_eq, oite_dec, if_neg (show ¬ (ly.length : Int) < ((layouts ly).1 : Nat) by show ¬ (ly.length : Int) < (ly.length : Nat); omega)]
  -- caps
  have hn : ∀ l : List Int, l ++ encNum cp.length ++ (cp.map encNum).flatten = l ++ encNums cp := fun l => by simp [encNums]
  rw [hn] at h5 hl h6 ⊢
  refine Eq.trans (putNums_ok cp (by omega) _ h5).call ?_
  rw [osame_t, osame_t]
  refine Eq.trans (PutNumI bl.length _ h6).call ?_
  -- blocks
  refine Eq.trans (loop_same (J := fun i s => impl_codeBytes_j3 i (blocks bl) (((blocks bl).1 : Nat) : Int) s) (xs := bl) (enc := Blk.enc) _ hl (fun pre b q l hp hm => ?_)) ?_
  · have hlt := len_mid hp
    have hbs := sizes_mem (f := Blk.size) (mem_mid hp)
    have at1 : ∀ {R : Type} (f : T_Block → Option R), oat sh_Block (blocks bl).1 (blocks bl).2 (pre.length : Int) f = f b.ts := fun f => oat_mid hp rfl
    obtain ⟨env, arg, res, locals, code⟩ := b
    have hb : tysSize env + arg.size + res.size + tysSize locals + (code.length + (code.map Ins.size).sum) = Blk.size (.mk env arg res locals code) := rfl
    rw [Blk.enc_eq] at hm ⊢
    have g6 := lim_le hm
    have g5 := lim_le g6
    have g4 := lim_le g5
    have g3 := lim_le g4
    have g2 := lim_le g3
    try simp only
    rw [impl_codeBytes_j3_eq, oite_dec, if_pos (show (pre.length : Int) < ((blocks bl).1 : Nat) by show (pre.length : Int) < (bl.length : Nat); omega)]
    simp only [at1]
    refine Eq.trans (putTys_ok env (by omega) l g2).call ?_
    refine Eq.trans (putTy_ok arg (by omega) _ g3).call ?_
    rw [osame_t]
    refine Eq.trans (putTy_ok res (by omega) _ g4).call ?_
    refine Eq.trans (putTys_ok locals (by omega) _ g5).call ?_
    rw [osame_t, osame_t]
    refine Eq.trans (PutNumI code.length _ g6).call ?_
    rw [j4_same]
    have hcd : ([] ++ (code.map Ins.enc).flatten).length ≤ lim := by rw [List.length_append] at hm; simp only [List.nil_append]; omega
    refine Eq.trans (loop_same (J := fun i s => impl_codeBytes_j4v1 i (inss code) (blocks bl) (((blocks bl).1 : Nat) : Int) (pre.length : Int) (((inss code).1 : Nat) : Int) s (bytes (l ++ encTys env ++ arg.enc ++ res.enc ++ encTys locals ++ encNum code.length))) (xs := code) (enc := Ins.enc) [] hcd (fun pre2 c q2 l hp2 hm => ?_)) ?_
    · have hlt2 := len_mid hp2
      have hcs := sizes_mem (f := Ins.size) (mem_mid hp2)
      have at2 : ∀ {R : Type} (f : T_Ins → Option R), oat sh_Ins (inss code).1 (inss code).2 (pre2.length : Int) f = f c.ts := fun f => oat_mid hp2 rfl
      try simp only
      rw [impl_codeBytes_j4v1_eq, oite_dec, if_pos (show (pre2.length : Int) < ((inss code).1 : Nat) by show (pre2.length : Int) < (code.length : Nat); omega)]
      simp only [at2]
      have hc := putIns_ok c (by omega) [] (by rw [List.length_append] at hm; simp only [List.nil_append]; omega)
      refine Eq.trans hc.call ?_
      rw [List.nil_append, oguard_dec (show ((bytes l).1 + (bytes c.enc).1) * 1 ≤ 140737488351232 by rw [bytes_n, bytes_n, ← List.length_append]; unfold lim at hm; omega), olet_eq, bytes_app, w64_succ (by omega)]
    · try simp only
      rw [impl_codeBytes_j4v1_eq, oite_dec, if_neg (show ¬ (code.length : Int) < ((inss code).1 : Nat) by show ¬ (code.length : Int) < (code.length : Nat); omega)]
      rw [List.nil_append]
      rw [oguard_dec (by rw [bytes_n, bytes_n, ← List.length_append]; unfold lim at hm; omega), olet_eq, bytes_app, w64_succ (by omega)]
  try simp only
  rw [impl_codeBytes_j3_eq, oite_dec, if_neg (show ¬ (bl.length : Int) < ((blocks bl).1 : Nat) by show ¬ (bl.length : Int) < (bl.length : Nat); omega)]

end Go.Ev.Q

/-
  A program of one's own is marked: only how often counts.
-/
namespace Go.Ev.Q
open Go Go.Ev

theorem markIntS2_ok (l : List Int) (hs : l.length ≤ 1048576) (k : Nat) (hk : (k : Int) + 4 * l.length < 4611686018427387904) : Mk 1 l.length (laws_markIntS_o_v2 k (ints l)) k l.length :=
  mark_leaf (wr := fun x => x) laws_markIntS_o_v2_eq laws_markIntS_o_v2_j1_eq l hs k hk
theorem markByteS2_ok (l : List Int) (hs : l.length ≤ 1048576) (k : Nat) (hk : (k : Int) + 4 * l.length < 4611686018427387904) : Mk 1 l.length (laws_markByteS_o k (bytes l)) k l.length :=
  mark_leaf (wr := fun x => IntKind.wrap .u8 x) laws_markByteS_o_eq laws_markByteS_o_j1_eq l hs k hk
theorem markTyS_ok (l : List Ty) (hs : tysSize l ≤ 1048576) (k : Nat) (hk : (k : Int) + 4 * tysSize l < 4611686018427387904) : Mk 3 l.length (laws_markTyS_o k (tys l)) k (tysSize l) := by
  have h := markTy_ok (.mk 0 0 l) k
  rw [Ty.size_mk, Ty.ts_mk] at h
  exact h hs hk

theorem markTySS_ok (l : List (List Ty)) (hs : l.length + (l.map tysSize).sum ≤ 1048576) (k : Nat) (hk : (k : Int) + 4 * (l.length + (l.map tysSize).sum) < 4611686018427387904) : Mk 1 l.length (laws_markTySS_o k (tyss l)) k (l.length + (l.map tysSize).sum) := by
  refine mark_gen (sh := [.sl 3]) (g := consTs) laws_markTySS_o_eq l hs (fun k es => ?_) (fun i k es a ha hi he hg hk => ?_) k hk
  · rw [laws_markTySS_o_j1_eq, oite_dec, if_neg (by simp)]
  · have hgd : (0 : Int) ≤ (i : Int) ∧ (i : Int) < (l.length : Nat) := ⟨by omega, by omega⟩
    have hg : es.getD i [] = [D.sl false 3 (tys a).1 (tys a).2] := hg
    have hsa : tysSize a ≤ 1048576 := by have := sizes_mem (f := tysSize) ha; omega
    have wi : w64 ((i : Int) + 1) = ((i + 1 : Nat) : Int) := w64_succ (by omega)
    obtain ⟨k2, es2, e1, e2, e3⟩ := markTyS_ok a hsa k (by omega)
    rw [laws_markTySS_o_j1_eq, oite_dec, if_pos (show (i : Int) < (l.length : Nat) by omega)]
    simp only [oguard_dec hgd, wi, Int.toNat_natCast, hg, putD, List.set_cons_zero, List.drop_zero, List.take_succ_cons, List.take_zero, ocells_sl]
    rw [show laws_markTyS_o (k : Int) ((tys a).1, (tys a).2) = _ from e1, ocall_mk]
    exact ⟨k2, _, by omega, by omega, rfl⟩
theorem markLayoutS_ok (l : List Layout) (hs : l.length + (l.map Layout.size).sum ≤ 1048576) (k : Nat) (hk : (k : Int) + 4 * (l.length + (l.map Layout.size).sum) < 4611686018427387904) : Mk 1 l.length (laws_markLayoutS_o k (layouts l)) k (l.length + (l.map Layout.size).sum) := by
  refine mark_gen (sh := [.sl 1]) (g := Layout.ts) laws_markLayoutS_o_eq l hs (fun k es => ?_) (fun i k es a ha hi he hg hk => ?_) k hk
  · rw [laws_markLayoutS_o_j1_eq, oite_dec, if_neg (by simp)]
  · have hgd : (0 : Int) ≤ (i : Int) ∧ (i : Int) < (l.length : Nat) := ⟨by omega, by omega⟩
    have hg : es.getD i [] = [D.sl false 1 (tyss a.cons).1 (tyss a.cons).2] := hg
    have hsa : a.size ≤ 1048576 := by have := sizes_mem (f := Layout.size) ha; omega
    have wi : w64 ((i : Int) + 1) = ((i + 1 : Nat) : Int) := w64_succ (by omega)
    have hk2 : (k : Int) + 4 * (a.cons.length + (a.cons.map tysSize).sum) < 4611686018427387904 := by unfold Layout.size at hk; omega
    obtain ⟨k2, es2, e1, e2, e3⟩ := markTySS_ok a.cons hsa k hk2
    rw [laws_markLayoutS_o_j1_eq, oite_dec, if_pos (show (i : Int) < (l.length : Nat) by omega)]
    simp only [oguard_dec hgd, wi, Int.toNat_natCast, hg, putD, List.set_cons_zero, List.drop_zero, List.take_succ_cons, List.take_zero, ocells_sl]
    rw [show laws_markTySS_o (k : Int) ((tyss a.cons).1, (tyss a.cons).2) = _ from e1, ocall_mk]
    exact ⟨k2, _, by omega, by unfold Layout.size; omega, rfl⟩

theorem ins_cells {a b c : Int} {s t : Sl} : vDs (LS.encs sh_Ins (a, b, c, s, t, ())) = [D.int .i64 a, D.int .i64 b, D.int .i64 c, D.sl false 1 s.1 s.2, D.sl false 1 t.1 t.2] := rfl
theorem markInsS_ok (l : List Ins) (hs : inssSize l ≤ 1048576) (k : Nat) (hk : (k : Int) + 4 * inssSize l < 4611686018427387904) : Mk 5 l.length (laws_markInsS_o k (inss l)) k (inssSize l) := by
  unfold inssSize at hs hk ⊢
  refine mark_gen (sh := sh_Ins) (g := Ins.ts) laws_markInsS_o_eq l hs (fun k es => ?_) (fun i k es a ha hi he hg hk => ?_) k hk
  · rw [laws_markInsS_o_j1_eq, oite_dec, if_neg (by simp)]
  · obtain ⟨op, a1, b1, lit, to⟩ := a
    have hgd : (0 : Int) ≤ (i : Int) ∧ (i : Int) < (l.length : Nat) := ⟨by omega, by omega⟩
    rw [Ins.ts_mk, ins_cells] at hg
    have hsa : lit.length + to.length ≤ 1048576 := by have : lit.length + to.length ≤ _ := sizes_mem (f := Ins.size) ha; omega
    have hk : (k : Int) + 4 * (1 + (lit.length + to.length)) < 4611686018427387904 := hk
    have w1 : w64 ((k : Int) + 1) = ((k + 1 : Nat) : Int) := w64_succ (by omega)
    have w2 : w64 (((k + 1 : Nat) : Int) + 1) = ((k + 2 : Nat) : Int) := w64_succ (by omega)
    have w3 : w64 (((k + 2 : Nat) : Int) + 1) = ((k + 3 : Nat) : Int) := w64_succ (by omega)
    have wi : w64 ((i : Int) + 1) = ((i + 1 : Nat) : Int) := w64_succ (by omega)
    obtain ⟨k2, es2, e1, e2, e3⟩ := markByteS2_ok lit (by omega) (k + 3) (by omega)
    obtain ⟨k3, es3, f1, f2, f3⟩ := markIntS2_ok to (by omega) k2 (by omega)
    have hset : ∀ c : List D, (es.set i c).getD i [] = c := fun c => getD_set_self (by omega)
    rw [laws_markInsS_o_j1_eq, oite_dec, if_pos (show (i : Int) < (l.length : Nat) by omega)]
    simp only [oguard_dec hgd, olet_eq, w1, w2, w3, wi, Int.toNat_natCast, hg, hset, List.set_set, putD, List.set_cons_zero, List.set_cons_succ, List.drop_succ_cons, List.drop_zero, List.take_succ_cons, List.take_zero, ocells_sl]
    rw [show laws_markByteS_o ((k + 3 : Nat) : Int) ((bytes lit).1, (bytes lit).2) = _ from e1, ocall_mk]
    rw [show laws_markIntS_o_v2 (k2 : Int) ((ints to).1, (ints to).2) = _ from f1, ocall_mk]
    exact ⟨k3, _, by omega, by show k3 ≤ k + 4 * (1 + (lit.length + to.length)); omega, rfl⟩

theorem blk_cells {e : Sl} {a1 a2 : Int} {a3 : Sl} {r1 r2 : Int} {r3 s t : Sl} : vDs (LS.encs sh_Block (e, a1, a2, a3, r1, r2, r3, s, t, ())) = [D.sl false 3 e.1 e.2, D.int .i64 a1, D.int .i64 a2, D.sl false 3 a3.1 a3.2, D.int .i64 r1, D.int .i64 r2, D.sl false 3 r3.1 r3.2, D.sl false 3 s.1 s.2, D.sl false 5 t.1 t.2] := rfl
theorem markBlockS_ok (l : List Blk) (hs : l.length + (l.map Blk.size).sum ≤ 1048576) (k : Nat) (hk : (k : Int) + 4 * (l.length + (l.map Blk.size).sum) < 4611686018427387904) : Mk 9 l.length (laws_markBlockS_o k (blocks l)) k (l.length + (l.map Blk.size).sum) := by
  refine mark_gen (sh := sh_Block) (g := Blk.ts) laws_markBlockS_o_eq l hs (fun k es => ?_) (fun i k es a ha hi he hg hk => ?_) k hk
  · rw [laws_markBlockS_o_j1_eq, oite_dec, if_neg (by simp)]
  · obtain ⟨env, arg, res, locals, code⟩ := a
    have hgd : (0 : Int) ≤ (i : Int) ∧ (i : Int) < (l.length : Nat) := ⟨by omega, by omega⟩
    rw [Blk.ts_mk, blk_cells] at hg
    have hz : Blk.size (.mk env arg res locals code) = tysSize env + arg.size + res.size + tysSize locals + inssSize code := rfl
    have hsa : Blk.size (.mk env arg res locals code) ≤ 1048576 := by have := sizes_mem (f := Blk.size) ha; omega
    rw [hz] at hk hsa ⊢
    have wi : w64 ((i : Int) + 1) = ((i + 1 : Nat) : Int) := w64_succ (by omega)
    obtain ⟨k1, es1, e1, e2, e3⟩ := markTyS_ok env (by omega) k (by omega)
    have w1 : w64 ((k1 : Int) + 1) = ((k1 + 1 : Nat) : Int) := w64_succ (by omega)
    have w2 : w64 (((k1 + 1 : Nat) : Int) + 1) = ((k1 + 2 : Nat) : Int) := w64_succ (by omega)
    obtain ⟨k2, es2, f1, f2, f3⟩ := markTy_ok arg (k1 + 2) (by omega) (by omega)
    have w3 : w64 ((k2 : Int) + 1) = ((k2 + 1 : Nat) : Int) := w64_succ (by omega)
    have w4 : w64 (((k2 + 1 : Nat) : Int) + 1) = ((k2 + 2 : Nat) : Int) := w64_succ (by omega)
    obtain ⟨k3, es3, g1, g2, g3⟩ := markTy_ok res (k2 + 2) (by omega) (by omega)
    obtain ⟨k4, es4, h1, h2, h3⟩ := markTyS_ok locals (by omega) k3 (by omega)
    obtain ⟨k5, es5, j1, j2, j3⟩ := markInsS_ok code (by omega) k4 (by omega)
    have hset : ∀ c : List D, (es.set i c).getD i [] = c := fun c => getD_set_self (by omega)
    rw [laws_markBlockS_o_j1_eq, oite_dec, if_pos (show (i : Int) < (l.length : Nat) by omega)]
    simp only [oguard_dec hgd, olet_eq, wi, Int.toNat_natCast, hg, hset, List.set_set, putD, List.set_cons_zero, List.set_cons_succ, List.drop_succ_cons, List.drop_zero, List.take_succ_cons, List.take_zero, ocells_sl]
    rw [show laws_markTyS_o (k : Int) ((tys env).1, (tys env).2) = _ from e1, ocall_mk]
    simp only [oguard_dec hgd, olet_eq, w1, w2, hset, List.set_set, putD, List.set_cons_zero, List.set_cons_succ, List.drop_succ_cons, List.drop_zero, List.take_succ_cons, List.take_zero, ocells_sl]
    rw [show laws_markTyS_o ((k1 + 2 : Nat) : Int) (arg.ts.2.2.1.1, arg.ts.2.2.1.2) = _ from f1, ocall_mk]
    simp only [oguard_dec hgd, olet_eq, w3, w4, hset, List.set_set, putD, List.set_cons_zero, List.set_cons_succ, List.drop_succ_cons, List.drop_zero, List.take_succ_cons, List.take_zero, ocells_sl]
    rw [show laws_markTyS_o ((k2 + 2 : Nat) : Int) (res.ts.2.2.1.1, res.ts.2.2.1.2) = _ from g1, ocall_mk]
    simp only [oguard_dec hgd, olet_eq, hset, List.set_set, putD, List.set_cons_zero, List.set_cons_succ, List.drop_succ_cons, List.drop_zero, List.take_succ_cons, List.take_zero, ocells_sl]
    rw [show laws_markTyS_o (k3 : Int) ((tys locals).1, (tys locals).2) = _ from h1, ocall_mk]
    simp only [oguard_dec hgd, olet_eq, hset, List.set_set, putD, List.set_cons_zero, List.set_cons_succ, List.drop_succ_cons, List.drop_zero, List.take_succ_cons, List.take_zero, ocells_sl]
    rw [show laws_markInsS_o (k4 : Int) ((inss code).1, (inss code).2) = _ from j1, ocall_mk]
    exact ⟨k5, _, by omega, by omega, rfl⟩

theorem markProgram_ok (x : Prog) (hs : x.size ≤ 1048576) : ∃ (k : Nat) (m : ES.Ts [.lrow 1 false, .lrow 9 false, .lrow 1 false]), laws_markProgram 1 x.ts.1 x.ts.2.1 x.ts.2.2.1 = some (.d (.int .i64 (k : Int)), ES.encs [.lrow 1 false, .lrow 9 false, .lrow 1 false] m) := by
  obtain ⟨l, b, c⟩ := x
  simp only [Prog.size] at hs
  obtain ⟨k1, es1, e1, e2, e3⟩ := markLayoutS_ok l (by omega) 1 (by omega)
  obtain ⟨k2, es2, f1, f2, f3⟩ := markBlockS_ok b (by omega) k1 (by omega)
  obtain ⟨k3, es3, g1, g2, g3⟩ := markIntS2_ok c (by omega) k2 (by omega)
  refine ⟨k3, ((l.length, es1), (b.length, es2), (c.length, es3), ()), ?_⟩
  rw [laws_markProgram_eq, Prog.ts_mk]
  simp only
  rw [show laws_markLayoutS_o 1 (layouts l) = _ from e1, ocall_mk, f1, ocall_mk, g1, ocall_mk]
  rfl
end Go.Ev.Q
