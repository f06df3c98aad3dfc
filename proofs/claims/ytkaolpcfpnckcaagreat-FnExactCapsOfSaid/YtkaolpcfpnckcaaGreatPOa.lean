import Derived.Test.YtkaolpcfpnckcaaGreatQCaps
import Derived.Test.YtkaolpcfpnckcaaGreatEvOwn
set_option linter.unusedVariables false
set_option linter.unusedSimpArgs false
/-
  Types and numbers are taken over, weighed and compared as wanted.
-/
namespace Go.Ev.Q
open Go Go.Ev

theorem sizes_mem {α : Type} {f : α → Nat} : ∀ {l : List α} {a : α}, a ∈ l → f a ≤ (l.map f).sum
  | b :: l, a, h => by
    simp only [List.map_cons, List.sum_cons]
    rcases List.mem_cons.1 h with rfl | h
    · omega
    · have := sizes_mem (f := f) h; omega

theorem toIntS_ok (l : List Int) (hl : l.length ≤ 1048576) : laws_toIntS (ints l) = rO 1 (ints l) :=
  to_leafO laws_toIntS_eq laws_toIntS_j1_eq l (by omega) (by omega)
theorem eqIntS_ok (l : List Int) (hl : l.length ≤ 1048576) : laws_eqIntS (ints l) (ints l) = some (.d (.bool true), []) :=
  eq_leaf laws_eqIntS_eq laws_eqIntS_j1_eq l (by omega)
theorem szIntS_ok (l : List Int) (hl : lenOk l) (n : Nat) (hn : (n : Int) < 9223372036854775807) : laws_szIntS (ints l) n = some (.d (.int .i64 (if l.length ≤ n then ((n - l.length : Nat) : Int) else -1)), []) :=
  sz_leaf laws_szIntS_eq (ints l) hl n hn
theorem toByteS_ok (l : List Int) (hl : l.length ≤ 1048576) : laws_toByteS (bytes l) = rO 1 (bytes l) :=
  to_leafO laws_toByteS_eq laws_toByteS_j1_eq l (by omega) (by omega)
theorem eqByteS_ok (l : List Int) (hl : l.length ≤ 1048576) : laws_eqByteS (bytes l) (bytes l) = some (.d (.bool true), []) :=
  eq_leaf laws_eqByteS_eq laws_eqByteS_j1_eq l (by omega)
theorem szByteS_ok (l : List Int) (hl : lenOk l) (n : Nat) (hn : (n : Int) < 9223372036854775807) : laws_szByteS (bytes l) n = some (.d (.int .i64 (if l.length ≤ n then ((n - l.length : Nat) : Int) else -1)), []) :=
  sz_leaf laws_szByteS_eq (bytes l) hl n hn

theorem szTy_ok (t : Ty) : t.ok → ∀ n : Nat, (n : Int) < 9223372036854775807 → laws_szTy t.ts n = some (.d (.int .i64 (if t.size ≤ n then ((n - t.size : Nat) : Int) else -1)), []) := by
  induction t using Ty.ind with
  | h k n l ih =>
    intro ho m hm
    cases ho with
    | mk hk hn hl ha =>
      rw [laws_szTy_eq, Ty.ts_mk]
      have h := sz_gen (sh := sh_Ty) rfl laws_szTyS_eq laws_szTyS_j1_eq (g := Ty.ts) (size := Ty.size) l hl (fun a h => ih a h (ha a h)) m hm
      rw [show tys l = sl (sh := sh_Ty) Ty.ts l from rfl, h, ocall_int, oite_dec, ← Ty.size_mk (k := k) (n := n)]
      by_cases h1 : (Ty.mk k n l).size ≤ m
      · simp only [if_pos h1]; rw [if_neg (show ¬ (((m - (Ty.mk k n l).size : Nat) : Int) < 0) by omega)]
      · simp only [if_neg h1]; rw [if_pos (by decide)]
/-- A type of one's own, as a call returns it. -/
abbrev tyO (t : T_Ty) : Res := some (.agg [.d (.int .i64 t.1), .d (.int .i64 t.2.1), .own 0], [.lrow 3 t.2.2.1.1 false t.2.2.1.2])
theorem ocall_tyO {R : Type} {t : T_Ty} {f : Int × Int × Unit × Unit → Sl × Unit → Option R} : ocall (.m (.agg [.int .i64, .int .i64, .own 0])) [.lrow 3 false] (tyO t) f = f (t.1, t.2.1, (), ()) (t.2.2.1, ()) :=
  ocall_t (s := .m (.agg [.int .i64, .int .i64, .own 0])) (m := [.lrow 3 false]) (t := (t.1, t.2.1, (), ())) (u := (t.2.2.1, ())) rfl rfl ES.decs_lrow
theorem toTy_ok (t : Ty) : t.size ≤ 1048576 → laws_toTy t.ts = tyO t.ts := by
  induction t using Ty.ind with
  | h k n l ih =>
    intro hs
    rw [Ty.size_mk] at hs
    rw [laws_toTy_eq, Ty.ts_mk]
    have h := to_genG (sh := sh_Ty) rfl (K := rO 3) (z := vDs (LS.encs sh_Ty ((0 : Int), (0 : Int), (0, []), ()))) rfl (G := fun t k => ocall (.m (.agg [.int .i64, .int .i64, .own 0])) [.lrow 3 false] (laws_toTy t) fun r m => k (vDs (LS.encs sh_Ty (r.1, r.2.1, m.1, ())))) laws_toTyS_eq laws_toTyS_j1_eq (g := Ty.ts) l (by omega) (by omega) (fun a h k => by
      show ocall _ _ (laws_toTy a.ts) _ = _
      rw [ih a h (by have := sizes_mem (f := Ty.size) h; omega), ocall_tyO])
    rw [show tys l = sl (sh := sh_Ty) Ty.ts l from rfl, h, ocall_own]
theorem eqTy_ok (t : Ty) : t.size ≤ 1048576 → laws_eqTy t.ts t.ts = some (.d (.bool true), []) := by
  induction t using Ty.ind with
  | h k n l ih =>
    intro hs
    rw [Ty.size_mk] at hs
    rw [laws_eqTy_eq, Ty.ts_mk]
    have h := eq_gen (sh := sh_Ty) rfl laws_eqTyS_eq laws_eqTyS_j1_eq (g := Ty.ts) l (by omega) (fun a h => ih a h (by have := sizes_mem (f := Ty.size) h; omega))
    rw [show tys l = sl (sh := sh_Ty) Ty.ts l from rfl, h, ocall_bool]
    simp only [oite_not, beq_self_eq_true, oite_t]

/-! marks -/
theorem ty_cells {k n : Int} {s : Sl} : vDs (LS.encs sh_Ty (k, n, s, ())) = [D.int .i64 k, D.int .i64 n, D.sl false 3 s.1 s.2] := rfl
theorem markTy_ok (t : Ty) : ∀ k : Nat, t.size ≤ 1048576 → (k : Int) + 4 * t.size < 4611686018427387904 → Mk 3 t.ts.2.2.1.1 (laws_markTyS_o k t.ts.2.2.1) k t.size := by
  induction t using Ty.ind with
  | h k0 n0 l ih =>
    intro k hs hk
    rw [Ty.size_mk] at hs hk ⊢
    rw [Ty.ts_mk]
    refine mark_gen (sh := sh_Ty) (g := Ty.ts) laws_markTyS_o_eq l hs (fun k es => ?_) (fun i k es a ha hi he hg hk => ?_) k hk
    · rw [laws_markTyS_o_j1_eq, oite_dec, if_neg (by simp)]
    · obtain ⟨ka, na, la⟩ := a
      have hgd : (0 : Int) ≤ (i : Int) ∧ (i : Int) < (l.length : Nat) := ⟨by omega, by omega⟩
      rw [Ty.ts_mk, ty_cells] at hg
      have hsa : (Ty.mk ka na la).size ≤ 1048576 := by have := sizes_mem (f := Ty.size) ha; omega
      have w1 : w64 ((k : Int) + 1) = ((k + 1 : Nat) : Int) := w64_succ (by omega)
      have w2 : w64 (((k + 1 : Nat) : Int) + 1) = ((k + 2 : Nat) : Int) := w64_succ (by omega)
      have wi : w64 ((i : Int) + 1) = ((i + 1 : Nat) : Int) := w64_succ (by omega)
      obtain ⟨k2, es2, e1, e2, e3⟩ := ih _ ha (k + 2) hsa (by omega)
      rw [Ty.ts_mk] at e1
      rw [laws_markTyS_o_j1_eq, oite_dec, if_pos (show (i : Int) < (l.length : Nat) by omega)]
      simp only [oguard_dec hgd, olet_eq, w1, w2, wi, Int.toNat_natCast, hg, getD_set_self (es := es) (i := i) (by omega), List.set_set, putD, List.set_cons_zero, List.set_cons_succ, List.drop_succ_cons, List.drop_zero, List.take_succ_cons, List.take_zero, ocells_sl]
      rw [show laws_markTyS_o ((k + 2 : Nat) : Int) ((tys la).1, (tys la).2) = _ from e1, ocall_mk]
      exact ⟨k2, _, by omega, by omega, rfl⟩
end Go.Ev.Q

/-
  Bulks, one after the other; what a call in a call comes to.
-/
namespace Go.Ev
open Go

abbrev szR (n s : Nat) : Res := some (.d (.int .i64 (if s ≤ n then ((n - s : Nat) : Int) else -1)), [])
theorem Ty.eta' (t : Ty) : (t.ts.1, t.ts.2.1, t.ts.2.2.1, ()) = t.ts := rfl
theorem sz_step {n s t : Nat} {x : Res} (h : x = szR n s) {K : Int → Unit → Res} (hK : ∀ m : Nat, m ≤ n → K m () = szR m t) :
    (ocall (.m (.one (.int .i64))) [] x fun r u => oite (decide (r < (0 : Int))) (some (.d (.int .i64 (-1 : Int)), [])) (K r u)) = szR n (s + t) := by
  rw [h, ocall_int, oite_dec]
  by_cases h1 : s ≤ n
  · simp only [if_pos h1]
    rw [if_neg (show ¬ (((n - s : Nat) : Int) < 0) by omega), hK _ (by omega)]
    unfold szR
    by_cases h2 : t ≤ n - s
    · simp only [if_pos h2]
      rw [if_pos (show s + t ≤ n by omega), show n - s - t = n - (s + t) by omega]
    · simp only [if_neg h2]
      rw [if_neg (show ¬ (s + t ≤ n) by omega)]
  · unfold szR
    simp only [if_neg h1]
    rw [if_pos (by decide), if_neg (show ¬ (s + t ≤ n) by omega)]
theorem sz_end {n s : Nat} {x : Res} (h : x = szR n s) :
    (ocall (.m (.one (.int .i64))) [] x fun r (_ : Unit) => oite (decide (r < (0 : Int))) (some (.d (.int .i64 (-1 : Int)), [])) (some (.d (.int .i64 r), []))) = szR n s := by
  have := sz_step (t := 0) h (K := fun r _ => some (.d (.int .i64 r), [])) (fun m hm => by simp [szR])
  simpa using this
theorem ocall_assoc {s s' : Sh} {m m' : List ES} {x : Option (V × Mem)} {k : s'.T → ES.Ts m' → Res} {R : Type} {f : s.T → ES.Ts m → Option R} : ocall s m (ocall s' m' x k) f = ocall s' m' x fun r u => ocall s m (k r u) f := by
  cases x with
  | none => simp only [ocall]
  | some p =>
    obtain ⟨v, M⟩ := p
    rw [ocall_v, ocall_v]
    split <;> first | rfl | simp only [ocall]
end Go.Ev

/-
  Programs are taken over, weighed and compared as wanted.
-/
namespace Go.Ev.Q
open Go Go.Ev

theorem szTyS_ok (l : List Ty) (hl : lenOk l) (ha : ∀ x ∈ l, x.ok) (n : Nat) (hn : (n : Int) < 9223372036854775807) : laws_szTyS (tys l) n = szR n (tysSize l) :=
  sz_gen (sh := sh_Ty) rfl laws_szTyS_eq laws_szTyS_j1_eq (g := Ty.ts) (size := Ty.size) l hl (fun a h => szTy_ok a (ha a h)) n hn
theorem toTyS_ok (l : List Ty) (hs : tysSize l ≤ 1048576) : laws_toTyS (tys l) = rO 3 (tys l) := by
  unfold tysSize at hs
  exact to_genG (sh := sh_Ty) rfl (K := rO 3) (z := vDs (LS.encs sh_Ty ((0 : Int), (0 : Int), (0, []), ()))) rfl (G := fun t k => ocall (.m (.agg [.int .i64, .int .i64, .own 0])) [.lrow 3 false] (laws_toTy t) fun r m => k (vDs (LS.encs sh_Ty (r.1, r.2.1, m.1, ())))) laws_toTyS_eq laws_toTyS_j1_eq (g := Ty.ts) l (by omega) (by omega) (fun a h k => by
    show ocall _ _ (laws_toTy a.ts) _ = _
    rw [toTy_ok a (by have := sizes_mem (f := Ty.size) h; omega), ocall_tyO])
theorem eqTyS_ok (l : List Ty) (hs : tysSize l ≤ 1048576) : laws_eqTyS (tys l) (tys l) = some (.d (.bool true), []) := by
  unfold tysSize at hs
  exact eq_gen (sh := sh_Ty) rfl laws_eqTyS_eq laws_eqTyS_j1_eq (g := Ty.ts) l (by omega) (fun a h => eqTy_ok a (by have := sizes_mem (f := Ty.size) h; omega))

theorem szIns_ok (x : Ins) (ho : x.ok) (n : Nat) (hn : (n : Int) < 9223372036854775807) : laws_szIns x.ts n = szR n x.size := by
  cases ho with
  | mk h1 h2 h3 hl ht =>
    rw [laws_szIns_eq, Ins.ts_mk]
    exact sz_step (szByteS_ok _ hl n hn) fun m hm => sz_end (szIntS_ok _ ht m (by omega))
abbrev insO (t : T_Ins) : Res := some (.agg [.d (.int .i64 t.1), .d (.int .i64 t.2.1), .d (.int .i64 t.2.2.1), .own 0, .own 1], [.lrow 1 t.2.2.2.1.1 false t.2.2.2.1.2, .lrow 1 t.2.2.2.2.1.1 false t.2.2.2.2.1.2])
theorem ocall_insO {R : Type} {t : T_Ins} {f : Int × Int × Int × Unit × Unit × Unit → Sl × Sl × Unit → Option R} : ocall (.m (.agg [.int .i64, .int .i64, .int .i64, .own 0, .own 1])) [.lrow 1 false, .lrow 1 false] (insO t) f = f (t.1, t.2.1, t.2.2.1, (), (), ()) (t.2.2.2.1, t.2.2.2.2.1, ()) :=
  ocall_t (s := .m (.agg [.int .i64, .int .i64, .int .i64, .own 0, .own 1])) (m := [.lrow 1 false, .lrow 1 false]) (t := (t.1, t.2.1, t.2.2.1, (), (), ())) (u := (t.2.2.2.1, t.2.2.2.2.1, ())) rfl rfl (by simp only [ES.decs, ES.dec_lrow])
theorem toIns_ok (x : Ins) (hs : x.size ≤ 1048576) : laws_toIns x.ts = insO x.ts := by
  obtain ⟨op, a, b, lit, to⟩ := x
  unfold Ins.size at hs
  rw [laws_toIns_eq, Ins.ts_mk]
  simp only at hs ⊢
  rw [toByteS_ok lit (by omega), ocall_own, toIntS_ok to (by omega), ocall_own]
theorem eqIns_ok (x : Ins) (hs : x.size ≤ 1048576) : laws_eqIns x.ts x.ts = some (.d (.bool true), []) := by
  obtain ⟨op, a, b, lit, to⟩ := x
  unfold Ins.size at hs
  rw [laws_eqIns_eq, Ins.ts_mk]
  simp only at hs ⊢
  simp only [oite_not, beq_self_eq_true, oite_t, eqByteS_ok lit (by omega), eqIntS_ok to (by omega), ocall_bool]
noncomputable def inssSize (l : List Ins) : Nat := l.length + (l.map Ins.size).sum
theorem szInsS_ok (l : List Ins) (hl : lenOk l) (ha : ∀ x ∈ l, x.ok) (n : Nat) (hn : (n : Int) < 9223372036854775807) : laws_szInsS (inss l) n = szR n (inssSize l) :=
  sz_gen (sh := sh_Ins) rfl laws_szInsS_eq laws_szInsS_j1_eq (g := Ins.ts) (size := Ins.size) l hl (fun a h => szIns_ok a (ha a h)) n hn
theorem toInsS_ok (l : List Ins) (hs : inssSize l ≤ 1048576) : laws_toInsS (inss l) = rO 5 (inss l) := by
  unfold inssSize at hs
  exact to_genG (sh := sh_Ins) rfl (K := rO 5) (z := vDs (LS.encs sh_Ins ((0 : Int), (0 : Int), (0 : Int), (0, []), (0, []), ()))) rfl (G := fun t k => ocall (.m (.agg [.int .i64, .int .i64, .int .i64, .own 0, .own 1])) [.lrow 1 false, .lrow 1 false] (laws_toIns t) fun r m => k (vDs (LS.encs sh_Ins (r.1, r.2.1, r.2.2.1, m.1, m.2.1, ())))) laws_toInsS_eq laws_toInsS_j1_eq (g := Ins.ts) l (by omega) (by omega) (fun a h k => by
    show ocall _ _ (laws_toIns a.ts) _ = _
    rw [toIns_ok a (by have := sizes_mem (f := Ins.size) h; omega), ocall_insO])
theorem eqInsS_ok (l : List Ins) (hs : inssSize l ≤ 1048576) : laws_eqInsS (inss l) (inss l) = some (.d (.bool true), []) := by
  unfold inssSize at hs
  exact eq_gen (sh := sh_Ins) rfl laws_eqInsS_eq laws_eqInsS_j1_eq (g := Ins.ts) l (by omega) (fun a h => eqIns_ok a (by have := sizes_mem (f := Ins.size) h; omega))

theorem szBlock_ok (x : Blk) (ho : x.ok) (n : Nat) (hn : (n : Int) < 9223372036854775807) : laws_szBlock x.ts n = szR n x.size := by
  cases ho with
  | @mk env arg res locals code he hes ha hr hl hls hc hcs =>
    rw [laws_szBlock_eq, Blk.ts_mk]
    simp only [Ty.eta']
    have : Blk.size (.mk env arg res locals code) = tysSize env + (arg.size + (res.size + (tysSize locals + inssSize code))) := by simp only [Blk.size, inssSize]; omega
    rw [this]
    exact sz_step (szTyS_ok _ he hes n hn) fun m hm => sz_step (szTy_ok _ ha m (by omega)) fun m2 hm2 => sz_step (szTy_ok _ hr m2 (by omega)) fun m3 hm3 => sz_step (szTyS_ok _ hl hls m3 (by omega)) fun m4 hm4 => sz_end (szInsS_ok _ hc hcs m4 (by omega))
abbrev blkO (t : T_Block) : Res := some (.agg [.own 0, .d (.int .i64 t.2.1), .d (.int .i64 t.2.2.1), .own 1, .d (.int .i64 t.2.2.2.2.1), .d (.int .i64 t.2.2.2.2.2.1), .own 2, .own 3, .own 4], [.lrow 3 t.1.1 false t.1.2, .lrow 3 t.2.2.2.1.1 false t.2.2.2.1.2, .lrow 3 t.2.2.2.2.2.2.1.1 false t.2.2.2.2.2.2.1.2, .lrow 3 t.2.2.2.2.2.2.2.1.1 false t.2.2.2.2.2.2.2.1.2, .lrow 5 t.2.2.2.2.2.2.2.2.1.1 false t.2.2.2.2.2.2.2.2.1.2])
theorem ocall_blkO {R : Type} {t : T_Block} {f : Unit × Int × Int × Unit × Int × Int × Unit × Unit × Unit × Unit → Sl × Sl × Sl × Sl × Sl × Unit → Option R} : ocall (.m (.agg [.own 0, .int .i64, .int .i64, .own 1, .int .i64, .int .i64, .own 2, .own 3, .own 4])) [.lrow 3 false, .lrow 3 false, .lrow 3 false, .lrow 3 false, .lrow 5 false] (blkO t) f = f ((), t.2.1, t.2.2.1, (), t.2.2.2.2.1, t.2.2.2.2.2.1, (), (), (), ()) (t.1, t.2.2.2.1, t.2.2.2.2.2.2.1, t.2.2.2.2.2.2.2.1, t.2.2.2.2.2.2.2.2.1, ()) :=
  ocall_t (s := (.m (.agg [.own 0, .int .i64, .int .i64, .own 1, .int .i64, .int .i64, .own 2, .own 3, .own 4]))) (m := [.lrow 3 false, .lrow 3 false, .lrow 3 false, .lrow 3 false, .lrow 5 false]) (t := ((), t.2.1, t.2.2.1, (), t.2.2.2.2.1, t.2.2.2.2.2.1, (), (), (), ())) (u := (t.1, t.2.2.2.1, t.2.2.2.2.2.2.1, t.2.2.2.2.2.2.2.1, t.2.2.2.2.2.2.2.2.1, ())) rfl rfl (by simp only [ES.decs, ES.dec_lrow])
theorem toBlock_ok (x : Blk) (hs : x.size ≤ 1048576) : laws_toBlock x.ts = blkO x.ts := by
  obtain ⟨env, arg, res, locals, code⟩ := x
  rw [laws_toBlock_eq, Blk.ts_mk]
  simp only [Blk.size] at hs
  simp only [Ty.eta']
  rw [toTyS_ok env (by omega), ocall_own, toTy_ok arg (by omega), ocall_tyO, toTy_ok res (by omega), ocall_tyO, toTyS_ok locals (by omega), ocall_own, toInsS_ok code (by unfold inssSize; omega), ocall_own]
theorem eqBlock_ok (x : Blk) (hs : x.size ≤ 1048576) : laws_eqBlock x.ts x.ts = some (.d (.bool true), []) := by
  obtain ⟨env, arg, res, locals, code⟩ := x
  rw [laws_eqBlock_eq, Blk.ts_mk]
  simp only [Blk.size] at hs
  simp only [Ty.eta', oite_not, oite_t, eqTyS_ok env (by omega), eqTy_ok arg (by omega), eqTy_ok res (by omega), eqTyS_ok locals (by omega), eqInsS_ok code (by unfold inssSize; omega), ocall_bool]

abbrev consTs (l : List Ty) : LS.Ts [.sl 3] := (tys l, ())
theorem szTySS_ok (l : List (List Ty)) (hl : lenOk l) (ha : ∀ x ∈ l, lenOk x ∧ ∀ y ∈ x, y.ok) (n : Nat) (hn : (n : Int) < 9223372036854775807) : laws_szTySS (tyss l) n = szR n (l.length + (l.map tysSize).sum) :=
  sz_gen (sh := [.sl 3]) rfl (elt := fun t => laws_szTyS t.1) laws_szTySS_eq laws_szTySS_j1_eq (g := consTs) (size := tysSize) l hl (fun a h => szTyS_ok a (ha a h).1 (ha a h).2) n hn
theorem toTySS_ok (l : List (List Ty)) (hs : l.length + (l.map tysSize).sum ≤ 1048576) : laws_toTySS (tyss l) = rO 1 (tyss l) :=
  to_genG (sh := [.sl 3]) rfl (K := rO 1) (z := [D.sl false 3 0 []]) rfl (G := fun t k => ocall (.m (.one (.own 0))) [.lrow 3 false] (laws_toTyS t.1) fun _ m => k [D.sl false 3 m.1.1 m.1.2]) laws_toTySS_eq laws_toTySS_j1_eq (g := consTs) l (by omega) (by omega) (fun a h k => by
    show ocall _ _ (laws_toTyS (tys a)) _ = _
    rw [toTyS_ok a (by have := sizes_mem (f := tysSize) h; omega), ocall_own]; rfl)
theorem eqTySS_ok (l : List (List Ty)) (hs : l.length + (l.map tysSize).sum ≤ 1048576) : laws_eqTySS (tyss l) (tyss l) = some (.d (.bool true), []) :=
  eq_gen (sh := [.sl 3]) rfl (elt := fun t u => laws_eqTyS t.1 u.1) laws_eqTySS_eq laws_eqTySS_j1_eq (g := consTs) l (by omega) (fun a h => eqTyS_ok a (by have := sizes_mem (f := tysSize) h; omega))

theorem szLayout_ok (x : Layout) (ho : x.ok) (n : Nat) (hn : (n : Int) < 9223372036854775807) : laws_szLayout x.ts.1 n = szR n x.size := by
  cases ho with
  | mk hc hcs =>
    rw [laws_szLayout_eq, Layout.ts_mk]
    exact sz_end (szTySS_ok _ hc hcs n hn)
abbrev layO (s : Sl) : Res := some (.agg [.own 0], [.lrow 1 s.1 false s.2])
theorem ocall_layO {R : Type} {s : Sl} {f : Unit × Unit → Sl × Unit → Option R} : ocall (.m (.agg [.own 0])) [.lrow 1 false] (layO s) f = f ((), ()) (s, ()) :=
  ocall_t (s := .m (.agg [.own 0])) (m := [.lrow 1 false]) (t := ((), ())) (u := (s, ())) rfl rfl ES.decs_lrow
theorem toLayout_ok (x : Layout) (hs : x.size ≤ 1048576) : laws_toLayout x.ts.1 = layO x.ts.1 := by
  rw [laws_toLayout_eq, show x.ts.1 = tyss x.cons from rfl, toTySS_ok x.cons hs, ocall_own]
theorem eqLayout_ok (x : Layout) (hs : x.size ≤ 1048576) : laws_eqLayout x.ts.1 x.ts.1 = some (.d (.bool true), []) := by
  rw [laws_eqLayout_eq, show x.ts.1 = tyss x.cons from rfl, eqTySS_ok x.cons hs, ocall_bool, oite_not, oite_t]

theorem szProgram_ok (x : Prog) (ho : x.ok) (n : Nat) (hn : (n : Int) < 9223372036854775807) : laws_szProgram x.ts n = szR n x.size := by
  cases ho with
  | @mk l b c hl hls hb hbs hc =>
    rw [laws_szProgram_eq, Prog.ts_mk]
    have : Prog.size (.mk l b c) = (l.length + (l.map Layout.size).sum) + ((b.length + (b.map Blk.size).sum) + c.length) := by simp only [Prog.size]; omega
    rw [this]
    refine sz_step (sz_gen (sh := [.sl 1]) rfl (elt := fun t => laws_szLayout t.1) laws_szLayoutS_eq laws_szLayoutS_j1_eq (g := Layout.ts) (size := Layout.size) l hl (fun a h => szLayout_ok a (hls a h)) n hn) fun m hm => ?_
    refine sz_step (sz_gen (sh := sh_Block) rfl laws_szBlockS_eq laws_szBlockS_j1_eq (g := Blk.ts) (size := Blk.size) b hb (fun a h => szBlock_ok a (hbs a h)) m (by omega)) fun m2 hm2 => ?_
    exact sz_end (szIntS_ok _ hc m2 (by omega))
abbrev progO (t : T_Program) : Res := some (.agg [.own 0, .own 1, .own 2], [.lrow 1 t.1.1 false t.1.2, .lrow 9 t.2.1.1 false t.2.1.2, .lrow 1 t.2.2.1.1 false t.2.2.1.2])
theorem ocall_progO {R : Type} {t : T_Program} {f : Unit × Unit × Unit × Unit → Sl × Sl × Sl × Unit → Option R} : ocall (.m (.agg [.own 0, .own 1, .own 2])) [.lrow 1 false, .lrow 9 false, .lrow 1 false] (progO t) f = f ((), (), (), ()) (t.1, t.2.1, t.2.2.1, ()) :=
  ocall_t (s := .m (.agg [.own 0, .own 1, .own 2])) (m := [.lrow 1 false, .lrow 9 false, .lrow 1 false]) (t := ((), (), (), ())) (u := (t.1, t.2.1, t.2.2.1, ())) rfl rfl (by simp only [ES.decs, ES.dec_lrow])
theorem toProgram_ok (x : Prog) (hs : x.size ≤ 1048576) : laws_toProgram x.ts = progO x.ts := by
  obtain ⟨l, b, c⟩ := x
  simp only [Prog.size] at hs
  have h1 := to_genG (sh := [.sl 1]) rfl (K := rO 1) (z := [D.sl false 1 0 []]) rfl (G := fun t k => ocall (.m (.agg [.own 0])) [.lrow 1 false] (laws_toLayout t.1) fun _ m => k [D.sl false 1 m.1.1 m.1.2]) laws_toLayoutS_eq laws_toLayoutS_j1_eq (g := Layout.ts) l (by omega) (by omega) (fun a h k => by
    show ocall _ _ (laws_toLayout a.ts.1) _ = _
    rw [toLayout_ok a (by have := sizes_mem (f := Layout.size) h; omega), ocall_layO]; rfl)
  have h2 := to_genG (sh := sh_Block) rfl (K := rO 9) (z := vDs (LS.encs sh_Block ((0, []), (0 : Int), (0 : Int), (0, []), (0 : Int), (0 : Int), (0, []), (0, []), (0, []), ()))) rfl (G := fun t k => ocall (.m (.agg [.own 0, .int .i64, .int .i64, .own 1, .int .i64, .int .i64, .own 2, .own 3, .own 4])) [.lrow 3 false, .lrow 3 false, .lrow 3 false, .lrow 3 false, .lrow 5 false] (laws_toBlock t) fun r m => k (vDs (LS.encs sh_Block (m.1, r.2.1, r.2.2.1, m.2.1, r.2.2.2.2.1, r.2.2.2.2.2.1, m.2.2.1, m.2.2.2.1, m.2.2.2.2.1, ())))) laws_toBlockS_eq laws_toBlockS_j1_eq (g := Blk.ts) b (by omega) (by omega) (fun a h k => by
    show ocall _ _ (laws_toBlock a.ts) _ = _
    rw [toBlock_ok a (by have := sizes_mem (f := Blk.size) h; omega), ocall_blkO])
  rw [laws_toProgram_eq, Prog.ts_mk]
  simp only
  rw [show layouts l = sl (sh := [.sl 1]) Layout.ts l from rfl, h1, ocall_own, show blocks b = sl (sh := sh_Block) Blk.ts b from rfl, h2, ocall_own, toIntS_ok c (by omega), ocall_own]
theorem eqProgram_ok (x : Prog) (hs : x.size ≤ 1048576) : laws_eqProgram x.ts x.ts = some (.d (.bool true), []) := by
  obtain ⟨l, b, c⟩ := x
  simp only [Prog.size] at hs
  have h1 := eq_gen (sh := [.sl 1]) rfl (elt := fun t u => laws_eqLayout t.1 u.1) laws_eqLayoutS_eq laws_eqLayoutS_j1_eq (g := Layout.ts) l (by omega) (fun a h => eqLayout_ok a (by have := sizes_mem (f := Layout.size) h; omega))
  have h2 := eq_gen (sh := sh_Block) rfl laws_eqBlockS_eq laws_eqBlockS_j1_eq (g := Blk.ts) b (by omega) (fun a h => eqBlock_ok a (by have := sizes_mem (f := Blk.size) h; omega))
  rw [laws_eqProgram_eq, Prog.ts_mk]
  simp only [oite_not, oite_t, show layouts l = sl (sh := [.sl 1]) Layout.ts l from rfl, h1, show blocks b = sl (sh := sh_Block) Blk.ts b from rfl, h2, eqIntS_ok c (by omega), ocall_bool]
end Go.Ev.Q
