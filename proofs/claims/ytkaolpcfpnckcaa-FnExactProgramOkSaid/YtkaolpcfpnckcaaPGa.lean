import Derived.Test.YtkaolpcfpnckcaaQProg
set_option linter.unusedVariables false
set_option linter.unusedSimpArgs false
/-
  Types and numbers are taken over, weighed and compared as wanted.
-/
namespace Go.Ev.Q
open Go Go.Ev

theorem sizes_mem {α : Type} {f : α → Nat} : ∀ {l : List α} {a : α}, a ∈ l → f a ≤ (l.map f).sum
  | b :: l, a, h => by
    simp only [List.map_cons, List.sum_cons]
    rcases List.mem_cons.1 h with rfl | h
    · omega
    · have := sizes_mem (f := f) h; omega

theorem toIntS_ok (l : List Int) (hl : l.length ≤ 1048576) : laws_toIntS (ints l) = some (.d (.sl false 1 (ints l).1 (ints l).2), []) :=
  to_leaf laws_toIntS_eq laws_toIntS_j1_eq l (by omega) (by omega)
theorem eqIntS_ok (l : List Int) (hl : l.length ≤ 1048576) : laws_eqIntS (ints l) (ints l) = some (.d (.bool true), []) :=
  eq_leaf laws_eqIntS_eq laws_eqIntS_j1_eq l (by omega)
theorem szIntS_ok (l : List Int) (hl : lenOk l) (n : Nat) (hn : (n : Int) < 9223372036854775807) : laws_szIntS (ints l) n = some (.d (.int .i64 (if l.length ≤ n then ((n - l.length : Nat) : Int) else -1)), []) :=
  sz_leaf laws_szIntS_eq (ints l) hl n hn
theorem toByteS_ok (l : List Int) (hl : l.length ≤ 1048576) : laws_toByteS (bytes l) = some (.d (.sl false 1 (bytes l).1 (bytes l).2), []) :=
  to_leaf laws_toByteS_eq laws_toByteS_j1_eq l (by omega) (by omega)
theorem eqByteS_ok (l : List Int) (hl : l.length ≤ 1048576) : laws_eqByteS (bytes l) (bytes l) = some (.d (.bool true), []) :=
  eq_leaf laws_eqByteS_eq laws_eqByteS_j1_eq l (by omega)
theorem szByteS_ok (l : List Int) (hl : lenOk l) (n : Nat) (hn : (n : Int) < 9223372036854775807) : laws_szByteS (bytes l) n = some (.d (.int .i64 (if l.length ≤ n then ((n - l.length : Nat) : Int) else -1)), []) :=
  sz_leaf laws_szByteS_eq (bytes l) hl n hn

theorem szTy_ok (t : Ty) : t.ok → ∀ n : Nat, (n : Int) < 9223372036854775807 → laws_szTy t.ts n = some (.d (.int .i64 (if t.size ≤ n then ((n - t.size : Nat) : Int) else -1)), []) := by
  induction t using Ty.ind with
  | h k n l ih =>
    intro ho m hm
    cases ho with
    | mk hk hn hl ha =>
      rw [laws_szTy_eq, Ty.ts_mk]
      have h := sz_gen (sh := sh_Ty) rfl laws_szTyS_eq laws_szTyS_j1_eq (g := Ty.ts) (size := Ty.size) l hl (fun a h => ih a h (ha a h)) m hm
      rw [show tys l = sl (sh := sh_Ty) Ty.ts l from rfl, h, ocall_int, oite_dec, ← Ty.size_mk (k := k) (n := n)]
      by_cases h1 : (Ty.mk k n l).size ≤ m
      · simp only [if_pos h1]; rw [if_neg (show ¬ (((m - (Ty.mk k n l).size : Nat) : Int) < 0) by omega)]
      · simp only [if_neg h1]; rw [if_pos (by decide)]
theorem toTy_ok (t : Ty) : t.size ≤ 1048576 → laws_toTy t.ts = some (.agg (LS.encs sh_Ty t.ts), []) := by
  induction t using Ty.ind with
  | h k n l ih =>
    intro hs
    rw [Ty.size_mk] at hs
    rw [laws_toTy_eq, Ty.ts_mk]
    have h := to_gen (sh := sh_Ty) rfl laws_toTyS_eq laws_toTyS_j1_eq (g := Ty.ts) l (by omega) (by omega) (fun a h => ih a h (by have := sizes_mem (f := Ty.size) h; omega))
    rw [show tys l = sl (sh := sh_Ty) Ty.ts l from rfl, h, ocall_sl]
theorem eqTy_ok (t : Ty) : t.size ≤ 1048576 → laws_eqTy t.ts t.ts = some (.d (.bool true), []) := by
  induction t using Ty.ind with
  | h k n l ih =>
    intro hs
    rw [Ty.size_mk] at hs
    rw [laws_eqTy_eq, Ty.ts_mk]
    have h := eq_gen (sh := sh_Ty) rfl laws_eqTyS_eq laws_eqTyS_j1_eq (g := Ty.ts) l (by omega) (fun a h => ih a h (by have := sizes_mem (f := Ty.size) h; omega))
    rw [show tys l = sl (sh := sh_Ty) Ty.ts l from rfl, h, ocall_bool]
    simp only [oite_not, beq_self_eq_true, oite_t]
end Go.Ev.Q

/-
  Bulks, one after the other; what a call in a call comes to.
-/
namespace Go.Ev
open Go

abbrev szR (n s : Nat) : Res := some (.d (.int .i64 (if s ≤ n then ((n - s : Nat) : Int) else -1)), [])
theorem Ty.eta' (t : Ty) : (t.ts.1, t.ts.2.1, t.ts.2.2.1, ()) = t.ts := rfl
theorem sz_step {n s t : Nat} {x : Res} (h : x = szR n s) {K : Int → Unit → Res} (hK : ∀ m : Nat, m ≤ n → K m () = szR m t) :
    (ocall (.m (.one (.int .i64))) [] x fun r u => oite (decide (r < (0 : Int))) (some (.d (.int .i64 (-1 : Int)), [])) (K r u)) = szR n (s + t) := by
  rw [h, ocall_int, oite_dec]
  by_cases h1 : s ≤ n
  · simp only [if_pos h1]
    rw [if_neg (show ¬ (((n - s : Nat) : Int) < 0) by omega), hK _ (by omega)]
    unfold szR
    by_cases h2 : t ≤ n - s
    · simp only [if_pos h2]
      rw [if_pos (show s + t ≤ n by omega), show n - s - t = n - (s + t) by omega]
    · simp only [if_neg h2]
      rw [if_neg (show ¬ (s + t ≤ n) by omega)]
  · unfold szR
    simp only [if_neg h1]
    rw [if_pos (by decide), if_neg (show ¬ (s + t ≤ n) by omega)]
theorem sz_end {n s : Nat} {x : Res} (h : x = szR n s) :
    (ocall (.m (.one (.int .i64))) [] x fun r (_ : Unit) => oite (decide (r < (0 : Int))) (some (.d (.int .i64 (-1 : Int)), [])) (some (.d (.int .i64 r), []))) = szR n s := by
  have := sz_step (t := 0) h (K := fun r _ => some (.d (.int .i64 r), [])) (fun m hm => by simp [szR])
  simpa using this
theorem ocall_assoc {s s' : Sh} {m m' : List ES} {x : Option (V × Mem)} {k : s'.T → ES.Ts m' → Res} {R : Type} {f : s.T → ES.Ts m → Option R} : ocall s m (ocall s' m' x k) f = ocall s' m' x fun r u => ocall s m (k r u) f := by
  cases x with
  | none => simp only [ocall]
  | some p =>
    obtain ⟨v, M⟩ := p
    rw [ocall_v, ocall_v]
    split <;> first | rfl | simp only [ocall]
end Go.Ev

/-
  Programs are taken over, weighed and compared as wanted.
-/
namespace Go.Ev.Q
open Go Go.Ev

theorem szTyS_ok (l : List Ty) (hl : lenOk l) (ha : ∀ x ∈ l, x.ok) (n : Nat) (hn : (n : Int) < 9223372036854775807) : laws_szTyS (tys l) n = szR n (tysSize l) :=
  sz_gen (sh := sh_Ty) rfl laws_szTyS_eq laws_szTyS_j1_eq (g := Ty.ts) (size := Ty.size) l hl (fun a h => szTy_ok a (ha a h)) n hn
theorem toTyS_ok (l : List Ty) (hs : tysSize l ≤ 1048576) : laws_toTyS (tys l) = some (.d (.sl false 3 (tys l).1 (tys l).2), []) := by
  unfold tysSize at hs
  exact to_gen (sh := sh_Ty) rfl laws_toTyS_eq laws_toTyS_j1_eq (g := Ty.ts) l (by omega) (by omega) (fun a h => toTy_ok a (by have := sizes_mem (f := Ty.size) h; omega))
theorem eqTyS_ok (l : List Ty) (hs : tysSize l ≤ 1048576) : laws_eqTyS (tys l) (tys l) = some (.d (.bool true), []) := by
  unfold tysSize at hs
  exact eq_gen (sh := sh_Ty) rfl laws_eqTyS_eq laws_eqTyS_j1_eq (g := Ty.ts) l (by omega) (fun a h => eqTy_ok a (by have := sizes_mem (f := Ty.size) h; omega))

theorem szIns_ok (x : Ins) (ho : x.ok) (n : Nat) (hn : (n : Int) < 9223372036854775807) : laws_szIns x.ts n = szR n x.size := by
  cases ho with
  | mk h1 h2 h3 hl ht =>
    rw [laws_szIns_eq, Ins.ts_mk]
    exact sz_step (szByteS_ok _ hl n hn) fun m hm => sz_end (szIntS_ok _ ht m (by omega))
theorem toIns_ok (x : Ins) (hs : x.size ≤ 1048576) : laws_toIns x.ts = some (.agg (LS.encs sh_Ins x.ts), []) := by
  obtain ⟨op, a, b, lit, to⟩ := x
  unfold Ins.size at hs
  rw [laws_toIns_eq, Ins.ts_mk]
  simp only at hs ⊢
  rw [toByteS_ok lit (by omega), ocall_sl, toIntS_ok to (by omega), ocall_sl]
theorem eqIns_ok (x : Ins) (hs : x.size ≤ 1048576) : laws_eqIns x.ts x.ts = some (.d (.bool true), []) := by
  obtain ⟨op, a, b, lit, to⟩ := x
  unfold Ins.size at hs
  rw [laws_eqIns_eq, Ins.ts_mk]
  simp only at hs ⊢
  simp only [oite_not, beq_self_eq_true, oite_t, eqByteS_ok lit (by omega), eqIntS_ok to (by omega), ocall_bool]
noncomputable def inssSize (l : List Ins) : Nat := l.length + (l.map Ins.size).sum
theorem szInsS_ok (l : List Ins) (hl : lenOk l) (ha : ∀ x ∈ l, x.ok) (n : Nat) (hn : (n : Int) < 9223372036854775807) : laws_szInsS (inss l) n = szR n (inssSize l) :=
  sz_gen (sh := sh_Ins) rfl laws_szInsS_eq laws_szInsS_j1_eq (g := Ins.ts) (size := Ins.size) l hl (fun a h => szIns_ok a (ha a h)) n hn
theorem toInsS_ok (l : List Ins) (hs : inssSize l ≤ 1048576) : laws_toInsS (inss l) = some (.d (.sl false 5 (inss l).1 (inss l).2), []) := by
  unfold inssSize at hs
  exact to_gen (sh := sh_Ins) rfl laws_toInsS_eq laws_toInsS_j1_eq (g := Ins.ts) l (by omega) (by omega) (fun a h => toIns_ok a (by have := sizes_mem (f := Ins.size) h; omega))
theorem eqInsS_ok (l : List Ins) (hs : inssSize l ≤ 1048576) : laws_eqInsS (inss l) (inss l) = some (.d (.bool true), []) := by
  unfold inssSize at hs
  exact eq_gen (sh := sh_Ins) rfl laws_eqInsS_eq laws_eqInsS_j1_eq (g := Ins.ts) l (by omega) (fun a h => eqIns_ok a (by have := sizes_mem (f := Ins.size) h; omega))

theorem szBlock_ok (x : Blk) (ho : x.ok) (n : Nat) (hn : (n : Int) < 9223372036854775807) : laws_szBlock x.ts n = szR n x.size := by
  cases ho with
  | @mk env arg res locals code he hes ha hr hl hls hc hcs =>
    rw [laws_szBlock_eq, Blk.ts_mk]
    simp only [Ty.eta']
    have : Blk.size (.mk env arg res locals code) = tysSize env + (arg.size + (res.size + (tysSize locals + inssSize code))) := by simp only [Blk.size, inssSize]; omega
    rw [this]
    exact sz_step (szTyS_ok _ he hes n hn) fun m hm => sz_step (szTy_ok _ ha m (by omega)) fun m2 hm2 => sz_step (szTy_ok _ hr m2 (by omega)) fun m3 hm3 => sz_step (szTyS_ok _ hl hls m3 (by omega)) fun m4 hm4 => sz_end (szInsS_ok _ hc hcs m4 (by omega))
theorem toBlock_ok (x : Blk) (hs : x.size ≤ 1048576) : laws_toBlock x.ts = some (.agg (LS.encs sh_Block x.ts), []) := by
  obtain ⟨env, arg, res, locals, code⟩ := x
  rw [laws_toBlock_eq, Blk.ts_mk]
  simp only [Blk.size] at hs
  simp only [Ty.eta']
  rw [toTyS_ok env (by omega), ocall_sl, toTy_ok arg (by omega), ocall_agg rfl, toTy_ok res (by omega), ocall_agg rfl, toTyS_ok locals (by omega), ocall_sl, toInsS_ok code (by unfold inssSize; omega), ocall_sl]
theorem eqBlock_ok (x : Blk) (hs : x.size ≤ 1048576) : laws_eqBlock x.ts x.ts = some (.d (.bool true), []) := by
  obtain ⟨env, arg, res, locals, code⟩ := x
  rw [laws_eqBlock_eq, Blk.ts_mk]
  simp only [Blk.size] at hs
  simp only [Ty.eta', oite_not, oite_t, eqTyS_ok env (by omega), eqTy_ok arg (by omega), eqTy_ok res (by omega), eqTyS_ok locals (by omega), eqInsS_ok code (by unfold inssSize; omega), ocall_bool]

abbrev consTs (l : List Ty) : LS.Ts [.sl 3] := (tys l, ())
theorem szTySS_ok (l : List (List Ty)) (hl : lenOk l) (ha : ∀ x ∈ l, lenOk x ∧ ∀ y ∈ x, y.ok) (n : Nat) (hn : (n : Int) < 9223372036854775807) : laws_szTySS (tyss l) n = szR n (l.length + (l.map tysSize).sum) :=
  sz_gen (sh := [.sl 3]) rfl (elt := fun t => laws_szTyS t.1) laws_szTySS_eq laws_szTySS_j1_eq (g := consTs) (size := tysSize) l hl (fun a h => szTyS_ok a (ha a h).1 (ha a h).2) n hn
theorem toTySS_ok (l : List (List Ty)) (hs : l.length + (l.map tysSize).sum ≤ 1048576) : laws_toTySS (tyss l) = some (.d (.sl false 1 (tyss l).1 (tyss l).2), []) := by
  refine to_gen (sh := [.sl 3]) rfl (z := ((0, []), ())) (elt := fun t => ocall (.m (.one (.sl 3))) [] (laws_toTyS t.1) fun r _ => some (.agg (LS.encs [.sl 3] (r, ())), [])) laws_toTySS_eq (fun x0 x1 x2 => ?_) (g := consTs) l (by omega) (by omega) (fun a h => ?_)
  · rw [laws_toTySS_j1_eq]
    congr 2
    funext t1
    rw [ocall_assoc]
    congr 1
    funext r u
    rw [ocall_agg (l := [.sl 3]) rfl]
    rfl
  · show ocall _ _ (laws_toTyS (tys a)) _ = _
    rw [toTyS_ok a (by have := sizes_mem (f := tysSize) h; omega), ocall_sl]
theorem eqTySS_ok (l : List (List Ty)) (hs : l.length + (l.map tysSize).sum ≤ 1048576) : laws_eqTySS (tyss l) (tyss l) = some (.d (.bool true), []) :=
  eq_gen (sh := [.sl 3]) rfl (elt := fun t u => laws_eqTyS t.1 u.1) laws_eqTySS_eq laws_eqTySS_j1_eq (g := consTs) l (by omega) (fun a h => eqTyS_ok a (by have := sizes_mem (f := tysSize) h; omega))

theorem szLayout_ok (x : Layout) (ho : x.ok) (n : Nat) (hn : (n : Int) < 9223372036854775807) : laws_szLayout x.ts.1 n = szR n x.size := by
  cases ho with
  | mk hc hcs =>
    rw [laws_szLayout_eq, Layout.ts_mk]
    exact sz_end (szTySS_ok _ hc hcs n hn)
theorem toLayout_ok (x : Layout) (hs : x.size ≤ 1048576) : laws_toLayout x.ts.1 = some (.agg (LS.encs [.sl 1] x.ts), []) := by
  rw [laws_toLayout_eq, show x.ts.1 = tyss x.cons from rfl, toTySS_ok x.cons hs, ocall_sl]
  rfl
theorem eqLayout_ok (x : Layout) (hs : x.size ≤ 1048576) : laws_eqLayout x.ts.1 x.ts.1 = some (.d (.bool true), []) := by
  rw [laws_eqLayout_eq, show x.ts.1 = tyss x.cons from rfl, eqTySS_ok x.cons hs, ocall_bool, oite_not, oite_t]

theorem szProgram_ok (x : Prog) (ho : x.ok) (n : Nat) (hn : (n : Int) < 9223372036854775807) : laws_szProgram x.ts n = szR n x.size := by
  cases ho with
  | @mk l b c hl hls hb hbs hc =>
    rw [laws_szProgram_eq, Prog.ts_mk]
    have : Prog.size (.mk l b c) = (l.length + (l.map Layout.size).sum) + ((b.length + (b.map Blk.size).sum) + c.length) := by simp only [Prog.size]; omega
    rw [this]
    refine sz_step (sz_gen (sh := [.sl 1]) rfl (elt := fun t => laws_szLayout t.1) laws_szLayoutS_eq laws_szLayoutS_j1_eq (g := Layout.ts) (size := Layout.size) l hl (fun a h => szLayout_ok a (hls a h)) n hn) fun m hm => ?_
    refine sz_step (sz_gen (sh := sh_Block) rfl laws_szBlockS_eq laws_szBlockS_j1_eq (g := Blk.ts) (size := Blk.size) b hb (fun a h => szBlock_ok a (hbs a h)) m (by omega)) fun m2 hm2 => ?_
    exact sz_end (szIntS_ok _ hc m2 (by omega))
theorem toProgram_ok (x : Prog) (hs : x.size ≤ 1048576) : laws_toProgram x.ts = some (.agg (LS.encs sh_Program x.ts), []) := by
  obtain ⟨l, b, c⟩ := x
  simp only [Prog.size] at hs
  have h1 := to_gen (sh := [.sl 1]) rfl (z := ((0, []), ())) (elt := fun t => laws_toLayout t.1) laws_toLayoutS_eq laws_toLayoutS_j1_eq (g := Layout.ts) l (by omega) (by omega) (fun a h => toLayout_ok a (by have := sizes_mem (f := Layout.size) h; omega))
  have h2 := to_gen (sh := sh_Block) rfl laws_toBlockS_eq laws_toBlockS_j1_eq (g := Blk.ts) b (by omega) (by omega) (fun a h => toBlock_ok a (by have := sizes_mem (f := Blk.size) h; omega))
  rw [laws_toProgram_eq, Prog.ts_mk]
  simp only
  rw [show layouts l = sl (sh := [.sl 1]) Layout.ts l from rfl, h1, ocall_sl, show blocks b = sl (sh := sh_Block) Blk.ts b from rfl, h2, ocall_sl, toIntS_ok c (by omega), ocall_sl]
theorem eqProgram_ok (x : Prog) (hs : x.size ≤ 1048576) : laws_eqProgram x.ts x.ts = some (.d (.bool true), []) := by
  obtain ⟨l, b, c⟩ := x
  simp only [Prog.size] at hs
  have h1 := eq_gen (sh := [.sl 1]) rfl (elt := fun t u => laws_eqLayout t.1 u.1) laws_eqLayoutS_eq laws_eqLayoutS_j1_eq (g := Layout.ts) l (by omega) (fun a h => eqLayout_ok a (by have := sizes_mem (f := Layout.size) h; omega))
  have h2 := eq_gen (sh := sh_Block) rfl laws_eqBlockS_eq laws_eqBlockS_j1_eq (g := Blk.ts) b (by omega) (fun a h => eqBlock_ok a (by have := sizes_mem (f := Blk.size) h; omega))
  rw [laws_eqProgram_eq, Prog.ts_mk]
  simp only [oite_not, oite_t, show layouts l = sl (sh := [.sl 1]) Layout.ts l from rfl, h1, show blocks b = sl (sh := sh_Block) Blk.ts b from rfl, h2, eqIntS_ok c (by omega), ocall_bool]
end Go.Ev.Q
