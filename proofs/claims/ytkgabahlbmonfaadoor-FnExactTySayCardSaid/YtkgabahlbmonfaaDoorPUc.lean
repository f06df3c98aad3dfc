import Derived.Test.YtkgabahlbmonfaaDoorPUb
set_option linter.unusedVariables false
set_option linter.unusedSimpArgs false
/-
  The text of a type: the law.
-/
namespace Go.Ev.Q
open Go Go.Ev

theorem eqByteS_ok (l : List Int) (hl : l.length ≤ 1048576) : laws_eqByteS (bytes l) (bytes l) = some (.d (.bool true), []) :=
  eq_leaf laws_eqByteS_eq laws_eqByteS_j1_eq l (by omega)
theorem markByteE_ok (l : List Int) (x : Int) (hx : 0 ≤ x) (hx2 : x + l.length < 9223372036854775807) : laws_markByteS_o x (bytes l) = some (.d (.int .i64 (x + l.length)), [.row 1 (bytes (wmarks (fun x => IntKind.wrap .u8 x) x l.length)).1 false false (bytes (wmarks (fun x => IntKind.wrap .u8 x) x l.length)).2]) :=
  markE_leaf (wr := fun x => IntKind.wrap .u8 x) (K := fun k s => some (.d (.int .i64 k), [.row 1 s.1 false false s.2])) laws_markByteS_o_eq laws_markByteS_o_j1_eq l x hx hx2
theorem heldByteE_ok (n : Nat) (x : Int) (hx : 0 ≤ x) (hx2 : x + n < 9223372036854775807) : laws_heldByteS (bytes (wmarks (fun x => IntKind.wrap .u8 x) x n)) x = some (.d (.int .i64 (x + n)), []) :=
  held_leaf (wr := fun x => IntKind.wrap .u8 x) (K := fun k => some (.d (.int .i64 k), [])) laws_heldByteS_eq laws_heldByteS_j1_eq n x hx hx2
theorem ocall_mkr {R : Type} {k : Int} {s : Sl} {f : Int → Sl × Unit → Option R} : ocall (.m (.one (.int .i64))) [.row 1 false false] (some (.d (.int .i64 k), [.row 1 s.1 false false s.2])) f = f k (s, ()) :=
  ocall_t (s := .m (.one (.int .i64))) (m := [.row 1 false false]) (t := k) (u := (s, ())) rfl (LS.dec_enc (s := .int .i64) rfl k) rfl
theorem flat_bytes (l : List Int) : flatR (bytes l).2 = true := by
  show flatEs (bytes l).2 = true
  induction l with
  | nil => rfl
  | cons a l ih => exact ih
theorem ts_e (t : Ty) : (t.ts.1, t.ts.2.1, t.ts.2.2.1, ()) = t.ts := rfl
/-- The text of a type, empty for what is none. -/
def sayT (t : Ty) : List UInt8 := if t.okB then t.say else []
theorem sayT_len (t : Ty) : (sayT t).length ≤ 2000 := by
  unfold sayT
  split
  · rename_i h
    obtain ⟨hf, hz⟩ := Ty.okB_fine h
    have := Ty.say_len t hf
    omega
  · simp
theorem TySayS_ok (t : Ty) (hs : t.size ≤ 1048576) : spec_TySay t.ts = some (.d (.sl false 1 (ub (sayT t)).1 (ub (sayT t)).2), []) := by
  rw [spec_TySay_eq, spec_TyOk_ok t (by omega), ocall_bool]
  unfold sayT
  cases h : t.okB with
  | false => rw [Bool.not_false, oite_t]; rfl
  | true =>
    obtain ⟨hf, hz⟩ := Ty.okB_fine h
    have e : PU (spec_l3say_o t.ts (0, [])) ([] ++ t.say) := l3say_ok t hf (by omega) [] (by simp; omega)
    rw [Bool.not_true, oite_f, e.call]
    rfl
theorem TySayI_ok (t : Ty) (hs : t.size ≤ 1048576) : PU (impl_TySay t.ts) (sayT t) := by
  rw [impl_TySay_eq, TyOk_ok t (by omega), ocall_bool]
  unfold sayT
  cases h : t.okB with
  | false => rw [Bool.not_false, oite_t]; exact ⟨false, rfl⟩
  | true =>
    obtain ⟨hf, hz⟩ := Ty.okB_fine h
    rw [Bool.not_true, oite_f, sayTy_ok t hf (by omega), ocall_rS]
    refine ⟨false, ?_⟩
    rw [tx_size, byteEs_tx, if_pos rfl, ub_n]

theorem TySay_ok (t : Ty) (ho : t.ok) : laws_FnExactTySay t.ts = some (.d (.bool true), []) := by
  rw [laws_FnExactTySay_eq, show (1048576 : Int) = ((1048576 : Nat) : Int) from rfl, szTy_ok t ho 1048576 (by omega), ocall_int, oite_dec]
  by_cases hs : t.size ≤ 1048576
  · rw [if_pos hs, if_neg (by omega)]
    have hl := sayT_len t
    have hul : (u8s (sayT t)).length ≤ 2000 := by rw [u8s_len]; exact hl
    have hb := TySayI_ok t hs
    rw [toTy_ok t hs, ocall_tyO]
    simp only [ts_e]
    rw [TySayS_ok t hs, ocall_ub, ocall_tyO]
    simp only [ts_e]
    rw [hb.call]
    unfold ub
    simp only [flat_bytes, oguard_t]
    rw [eqByteS_ok _ (by omega), ocall_bool, Bool.not_true, oite_f, ocall_tyO]
    simp only [ts_e]
    obtain ⟨k', es', hm, hk1, hk2⟩ := markTy_ok t 1 hs (by omega)
    have hm' : laws_markTyS_o 1 t.ts.2.2.1 = some (.d (.int .i64 (k' : Int)), [.lrow 3 t.ts.2.2.1.1 false es']) := hm
    rw [eqTy_ok t hs, ocall_bool, Bool.not_true, oite_f, laws_markTy_eq, hm', ocall_mk, ocall_mk, oite_dec, if_neg (by omega), ocall_bool, Bool.not_true]
    rw [laws_FnExactTySay_j2_eq, oite_f, laws_FnExactTySay_j1_eq, markByteE_ok _ 1 (by omega) (by omega), ocall_mkr]
    rw [heldByteE_ok _ 1 (by omega) (by omega), ocall_int, oite_dec, if_neg (by omega)]
    simp only [beq_self_eq_true, Bool.not_true]
    rw [oite_f, toTy_ok t hs, ocall_tyO]
    simp only [ts_e]
    rw [hb.call]
    unfold ub
    simp only [flat_bytes, oguard_t]
    rw [eqByteS_ok _ (by omega), ocall_bool, Bool.not_true, oite_f, ocall_int, oite_dec, if_neg (by omega)]
    simp only [beq_self_eq_true, Bool.not_true]
    rw [oite_f]
  · rw [if_neg hs, if_pos (by decide)]
end Go.Ev.Q
