/-
  Low expressions are taken over, weighed and compared as wanted.
-/
import Derived.Test.YtepljphcjpcpiaaPTy
set_option linter.unusedVariables false
set_option linter.unusedSimpArgs false
namespace Go.Ev.Q
open Go Go.Ev

theorem Ty.eta (t : Ty) : (t.ts.1, t.ts.2.1, t.ts.2.2.1, ()) = t.ts := rfl
theorem szLow_ok (t : Low) : t.ok → ∀ n : Nat, (n : Int) < 9223372036854775807 → laws_szLow t.ts n = some (.d (.int .i64 (if t.size ≤ n then ((n - t.size : Nat) : Int) else -1)), []) := by
  refine Low.ind (P := fun t => t.ok → ∀ n : Nat, (n : Int) < 9223372036854775807 → laws_szLow t.ts n = some (.d (.int .i64 (if t.size ≤ n then ((n - t.size : Nat) : Int) else -1)), []))
    (Q := fun t => t.ok → ∀ n : Nat, (n : Int) < 9223372036854775807 → laws_szLowAlt t.ts n = some (.d (.int .i64 (if t.size ≤ n then ((n - t.size : Nat) : Int) else -1)), [])) ?_ ?_ t
  · intro k n m c lit ty fn kids alts h1 h2 ho r hr
    cases ho with
    | mk hk hn hm hc hlit hty hfn hkids hkid halts halt =>
      have e1 := fun n hn => sz_gen (sh := sh_Low) rfl laws_szLowS_eq laws_szLowS_j1_eq (g := Low.ts) (size := Low.size) kids hkids (fun a h => h1 a h (hkid a h)) n hn
      have e2 := fun n hn => sz_gen (sh := sh_LowAlt) rfl laws_szLowAltS_eq laws_szLowAltS_j1_eq (g := LowAlt.ts) (size := LowAlt.size) alts halts (fun a h => h2 a h (halt a h)) n hn
      rw [laws_szLow_eq, Low.ts_mk, Low.size_mk]
      simp only [Ty.eta]
      rw [szByteS_ok lit hlit r hr, ocall_int, oite_dec]
      by_cases g1 : lit.length ≤ r
      · simp only [if_pos g1]
        rw [if_neg (show ¬ (((r - lit.length : Nat) : Int) < 0) by omega), szTy_ok ty hty _ (by omega), ocall_int, oite_dec]
        by_cases g2 : ty.size ≤ r - lit.length
        · simp only [if_pos g2]
          rw [if_neg (show ¬ (((r - lit.length - ty.size : Nat) : Int) < 0) by omega), szTy_ok fn hfn _ (by omega), ocall_int, oite_dec]
          by_cases g3 : fn.size ≤ r - lit.length - ty.size
          · simp only [if_pos g3]
            rw [if_neg (show ¬ (((r - lit.length - ty.size - fn.size : Nat) : Int) < 0) by omega), show lows kids = sl (sh := sh_Low) Low.ts kids from rfl, e1 _ (by omega), ocall_int, oite_dec]
            by_cases g4 : kids.length + (kids.map Low.size).sum ≤ r - lit.length - ty.size - fn.size
            · simp only [if_pos g4]
              rw [if_neg (show ¬ (((r - lit.length - ty.size - fn.size - (kids.length + (kids.map Low.size).sum) : Nat) : Int) < 0) by omega), show lowAlts alts = sl (sh := sh_LowAlt) LowAlt.ts alts from rfl, e2 _ (by omega), ocall_int, oite_dec]
              by_cases g5 : alts.length + (alts.map LowAlt.size).sum ≤ r - lit.length - ty.size - fn.size - (kids.length + (kids.map Low.size).sum)
              · simp only [if_pos g5]
                rw [if_neg (show ¬ (((r - lit.length - ty.size - fn.size - (kids.length + (kids.map Low.size).sum) - (alts.length + (alts.map LowAlt.size).sum) : Nat) : Int) < 0) by omega), if_pos (by omega)]
                congr 4; omega
              · simp only [if_neg g5]; rw [if_pos (by decide), if_neg (by omega)]
            · simp only [if_neg g4]; rw [if_pos (by decide), if_neg (by omega)]
          · simp only [if_neg g3]; rw [if_pos (by decide), if_neg (by omega)]
        · simp only [if_neg g2]; rw [if_pos (by decide), if_neg (by omega)]
      · simp only [if_neg g1]; rw [if_pos (by decide), if_neg (by omega)]
  · intro c vars b h ho r hr
    cases ho with
    | mk hc hv hb =>
      rw [laws_szLowAlt_eq, LowAlt.ts_mk, LowAlt.size_mk]
      rw [szIntS_ok vars hv r hr, ocall_int, oite_dec]
      by_cases g1 : vars.length ≤ r
      · simp only [if_pos g1]
        rw [if_neg (show ¬ (((r - vars.length : Nat) : Int) < 0) by omega), h hb _ (by omega), ocall_int, oite_dec]
        by_cases g2 : b.size ≤ r - vars.length
        · simp only [if_pos g2]
          rw [if_neg (show ¬ (((r - vars.length - b.size : Nat) : Int) < 0) by omega), if_pos (by omega)]
          congr 4; omega
        · simp only [if_neg g2]; rw [if_pos (by decide), if_neg (by omega)]
      · simp only [if_neg g1]; rw [if_pos (by decide), if_neg (by omega)]
theorem toLow_ok (t : Low) : t.size ≤ 1048576 → laws_toLow t.ts = some (.agg (LS.encs sh_Low t.ts), []) := by
  refine Low.ind (P := fun t => t.size ≤ 1048576 → laws_toLow t.ts = some (.agg (LS.encs sh_Low t.ts), []))
    (Q := fun t => t.size ≤ 1048576 → laws_toLowAlt t.ts = some (.agg (LS.encs sh_LowAlt t.ts), [])) ?_ ?_ t
  · intro k n m c lit ty fn kids alts h1 h2 hs
    rw [Low.size_mk] at hs
    rw [laws_toLow_eq, Low.ts_mk]
    simp only [Ty.eta]
    have e1 := to_gen (sh := sh_Low) rfl laws_toLowS_eq laws_toLowS_j1_eq (g := Low.ts) kids (by omega) (by omega) (fun a h => h1 a h (by have := sizes_mem (f := Low.size) h; omega))
    have e2 := to_gen (sh := sh_LowAlt) rfl laws_toLowAltS_eq laws_toLowAltS_j1_eq (g := LowAlt.ts) alts (by omega) (by omega) (fun a h => h2 a h (by have := sizes_mem (f := LowAlt.size) h; omega))
    rw [toByteS_ok lit (by omega), ocall_sl, toTy_ok ty (by omega), ocall_agg rfl, toTy_ok fn (by omega), ocall_agg rfl, show lows kids = sl (sh := sh_Low) Low.ts kids from rfl, e1, ocall_sl, show lowAlts alts = sl (sh := sh_LowAlt) LowAlt.ts alts from rfl, e2, ocall_sl]
  · intro c vars b h hs
    rw [LowAlt.size_mk] at hs
    rw [laws_toLowAlt_eq, LowAlt.ts_mk]
    simp only
    rw [toIntS_ok vars (by omega), ocall_sl, h (by omega), ocall_agg rfl]
theorem eqLow_ok (t : Low) : t.size ≤ 1048576 → laws_eqLow t.ts t.ts = some (.d (.bool true), []) := by
  refine Low.ind (P := fun t => t.size ≤ 1048576 → laws_eqLow t.ts t.ts = some (.d (.bool true), []))
    (Q := fun t => t.size ≤ 1048576 → laws_eqLowAlt t.ts t.ts = some (.d (.bool true), [])) ?_ ?_ t
  · intro k n m c lit ty fn kids alts h1 h2 hs
    rw [Low.size_mk] at hs
    rw [laws_eqLow_eq, Low.ts_mk]
    simp only [Ty.eta]
    have e1 := eq_gen (sh := sh_Low) rfl laws_eqLowS_eq laws_eqLowS_j1_eq (g := Low.ts) kids (by omega) (fun a h => h1 a h (by have := sizes_mem (f := Low.size) h; omega))
    have e2 := eq_gen (sh := sh_LowAlt) rfl laws_eqLowAltS_eq laws_eqLowAltS_j1_eq (g := LowAlt.ts) alts (by omega) (fun a h => h2 a h (by have := sizes_mem (f := LowAlt.size) h; omega))
    simp only [oite_not, beq_self_eq_true, oite_t, eqByteS_ok lit (by omega), eqTy_ok ty (by omega), eqTy_ok fn (by omega), show lows kids = sl (sh := sh_Low) Low.ts kids from rfl, show lowAlts alts = sl (sh := sh_LowAlt) LowAlt.ts alts from rfl, e1, e2, ocall_bool]
  · intro c vars b h hs
    rw [LowAlt.size_mk] at hs
    rw [laws_eqLowAlt_eq, LowAlt.ts_mk]
    simp only [oite_not, beq_self_eq_true, oite_t, eqIntS_ok vars (by omega), h (by omega), ocall_bool]
end Go.Ev.Q
