/-
  Types and numbers are taken over, weighed and compared as wanted.
-/
import Derived.Test.YtepljphcjpcpiaaQLowNodes
set_option linter.unusedVariables false
set_option linter.unusedSimpArgs false
namespace Go.Ev.Q
open Go Go.Ev

theorem sizes_mem {α : Type} {f : α → Nat} : ∀ {l : List α} {a : α}, a ∈ l → f a ≤ (l.map f).sum
  | b :: l, a, h => by
    simp only [List.map_cons, List.sum_cons]
    rcases List.mem_cons.1 h with rfl | h
    · omega
    · have := sizes_mem (f := f) h; omega

theorem toIntS_ok (l : List Int) (hl : l.length ≤ 1048576) : laws_toIntS (ints l) = some (.d (.sl false 1 (ints l).1 (ints l).2), []) :=
  to_leaf laws_toIntS_eq laws_toIntS_j1_eq l (by omega) (by omega)
theorem eqIntS_ok (l : List Int) (hl : l.length ≤ 1048576) : laws_eqIntS (ints l) (ints l) = some (.d (.bool true), []) :=
  eq_leaf laws_eqIntS_eq laws_eqIntS_j1_eq l (by omega)
theorem szIntS_ok (l : List Int) (hl : lenOk l) (n : Nat) (hn : (n : Int) < 9223372036854775807) : laws_szIntS (ints l) n = some (.d (.int .i64 (if l.length ≤ n then ((n - l.length : Nat) : Int) else -1)), []) :=
  sz_leaf laws_szIntS_eq (ints l) hl n hn
theorem toByteS_ok (l : List Int) (hl : l.length ≤ 1048576) : laws_toByteS (bytes l) = some (.d (.sl false 1 (bytes l).1 (bytes l).2), []) :=
  to_leaf laws_toByteS_eq laws_toByteS_j1_eq l (by omega) (by omega)
theorem eqByteS_ok (l : List Int) (hl : l.length ≤ 1048576) : laws_eqByteS (bytes l) (bytes l) = some (.d (.bool true), []) :=
  eq_leaf laws_eqByteS_eq laws_eqByteS_j1_eq l (by omega)
theorem szByteS_ok (l : List Int) (hl : lenOk l) (n : Nat) (hn : (n : Int) < 9223372036854775807) : laws_szByteS (bytes l) n = some (.d (.int .i64 (if l.length ≤ n then ((n - l.length : Nat) : Int) else -1)), []) :=
  sz_leaf laws_szByteS_eq (bytes l) hl n hn

theorem szTy_ok (t : Ty) : t.ok → ∀ n : Nat, (n : Int) < 9223372036854775807 → laws_szTy t.ts n = some (.d (.int .i64 (if t.size ≤ n then ((n - t.size : Nat) : Int) else -1)), []) := by
  induction t using Ty.ind with
  | h k n l ih =>
    intro ho m hm
    cases ho with
    | mk hk hn hl ha =>
      rw [laws_szTy_eq, Ty.ts_mk]
      have h := sz_gen (sh := sh_Ty) rfl laws_szTyS_eq laws_szTyS_j1_eq (g := Ty.ts) (size := Ty.size) l hl (fun a h => ih a h (ha a h)) m hm
      rw [show tys l = sl (sh := sh_Ty) Ty.ts l from rfl, h, ocall_int, oite_dec, ← Ty.size_mk (k := k) (n := n)]
      by_cases h1 : (Ty.mk k n l).size ≤ m
      · simp only [if_pos h1]; rw [if_neg (show ¬ (((m - (Ty.mk k n l).size : Nat) : Int) < 0) by omega)]
      · simp only [if_neg h1]; rw [if_pos (by decide)]
theorem toTy_ok (t : Ty) : t.size ≤ 1048576 → laws_toTy t.ts = some (.agg (LS.encs sh_Ty t.ts), []) := by
  induction t using Ty.ind with
  | h k n l ih =>
    intro hs
    rw [Ty.size_mk] at hs
    rw [laws_toTy_eq, Ty.ts_mk]
    have h := to_gen (sh := sh_Ty) rfl laws_toTyS_eq laws_toTyS_j1_eq (g := Ty.ts) l (by omega) (by omega) (fun a h => ih a h (by have := sizes_mem (f := Ty.size) h; omega))
    rw [show tys l = sl (sh := sh_Ty) Ty.ts l from rfl, h, ocall_sl]
theorem eqTy_ok (t : Ty) : t.size ≤ 1048576 → laws_eqTy t.ts t.ts = some (.d (.bool true), []) := by
  induction t using Ty.ind with
  | h k n l ih =>
    intro hs
    rw [Ty.size_mk] at hs
    rw [laws_eqTy_eq, Ty.ts_mk]
    have h := eq_gen (sh := sh_Ty) rfl laws_eqTyS_eq laws_eqTyS_j1_eq (g := Ty.ts) l (by omega) (fun a h => ih a h (by have := sizes_mem (f := Ty.size) h; omega))
    rw [show tys l = sl (sh := sh_Ty) Ty.ts l from rfl, h, ocall_bool]
    simp only [oite_not, beq_self_eq_true, oite_t]
end Go.Ev.Q
