/-
  The evaluator's operations are the machine's: sums, comparisons, conversions.
-/
import Derived.Test.YtkaolpcfpnckcaaEvOp6
set_option linter.unusedVariables false
set_option linter.unusedSimpArgs false
namespace Go.Ev
open Go

section
variable {R : Type} {P : Program} {C : Com} {ι : Locs} {M : Mem} {w : World}

theorem eqGuard_pure {op : BinOp} {t : TypeId} {x y : Operand} {a b : Value} (h : ∀ cs ds, a = .agg cs → b = .agg ds → False) (h' : a = .nilIface → b = .nilIface → False) : (eqGuard op t x y a b).run P w = .ok () w := by
  have key : ∀ (A : Sem Unit) (B : Array Value → Array Value → Sem Unit), (match a, b with | .nilIface, .nilIface => A | .agg c, .agg d => B c d | _, _ => (pure () : Sem Unit)) = pure () := by
    intro A B
    split
    · exact (h' rfl rfl).elim
    · exact (h _ _ rfl rfl).elim
    · rfl
  cases op <;> unfold eqGuard <;> simp only [Bool.not_true, Bool.not_false, Bool.false_eq_true, if_true, if_false, ↓reduceIte] <;> first
    | rfl
    | (rw [key]; rfl)

theorem evBin_ok {t : TypeId} {bt : Bool} (hbt : bt = true → ∀ w, (underlying t).run P w = .ok .bool w) {op : BinOp} {x y : D} {k : D → Option R} {r : R} (h : evBin bt op x y k = some r) {a b : Value} (hx : RD w C a x) (hy : RD w C b y) (ox oy : Operand) :
    ∃ u d, (do eqGuard op t ox oy a b; binOp op t a b : Sem Value).run P w = .ok u w ∧ RD w C u d ∧ k d = some r := by
  have fin : ∀ {u : Value} {d : D}, (∀ cs ds, a = .agg cs → b = .agg ds → False) → (a = .nilIface → b = .nilIface → False) → (binOp op t a b).run P w = .ok u w → RD w C u d → k d = some r → ∃ u d, (do eqGuard op t ox oy a b; binOp op t a b : Sem Value).run P w = .ok u w ∧ RD w C u d ∧ k d = some r := by
    intro u d g1 g2 hr hd hk
    refine ⟨u, d, ?_, hd, hk⟩
    rw [Sem.run_bind, eqGuard_pure g1 g2]
    exact hr
  cases x with
  | int ka na =>
    cases y with
    | int kb nb =>
      simp only [RD] at hx hy
      subst hx hy
      have fin' : ∀ {u : Value} {d : D}, (binOp op t (.int ka na) (.int kb nb)).run P w = .ok u w → RD w C u d → k d = some r → _ := fun {u d} => fin (u := u) (d := d) (fun _ _ h => by cases h) (fun h => by cases h)
      by_cases hkk : ka = kb
      · subst hkk
        cases op <;> simp only [evBin, if_true, intCmp] at h
        case add => exact fin' (d := .int ka (ka.wrap (na + nb))) (by simp [binOp, Op.intArith]; rfl) (by simp [RD]) h
        case sub => exact fin' (d := .int ka (ka.wrap (na - nb))) (by simp [binOp, Op.intArith]; rfl) (by simp [RD]) h
        case mul => exact fin' (d := .int ka (ka.wrap (na * nb))) (by simp [binOp, Op.intArith]; rfl) (by simp [RD]) h
        case quo =>
          obtain ⟨hg, h⟩ := oguard_some h
          have hg : nb ≠ 0 := of_decide_eq_true hg
          exact fin' (d := .int ka (ka.wrap (na.tdiv nb))) (by simp [binOp, Op.intDiv, hg]; rfl) (by simp [RD]) h
        case rem =>
          obtain ⟨hg, h⟩ := oguard_some h
          have hg : nb ≠ 0 := of_decide_eq_true hg
          exact fin' (d := .int ka (na.tmod nb)) (by simp [binOp, Op.intDiv, hg]; rfl) (by simp [RD]) h
        case and => exact fin' (d := .int ka (ka.wrap (BitVec.ofInt ka.bits na &&& BitVec.ofInt ka.bits nb).toNat)) (by simp only [binOp, Op.intBits]; simp; rfl) (by simp [RD]) h
        case or => exact fin' (d := .int ka (ka.wrap (BitVec.ofInt ka.bits na ||| BitVec.ofInt ka.bits nb).toNat)) (by simp only [binOp, Op.intBits]; simp; rfl) (by simp [RD]) h
        case xor => exact fin' (d := .int ka (ka.wrap (BitVec.ofInt ka.bits na ^^^ BitVec.ofInt ka.bits nb).toNat)) (by simp only [binOp, Op.intBits]; simp; rfl) (by simp [RD]) h
        case shl =>
          obtain ⟨hg, h⟩ := oguard_some h
          have hg : ¬ nb < 0 := by have := of_decide_eq_true hg; omega
          exact fin' (d := .int ka (ka.wrap (na * 2 ^ min nb.toNat ka.bits))) (by simp [binOp, Op.shift, hg]; rfl) (by simp [RD]) h
        case shr =>
          obtain ⟨hg, h⟩ := oguard_some h
          have hg : ¬ nb < 0 := by have := of_decide_eq_true hg; omega
          exact fin' (d := .int ka (na.fdiv (2 ^ min nb.toNat ka.bits))) (by simp [binOp, Op.shift, hg]; rfl) (by simp [RD]) h
        case andNot => cases h
        case eql => exact fin' (d := .bool (na == nb)) (by simp [binOp, Op.intCmp]; rfl) (by simp [RD]) h
        case neq => exact fin' (d := .bool (na != nb)) (by simp [binOp, Op.intCmp]; rfl) (by simp [RD]) h
        case lss => exact fin' (d := .bool (decide (na < nb))) (by simp [binOp, Op.intCmp]; rfl) (by simp [RD]) h
        case leq => exact fin' (d := .bool (decide (na ≤ nb))) (by simp [binOp, Op.intCmp]; rfl) (by simp [RD]) h
        case gtr => exact fin' (d := .bool (decide (na > nb))) (by simp [binOp, Op.intCmp]; rfl) (by simp [RD]) h
        case geq => exact fin' (d := .bool (decide (na ≥ nb))) (by simp [binOp, Op.intCmp]; rfl) (by simp [RD]) h
      · cases op <;> simp only [evBin, if_neg hkk] at h <;> try cases h
        case shl =>
          obtain ⟨hg, h⟩ := oguard_some h
          have hg : ¬ nb < 0 := by have := of_decide_eq_true hg; omega
          exact fin' (d := .int ka (ka.wrap (na * 2 ^ min nb.toNat ka.bits))) (by simp [binOp, Op.shift, hg]; rfl) (by simp [RD]) h
        case shr =>
          obtain ⟨hg, h⟩ := oguard_some h
          have hg : ¬ nb < 0 := by have := of_decide_eq_true hg; omega
          exact fin' (d := .int ka (na.fdiv (2 ^ min nb.toNat ka.bits))) (by simp [binOp, Op.shift, hg]; rfl) (by simp [RD]) h
    | _ => simp [evBin] at h
  | bool pa =>
    cases y with
    | bool pb =>
      simp only [RD] at hx hy
      subst hx hy
      simp only [evBin] at h
      obtain ⟨hb, h⟩ := bif_some h
      have hu := hbt hb
      have fin' : ∀ {u : Value} {d : D}, (binOp op t (.bool pa) (.bool pb)).run P w = .ok u w → RD w C u d → k d = some r → _ := fun {u d} => fin (u := u) (d := d) (fun _ _ h => by cases h) (fun h => by cases h)
      have heq : (Op.equal t (.bool pa) (.bool pb)).run P w = .ok (pa == pb) w := by
        show (Op.equalIn (9999 + 1) t (.bool pa) (.bool pb)).run P w = _
        unfold Op.equalIn
        simp only [Sem.run_bind, hu, Result.andThen_ok]; rfl
      cases op <;> simp only at h <;> try cases h
      case eql => exact fin' (d := .bool (pa == pb)) (by simp only [binOp, Sem.run_bind, heq, Result.andThen_ok]; rfl) (by simp [RD]) h
      case neq => exact fin' (d := .bool (!(pa == pb))) (by simp only [binOp, Sem.run_bind, heq, Result.andThen_ok]; rfl) (by simp [RD]) h
    | _ => simp [evBin] at h
  | str sa =>
    cases y with
    | str sb =>
      simp only [RD] at hx hy
      subst hx hy
      have fin' : ∀ {u : Value} {d : D}, (binOp op t (.string sa) (.string sb)).run P w = .ok u w → RD w C u d → k d = some r → _ := fun {u d} => fin (u := u) (d := d) (fun _ _ h => by cases h) (fun h => by cases h)
      simp only [evBin] at h
      cases op <;> simp only at h <;> try cases h
      case add =>
        obtain ⟨hg, h⟩ := oguard_some h
        have hg : sa.size + sb.size ≤ maxBytes := of_decide_eq_true hg
        have hm : ¬ (((sa.size + sb.size : Nat) : Int) > IntKind.i64.max) := by
          have : IntKind.i64.max = 9223372036854775807 := by decide
          unfold maxBytes at hg; omega
        exact fin' (d := .str (sa ++ sb)) (by simp only [binOp, Op.stringOp]; rw [if_neg hm]; rfl) (by simp [RD]) h
      case eql => exact fin' (d := .bool (sa.toList == sb.toList)) (by simp only [binOp, Op.stringOp]; rfl) (by simp [RD]) h
      case neq => exact fin' (d := .bool (!(sa.toList == sb.toList))) (by simp only [binOp, Op.stringOp]; rfl) (by simp [RD]) h
    | _ => simp [evBin] at h
  | sl f sz n es => cases y <;> simp [evBin] at h
end
end Go.Ev
