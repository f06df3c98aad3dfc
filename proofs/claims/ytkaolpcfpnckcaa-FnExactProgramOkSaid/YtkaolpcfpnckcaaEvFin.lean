/-
  What is asked of a table of types and functions, piece by piece.
-/
import Derived.Test.YtkaolpcfpnckcaaEvCode
set_option linter.unusedVariables false
set_option linter.unusedSimpArgs false
namespace Go.Ev
open Go

def AllP {α : Type} (Q : Nat → α → Prop) : List (Nat × α) → Prop
  | [] => True
  | p :: l => Q p.1 p.2 ∧ AllP Q l

theorem find_all {α : Type} {Q : Nat → α → Prop} : ∀ {l : List (Nat × α)}, AllP Q l → ∀ {t : Nat} {T : α}, find l t = some T → Q t T
  | [], _, t, T, h => by simp [find] at h
  | (a, b) :: l, hl, t, T, h => by
    simp only [find] at h
    cases hb : Nat.beq a t with
    | true =>
      rw [hb] at h
      have := Nat.eq_of_beq_eq_true hb
      subst this
      simp only [cond_true, Option.some.injEq] at h
      subst h
      exact hl.1
    | false =>
      rw [hb] at h
      simp only [cond_false] at h
      exact find_all hl.2 h

structure FnOk (P : Program) (f : Nat) (F : FnI) : Prop where
  call : ∀ (args : Array Value) (w : World), (callFunc f args).run P w = .ok (.enter f args) w
  fn : P.funcs[f]? = some F.fn
  body : F.fn.body = some F.body
  code : codeOk F.body F.ann = true
  labs : labsOk F.body F.ann = true

theorem cxOk_of {P : Program} {cx : Cx} (ht : AllP (TIok P) cx.ty) (hf : AllP (FnOk P) cx.fns) (ho : P.follows .mixedOrders = true) : CxOk P cx :=
  { ty := fun _ _ h => find_all ht h
    fn := fun _ _ h => (find_all hf h).call
    body := fun _ _ h => ⟨(find_all hf h).fn, (find_all hf h).body, (find_all hf h).code, (find_all hf h).labs⟩
    order := ho }

section
variable {w : World} {C : Com} {ι : Locs}
theorem z_int {k : IntKind} {n : Int} : RV w C ι (.int k n) (.d (.int k n)) := by unfold RV RD; rfl
theorem z_bool {b : Bool} : RV w C ι (.bool b) (.d (.bool b)) := by unfold RV RD; rfl
theorem z_str {b : ByteArray} : RV w C ι (.string b) (.d (.str b)) := by unfold RV RD; rfl
theorem z_nil {sz : Nat} : RV w C ι (.slice none 0 0) (.d (.sl true sz 0 [])) := by
  unfold RV RD; exact ⟨none, 0, rfl, Nat.le_refl _, fun _ => rfl, rfl, fun c hc => by simp at hc, .inl rfl⟩
theorem z_un {u : Value} : RV w C ι u .undef := by unfold RV; trivial
theorem z_cons {u : Value} {x : V} {us : List Value} {xs : List V} (h : RV w C ι u x) (t : RVs w C ι us xs) : RVs w C ι (u :: us) (x :: xs) := by unfold RVs; exact ⟨h, t⟩
theorem z_end : RVs w C ι [] [] := by unfold RVs; trivial
end
theorem f_cons {P : Program} {f : Field} {l : List Field} {n : Nat} (h : ∀ w, (sizeOf f.type).run P w = .ok n w) (t : ∀ f ∈ l, ∃ n, ∀ w, (sizeOf f.type).run P w = .ok n w) : ∀ g ∈ f :: l, ∃ n, ∀ w, (sizeOf g.type).run P w = .ok n w := by
  intro g hg
  rcases List.mem_cons.1 hg with rfl | hg
  · exact ⟨n, h⟩
  · exact t g hg
theorem f_end {P : Program} : ∀ g ∈ ([] : List Field), ∃ n, ∀ w, (sizeOf g.type).run P w = .ok n w := fun g hg => by simp at hg
end Go.Ev
