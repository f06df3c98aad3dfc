import Derived.Test.YtkaolpcfpnckcaaEvSt
set_option linter.unusedVariables false
set_option linter.unusedSimpArgs false
namespace Go.Ev
open Go
/-- The row of an entry that is laid anew. -/
def mvs (M : Mem) (i : Nat) : Prop := ∃ sz n fz es, M[i]? = some (.row sz n fz true es)
theorem Stp.weaken {C : Com} {ι : Locs} {w : World} {C' : Com} {ι' : Locs} {w' : World} {k k' : Nat → Prop} (h : Stp C ι w C' ι' w' k) (e : ∀ i, k i → k' i) : Stp C ι w C' ι' w' k' :=
  ⟨h.os, h.tape, h.output, h.size, h.out, h.keeps, fun i L hi hn => h.same i L hi (fun hk => hn (e i hk)), fun i L hi _ => by
    by_cases hk : k i
    · exact h.moved i L hi hk
    · exact ⟨L, h.same i L hi hk, rfl, rfl, fun hl => .inl ⟨hl, rfl⟩⟩, h.new⟩
end Go.Ev
