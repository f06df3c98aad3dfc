import Derived.Test.YtkgabahlbmonfaaDoorEvMf
import Derived.Lib.Space
import Derived.Lib.ItoaNum
import Derived.Lib.LaidTab
set_option linter.unusedVariables false
set_option linter.unusedSimpArgs false
/-
  Tables of the library that stand as they were laid.
-/
namespace Go.Ev
open Go

/-- Tables of the library: name, kind, numbers. -/
def tabs : List (String × IntKind × List Int) := [("strings.asciiSpace", .u8, Lib.asciiSpaceTab), ("internal/strconv.uint64pow10", .u64, Lib.pow10Tab)]
/-- The table that a known function reads. -/
def Con.tab : Con → Option String
  | .fieldsC => some "strings.asciiSpace"
  | .itoaC => some "internal/strconv.uint64pow10"
  | _ => none
def tlOf (fns : List (Nat × FnI)) : List String := fns.filterMap fun p => p.2.con.bind Con.tab
theorem mem_tlOf {fns : List (Nat × FnI)} {f : Nat} {F : FnI} (h : find fns f = some F) {c : Con} (hc : F.con = some c) {nm : String} (hn : c.tab = some nm) : nm ∈ tlOf fns := by
  refine List.mem_filterMap.2 ⟨(f, F), ?_, by rw [hc]; exact hn⟩
  clear hc hn
  induction fns with
  | nil => cases h
  | cons p r ih =>
    obtain ⟨m, a⟩ := p
    unfold find at h
    cases hb : Nat.beq m f with
    | true =>
      rw [hb] at h
      have := Nat.eq_of_beq_eq_true hb
      subst this
      cases h
      exact List.mem_cons_self
    | false =>
      rw [hb] at h
      exact List.mem_cons_of_mem _ (ih h)
/-- Those of the tables that are wanted and that the program has stand as they were laid, and no entry is there. -/
def Tabs (P : Program) (tl : List String) (C : Com) (ι : Locs) (w : World) : Prop := ∀ x ∈ tabs, x.1 ∈ tl → ∀ g, P.globalNamed x.1 = some g → (∃ T fr, w.heap[g]? = some (.cells (x.2.2.map fun z => Value.int x.2.1 z).toArray T fr)) ∧ C.own g = none ∧ ∀ (i : Nat) (L : Loc), ι[i]? = some L → L.located → L.b ≠ g

section
variable {P : Program} {tl : List String} {C C' : Com} {ι ι' : Locs} {M M' : Mem} {w w' : World} {ks : Nat → Prop}
theorem Tabs.stp (h : Tabs P tl C ι w) (s : Stp C ι w C' ι' w' ks) : Tabs P tl C' ι' w' := by
  intro x hx hw g hg
  obtain ⟨⟨T, fr, e⟩, ho, hl⟩ := h x hx hw g hg
  have hb : g < w.heap.size := (Array.getElem?_eq_some_iff.1 e).1
  have hn : ¬ Has C ι g := by
    rintro (⟨i, L, hi, hlo, (e1 | e1)⟩ | ⟨X, hX, hc⟩)
    · exact hl i L hi hlo e1
    · rw [ho] at e1; cases e1
    · rw [ho] at hc; cases hc
  obtain ⟨e1, e2, e3⟩ := s.out g hb hn
  refine ⟨⟨T, fr, e1.trans e⟩, e3.trans ho, fun i L hi hlo hbg => ?_⟩
  subst hbg
  rcases s.blk hi hlo with h1 | h1
  · exact hn h1
  · omega
theorem Tabs.go {M M' : Mem} (h : Tabs P tl C ι w) (g : Go1 C ι M w C' ι' M' w' ks) : Tabs P tl C' ι' w' := h.stp g.stp
theorem Tabs.sub (h : Tabs P tl C ι w) (hs : ∀ (i : Nat) (L : Loc), ι'[i]? = some L → ∃ j : Nat, ι[j]? = some L) : Tabs P tl C ι' w := by
  intro x hx hw g hg
  obtain ⟨e, ho, hl⟩ := h x hx hw g hg
  refine ⟨e, ho, fun i L hi hlo => ?_⟩
  obtain ⟨j, hj⟩ := hs i L hi
  exact hl j L hj hlo
theorem Tabs.nil (h : Tabs P tl C ι w) : Tabs P tl C [] w := h.sub fun i L hi => by simp at hi
theorem Tabs.subL (h : Tabs P tl C ι w) (keep : List Nat) : Tabs P tl C (Go.Ev.subL ι keep) w := h.sub fun i L hi => by
  have := List.mem_of_getElem? hi
  obtain ⟨j, _, hj⟩ := List.mem_filterMap.1 this
  exact ⟨j, hj⟩
theorem Tabs.all (h : Tabs P tl C ι w) : Tabs P tl (allC w) [] w := by
  intro x hx hw g hg
  obtain ⟨e, _, _⟩ := h x hx hw g hg
  exact ⟨e, rfl, fun i L hi => by simp at hi⟩
theorem Tabs.tab (h : Tabs P tl C ι w) {nm : String} {k : IntKind} {zs : List Int} (hx : (nm, k, zs) ∈ tabs) (hw : nm ∈ tl) {g : Nat} (hg : P.globalNamed nm = some g) : Lib.TabIs P w nm k zs := by
  obtain ⟨⟨T, fr, e⟩, _, _⟩ := h _ hx hw g hg
  unfold Lib.TabIs World.var?
  rw [hg]
  simp only [Option.bind_some, e]
/-- The tables where a law begins. -/
theorem Tabs.begin {w : World} (h : ∀ x ∈ tabs, x.1 ∈ tl → ∀ g, P.globalNamed x.1 = some g → Lib.TabIs P w x.1 x.2.1 x.2.2) : Tabs P tl (allC w) [] w := by
  intro x hx hw g hg
  have ht := h x hx hw g hg
  unfold Lib.TabIs World.var? at ht
  rw [hg] at ht
  simp only [Option.bind_some] at ht
  refine ⟨?_, rfl, fun i L hi => by simp at hi⟩
  split at ht
  · rename_i cs T fr e
    cases ht
    exact ⟨T, fr, e⟩
  · cases ht
end
end Go.Ev
