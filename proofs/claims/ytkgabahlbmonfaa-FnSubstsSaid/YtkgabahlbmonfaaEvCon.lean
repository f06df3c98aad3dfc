import Derived.Test.YtkgabahlbmonfaaEvOp14
import Derived.Sort.Grow
import Derived.Lib.RowBridge
set_option linter.unusedVariables false
set_option linter.unusedSimpArgs false
/-
  Functions of the library that are known by what they do.
-/
namespace Go.Ev
open Go Go.Sort

/-- A function sorts rows of numbers. -/
structure SortIs (P : Program) (f : FuncId) : Prop where
  nil : ∀ (A : Option Addr) (c : Nat) (w : World), Calls P f #[.slice A 0 c] w fun e w' => e = .returned (.tuple #[]) ∧ w' = w
  row : ∀ (blk off cap : Nat) (zs : List Int) (w : World), Holds (Value.int .i64) w blk off zs.toArray → blk < w.heap.size → zs.length < 4611686018427387904 →
    Calls P f #[.slice (some ⟨blk, off, none⟩) zs.length cap] w fun e w' => e = .returned (.tuple #[]) ∧ ∃ n os, w' = grow (putRow (Value.int .i64) (Sort.ahead w n) blk off (zs.mergeSort fun x y => decide (x ≤ y)).toArray) os
/-- A function leaves one of each run of equal numbers. -/
structure CompactIs (P : Program) (f : FuncId) : Prop where
  nil : ∀ (A : Option Addr) (c : Nat) (w : World), Calls P f #[.slice A 0 c] w fun e w' => e = .returned (.slice A 0 c) ∧ w' = w
  row : ∀ (blk off cap : Nat) (zs : List Int) (w : World), Holds (Value.int .i64) w blk off zs.toArray → zs.length ≤ 9223372036854775807 → zs.length ≤ cap →
    Calls P f #[.slice (some ⟨blk, off, none⟩) zs.length cap] w fun e w' => e = .returned (.slice (some ⟨blk, off, none⟩) (Lib.compact zs).length cap) ∧ ∃ q, w' = putRow (Value.int .i64) (Sort.ahead w q) blk off (Lib.compact zs ++ List.replicate (zs.length - (Lib.compact zs).length) 0).toArray
def ConIs (P : Program) (f : FuncId) : Con → Prop
  | .sortI => SortIs P f
  | .compactI => CompactIs P f

theorem intsD_eq : ∀ {es : List (List D)} {zs : List Int}, intsD es = some zs → es = zs.map fun n => [.int .i64 n]
  | [], zs, h => by simp only [intsD, Option.some.injEq] at h; subst h; rfl
  | c :: r, zs, h => by
    unfold intsD at h
    split at h
    · rename_i x
      split at h
      · rename_i n
        split at h
        · rename_i l hl
          cases h
          rw [intsD_eq hl]; rfl
        · cases h
      · cases h
    · cases h
theorem intsD_map : ∀ (zs : List Int), intsD (zs.map fun n => [.int .i64 n]) = some zs
  | [] => rfl
  | n :: r => by
    have := intsD_map r
    simp only [List.map_cons, intsD, this]
theorem intsB_some {es : List (List D)} (h : intsB es = true) : ∃ zs, es = zs.map (fun n => [.int .i64 n]) ∧ sortEs es = (zs.mergeSort fun x y => decide (x ≤ y)).map (fun n => [.int .i64 n]) ∧ compEs es = (Lib.compact zs).map (fun n => [.int .i64 n]) ∧ compN es = (Lib.compact zs).length := by
  unfold intsB at h
  obtain ⟨zs, hz⟩ := Option.isSome_iff_exists.1 h
  exact ⟨zs, intsD_eq hz, by simp [sortEs, hz], by simp [compEs, hz], by simp [compN, hz]⟩

theorem REs_ints {w : World} {C : Com} {g : Nat → Option Value} : ∀ {zs : List Int} {off : Nat}, (∀ (j : Nat) (z : Int), zs[j]? = some z → g (off + j) = some (.int .i64 z)) → REs w C g off (zs.map fun n => [.int .i64 n])
  | [], off, _ => by unfold REs; trivial
  | z :: r, off, h => by
    simp only [List.map_cons]
    unfold REs
    refine ⟨?_, ?_⟩
    · unfold RCs
      refine ⟨⟨_, h 0 z rfl, by unfold RD; rfl⟩, ?_⟩
      unfold RCs; trivial
    · exact REs_ints fun j y hj => by
        have := h (j + 1) y (by simpa using hj)
        rwa [show off + (j + 1) = off + [D.int .i64 z].length + j by simp; omega] at this
theorem ints_REs {w : World} {C : Com} {g : Nat → Option Value} : ∀ {zs : List Int} {off : Nat}, REs w C g off (zs.map fun n => [.int .i64 n]) → ∀ (j : Nat) (z : Int), zs[j]? = some z → g (off + j) = some (.int .i64 z)
  | [], off, _, j, z, hj => by simp at hj
  | y :: r, off, h, j, z, hj => by
    simp only [List.map_cons] at h
    unfold REs at h
    obtain ⟨h1, h2⟩ := h
    cases j with
    | zero =>
      simp at hj; subst hj
      unfold RCs at h1
      obtain ⟨⟨u, hu, hr⟩, _⟩ := h1
      unfold RD at hr
      subst hr; exact hu
    | succ j =>
      have := ints_REs h2 j z (by simpa using hj)
      rwa [show off + [D.int .i64 y].length + j = off + (j + 1) by simp; omega] at this

section
variable {P : Program} {C : Com} {ι : Locs} {M : Mem} {w : World}

theorem get_bang {zs : List Int} {j : Nat} (h : j < zs.length) : zs[j]? = some zs.toArray[j]! := by
  rw [getElem!_pos zs.toArray j (by simpa using h)]; simp [h]

theorem row_holds (hst : St C ι M w) {id : Nat} {L : Loc} {n : Nat} {mv : Bool} {zs : List Int} (hL : ι[id]? = some L) (hM : M[id]? = some (.row 1 n false mv (zs.map fun n => [.int .i64 n]))) (hc : L.cap ≠ 0) :
    Holds (Value.int .i64) w L.b L.base zs.toArray ∧ L.b < w.heap.size := by
  obtain ⟨hrow, q1, q2, q3, q4, q5, q6⟩ := hst.ent id L _ hL hM
  rcases q6 with q6 | ⟨us, T, fr, hh, hsoft, hz, hC, hre⟩
  · exact absurd q6 hc
  refine ⟨fun j hj => ?_, (Array.getElem?_eq_some_iff.1 hh).1⟩
  have hj : j < zs.length := by simpa using hj
  have hg := ints_REs hre j _ (get_bang hj)
  refine ⟨by rw [cell_of_row hh]; exact hg, ?_⟩
  have hi := (Array.getElem?_eq_some_iff.1 hg).1
  have := hsoft.at (L.base + j) hi
  simp only [World.frozen?, hh]
  simp only [Bool.and_eq_false_iff, decide_eq_false_iff_not]
  omega

/-- The row's cells are written over, and the row may be cut. -/
theorem row_put (hst : St C ι M w) {id : Nat} {L : Loc} {n : Nat} {mv : Bool} {zs : List Int} (hL : ι[id]? = some L) (hM : M[id]? = some (.row 1 n false mv (zs.map fun n => [.int .i64 n]))) (hc : L.cap ≠ 0) {ys : List Int} (hy : ys.length = zs.length) {xs : List Int} (hx : xs.length ≤ n) (hxy : ∀ (j : Nat) (z : Int), xs[j]? = some z → ys[j]? = some z) (q : Nat) (os : Array Obj) (mv' : Bool) {w' : World} (hw : w' = grow (putRow (Value.int .i64) (Sort.ahead w q) L.b L.base ys.toArray) os) :
    Upd C ι w id L { L with n := xs.length } C w' ∧ ∀ ι', EntOk w' C ι' { L with n := xs.length } (.row 1 xs.length false mv' (xs.map fun n => [.int .i64 n])) := by
  obtain ⟨hrow, q1, q2, q3, q4, q5, q6⟩ := hst.ent id L _ hL hM
  rcases q6 with q6 | ⟨us, T, fr, hh, hsoft, hz, hC, hre⟩
  · exact absurd q6 hc
  simp only [Bool.false_eq_true, if_false] at hC
  have hzl : zs.length = n := by simpa using q4
  have hb := (Array.getElem?_eq_some_iff.1 hh).1
  have e4 : w.heap.size ≤ w'.heap.size := by subst hw; simp [putRow, mapBlock, Sort.ahead]
  have e5 : ∀ b, b < w.heap.size → b ≠ L.b → w'.heap[b]? = w.heap[b]? := fun b hb' hne => by
    subst hw
    rw [heap_grow_old _ _ (by simp [putRow, mapBlock, Sort.ahead]; exact hb')]
    simp [putRow, mapBlock, Sort.ahead, Array.getElem?_modify, Ne.symm hne]
  have e6 : w'.heap[L.b]? = some (.cells (putCells (Value.int .i64) L.base ys.toArray us) T fr) := by
    subst hw
    rw [heap_grow_old _ _ (by simp [putRow, mapBlock, Sort.ahead]; exact hb)]
    simp only [putRow, mapBlock, Sort.ahead, Array.getElem?_modify, if_true, hh, Option.map_some, onCells]
  have hsz : (putCells (Value.int .i64) L.base ys.toArray us).size = us.size := by simp [putCells]
  have hg : ∀ o, (putCells (Value.int .i64) L.base ys.toArray us)[o]? = if L.base ≤ o ∧ o < L.base + ys.length then us[o]?.map fun _ => Value.int .i64 ys.toArray[o - L.base]! else us[o]? := by
    intro o
    simp only [putCells, Array.getElem?_mapIdx, List.size_toArray]
    split
    · cases us[o]? <;> simp
    · cases us[o]? <;> simp
  have hkp : Keeps w C w' C := by
    refine ⟨fun b o ho => ?_, fun _ => Nat.le_refl _⟩
    by_cases e : b = L.b
    · subst e
      rw [cell_of_row e6, cell_of_row hh, hg, if_neg (by omega)]
    · exact cell_of_heap (e5 b (hst.clt ho) e)
  refine ⟨⟨rfl, hst.own, by subst hw; rfl, by subst hw; rfl, by subst hw; rfl, e4, hL, hkp, fun b hb' hn => ⟨e5 b hb' (hn (.inr hc)), rfl⟩, fun hl => .inl ⟨.inr hc, rfl⟩, rfl, rfl, fun b => ?_⟩, fun ι' => ?_⟩
  · rcases hst.com b with h0 | ⟨us', T', fr', h1, h2⟩
    · exact .inl h0
    · by_cases e : b = L.b
      · subst e
        rw [hh] at h1; cases h1
        exact .inr ⟨_, _, _, e6, by rw [hsz]; exact h2⟩
      · exact .inr ⟨_, _, _, by rw [e5 b ((Array.getElem?_eq_some_iff.1 h1).1) e]; exact h1, h2⟩
  · refine ⟨hrow, q1, rfl, by show xs.length ≤ L.cap; omega, by simp, fun c hc => by obtain ⟨n, _, rfl⟩ := List.mem_map.1 hc; rfl, .inr ⟨_, T, fr, e6, hsoft.of_size hsz, by show L.base + L.cap * 1 ≤ _; rw [hsz]; exact hz, by simpa using hC, ?_⟩⟩
    refine REs_ints fun j z hj => ?_
    have hjx := (List.getElem?_eq_some_iff.1 hj).1
    have hjy := hxy j z hj
    have hjl := (List.getElem?_eq_some_iff.1 hjy).1
    show (putCells (Value.int .i64) L.base ys.toArray us)[L.base + j]? = _
    rw [hg, if_pos (by omega)]
    have hus : ∃ u, us[L.base + j]? = some u := by
      have := ints_REs hre j _ (get_bang (zs := zs) (by omega))
      exact ⟨_, this⟩
    obtain ⟨u, hu⟩ := hus
    have := get_bang hjl
    rw [hjy] at this
    rw [hu, Option.map_some, show L.base + j - L.base = j by omega, ← Option.some.inj this]

theorem Go1.up {C' : Com} {ι' : Locs} {M' : Mem} {w' : World} {k k' : Nat → Prop} (h : Go1 C ι M w C' ι' M' w' k) (e : ∀ i, k i → k' i) (e2 : ∀ i, i < M.length → k' i → mvs M' i) : Go1 C ι M w C' ι' M' w' k' :=
  ⟨h.st, h.stp.weaken e, fun i hi hm => hm.elim (fun hm => h.mv i hi (.inl hm)) (e2 i hi)⟩

theorem own_slice {L : Loc} {v : Value} (hL : ι[0]? = some L) (h : RV w C ι v (.own 0)) : ∃ a, v = .slice a L.n L.cap ∧ (L.cap = 0 ∨ a = some ⟨L.b, L.base, none⟩) := by
  unfold RV at h
  obtain ⟨L', hL', _, a, e, ha⟩ := h
  rw [hL] at hL'; cases hL'
  exact ⟨a, e, ha⟩

theorem con_ok {f : FuncId} {c : Con} (hc : ConIs P f c) {args : List V} {M : Mem} {v : V} {M' : Mem} (h : conF c args M = some (v, M')) {C : Com} {ι : Locs} {w : World} {vals : List Value} (hst : St C ι M w) (hv : RVs w C ι vals args) :
    Calls P f vals.toArray w fun e w' => ∃ u C' ι', e = .returned u ∧ Go1 C ι M w C' ι' M' w' (mvs M') ∧ RV w' C' ι' u v := by
  have key : ∀ (n : Nat) (es : List (List D)), M = [.row 1 n false false es] → args = [.own 0] → (intsB es && decide (n ≤ 140737488351232)) = true → ∃ (zs : List Int) (L : Loc) (a : Option Addr), es = zs.map (fun n => [.int .i64 n]) ∧ sortEs es = (zs.mergeSort fun x y => decide (x ≤ y)).map (fun n => [.int .i64 n]) ∧ compEs es = (Lib.compact zs).map (fun n => [.int .i64 n]) ∧ compN es = (Lib.compact zs).length ∧ zs.length = n ∧ n ≤ 140737488351232 ∧ ι[0]? = some L ∧ ι = [L] ∧ L.n = n ∧ n ≤ L.cap ∧ vals = [.slice a n L.cap] ∧ (L.cap = 0 ∨ a = some ⟨L.b, L.base, none⟩) := by
    intro n es hM ha hg
    subst hM; subst ha
    rw [Bool.and_eq_true] at hg
    obtain ⟨zs, he, hs, h3, h4⟩ := intsB_some hg.1
    have hn := of_decide_eq_true hg.2
    have hl := hst.len
    simp only [List.length_singleton] at hl
    obtain ⟨L, hι⟩ := List.length_eq_one_iff.1 hl
    have hL : ι[0]? = some L := by rw [hι]; rfl
    obtain ⟨hrow, q1, q2, q3, q4, q5, q6⟩ := hst.ent 0 L _ hL rfl
    have hvl := hv.length
    simp only [List.length_singleton] at hvl
    obtain ⟨u, hu⟩ := List.length_eq_one_iff.1 hvl
    rw [hu] at hv
    unfold RVs at hv
    obtain ⟨a, e, hA⟩ := own_slice hL hv.1
    exact ⟨zs, L, a, he, hs, h3, h4, by rw [he] at q4; simpa using q4, hn, hL, hι, q2, q3, by rw [hu, e, q2], hA⟩
  cases c with
  | sortI =>
    simp only [conF] at h
    split at h
    · split at h
      · split at h
        · split at h
          · rename_i n es
            obtain ⟨hg, h⟩ := oguard_some h
            cases h
            obtain ⟨zs, L, a, he, hs, _, _, hzn, hn, hL, hι, hLn, hcap, rfl, hA⟩ := key n es rfl rfl hg
            rw [hs]
            subst he
            have hML : ([Ent.row 1 n false false (zs.map fun n => [D.int .i64 n])] : Mem)[0]? = some (.row 1 n false false (zs.map fun n => [D.int .i64 n])) := rfl
            rcases Nat.eq_zero_or_pos n with h0 | h0
            · have : zs = [] := List.length_eq_zero_iff.1 (by omega)
              subst this; subst h0
              refine (hc.nil a L.cap w).mono fun e w' ⟨e1, e2⟩ => ?_
              subst e2
              refine ⟨_, C, ι, e1, ?_, by unfold RV; exact ⟨#[], rfl, by unfold RVs; trivial⟩⟩
              rw [List.mergeSort_nil]
              exact (Go1.refl hst).up (fun _ h => h.elim) (fun _ _ h => h)
            · have hcc : L.cap ≠ 0 := by omega
              have hA := hA.resolve_left hcc
              subst hA
              obtain ⟨hH, hb⟩ := row_holds hst hL hML hcc
              have hp : n = zs.length := by omega
              subst hp
              refine (hc.row L.b L.base L.cap zs w hH hb (by omega)).mono fun e w' ⟨e1, q, os, e2⟩ => ?_
              have hml : (zs.mergeSort fun x y => decide (x ≤ y)).length = zs.length := List.length_mergeSort zs
              obtain ⟨u, hent⟩ := row_put hst hL hML hcc (ys := zs.mergeSort fun x y => decide (x ≤ y)) (xs := zs.mergeSort fun x y => decide (x ≤ y)) hml (by omega) (fun _ _ h => h) q os false e2
              have hLe : { L with n := (zs.mergeSort fun x y => decide (x ≤ y)).length } = L := by rw [hml, ← hLn]
              rw [hLe] at u hent
              have st := u.st0 hst _ (hent ι)
              refine ⟨_, C, ι, e1, ⟨?_, u.stp0, fun i hi hm => ?_⟩, by unfold RV; exact ⟨#[], rfl, by unfold RVs; trivial⟩⟩
              · rw [hml] at st; exact st
              · rcases hm with hm | hm
                · obtain ⟨e, h1, h2⟩ := hm
                  simp only [List.length_singleton] at hi
                  have : i = 0 := by omega
                  subst this
                  rw [hML] at h1; cases h1
                  simp [Ent.mvd] at h2
                · exact hm
          · cases h
        · cases h
      · cases h
    · cases h
  | compactI =>
    simp only [conF] at h
    split at h
    · split at h
      · split at h
        · split at h
          · rename_i n es
            obtain ⟨hg, h⟩ := oguard_some h
            cases h
            obtain ⟨zs, L, a, he, _, hs, hk, hzn, hn, hL, hι, hLn, hcap, rfl, hA⟩ := key n es rfl rfl hg
            rw [hs, hk]
            subst he
            have hML : ([Ent.row 1 n false false (zs.map fun n => [D.int .i64 n])] : Mem)[0]? = some (.row 1 n false false (zs.map fun n => [D.int .i64 n])) := rfl
            have hle := Lib.compact_length_le zs
            rcases Nat.eq_zero_or_pos n with h0 | h0
            · have : zs = [] := List.length_eq_zero_iff.1 (by omega)
              subst this; subst h0
              have hcl : Lib.compact ([] : List Int) = [] := List.length_eq_zero_iff.1 (by simpa using hle)
              refine (hc.nil a L.cap w).mono fun e w' ⟨e1, e2⟩ => ?_
              subst e2
              refine ⟨_, C, ι, e1, ?_, ?_⟩
              · rw [hcl]
                have st : St C ι [Ent.row 1 0 false true []] w' := ⟨hst.len, fun i L1 e1 hi he => ?_, hst.inj, hst.com, hst.own⟩
                · refine ⟨st, (Stp.refl hst.own _), fun i hi hm => ?_⟩
                  rcases hm with ⟨e, h1, h2⟩ | hm
                  · simp only [List.length_singleton] at hi
                    have : i = 0 := by omega
                    subst this
                    exact ⟨_, rfl, rfl⟩
                  · exact hm
                · cases i with
                  | zero =>
                    simp only [List.getElem?_cons_zero, Option.some.injEq] at he
                    subst he
                    have q := hst.ent 0 L1 _ hi hML
                    exact q
                  | succ i => simp at he
              · unfold RV
                refine ⟨L, hL, ?_, a, by rw [hLn], hA⟩
                exact (hst.ent 0 L _ hL hML).1
            · have hcc : L.cap ≠ 0 := by omega
              have hA := hA.resolve_left hcc
              subst hA
              obtain ⟨hH, hb⟩ := row_holds hst hL hML hcc
              have hp : n = zs.length := by omega
              subst hp
              refine (hc.row L.b L.base L.cap zs w hH (by omega) (by omega)).mono fun e w' ⟨e1, q, e2⟩ => ?_
              have e2' : w' = grow (putRow (Value.int .i64) (Sort.ahead w q) L.b L.base (Lib.compact zs ++ List.replicate (zs.length - (Lib.compact zs).length) 0).toArray) #[] := by rw [e2, grow_empty]
              obtain ⟨u, hent⟩ := row_put hst hL hML hcc (ys := Lib.compact zs ++ List.replicate (zs.length - (Lib.compact zs).length) 0) (xs := Lib.compact zs) (by simp; omega) (by omega) (fun j z hj => by rw [List.getElem?_append_left (List.getElem?_eq_some_iff.1 hj).1]; exact hj) q #[] true e2'
              have st := u.st hst _ (.inl ⟨_, _, _, _, _, rfl⟩) (hent _)
              refine ⟨_, C, _, e1, ⟨st, u.stp (.inr ⟨_, rfl, rfl⟩), fun i hi hm => ?_⟩, ?_⟩
              · simp only [List.length_singleton] at hi
                have : i = 0 := by omega
                subst this
                exact ⟨_, rfl, rfl⟩
              · unfold RV
                refine ⟨{ L with n := (Lib.compact zs).length }, by rw [hι]; rfl, (hst.ent 0 L _ hL hML).1, _, rfl, .inr rfl⟩
          · cases h
        · cases h
      · cases h
    · cases h
end
end Go.Ev
