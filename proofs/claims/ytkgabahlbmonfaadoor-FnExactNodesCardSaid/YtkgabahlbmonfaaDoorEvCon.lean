import Derived.Test.YtkgabahlbmonfaaDoorEvOp14
import Derived.Sort.Grow
import Derived.Lib.RowBridge
set_option linter.unusedVariables false
set_option linter.unusedSimpArgs false
/-
  Functions of the library that are known by what they do.
-/
namespace Go.Ev
open Go Go.Sort

/-- A function sorts rows of numbers. -/
structure SortIs (P : Program) (f : FuncId) : Prop where
  nil : ∀ (A : Option Addr) (c : Nat) (w : World), Calls P f #[.slice A 0 c] w fun e w' => e = .returned (.tuple #[]) ∧ w' = w
  row : ∀ (blk off cap : Nat) (zs : List Int) (w : World), Holds (Value.int .i64) w blk off zs.toArray → blk < w.heap.size → zs.length < 4611686018427387904 →
    Calls P f #[.slice (some ⟨blk, off, none⟩) zs.length cap] w fun e w' => e = .returned (.tuple #[]) ∧ ∃ n os, w' = grow (putRow (Value.int .i64) (Sort.ahead w n) blk off (zs.mergeSort fun x y => decide (x ≤ y)).toArray) os
/-- A function leaves one of each run of equal numbers. -/
structure CompactIs (P : Program) (f : FuncId) : Prop where
  nil : ∀ (A : Option Addr) (c : Nat) (w : World), Calls P f #[.slice A 0 c] w fun e w' => e = .returned (.slice A 0 c) ∧ w' = w
  row : ∀ (blk off cap : Nat) (zs : List Int) (w : World), Holds (Value.int .i64) w blk off zs.toArray → zs.length ≤ 9223372036854775807 → zs.length ≤ cap →
    Calls P f #[.slice (some ⟨blk, off, none⟩) zs.length cap] w fun e w' => e = .returned (.slice (some ⟨blk, off, none⟩) (Lib.compact zs).length cap) ∧ ∃ q, w' = putRow (Value.int .i64) (Sort.ahead w q) blk off (Lib.compact zs ++ List.replicate (zs.length - (Lib.compact zs).length) 0).toArray
/-- A function tells the words of a text of small bytes. -/
structure FieldsIs (P : Program) (f : FuncId) : Prop where
  tab : ∃ g, P.globalNamed "strings.asciiSpace" = some g
  calls : ∀ (s : ByteArray) (w : World), s.size < 4294967281 → (∀ (j : Nat) b, s.data.toList[j]? = some b → b.toNat < 128) → Lib.TabIs P w "strings.asciiSpace" .u8 Lib.asciiSpaceTab →
    Calls P f #[.string s] w fun e w' => e = .returned (.slice (some ⟨w.heap.size, 0, none⟩) (Lib.fields s.data.toList).length (Lib.fields s.data.toList).length) ∧ ∃ T, w' = w.alloc (.cells ((Lib.fields s.data.toList).map fun l => Value.string ⟨l.toArray⟩).toArray T)
/-- A function tells the digits of a number. -/
structure ItoaIs (P : Program) (f : FuncId) : Prop where
  tab : ∃ g, P.globalNamed "internal/strconv.uint64pow10" = some g
  calls : ∀ (n : Int) (w : World), -9223372036854775808 ≤ n → n ≤ 9223372036854775807 → Lib.TabIs P w "internal/strconv.uint64pow10" .u64 Lib.pow10Tab →
    Calls P f #[.int .i64 n] w fun e w' => e = .returned (.string ⟨(Lib.itoa n).toArray⟩) ∧ w'.os = w.os ∧ w'.tape = w.tape ∧ w'.output = w.output ∧ ∃ os : Array Obj, w'.heap = w.heap ++ os
def ConIs (P : Program) (f : FuncId) : Con → Prop
  | .sortI => SortIs P f
  | .compactI => CompactIs P f
  | .fieldsC => FieldsIs P f
  | .itoaC => ItoaIs P f

theorem intsD_eq : ∀ {es : List (List D)} {zs : List Int}, intsD es = some zs → es = zs.map fun n => [.int .i64 n]
  | [], zs, h => by simp only [intsD, Option.some.injEq] at h; subst h; rfl
  | c :: r, zs, h => by
    unfold intsD at h
    split at h
    · rename_i x
      split at h
      · rename_i n
        split at h
        · rename_i l hl
          cases h
          rw [intsD_eq hl]; rfl
        · cases h
      · cases h
    · cases h
theorem intsD_map : ∀ (zs : List Int), intsD (zs.map fun n => [.int .i64 n]) = some zs
  | [] => rfl
  | n :: r => by
    have := intsD_map r
    simp only [List.map_cons, intsD, this]
theorem intsB_some {es : List (List D)} (h : intsB es = true) : ∃ zs, es = zs.map (fun n => [.int .i64 n]) ∧ sortEs es = (zs.mergeSort fun x y => decide (x ≤ y)).map (fun n => [.int .i64 n]) ∧ compEs es = (Lib.compact zs).map (fun n => [.int .i64 n]) ∧ compN es = (Lib.compact zs).length := by
  unfold intsB at h
  obtain ⟨zs, hz⟩ := Option.isSome_iff_exists.1 h
  exact ⟨zs, intsD_eq hz, by simp [sortEs, hz], by simp [compEs, hz], by simp [compN, hz]⟩

theorem REs_ints {w : World} {C : Com} {g : Nat → Option Value} : ∀ {zs : List Int} {off : Nat}, (∀ (j : Nat) (z : Int), zs[j]? = some z → g (off + j) = some (.int .i64 z)) → REs w C g off (zs.map fun n => [.int .i64 n])
  | [], off, _ => by unfold REs; trivial
  | z :: r, off, h => by
    simp only [List.map_cons]
    unfold REs
    refine ⟨?_, ?_⟩
    · unfold RCs
      refine ⟨⟨_, h 0 z rfl, by unfold RD; rfl⟩, ?_⟩
      unfold RCs; trivial
    · exact REs_ints fun j y hj => by
        have := h (j + 1) y (by simpa using hj)
        rwa [show off + (j + 1) = off + [D.int .i64 z].length + j by simp; omega] at this
theorem ints_REs {w : World} {C : Com} {g : Nat → Option Value} : ∀ {zs : List Int} {off : Nat}, REs w C g off (zs.map fun n => [.int .i64 n]) → ∀ (j : Nat) (z : Int), zs[j]? = some z → g (off + j) = some (.int .i64 z)
  | [], off, _, j, z, hj => by simp at hj
  | y :: r, off, h, j, z, hj => by
    simp only [List.map_cons] at h
    unfold REs at h
    obtain ⟨h1, h2⟩ := h
    cases j with
    | zero =>
      simp at hj; subst hj
      unfold RCs at h1
      obtain ⟨⟨u, hu, hr⟩, _⟩ := h1
      unfold RD at hr
      subst hr; exact hu
    | succ j =>
      have := ints_REs h2 j z (by simpa using hj)
      rwa [show off + [D.int .i64 y].length + j = off + (j + 1) by simp; omega] at this

section
variable {P : Program} {C : Com} {ι : Locs} {M : Mem} {w : World}

theorem get_bang {zs : List Int} {j : Nat} (h : j < zs.length) : zs[j]? = some zs.toArray[j]! := by
  rw [getElem!_pos zs.toArray j (by simpa using h)]; simp [h]

theorem row_holds (hst : St C ι M w) {id : Nat} {L : Loc} {n : Nat} {mv : Bool} {zs : List Int} (hL : ι[id]? = some L) (hM : M[id]? = some (.row 1 n false mv (zs.map fun n => [.int .i64 n]))) (hc : L.cap ≠ 0) :
    Holds (Value.int .i64) w L.b L.base zs.toArray ∧ L.b < w.heap.size := by
  obtain ⟨hrow, q1, q2, q3, q4, q5, q6⟩ := hst.ent id L _ hL hM
  rcases q6 with q6 | ⟨us, T, fr, hh, hsoft, hz, hC, hre⟩
  · exact absurd q6 hc
  refine ⟨fun j hj => ?_, (Array.getElem?_eq_some_iff.1 hh).1⟩
  have hj : j < zs.length := by simpa using hj
  have hg := ints_REs hre j _ (get_bang hj)
  refine ⟨by rw [cell_of_row hh]; exact hg, ?_⟩
  have hi := (Array.getElem?_eq_some_iff.1 hg).1
  have := hsoft.at (L.base + j) hi
  simp only [World.frozen?, hh]
  simp only [Bool.and_eq_false_iff, decide_eq_false_iff_not]
  omega

/-- The row's cells are written over, and the row may be cut. -/
theorem row_put (hst : St C ι M w) {id : Nat} {L : Loc} {n : Nat} {mv : Bool} {zs : List Int} (hL : ι[id]? = some L) (hM : M[id]? = some (.row 1 n false mv (zs.map fun n => [.int .i64 n]))) (hc : L.cap ≠ 0) {ys : List Int} (hy : ys.length = zs.length) {xs : List Int} (hx : xs.length ≤ n) (hxy : ∀ (j : Nat) (z : Int), xs[j]? = some z → ys[j]? = some z) (q : Nat) (os : Array Obj) (mv' : Bool) {w' : World} (hw : w' = grow (putRow (Value.int .i64) (Sort.ahead w q) L.b L.base ys.toArray) os) :
    Upd C ι w id L { L with n := xs.length } C w' ∧ ∀ ι', EntOk w' C ι' { L with n := xs.length } (.row 1 xs.length false mv' (xs.map fun n => [.int .i64 n])) := by
  obtain ⟨hrow, q1, q2, q3, q4, q5, q6⟩ := hst.ent id L _ hL hM
  rcases q6 with q6 | ⟨us, T, fr, hh, hsoft, hz, hC, hre⟩
  · exact absurd q6 hc
  simp only [Bool.false_eq_true, if_false] at hC
  have hzl : zs.length = n := by simpa using q4
  have hb := (Array.getElem?_eq_some_iff.1 hh).1
  have e4 : w.heap.size ≤ w'.heap.size := by subst hw; simp [putRow, mapBlock, Sort.ahead]
  have e5 : ∀ b, b < w.heap.size → b ≠ L.b → w'.heap[b]? = w.heap[b]? := fun b hb' hne => by
    subst hw
    rw [heap_grow_old _ _ (by simp [putRow, mapBlock, Sort.ahead]; exact hb')]
    simp [putRow, mapBlock, Sort.ahead, Array.getElem?_modify, Ne.symm hne]
  have e6 : w'.heap[L.b]? = some (.cells (putCells (Value.int .i64) L.base ys.toArray us) T fr) := by
    subst hw
    rw [heap_grow_old _ _ (by simp [putRow, mapBlock, Sort.ahead]; exact hb)]
    simp only [putRow, mapBlock, Sort.ahead, Array.getElem?_modify, if_true, hh, Option.map_some, onCells]
  have hsz : (putCells (Value.int .i64) L.base ys.toArray us).size = us.size := by simp [putCells]
  have hg : ∀ o, (putCells (Value.int .i64) L.base ys.toArray us)[o]? = if L.base ≤ o ∧ o < L.base + ys.length then us[o]?.map fun _ => Value.int .i64 ys.toArray[o - L.base]! else us[o]? := by
    intro o
    simp only [putCells, Array.getElem?_mapIdx, List.size_toArray]
    split
    · cases us[o]? <;> simp
    · cases us[o]? <;> simp
  have hkp : Keeps w C w' C := by
    refine ⟨fun b o ho => ?_, fun _ => Nat.le_refl _⟩
    by_cases e : b = L.b
    · subst e
      rw [cell_of_row e6, cell_of_row hh, hg, if_neg (by omega)]
    · exact cell_of_heap (e5 b (hst.clt ho) e)
  refine ⟨⟨rfl, hst.own, by subst hw; rfl, by subst hw; rfl, by subst hw; rfl, e4, hL, hkp, fun b hb' hn => ⟨e5 b hb' (hn (.inr hc)), rfl⟩, fun hl => .inl ⟨.inr hc, rfl⟩, rfl, rfl, fun b => ?_⟩, fun ι' => ?_⟩
  · rcases hst.com b with h0 | ⟨us', T', fr', h1, h2⟩
    · exact .inl h0
    · by_cases e : b = L.b
      · subst e
        rw [hh] at h1; cases h1
        exact .inr ⟨_, _, _, e6, by rw [hsz]; exact h2⟩
      · exact .inr ⟨_, _, _, by rw [e5 b ((Array.getElem?_eq_some_iff.1 h1).1) e]; exact h1, h2⟩
  · refine ⟨hrow, q1, rfl, by show xs.length ≤ L.cap; omega, by simp, fun c hc => by obtain ⟨n, _, rfl⟩ := List.mem_map.1 hc; rfl, .inr ⟨_, T, fr, e6, hsoft.of_size hsz, by show L.base + L.cap * 1 ≤ _; rw [hsz]; exact hz, by simpa using hC, ?_⟩⟩
    refine REs_ints fun j z hj => ?_
    have hjx := (List.getElem?_eq_some_iff.1 hj).1
    have hjy := hxy j z hj
    have hjl := (List.getElem?_eq_some_iff.1 hjy).1
    show (putCells (Value.int .i64) L.base ys.toArray us)[L.base + j]? = _
    rw [hg, if_pos (by omega)]
    have hus : ∃ u, us[L.base + j]? = some u := by
      have := ints_REs hre j _ (get_bang (zs := zs) (by omega))
      exact ⟨_, this⟩
    obtain ⟨u, hu⟩ := hus
    have := get_bang hjl
    rw [hjy] at this
    rw [hu, Option.map_some, show L.base + j - L.base = j by omega, ← Option.some.inj this]

theorem Go1.up {C' : Com} {ι' : Locs} {M' : Mem} {w' : World} {k k' : Nat → Prop} (h : Go1 C ι M w C' ι' M' w' k) (e : ∀ i, k i → k' i) (e2 : ∀ i, i < M.length → k' i → mvs M' i) : Go1 C ι M w C' ι' M' w' k' :=
  ⟨h.st, h.stp.weaken e, fun i hi hm => hm.elim (fun hm => h.mv i hi (.inl hm)) (e2 i hi)⟩

theorem own_slice {L : Loc} {v : Value} (hL : ι[0]? = some L) (h : RV w C ι v (.own 0)) : ∃ a, v = .slice a L.n L.cap ∧ (L.cap = 0 ∨ a = some ⟨L.b, L.base, none⟩) := by
  unfold RV at h
  obtain ⟨L', hL', _, a, e, ha⟩ := h
  rw [hL] at hL'; cases hL'
  exact ⟨a, e, ha⟩

/-- A world with new blocks behind; of one of them some cells are data. -/
theorem con_new (hst : St C [] [] w) {w' : World} (h1 : w'.os = w.os) (h2 : w'.tape = w.tape) (h3 : w'.output = w.output) {os : Array Obj} (h4 : w'.heap = w.heap ++ os) {b0 n : Nat} (hb : w.heap.size ≤ b0) (hn : n = 0 ∨ ∃ us T fr, w'.heap[b0]? = some (.cells us T fr) ∧ n ≤ us.size) {k : Nat → Prop} (hk : ∀ i, ¬ k i) :
    ∃ C' : Com, Go1 C [] [] w C' [] [] w' k ∧ C' b0 = n := by
  have hsz : w.heap.size ≤ w'.heap.size := by rw [h4]; simp
  have hold : ∀ b, b < w.heap.size → w'.heap[b]? = w.heap[b]? := fun b hb => by rw [h4, Array.getElem?_append_left hb]
  have hz : C b0 = 0 := hst.czero hb
  let C' : Com := ⟨fun b => if b = b0 then n else C b, C.own⟩
  have e1 : ∀ b, b ≠ b0 → C' b = C b := fun b h => by
    show (if b = b0 then n else C b) = _
    rw [if_neg h]
  have e0 : C' b0 = n := by
    show (if b0 = b0 then n else C b0) = n
    rw [if_pos rfl]
  have hne : ∀ b, b < w.heap.size → b ≠ b0 := fun b h e => by omega
  have hkp : Keeps w C w' C' := ⟨fun b o ho => cell_of_heap (hold b (hst.clt ho)), fun b => by
    by_cases e : b = b0
    · subst e; rw [hz]; exact Nat.zero_le _
    · rw [e1 b e]; exact Nat.le_refl _⟩
  have hok : C'.Ok [] w'.heap.size := by
    intro b m hm
    obtain ⟨q1, q2, q3, q4, _⟩ := hst.own b m hm
    exact ⟨by omega, by omega, by rw [e1 b (hne b q2)]; exact q3, q4, fun i L hi => by simp at hi⟩
  refine ⟨C', ⟨⟨rfl, fun i L e hi => by simp at hi, fun i j L L' hi => by simp at hi, fun b => ?_, hok⟩, ⟨h1, h2, h3, hsz, hst.own, fun b hb _ => ⟨hold b hb, e1 b (hne b hb), rfl⟩, fun b m hm => .inl hm, hkp, fun i L hi => by simp at hi, fun i L hi => by simp at hi, fun i L _ hi => by simp at hi⟩, fun i hi => by simp at hi⟩, e0⟩
  by_cases e : b = b0
  · subst e
    rw [e0]
    exact hn
  · rw [e1 b e]
    rcases hst.com b with h | ⟨us, T, fr, q1, q2⟩
    · exact .inl h
    · exact .inr ⟨us, T, fr, by rw [hold b (Array.getElem?_eq_some_iff.1 q1).1]; exact q1, q2⟩

theorem con_ok {tl : List String} {f : FuncId} {c : Con} (hc : ConIs P f c) (htl : ∀ nm, c.tab = some nm → nm ∈ tl) {args : List V} {M : Mem} {v : V} {M' : Mem} (h : conF c args M = some (v, M')) {C : Com} {ι : Locs} {w : World} {vals : List Value} (hst : St C ι M w) (htab : Tabs P tl C ι w) (hv : RVs w C ι vals args) :
    Calls P f vals.toArray w fun e w' => ∃ u C' ι', e = .returned u ∧ Go1 C ι M w C' ι' M' w' (mvs M') ∧ RV w' C' ι' u v := by
  have key : ∀ (n : Nat) (es : List (List D)), M = [.row 1 n false false es] → args = [.own 0] → (intsB es && decide (n ≤ 140737488351232)) = true → ∃ (zs : List Int) (L : Loc) (a : Option Addr), es = zs.map (fun n => [.int .i64 n]) ∧ sortEs es = (zs.mergeSort fun x y => decide (x ≤ y)).map (fun n => [.int .i64 n]) ∧ compEs es = (Lib.compact zs).map (fun n => [.int .i64 n]) ∧ compN es = (Lib.compact zs).length ∧ zs.length = n ∧ n ≤ 140737488351232 ∧ ι[0]? = some L ∧ ι = [L] ∧ L.n = n ∧ n ≤ L.cap ∧ vals = [.slice a n L.cap] ∧ (L.cap = 0 ∨ a = some ⟨L.b, L.base, none⟩) := by
    intro n es hM ha hg
    subst hM; subst ha
    rw [Bool.and_eq_true] at hg
    obtain ⟨zs, he, hs, h3, h4⟩ := intsB_some hg.1
    have hn := of_decide_eq_true hg.2
    have hl := hst.len
    simp only [List.length_singleton] at hl
    obtain ⟨L, hι⟩ := List.length_eq_one_iff.1 hl
    have hL : ι[0]? = some L := by rw [hι]; rfl
    obtain ⟨hrow, q1, q2, q3, q4, q5, q6⟩ := hst.ent 0 L _ hL rfl
    have hvl := hv.length
    simp only [List.length_singleton] at hvl
    obtain ⟨u, hu⟩ := List.length_eq_one_iff.1 hvl
    rw [hu] at hv
    unfold RVs at hv
    obtain ⟨a, e, hA⟩ := own_slice hL hv.1
    exact ⟨zs, L, a, he, hs, h3, h4, by rw [he] at q4; simpa using q4, hn, hL, hι, q2, q3, by rw [hu, e, q2], hA⟩
  cases c with
  | sortI =>
    simp only [conF] at h
    split at h
    · split at h
      · split at h
        · split at h
          · rename_i n es
            obtain ⟨hg, h⟩ := oguard_some h
            cases h
            obtain ⟨zs, L, a, he, hs, _, _, hzn, hn, hL, hι, hLn, hcap, rfl, hA⟩ := key n es rfl rfl hg
            rw [hs]
            subst he
            have hML : ([Ent.row 1 n false false (zs.map fun n => [D.int .i64 n])] : Mem)[0]? = some (.row 1 n false false (zs.map fun n => [D.int .i64 n])) := rfl
            rcases Nat.eq_zero_or_pos n with h0 | h0
            · have : zs = [] := List.length_eq_zero_iff.1 (by omega)
              subst this; subst h0
              refine (hc.nil a L.cap w).mono fun e w' ⟨e1, e2⟩ => ?_
              subst e2
              refine ⟨_, C, ι, e1, ?_, by unfold RV; exact ⟨#[], rfl, by unfold RVs; trivial⟩⟩
              rw [List.mergeSort_nil]
              exact (Go1.refl hst).up (fun _ h => h.elim) (fun _ _ h => h)
            · have hcc : L.cap ≠ 0 := by omega
              have hA := hA.resolve_left hcc
              subst hA
              obtain ⟨hH, hb⟩ := row_holds hst hL hML hcc
              have hp : n = zs.length := by omega
              subst hp
              refine (hc.row L.b L.base L.cap zs w hH hb (by omega)).mono fun e w' ⟨e1, q, os, e2⟩ => ?_
              have hml : (zs.mergeSort fun x y => decide (x ≤ y)).length = zs.length := List.length_mergeSort zs
              obtain ⟨u, hent⟩ := row_put hst hL hML hcc (ys := zs.mergeSort fun x y => decide (x ≤ y)) (xs := zs.mergeSort fun x y => decide (x ≤ y)) hml (by omega) (fun _ _ h => h) q os false e2
              have hLe : { L with n := (zs.mergeSort fun x y => decide (x ≤ y)).length } = L := by rw [hml, ← hLn]
              rw [hLe] at u hent
              have st := u.st0 hst _ (hent ι)
              refine ⟨_, C, ι, e1, ⟨?_, u.stp0, fun i hi hm => ?_⟩, by unfold RV; exact ⟨#[], rfl, by unfold RVs; trivial⟩⟩
              · rw [hml] at st; exact st
              · rcases hm with hm | hm
                · obtain ⟨e, h1, h2⟩ := hm
                  simp only [List.length_singleton] at hi
                  have : i = 0 := by omega
                  subst this
                  rw [hML] at h1; cases h1
                  simp [Ent.mvd] at h2
                · exact hm
          · cases h
        · cases h
      · cases h
    · cases h
  | fieldsC =>
    simp only [conF] at h
    split at h
    · split at h
      · split at h
        · split at h
          · rename_i s _
            obtain ⟨hg, h⟩ := oguard_some h
            cases h
            rw [Bool.and_eq_true] at hg
            obtain ⟨g, hgl⟩ := hc.tab
            have ht := htab.tab (nm := "strings.asciiSpace") (k := .u8) (zs := Lib.asciiSpaceTab) (by simp [tabs]) (htl _ rfl) hgl
            have hl : ι = [] := List.length_eq_zero_iff.1 hst.len
            subst hl
            have hvl := hv.length
            simp only [List.length_singleton] at hvl
            obtain ⟨u, hu⟩ := List.length_eq_one_iff.1 hvl
            subst hu
            unfold RVs RV RD at hv
            rw [hv.1]
            refine (hc.calls s w (of_decide_eq_true hg.2) (fun j b hj => ?_) ht).mono fun e w' ⟨e1, T, e2⟩ => ?_
            · have := List.all_eq_true.1 hg.1 b (List.mem_of_getElem? hj)
              exact of_decide_eq_true this
            · have hh : w'.heap = w.heap ++ #[Obj.cells ((Lib.fields s.data.toList).map fun l => Value.string ⟨l.toArray⟩).toArray T] := by rw [e2, alloc_eq_grow]; rfl
              have hat : w'.heap[w.heap.size]? = some (Obj.cells ((Lib.fields s.data.toList).map fun l => Value.string ⟨l.toArray⟩).toArray T) := by rw [hh]; simp
              obtain ⟨C', g1, hC⟩ := con_new hst (w' := w') (by rw [e2]; rfl) (by rw [e2]; rfl) (by rw [e2]; rfl) hh (b0 := w.heap.size) (n := (Lib.fields s.data.toList).length) (Nat.le_refl _) (.inr ⟨_, _, _, hat, by simp⟩) (k := mvs []) (fun i => by rintro ⟨_, h, _⟩; simp at h)
              refine ⟨_, C', [], e1, g1, ?_⟩
              unfold RV RD
              refine ⟨_, _, rfl, Nat.le_refl _, fun _ => rfl, by simp [fieldEs, fieldN], fun c hc => ?_, .inr ⟨_, _, rfl, by rw [hC]; show 0 + fieldN s * 1 ≤ _; unfold fieldN; omega, ?_⟩⟩
              · unfold fieldEs at hc
                obtain ⟨l, _, rfl⟩ := List.mem_map.1 hc
                rfl
              · have key : ∀ (q : List (List UInt8)) (off : Nat), (∀ (j : Nat) l, q[j]? = some l → w'.cell? ⟨w.heap.size, off + j, none⟩ = some (.string ⟨l.toArray⟩)) → REs w' C' (fun o => w'.cell? ⟨w.heap.size, o, none⟩) off (q.map fun l => [D.str ⟨l.toArray⟩]) := by
                  intro q
                  induction q with
                  | nil => intro off _; unfold REs; trivial
                  | cons a q ih =>
                    intro off hq
                    simp only [List.map_cons]
                    unfold REs RCs
                    refine ⟨⟨⟨_, hq 0 a rfl, by unfold RD; rfl⟩, by unfold RCs; trivial⟩, ?_⟩
                    refine ih _ fun j l hj => ?_
                    have := hq (j + 1) l (by simpa using hj)
                    rw [show off + [D.str ⟨a.toArray⟩].length + j = off + (j + 1) by simp; omega]
                    exact this
                unfold fieldEs
                refine key _ 0 fun j l hj => ?_
                rw [cell_of_row hat]
                simp [hj]
          · cases h
        · cases h
      · cases h
    · cases h
  | itoaC =>
    simp only [conF] at h
    split at h
    · split at h
      · split at h
        · split at h
          · split at h
            · rename_i n _ _
              obtain ⟨hg, h⟩ := oguard_some h
              cases h
              have hg := of_decide_eq_true hg
              obtain ⟨g, hgl⟩ := hc.tab
              have ht := htab.tab (nm := "internal/strconv.uint64pow10") (k := .u64) (zs := Lib.pow10Tab) (by simp [tabs]) (htl _ rfl) hgl
              have hl : ι = [] := List.length_eq_zero_iff.1 hst.len
              subst hl
              have hvl := hv.length
              simp only [List.length_singleton] at hvl
              obtain ⟨u, hu⟩ := List.length_eq_one_iff.1 hvl
              subst hu
              unfold RVs RV RD at hv
              rw [hv.1]
              refine (hc.calls n w hg.1 hg.2 ht).mono fun e w' ⟨e1, q1, q2, q3, os, q4⟩ => ?_
              obtain ⟨C', g1, hC⟩ := con_new hst (w' := w') q1 q2 q3 q4 (b0 := w.heap.size) (n := 0) (Nat.le_refl _) (.inl rfl) (k := mvs []) (fun i => by rintro ⟨_, h, _⟩; simp at h)
              refine ⟨_, C', [], e1, g1, ?_⟩
              unfold RV RD
              rfl
            · cases h
          · cases h
        · cases h
      · cases h
    · cases h
  | compactI =>
    simp only [conF] at h
    split at h
    · split at h
      · split at h
        · split at h
          · rename_i n es
            obtain ⟨hg, h⟩ := oguard_some h
            cases h
            obtain ⟨zs, L, a, he, _, hs, hk, hzn, hn, hL, hι, hLn, hcap, rfl, hA⟩ := key n es rfl rfl hg
            rw [hs, hk]
            subst he
            have hML : ([Ent.row 1 n false false (zs.map fun n => [D.int .i64 n])] : Mem)[0]? = some (.row 1 n false false (zs.map fun n => [D.int .i64 n])) := rfl
            have hle := Lib.compact_length_le zs
            rcases Nat.eq_zero_or_pos n with h0 | h0
            · have : zs = [] := List.length_eq_zero_iff.1 (by omega)
              subst this; subst h0
              have hcl : Lib.compact ([] : List Int) = [] := List.length_eq_zero_iff.1 (by simpa using hle)
              refine (hc.nil a L.cap w).mono fun e w' ⟨e1, e2⟩ => ?_
              subst e2
              refine ⟨_, C, ι, e1, ?_, ?_⟩
              · rw [hcl]
                have st : St C ι [Ent.row 1 0 false true []] w' := ⟨hst.len, fun i L1 e1 hi he => ?_, hst.inj, hst.com, hst.own⟩
                · refine ⟨st, (Stp.refl hst.own _), fun i hi hm => ?_⟩
                  rcases hm with ⟨e, h1, h2⟩ | hm
                  · simp only [List.length_singleton] at hi
                    have : i = 0 := by omega
                    subst this
                    exact ⟨_, rfl, rfl⟩
                  · exact hm
                · cases i with
                  | zero =>
                    simp only [List.getElem?_cons_zero, Option.some.injEq] at he
                    subst he
                    have q := hst.ent 0 L1 _ hi hML
                    exact q
                  | succ i => simp at he
              · unfold RV
                refine ⟨L, hL, ?_, a, by rw [hLn], hA⟩
                exact (hst.ent 0 L _ hL hML).1
            · have hcc : L.cap ≠ 0 := by omega
              have hA := hA.resolve_left hcc
              subst hA
              obtain ⟨hH, hb⟩ := row_holds hst hL hML hcc
              have hp : n = zs.length := by omega
              subst hp
              refine (hc.row L.b L.base L.cap zs w hH (by omega) (by omega)).mono fun e w' ⟨e1, q, e2⟩ => ?_
              have e2' : w' = grow (putRow (Value.int .i64) (Sort.ahead w q) L.b L.base (Lib.compact zs ++ List.replicate (zs.length - (Lib.compact zs).length) 0).toArray) #[] := by rw [e2, grow_empty]
              obtain ⟨u, hent⟩ := row_put hst hL hML hcc (ys := Lib.compact zs ++ List.replicate (zs.length - (Lib.compact zs).length) 0) (xs := Lib.compact zs) (by simp; omega) (by omega) (fun j z hj => by rw [List.getElem?_append_left (List.getElem?_eq_some_iff.1 hj).1]; exact hj) q #[] true e2'
              have st := u.st hst _ (.inl ⟨_, _, _, _, _, rfl⟩) (hent _)
              refine ⟨_, C, _, e1, ⟨st, u.stp (.inr ⟨_, rfl, rfl⟩), fun i hi hm => ?_⟩, ?_⟩
              · simp only [List.length_singleton] at hi
                have : i = 0 := by omega
                subst this
                exact ⟨_, rfl, rfl⟩
              · unfold RV
                refine ⟨{ L with n := (Lib.compact zs).length }, by rw [hι]; rfl, (hst.ent 0 L _ hL hML).1, _, rfl, .inr rfl⟩
          · cases h
        · cases h
      · cases h
    · cases h
end
end Go.Ev
