/- The library's slices.Sort and slices.Compact at []int, laid at this dump (the kit's own tool has written the layings), and what they leave of a row of one's own. -/
import Derived.Test.YtbifoajnmikhiaaProg
import Derived.Test.YtbifoajnmikhiaaWL
import Derived.Shelf.Sort.Plain
import Derived.Shelf.Slices.CompactI
import Derived.Shelf.Slices.In.SortNone
import Derived.Lib.OwnBridge
import Derived.Sort.OwnSorted
namespace Go.Proofs.Ytbifoajnmikhiaa.SL
open Go.Shelf
def laysSort_ren : Go.Shelf.Ren := ⟨fun | 189 => 66 | 125 => 86 | 257 => 85 | 128 => 103 | 129 => 104 | 294 => 94 | 295 => 95 | 296 => 96 | 297 => 97 | 298 => 98 | 299 => 99 | 216 => 100 | 300 => 101 | 301 => 102 | 328 => 105 | 329 => 106 | 330 => 107 | 331 => 108 | 332 => 109 | 215 => 110 | 343 => 111 | n => n, fun | 28 => 51 | 3 => 3 | 46 => 89 | 0 => 0 | 51 => 107 | 53 => 109 | 4 => 4 | 183 => 99 | 182 => 98 | 131 => 104 | 5 => 5 | 9 => 9 | 218 => 110 | 222 => 81 | 228 => 116 | 229 => 82 | n => n, fun | n => n⟩
theorem laysSort : Go.Proofs.Lays.n189 Try.prog laysSort_ren where
  mixed := by kernel_rfl
  f125 := Try.func86.trans (congrArg some (by kernel_rfl))
  f128 := Try.func103.trans (congrArg some (by kernel_rfl))
  f129 := Try.func104.trans (congrArg some (by kernel_rfl))
  f189 := Try.func66.trans (congrArg some (by kernel_rfl))
  f215 := Try.func110.trans (congrArg some (by kernel_rfl))
  f216 := Try.func100.trans (congrArg some (by kernel_rfl))
  f257 := Try.func85.trans (congrArg some (by kernel_rfl))
  f294 := Try.func94.trans (congrArg some (by kernel_rfl))
  f295 := Try.func95.trans (congrArg some (by kernel_rfl))
  f296 := Try.func96.trans (congrArg some (by kernel_rfl))
  f297 := Try.func97.trans (congrArg some (by kernel_rfl))
  f298 := Try.func98.trans (congrArg some (by kernel_rfl))
  f299 := Try.func99.trans (congrArg some (by kernel_rfl))
  f300 := Try.func101.trans (congrArg some (by kernel_rfl))
  f301 := Try.func102.trans (congrArg some (by kernel_rfl))
  f328 := Try.func105.trans (congrArg some (by kernel_rfl))
  f329 := Try.func106.trans (congrArg some (by kernel_rfl))
  f330 := Try.func107.trans (congrArg some (by kernel_rfl))
  f331 := Try.func108.trans (congrArg some (by kernel_rfl))
  f332 := Try.func109.trans (congrArg some (by kernel_rfl))
  f343 := Try.func111.trans (congrArg some (by kernel_rfl))
  t0 := Try.underlying0
  a0 := Try.isAgg0
  z0 := Try.sizeOf0
  v0 := Try.zeroValue0
  t3 := Try.underlying3
  a3 := Try.isAgg3
  z3 := Try.sizeOf3
  v3 := Try.zeroValue3
  t4 := Try.underlying4
  a4 := Try.isAgg4
  z4 := Try.sizeOf4
  v4 := Try.zeroValue4
  t5 := Try.underlying5
  a5 := Try.isAgg5
  z5 := Try.sizeOf5
  v5 := Try.zeroValue5
  t9 := Try.underlying9
  a9 := Try.isAgg9
  z9 := Try.sizeOf9
  v9 := Try.zeroValue9
  t28 := Try.underlying51
  a28 := Try.isAgg51
  z28 := Try.sizeOf51
  v28 := Try.zeroValue51
  t46 := Try.underlying89
  a46 := Try.isAgg89
  z46 := Try.sizeOf89
  v46 := Try.zeroValue89
  t51 := Try.underlying107
  a51 := Try.isAgg107
  z51 := Try.sizeOf107
  v51 := Try.zeroValue107
  t53 := Try.underlying109
  a53 := Try.isAgg109
  z53 := Try.sizeOf109
  v53 := Try.zeroValue109
  t131 := Try.underlying104
  a131 := Try.isAgg104
  z131 := Try.sizeOf104
  v131 := Try.zeroValue104
  t182 := Try.underlying98
  a182 := Try.isAgg98
  z182 := Try.sizeOf98
  v182 := Try.zeroValue98
  t183 := Try.underlying99
  a183 := Try.isAgg99
  z183 := Try.sizeOf99
  v183 := Try.zeroValue99
  t218 := Try.underlying110
  a218 := Try.isAgg110
  z218 := Try.sizeOf110
  v218 := Try.zeroValue110
  t222 := Try.underlying81
  a222 := Try.isAgg81
  z222 := Try.sizeOf81
  v222 := Try.zeroValue81
  t228 := Try.underlying116
  a228 := Try.isAgg116
  z228 := Try.sizeOf116
  v228 := Try.zeroValue116
  t229 := Try.underlying82
  a229 := Try.isAgg82
  z229 := Try.sizeOf82
  v229 := Try.zeroValue82
def laysCompact_ren : Go.Shelf.Ren := ⟨fun | 20 => 67 | n => n, fun | 22 => 51 | 3 => 3 | 4 => 4 | 0 => 0 | n => n, fun | n => n⟩
theorem laysCompact : Go.Proofs.Lays2.n20 Try.prog laysCompact_ren where
  mixed := by kernel_rfl
  f20 := Try.func67.trans (congrArg some (by kernel_rfl))
  t0 := Try.underlying0
  a0 := Try.isAgg0
  z0 := Try.sizeOf0
  v0 := Try.zeroValue0
  t3 := Try.underlying3
  a3 := Try.isAgg3
  z3 := Try.sizeOf3
  v3 := Try.zeroValue3
  t4 := Try.underlying4
  a4 := Try.isAgg4
  z4 := Try.sizeOf4
  v4 := Try.zeroValue4
  t22 := Try.underlying51
  a22 := Try.isAgg51
  z22 := Try.sizeOf51
  v22 := Try.zeroValue51
  i3 := by kernel_rfl
open Go Go.RowKit Go.Sort Go.Proofs.YtbifoajnmikhiaaW.PrintWords

theorem below_grow (X : World) (os : Array Obj) : Below X.heap.size X (grow X os) := ⟨rfl, rfl, rfl, by simp, fun _ hk => heap_grow_old _ _ hk⟩

/-- Behind the sort: the same row, sorted. -/
theorem sort_calls {base : Nat} {ok : Nat → Prop} {v : Value} {xs : List Int} {w0 w : World} (ho : Kd.R (Kd.int .i64) 3 w base ok v xs) (hB : Below base w0 w) (hlen : xs.length < 4611686018427387904) :
    Calls Try.prog 66 #[v] w fun e w' => e = .returned (.tuple #[]) ∧ Kd.R (Kd.int .i64) 3 w' base ok v (xs.mergeSort fun x y => decide (x ≤ y)) ∧ Below base w0 w' ∧ Kept w w' (fun k => some k = v.ownBlock) := by
  by_cases hx : xs = []
  · subst hx
    obtain ⟨A, c, rfl⟩ := Kd.R_slice ho
    refine (show Calls Try.prog 66 #[.slice A 0 c] w _ from calls_of_every_depth (fun D => AnyS.slices_Sort_int_none_alone laysSort D A c w)).mono ?_
    rintro e w' ⟨rfl, rfl⟩
    exact ⟨rfl, by simpa using ho, hB, Kept.refl _ _⟩
  · obtain ⟨g, cap, rfl, hbase, hg, _⟩ := Kd.R_form ho (List.length_pos_iff.2 hx)
    have own := Kd.own_of_R ho
    have hH : Holds (Value.int .i64) w g 0 xs.toArray := by
      obtain ⟨g', cap', e', _, _, _, _, _, hH⟩ := Lib.holds_of_ownsRow (zs := xs) (enc := Value.int .i64) own (by intro h; cases h)
      injection e' with e1 _ _
      injection e1 with e1
      injection e1 with e1
      subst e1
      exact hH
    have hl2 : (xs.mergeSort fun x y => decide (x ≤ y)).length = xs.length := List.length_mergeSort xs
    refine (show Calls Try.prog 66 #[.slice (some ⟨g, 0, none⟩) xs.length cap] w _ from Any.slices_Sort_int laysSort g 0 cap xs w hH hg hlen).mono ?_
    rintro e w' ⟨rfl, n, os, rfl⟩
    have own2 := Lib.ownsRow_putRow (q := n) (k := xs.length) (enc := Value.int .i64) (zs := xs) own hl2 (Nat.le_refl _)
    rw [← hl2, List.take_length] at own2
    have hr : Kd.R (Kd.int .i64) 3 (putRow (Value.int .i64) (Sort.ahead w n) g 0 (xs.mergeSort fun x y => decide (x ≤ y)).toArray) base ok (.slice (some ⟨g, 0, none⟩) xs.length cap) (xs.mergeSort fun x y => decide (x ≤ y)) := by
      rw [← hl2]
      exact Kd.R_of_own (h1 := fun _ => rfl) own2 (fun k hk => ho.1 k (by rw [← hk]; rfl))
    have h1 := Lib.below_putRow (q := n) (enc := Value.int .i64) (d := (xs.mergeSort fun x y => decide (x ≤ y)).toArray) hB hbase
    have hsz : (putRow (Value.int .i64) (Sort.ahead w n) g 0 (xs.mergeSort fun x y => decide (x ≤ y)).toArray).heap.size = w.heap.size := by simp [putRow, mapBlock, Sort.ahead]
    refine ⟨rfl, Kd.R_below hr (below_grow _ os), ⟨h1.os, h1.tape, h1.output, by have := h1.size; simp only [size_grow]; omega, fun k hk => (heap_grow_old _ _ (by omega)).trans (h1.block k hk)⟩, by simp only [size_grow]; omega, fun i hi hn => ?_⟩
    rw [heap_grow_old _ _ (by omega)]
    have hne : g ≠ i := fun e => hn (by rw [← e]; rfl)
    simp [putRow, mapBlock, Sort.ahead, Array.getElem?_modify, hne]

/-- Behind slices.Compact: the row, cut to what is left. -/
theorem compact_calls {base : Nat} {ok : Nat → Prop} {v : Value} {xs : List Int} {w0 w : World} (ho : Kd.R (Kd.int .i64) 3 w base ok v xs) (hB : Below base w0 w) (hlen : xs.length < 4611686018427387904) :
    Calls Try.prog 67 #[v] w fun e w' => ∃ v', e = .returned v' ∧ Kd.R (Kd.int .i64) 3 w' base ok v' (Lib.compact xs) ∧ Below base w0 w' ∧ Kept w w' (fun k => some k = v.ownBlock) := by
  by_cases hx : xs = []
  · subst hx
    obtain ⟨A, c, rfl⟩ := Kd.R_slice ho
    refine (show Calls Try.prog 67 #[.slice A 0 c] w _ from Any.slices_Compact_int_empty laysCompact A c w).mono ?_
    rintro e w' ⟨rfl, rfl⟩
    exact ⟨_, rfl, ho, hB, Kept.refl _ _⟩
  · obtain ⟨g, cap, rfl, hbase, hg, _⟩ := Kd.R_form ho (List.length_pos_iff.2 hx)
    have own := Kd.own_of_R ho
    obtain ⟨hH, hcap⟩ : Holds (Value.int .i64) w g 0 xs.toArray ∧ xs.length ≤ cap := by
      obtain ⟨g', cap', e', _, _, hc, _, _, hH⟩ := Lib.holds_of_ownsRow (zs := xs) (enc := Value.int .i64) own (by intro h; cases h)
      injection e' with e1 _ e3
      injection e1 with e1
      injection e1 with e1
      subst e1
      subst e3
      exact ⟨hH, hc⟩
    have hcl := Lib.compact_length_le xs
    have hl2 : (Lib.compact xs ++ List.replicate (xs.length - (Lib.compact xs).length) 0).length = xs.length := by simp; omega
    refine (show Calls Try.prog 67 #[.slice (some ⟨g, 0, none⟩) xs.length cap] w _ from Any.slices_Compact_int laysCompact g 0 cap xs w hH (by omega) hcap).mono ?_
    rintro e w' ⟨rfl, q, rfl⟩
    have own2 := Lib.ownsRow_putRow (q := q) (k := (Lib.compact xs).length) (enc := Value.int .i64) (zs := xs) own hl2 hcl
    rw [List.take_left] at own2
    refine ⟨_, rfl, Kd.R_of_own (h1 := fun _ => rfl) own2 (fun k hk => ho.1 k (by rw [← hk]; rfl)), Lib.below_putRow hB hbase, by simp [putRow, mapBlock, Sort.ahead], fun i hi hn => ?_⟩
    have hne : g ≠ i := fun e => hn (by rw [← e]; rfl)
    simp [putRow, mapBlock, Sort.ahead, Array.getElem?_modify, hne]

end Go.Proofs.Ytbifoajnmikhiaa.SL
