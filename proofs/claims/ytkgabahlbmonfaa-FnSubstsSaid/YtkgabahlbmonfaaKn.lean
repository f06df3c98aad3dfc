/-
  slices.Sort and slices.Compact of numbers are laid at this program (the layings' text is the kit's tool's) and known by what they do.
-/
import Derived.Test.YtkgabahlbmonfaaEvCon
import Derived.Test.YtkgabahlbmonfaaProg
import Derived.Shelf.Sort.Plain
import Derived.Shelf.Slices.CompactI
import Derived.Shelf.Slices.In.SortNone
namespace Go.Ev.Q
open Go Go.Ev Go.Proofs Go.Shelf
set_option maxRecDepth 100000
def laysSort_ren : Go.Shelf.Ren := ⟨fun | 189 => 75 | 125 => 113 | 257 => 112 | 128 => 133 | 129 => 134 | 294 => 124 | 295 => 125 | 296 => 126 | 297 => 127 | 298 => 128 | 299 => 129 | 216 => 130 | 300 => 131 | 301 => 132 | 328 => 140 | 329 => 141 | 330 => 142 | 331 => 143 | 332 => 144 | 215 => 145 | 343 => 146 | n => n, fun | 28 => 55 | 3 => 3 | 46 => 144 | 0 => 0 | 51 => 168 | 53 => 170 | 4 => 4 | 183 => 160 | 182 => 159 | 131 => 165 | 5 => 5 | 9 => 9 | 218 => 172 | 222 => 133 | 228 => 178 | 229 => 179 | n => n, fun | n => n⟩
theorem laysSort : Go.Proofs.Lays.n189 Try.prog laysSort_ren where
  mixed := by kernel_rfl
  f125 := Try.func113.trans (congrArg some (by kernel_rfl))
  f128 := Try.func133.trans (congrArg some (by kernel_rfl))
  f129 := Try.func134.trans (congrArg some (by kernel_rfl))
  f189 := Try.func75.trans (congrArg some (by kernel_rfl))
  f215 := Try.func145.trans (congrArg some (by kernel_rfl))
  f216 := Try.func130.trans (congrArg some (by kernel_rfl))
  f257 := Try.func112.trans (congrArg some (by kernel_rfl))
  f294 := Try.func124.trans (congrArg some (by kernel_rfl))
  f295 := Try.func125.trans (congrArg some (by kernel_rfl))
  f296 := Try.func126.trans (congrArg some (by kernel_rfl))
  f297 := Try.func127.trans (congrArg some (by kernel_rfl))
  f298 := Try.func128.trans (congrArg some (by kernel_rfl))
  f299 := Try.func129.trans (congrArg some (by kernel_rfl))
  f300 := Try.func131.trans (congrArg some (by kernel_rfl))
  f301 := Try.func132.trans (congrArg some (by kernel_rfl))
  f328 := Try.func140.trans (congrArg some (by kernel_rfl))
  f329 := Try.func141.trans (congrArg some (by kernel_rfl))
  f330 := Try.func142.trans (congrArg some (by kernel_rfl))
  f331 := Try.func143.trans (congrArg some (by kernel_rfl))
  f332 := Try.func144.trans (congrArg some (by kernel_rfl))
  f343 := Try.func146.trans (congrArg some (by kernel_rfl))
  t0 := Try.underlying0
  a0 := Try.isAgg0
  z0 := Try.sizeOf0
  v0 := Try.zeroValue0
  t3 := Try.underlying3
  a3 := Try.isAgg3
  z3 := Try.sizeOf3
  v3 := Try.zeroValue3
  t4 := Try.underlying4
  a4 := Try.isAgg4
  z4 := Try.sizeOf4
  v4 := Try.zeroValue4
  t5 := Try.underlying5
  a5 := Try.isAgg5
  z5 := Try.sizeOf5
  v5 := Try.zeroValue5
  t9 := Try.underlying9
  a9 := Try.isAgg9
  z9 := Try.sizeOf9
  v9 := Try.zeroValue9
  t28 := Try.underlying55
  a28 := Try.isAgg55
  z28 := Try.sizeOf55
  v28 := Try.zeroValue55
  t46 := Try.underlying144
  a46 := Try.isAgg144
  z46 := Try.sizeOf144
  v46 := Try.zeroValue144
  t51 := Try.underlying168
  a51 := Try.isAgg168
  z51 := Try.sizeOf168
  v51 := Try.zeroValue168
  t53 := Try.underlying170
  a53 := Try.isAgg170
  z53 := Try.sizeOf170
  v53 := Try.zeroValue170
  t131 := Try.underlying165
  a131 := Try.isAgg165
  z131 := Try.sizeOf165
  v131 := Try.zeroValue165
  t182 := Try.underlying159
  a182 := Try.isAgg159
  z182 := Try.sizeOf159
  v182 := Try.zeroValue159
  t183 := Try.underlying160
  a183 := Try.isAgg160
  z183 := Try.sizeOf160
  v183 := Try.zeroValue160
  t218 := Try.underlying172
  a218 := Try.isAgg172
  z218 := Try.sizeOf172
  v218 := Try.zeroValue172
  t222 := Try.underlying133
  a222 := Try.isAgg133
  z222 := Try.sizeOf133
  v222 := Try.zeroValue133
  t228 := Try.underlying178
  a228 := Try.isAgg178
  z228 := Try.sizeOf178
  v228 := Try.zeroValue178
  t229 := Try.underlying179
  a229 := Try.isAgg179
  z229 := Try.sizeOf179
  v229 := Try.zeroValue179
def laysCompact_ren : Go.Shelf.Ren := ⟨fun | 20 => 76 | n => n, fun | 22 => 55 | 3 => 3 | 4 => 4 | 0 => 0 | n => n, fun | n => n⟩
theorem laysCompact : Go.Proofs.Lays2.n20 Try.prog laysCompact_ren where
  mixed := by kernel_rfl
  f20 := Try.func76.trans (congrArg some (by kernel_rfl))
  t0 := Try.underlying0
  a0 := Try.isAgg0
  z0 := Try.sizeOf0
  v0 := Try.zeroValue0
  t3 := Try.underlying3
  a3 := Try.isAgg3
  z3 := Try.sizeOf3
  v3 := Try.zeroValue3
  t4 := Try.underlying4
  a4 := Try.isAgg4
  z4 := Try.sizeOf4
  v4 := Try.zeroValue4
  t22 := Try.underlying55
  a22 := Try.isAgg55
  z22 := Try.sizeOf55
  v22 := Try.zeroValue55
  i3 := by kernel_rfl
theorem con75 : ConIs Try.prog 75 .sortI :=
  show SortIs Try.prog 75 from ⟨fun x c w => calls_of_every_depth fun D => AnyS.slices_Sort_int_none_alone laysSort D x c w, fun blk off cap zs w h1 h2 h3 => Any.slices_Sort_int laysSort blk off cap zs w h1 h2 h3⟩
theorem con76 : ConIs Try.prog 76 .compactI :=
  show CompactIs Try.prog 76 from ⟨fun x c w => Any.slices_Compact_int_empty laysCompact x c w, fun blk off cap zs w h1 h2 h3 => Any.slices_Compact_int laysCompact blk off cap zs w h1 h2 h3⟩
end Go.Ev.Q
