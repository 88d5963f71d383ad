/- slices.SortFunc at this program, function 22: where the library's contract lies (printed by a program of this claim's author). -/
import Derived.Test.YtjcebofaahbifaaProg
import Derived.Shelf.SlLaysF0
import Derived.KernelRfl
namespace Go.Proofs.Ytjcebofaahbifaa
open Go Go.Proofs
set_option maxRecDepth 100000
def lays22_ren : Go.Shelf.Ren := ⟨fun | 6 => 22 | 15 => 30 | 14 => 29 | 28 => 40 | 29 => 41 | 20 => 32 | 21 => 33 | 22 => 34 | 23 => 35 | 24 => 36 | 25 => 37 | 26 => 38 | 27 => 39 | 46 => 42 | 47 => 43 | 48 => 44 | 49 => 45 | 50 => 46 | 57 => 47 | n => n, fun | 22 => 35 | 24 => 38 | 25 => 62 | 3 => 3 | 39 => 68 | 0 => 0 | 53 => 78 | 55 => 80 | 4 => 4 | 46 => 71 | 45 => 70 | 50 => 75 | 5 => 5 | 9 => 9 | 66 => 81 | 70 => 85 | 76 => 87 | 77 => 88 | n => n, fun | n => n⟩
theorem lays22 : Go.Proofs.SlLaysF0.n6 Try.prog lays22_ren where
  mixed := by kernel_rfl
  f6 := ⟨ "slices.SortFunc[[]embrasure/api.Circuit,embrasure/api.Circuit]", by decide, Try.func22.trans (congrArg some (by kernel_rfl))⟩
  f14 := ⟨ "slices.pdqsortCmpFunc[embrasure/api.Circuit]", by decide, Try.func29.trans (congrArg some (by kernel_rfl))⟩
  f15 := Try.func30.trans (congrArg some (by kernel_rfl))
  f20 := ⟨ "slices.insertionSortCmpFunc[embrasure/api.Circuit]", by decide, Try.func32.trans (congrArg some (by kernel_rfl))⟩
  f21 := ⟨ "slices.heapSortCmpFunc[embrasure/api.Circuit]", by decide, Try.func33.trans (congrArg some (by kernel_rfl))⟩
  f22 := ⟨ "slices.breakPatternsCmpFunc[embrasure/api.Circuit]", by decide, Try.func34.trans (congrArg some (by kernel_rfl))⟩
  f23 := ⟨ "slices.choosePivotCmpFunc[embrasure/api.Circuit]", by decide, Try.func35.trans (congrArg some (by kernel_rfl))⟩
  f24 := ⟨ "slices.reverseRangeCmpFunc[embrasure/api.Circuit]", by decide, Try.func36.trans (congrArg some (by kernel_rfl))⟩
  f25 := ⟨ "slices.partialInsertionSortCmpFunc[embrasure/api.Circuit]", by decide, Try.func37.trans (congrArg some (by kernel_rfl))⟩
  f26 := ⟨ "slices.partitionEqualCmpFunc[embrasure/api.Circuit]", by decide, Try.func38.trans (congrArg some (by kernel_rfl))⟩
  f27 := ⟨ "slices.partitionCmpFunc[embrasure/api.Circuit]", by decide, Try.func39.trans (congrArg some (by kernel_rfl))⟩
  f28 := Try.func40.trans (congrArg some (by kernel_rfl))
  f29 := Try.func41.trans (congrArg some (by kernel_rfl))
  f46 := ⟨ "slices.siftDownCmpFunc[embrasure/api.Circuit]", by decide, Try.func42.trans (congrArg some (by kernel_rfl))⟩
  f47 := Try.func43.trans (congrArg some (by kernel_rfl))
  f48 := Try.func44.trans (congrArg some (by kernel_rfl))
  f49 := ⟨ "slices.medianAdjacentCmpFunc[embrasure/api.Circuit]", by decide, Try.func45.trans (congrArg some (by kernel_rfl))⟩
  f50 := ⟨ "slices.medianCmpFunc[embrasure/api.Circuit]", by decide, Try.func46.trans (congrArg some (by kernel_rfl))⟩
  f57 := ⟨ "slices.order2CmpFunc[embrasure/api.Circuit]", by decide, Try.func47.trans (congrArg some (by kernel_rfl))⟩
  t0 := Try.underlying0
  a0 := Try.isAgg0
  z0 := Try.sizeOf0
  v0 := Try.zeroValue0
  t3 := Try.underlying3
  a3 := Try.isAgg3
  z3 := Try.sizeOf3
  v3 := Try.zeroValue3
  t4 := Try.underlying4
  a4 := Try.isAgg4
  z4 := Try.sizeOf4
  v4 := Try.zeroValue4
  t5 := Try.underlying5
  a5 := Try.isAgg5
  z5 := Try.sizeOf5
  v5 := Try.zeroValue5
  t9 := Try.underlying9
  a9 := Try.isAgg9
  z9 := Try.sizeOf9
  v9 := Try.zeroValue9
  t22 := Try.underlying35
  a22 := Try.isAgg35
  z22 := Try.sizeOf35
  v22 := Try.zeroValue35
  t25 := Try.underlying62
  a25 := Try.isAgg62
  z25 := Try.sizeOf62
  v25 := Try.zeroValue62
  t39 := Try.underlying68
  a39 := Try.isAgg68
  z39 := Try.sizeOf68
  v39 := Try.zeroValue68
  t45 := Try.underlying70
  a45 := Try.isAgg70
  z45 := Try.sizeOf70
  v45 := Try.zeroValue70
  t46 := Try.underlying71
  a46 := Try.isAgg71
  z46 := Try.sizeOf71
  v46 := Try.zeroValue71
  t50 := Try.underlying75
  a50 := Try.isAgg75
  z50 := Try.sizeOf75
  v50 := Try.zeroValue75
  t53 := Try.underlying78
  a53 := Try.isAgg78
  z53 := Try.sizeOf78
  v53 := Try.zeroValue78
  t55 := Try.underlying80
  a55 := Try.isAgg80
  z55 := Try.sizeOf80
  v55 := Try.zeroValue80
  t66 := Try.underlying81
  a66 := Try.isAgg81
  z66 := Try.sizeOf81
  v66 := Try.zeroValue81
  t70 := Try.underlying85
  a70 := Try.isAgg85
  z70 := Try.sizeOf85
  v70 := Try.zeroValue85
  t76 := Try.underlying87
  a76 := Try.isAgg87
  z76 := Try.sizeOf87
  v76 := Try.zeroValue87
  t77 := Try.underlying88
  a77 := Try.isAgg88
  z77 := Try.sizeOf88
  v77 := Try.zeroValue88
end Go.Proofs.Ytjcebofaahbifaa
