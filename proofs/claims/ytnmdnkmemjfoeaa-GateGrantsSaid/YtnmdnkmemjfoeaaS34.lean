/- slices.SortFunc at this program, function 34: where the library's contract lies (printed by a program of this claim's author). -/
import Derived.Test.YtnmdnkmemjfoeaaProg
import Derived.Shelf.SlLaysF0
import Derived.KernelRfl
namespace Go.Proofs.Ytnmdnkmemjfoeaa
open Go Go.Proofs
set_option maxRecDepth 100000
def lays34_ren : Go.Shelf.Ren := ⟨fun | 6 => 34 | 15 => 63 | 14 => 62 | 28 => 83 | 29 => 84 | 20 => 75 | 21 => 76 | 22 => 77 | 23 => 78 | 24 => 79 | 25 => 80 | 26 => 81 | 27 => 82 | 46 => 91 | 47 => 92 | 48 => 93 | 49 => 94 | 50 => 95 | 57 => 98 | n => n, fun | 22 => 45 | 24 => 55 | 25 => 88 | 3 => 3 | 39 => 102 | 0 => 0 | 53 => 23 | 55 => 39 | 4 => 4 | 46 => 129 | 45 => 128 | 50 => 133 | 5 => 5 | 9 => 9 | 66 => 143 | 70 => 147 | 76 => 153 | 77 => 154 | n => n, fun | n => n⟩
theorem lays34 : Go.Proofs.SlLaysF0.n6 Try.prog lays34_ren where
  mixed := by kernel_rfl
  f6 := ⟨ "slices.SortFunc[[]embrasure/api.Binding,embrasure/api.Binding]", by decide, Try.func34.trans (congrArg some (by kernel_rfl))⟩
  f14 := ⟨ "slices.pdqsortCmpFunc[embrasure/api.Binding]", by decide, Try.func62.trans (congrArg some (by kernel_rfl))⟩
  f15 := Try.func63.trans (congrArg some (by kernel_rfl))
  f20 := ⟨ "slices.insertionSortCmpFunc[embrasure/api.Binding]", by decide, Try.func75.trans (congrArg some (by kernel_rfl))⟩
  f21 := ⟨ "slices.heapSortCmpFunc[embrasure/api.Binding]", by decide, Try.func76.trans (congrArg some (by kernel_rfl))⟩
  f22 := ⟨ "slices.breakPatternsCmpFunc[embrasure/api.Binding]", by decide, Try.func77.trans (congrArg some (by kernel_rfl))⟩
  f23 := ⟨ "slices.choosePivotCmpFunc[embrasure/api.Binding]", by decide, Try.func78.trans (congrArg some (by kernel_rfl))⟩
  f24 := ⟨ "slices.reverseRangeCmpFunc[embrasure/api.Binding]", by decide, Try.func79.trans (congrArg some (by kernel_rfl))⟩
  f25 := ⟨ "slices.partialInsertionSortCmpFunc[embrasure/api.Binding]", by decide, Try.func80.trans (congrArg some (by kernel_rfl))⟩
  f26 := ⟨ "slices.partitionEqualCmpFunc[embrasure/api.Binding]", by decide, Try.func81.trans (congrArg some (by kernel_rfl))⟩
  f27 := ⟨ "slices.partitionCmpFunc[embrasure/api.Binding]", by decide, Try.func82.trans (congrArg some (by kernel_rfl))⟩
  f28 := Try.func83.trans (congrArg some (by kernel_rfl))
  f29 := Try.func84.trans (congrArg some (by kernel_rfl))
  f46 := ⟨ "slices.siftDownCmpFunc[embrasure/api.Binding]", by decide, Try.func91.trans (congrArg some (by kernel_rfl))⟩
  f47 := Try.func92.trans (congrArg some (by kernel_rfl))
  f48 := Try.func93.trans (congrArg some (by kernel_rfl))
  f49 := ⟨ "slices.medianAdjacentCmpFunc[embrasure/api.Binding]", by decide, Try.func94.trans (congrArg some (by kernel_rfl))⟩
  f50 := ⟨ "slices.medianCmpFunc[embrasure/api.Binding]", by decide, Try.func95.trans (congrArg some (by kernel_rfl))⟩
  f57 := ⟨ "slices.order2CmpFunc[embrasure/api.Binding]", by decide, Try.func98.trans (congrArg some (by kernel_rfl))⟩
  t0 := Try.underlying0
  a0 := Try.isAgg0
  z0 := Try.sizeOf0
  v0 := Try.zeroValue0
  t3 := Try.underlying3
  a3 := Try.isAgg3
  z3 := Try.sizeOf3
  v3 := Try.zeroValue3
  t4 := Try.underlying4
  a4 := Try.isAgg4
  z4 := Try.sizeOf4
  v4 := Try.zeroValue4
  t5 := Try.underlying5
  a5 := Try.isAgg5
  z5 := Try.sizeOf5
  v5 := Try.zeroValue5
  t9 := Try.underlying9
  a9 := Try.isAgg9
  z9 := Try.sizeOf9
  v9 := Try.zeroValue9
  t22 := Try.underlying45
  a22 := Try.isAgg45
  z22 := Try.sizeOf45
  v22 := Try.zeroValue45
  t25 := Try.underlying88
  a25 := Try.isAgg88
  z25 := Try.sizeOf88
  v25 := Try.zeroValue88
  t39 := Try.underlying102
  a39 := Try.isAgg102
  z39 := Try.sizeOf102
  v39 := Try.zeroValue102
  t45 := Try.underlying128
  a45 := Try.isAgg128
  z45 := Try.sizeOf128
  v45 := Try.zeroValue128
  t46 := Try.underlying129
  a46 := Try.isAgg129
  z46 := Try.sizeOf129
  v46 := Try.zeroValue129
  t50 := Try.underlying133
  a50 := Try.isAgg133
  z50 := Try.sizeOf133
  v50 := Try.zeroValue133
  t53 := Try.underlying23
  a53 := Try.isAgg23
  z53 := Try.sizeOf23
  v53 := Try.zeroValue23
  t55 := Try.underlying39
  a55 := Try.isAgg39
  z55 := Try.sizeOf39
  v55 := Try.zeroValue39
  t66 := Try.underlying143
  a66 := Try.isAgg143
  z66 := Try.sizeOf143
  v66 := Try.zeroValue143
  t70 := Try.underlying147
  a70 := Try.isAgg147
  z70 := Try.sizeOf147
  v70 := Try.zeroValue147
  t76 := Try.underlying153
  a76 := Try.isAgg153
  z76 := Try.sizeOf153
  v76 := Try.zeroValue153
  t77 := Try.underlying154
  a77 := Try.isAgg154
  z77 := Try.sizeOf154
  v77 := Try.zeroValue154
end Go.Proofs.Ytnmdnkmemjfoeaa
