/- entry.path as a call, from the kit's contracts of slices.Sort and slices.Compact. No statement of its own. -/
import Derived.Test.YtniohchnpfpffaaPa
import Derived.Test.YtniohchnpfpffaaAmE
import Derived.Shelf.SortM.Plain
import Derived.Shelf.Slices.CompactI
import Derived.KernelRfl
namespace Go.Proofs.Ytniohchnpfpffaa.Sv
open Go.RowKit Go.Shelf Go.Proofs Go.Sort Go.Am Go.Vk
set_option linter.unusedVariables false
set_option linter.unusedSimpArgs false
set_option maxRecDepth 100000
def sortI_ren : Go.Shelf.Ren := ⟨fun | 5 => 81 | 7 => 102 | 8 => 58 | 10 => 119 | 11 => 120 | 12 => 121 | 13 => 122 | 14 => 123 | 15 => 124 | 16 => 125 | 17 => 126 | 18 => 127 | 19 => 91 | 20 => 92 | 30 => 134 | 31 => 104 | 32 => 105 | 33 => 135 | 34 => 136 | 35 => 67 | 40 => 138 | n => n, fun | 0 => 0 | 3 => 3 | 4 => 4 | 5 => 5 | 9 => 9 | 22 => 33 | 23 => 33 | 25 => 3 | 32 => 40 | 35 => 134 | 36 => 135 | 41 => 88 | 44 => 141 | 46 => 24 | 53 => 150 | 57 => 154 | 63 => 168 | 64 => 73 | n => n, fun | n => n⟩
theorem sortI : SlLaysM.n5 Try.prog sortI_ren where
  mixed := by kernel_rfl
  f5 := ⟨"slices.Sort[[]int,int]", by decide, Try.func81.trans (congrArg some (by kernel_rfl))⟩
  f7 := ⟨"slices.pdqsortOrdered[int]", by decide, Try.func102.trans (congrArg some (by kernel_rfl))⟩
  f8 := Try.func58.trans (congrArg some (by kernel_rfl))
  f10 := ⟨"slices.insertionSortOrdered[int]", by decide, Try.func119.trans (congrArg some (by kernel_rfl))⟩
  f11 := ⟨"slices.heapSortOrdered[int]", by decide, Try.func120.trans (congrArg some (by kernel_rfl))⟩
  f12 := ⟨"slices.breakPatternsOrdered[int]", by decide, Try.func121.trans (congrArg some (by kernel_rfl))⟩
  f13 := ⟨"slices.choosePivotOrdered[int]", by decide, Try.func122.trans (congrArg some (by kernel_rfl))⟩
  f14 := ⟨"slices.reverseRangeOrdered[int]", by decide, Try.func123.trans (congrArg some (by kernel_rfl))⟩
  f15 := ⟨"slices.partialInsertionSortOrdered[int]", by decide, Try.func124.trans (congrArg some (by kernel_rfl))⟩
  f16 := ⟨"cmp.Less[int]", by decide, Try.func125.trans (congrArg some (by kernel_rfl))⟩
  f17 := ⟨"slices.partitionEqualOrdered[int]", by decide, Try.func126.trans (congrArg some (by kernel_rfl))⟩
  f18 := ⟨"slices.partitionOrdered[int]", by decide, Try.func127.trans (congrArg some (by kernel_rfl))⟩
  f19 := Try.func91.trans (congrArg some (by kernel_rfl))
  f20 := Try.func92.trans (congrArg some (by kernel_rfl))
  f30 := ⟨"slices.siftDownOrdered[int]", by decide, Try.func134.trans (congrArg some (by kernel_rfl))⟩
  f31 := Try.func104.trans (congrArg some (by kernel_rfl))
  f32 := Try.func105.trans (congrArg some (by kernel_rfl))
  f33 := ⟨"slices.medianAdjacentOrdered[int]", by decide, Try.func135.trans (congrArg some (by kernel_rfl))⟩
  f34 := ⟨"slices.medianOrdered[int]", by decide, Try.func136.trans (congrArg some (by kernel_rfl))⟩
  f35 := ⟨"cmp.isNaN[int]", by decide, Try.func67.trans (congrArg some (by kernel_rfl))⟩
  f40 := ⟨"slices.order2Ordered[int]", by decide, Try.func138.trans (congrArg some (by kernel_rfl))⟩
  t0 := Try.underlying0
  a0 := Try.isAgg0
  z0 := Try.sizeOf0
  v0 := Try.zeroValue0
  t3 := Try.underlying3
  a3 := Try.isAgg3
  z3 := Try.sizeOf3
  v3 := Try.zeroValue3
  t4 := Try.underlying4
  a4 := Try.isAgg4
  z4 := Try.sizeOf4
  v4 := Try.zeroValue4
  t5 := Try.underlying5
  a5 := Try.isAgg5
  z5 := Try.sizeOf5
  v5 := Try.zeroValue5
  t9 := Try.underlying9
  a9 := Try.isAgg9
  z9 := Try.sizeOf9
  v9 := Try.zeroValue9
  t22 := Try.underlying33
  a22 := Try.isAgg33
  z22 := Try.sizeOf33
  v22 := Try.zeroValue33
  t23 := Try.underlying33
  a23 := Try.isAgg33
  z23 := Try.sizeOf33
  v23 := Try.zeroValue33
  t25 := Try.underlying3
  a25 := Try.isAgg3
  z25 := Try.sizeOf3
  v25 := Try.zeroValue3
  t32 := Try.underlying40
  a32 := Try.isAgg40
  z32 := Try.sizeOf40
  v32 := Try.zeroValue40
  t35 := Try.underlying134
  a35 := Try.isAgg134
  z35 := Try.sizeOf134
  v35 := Try.zeroValue134
  t36 := Try.underlying135
  a36 := Try.isAgg135
  z36 := Try.sizeOf135
  v36 := Try.zeroValue135
  t41 := Try.underlying88
  a41 := Try.isAgg88
  z41 := Try.sizeOf88
  v41 := Try.zeroValue88
  t44 := Try.underlying141
  a44 := Try.isAgg141
  z44 := Try.sizeOf141
  v44 := Try.zeroValue141
  t46 := Try.underlying24
  a46 := Try.isAgg24
  z46 := Try.sizeOf24
  v46 := Try.zeroValue24
  t53 := Try.underlying150
  a53 := Try.isAgg150
  z53 := Try.sizeOf150
  v53 := Try.zeroValue150
  t57 := Try.underlying154
  a57 := Try.isAgg154
  z57 := Try.sizeOf154
  v57 := Try.zeroValue154
  t63 := Try.underlying168
  a63 := Try.isAgg168
  z63 := Try.sizeOf168
  v63 := Try.zeroValue168
  t64 := Try.underlying73
  a64 := Try.isAgg73
  z64 := Try.sizeOf73
  v64 := Try.zeroValue73
def compL_ren : Go.Shelf.Ren := ⟨fun | 20 => 56 | n => n, fun | 0 => 0 | 3 => 3 | 4 => 4 | 22 => 33 | n => n, fun | n => n⟩
theorem compL : Lays2.n20 Try.prog compL_ren where
  mixed := by kernel_rfl
  f20 := Try.func56.trans (congrArg some (by kernel_rfl))
  t0 := Try.underlying0
  a0 := Try.isAgg0
  z0 := Try.sizeOf0
  v0 := Try.zeroValue0
  t3 := Try.underlying3
  a3 := Try.isAgg3
  z3 := Try.sizeOf3
  v3 := Try.zeroValue3
  t4 := Try.underlying4
  a4 := Try.isAgg4
  z4 := Try.sizeOf4
  v4 := Try.zeroValue4
  t22 := Try.underlying33
  a22 := Try.isAgg33
  z22 := Try.sizeOf33
  v22 := Try.zeroValue33
  i3 := by kernel_rfl
theorem sort_ok : SortOk := fun blk off cap zs w hH hb hl => AnyM.slices_Sort_int sortI blk off cap zs w hH hb hl
theorem compact_ok : CompactOk := fun blk off cap zs w hH hl hc => Any.slices_Compact_int compL blk off cap zs w hH hl hc
def pathF (y : List Int) : Option Bool := some (pathB y)
theorem path_ok [Dr] (hD : ¬ Dr.D) : HdlOk Try.prog 26 (hdl [(false, .slice (.int .i64))] [.sl 0 false .bool] pathF) := by
  refine hdl_plain hD rfl ?_
  intro y r hr E σ w us hus
  obtain rfl := Option.some.inj hr
  have hus : RelL E σ w [] [.sv false (.int .i64) y] us := hus
  simp only [RelL] at hus
  obtain ⟨u, rest, rfl, hu, rfl⟩ := hus
  obtain ⟨A, c, rfl, hc, hcell⟩ := rel_ints hu
  refine Calls.mono (callsIn_wide.1 (path_in sort_ok compact_ok Fence.wide 8 (fun n f args w R h => callsIn_wide.2 h) (fun _ => trivial) trivial trivial trivial trivial rfl (by omega) A c y w (fun hz => ?_))) ?_
  · obtain ⟨b, off, rfl, hb, hcells⟩ := hcell hz
    exact .inr ⟨b, off, c, rfl, hb, hcells⟩
  · rintro e w' ⟨rfl, hb⟩
    exact ⟨_, rfl, hb, fun E σ' β => rfl⟩
end Go.Proofs.Ytniohchnpfpffaa.Sv
