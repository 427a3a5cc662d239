/- entry.path as a call, from the kit's contracts of slices.Sort and slices.Compact. No statement of its own. -/
import Derived.Test.YtfhcockdlfidmaaPa
import Derived.Test.YtfhcockdlfidmaaAm21
import Derived.Shelf.SortM.Plain
import Derived.Shelf.Slices.CompactI
import Derived.KernelRfl
namespace Go.Proofs.Ytfhcockdlfidmaa.Sv
open Go.RowKit Go.Shelf Go.Proofs Go.Sort Go.Am Go.Vk
set_option linter.unusedVariables false
set_option linter.unusedSimpArgs false
set_option maxRecDepth 100000
def sortI_ren : Go.Shelf.Ren := ⟨fun | 5 => 59 | 7 => 74 | 8 => 48 | 10 => 80 | 11 => 81 | 12 => 82 | 13 => 83 | 14 => 84 | 15 => 85 | 16 => 86 | 17 => 87 | 18 => 88 | 19 => 69 | 20 => 70 | 30 => 90 | 31 => 76 | 32 => 77 | 33 => 91 | 34 => 92 | 35 => 71 | 40 => 93 | n => n, fun | 0 => 0 | 3 => 3 | 4 => 4 | 5 => 5 | 9 => 9 | 22 => 41 | 23 => 41 | 25 => 3 | 32 => 91 | 35 => 107 | 36 => 108 | 41 => 68 | 44 => 114 | 46 => 94 | 53 => 118 | 57 => 122 | 63 => 130 | 64 => 62 | n => n, fun | n => n⟩
theorem sortI : SlLaysM.n5 Try.prog sortI_ren where
  mixed := by kernel_rfl
  f5 := ⟨"slices.Sort[[]int,int]", by decide, Try.func59.trans (congrArg some (by kernel_rfl))⟩
  f7 := ⟨"slices.pdqsortOrdered[int]", by decide, Try.func74.trans (congrArg some (by kernel_rfl))⟩
  f8 := Try.func48.trans (congrArg some (by kernel_rfl))
  f10 := ⟨"slices.insertionSortOrdered[int]", by decide, Try.func80.trans (congrArg some (by kernel_rfl))⟩
  f11 := ⟨"slices.heapSortOrdered[int]", by decide, Try.func81.trans (congrArg some (by kernel_rfl))⟩
  f12 := ⟨"slices.breakPatternsOrdered[int]", by decide, Try.func82.trans (congrArg some (by kernel_rfl))⟩
  f13 := ⟨"slices.choosePivotOrdered[int]", by decide, Try.func83.trans (congrArg some (by kernel_rfl))⟩
  f14 := ⟨"slices.reverseRangeOrdered[int]", by decide, Try.func84.trans (congrArg some (by kernel_rfl))⟩
  f15 := ⟨"slices.partialInsertionSortOrdered[int]", by decide, Try.func85.trans (congrArg some (by kernel_rfl))⟩
  f16 := ⟨"cmp.Less[int]", by decide, Try.func86.trans (congrArg some (by kernel_rfl))⟩
  f17 := ⟨"slices.partitionEqualOrdered[int]", by decide, Try.func87.trans (congrArg some (by kernel_rfl))⟩
  f18 := ⟨"slices.partitionOrdered[int]", by decide, Try.func88.trans (congrArg some (by kernel_rfl))⟩
  f19 := Try.func69.trans (congrArg some (by kernel_rfl))
  f20 := Try.func70.trans (congrArg some (by kernel_rfl))
  f30 := ⟨"slices.siftDownOrdered[int]", by decide, Try.func90.trans (congrArg some (by kernel_rfl))⟩
  f31 := Try.func76.trans (congrArg some (by kernel_rfl))
  f32 := Try.func77.trans (congrArg some (by kernel_rfl))
  f33 := ⟨"slices.medianAdjacentOrdered[int]", by decide, Try.func91.trans (congrArg some (by kernel_rfl))⟩
  f34 := ⟨"slices.medianOrdered[int]", by decide, Try.func92.trans (congrArg some (by kernel_rfl))⟩
  f35 := ⟨"cmp.isNaN[int]", by decide, Try.func71.trans (congrArg some (by kernel_rfl))⟩
  f40 := ⟨"slices.order2Ordered[int]", by decide, Try.func93.trans (congrArg some (by kernel_rfl))⟩
  t0 := Try.underlying0
  a0 := Try.isAgg0
  z0 := Try.sizeOf0
  v0 := Try.zeroValue0
  t3 := Try.underlying3
  a3 := Try.isAgg3
  z3 := Try.sizeOf3
  v3 := Try.zeroValue3
  t4 := Try.underlying4
  a4 := Try.isAgg4
  z4 := Try.sizeOf4
  v4 := Try.zeroValue4
  t5 := Try.underlying5
  a5 := Try.isAgg5
  z5 := Try.sizeOf5
  v5 := Try.zeroValue5
  t9 := Try.underlying9
  a9 := Try.isAgg9
  z9 := Try.sizeOf9
  v9 := Try.zeroValue9
  t22 := Try.underlying41
  a22 := Try.isAgg41
  z22 := Try.sizeOf41
  v22 := Try.zeroValue41
  t23 := Try.underlying41
  a23 := Try.isAgg41
  z23 := Try.sizeOf41
  v23 := Try.zeroValue41
  t25 := Try.underlying3
  a25 := Try.isAgg3
  z25 := Try.sizeOf3
  v25 := Try.zeroValue3
  t32 := Try.underlying91
  a32 := Try.isAgg91
  z32 := Try.sizeOf91
  v32 := Try.zeroValue91
  t35 := Try.underlying107
  a35 := Try.isAgg107
  z35 := Try.sizeOf107
  v35 := Try.zeroValue107
  t36 := Try.underlying108
  a36 := Try.isAgg108
  z36 := Try.sizeOf108
  v36 := Try.zeroValue108
  t41 := Try.underlying68
  a41 := Try.isAgg68
  z41 := Try.sizeOf68
  v41 := Try.zeroValue68
  t44 := Try.underlying114
  a44 := Try.isAgg114
  z44 := Try.sizeOf114
  v44 := Try.zeroValue114
  t46 := Try.underlying94
  a46 := Try.isAgg94
  z46 := Try.sizeOf94
  v46 := Try.zeroValue94
  t53 := Try.underlying118
  a53 := Try.isAgg118
  z53 := Try.sizeOf118
  v53 := Try.zeroValue118
  t57 := Try.underlying122
  a57 := Try.isAgg122
  z57 := Try.sizeOf122
  v57 := Try.zeroValue122
  t63 := Try.underlying130
  a63 := Try.isAgg130
  z63 := Try.sizeOf130
  v63 := Try.zeroValue130
  t64 := Try.underlying62
  a64 := Try.isAgg62
  z64 := Try.sizeOf62
  v64 := Try.zeroValue62
def compL_ren : Go.Shelf.Ren := ⟨fun | 20 => 46 | n => n, fun | 0 => 0 | 3 => 3 | 4 => 4 | 22 => 41 | n => n, fun | n => n⟩
theorem compL : Lays2.n20 Try.prog compL_ren where
  mixed := by kernel_rfl
  f20 := Try.func46.trans (congrArg some (by kernel_rfl))
  t0 := Try.underlying0
  a0 := Try.isAgg0
  z0 := Try.sizeOf0
  v0 := Try.zeroValue0
  t3 := Try.underlying3
  a3 := Try.isAgg3
  z3 := Try.sizeOf3
  v3 := Try.zeroValue3
  t4 := Try.underlying4
  a4 := Try.isAgg4
  z4 := Try.sizeOf4
  v4 := Try.zeroValue4
  t22 := Try.underlying41
  a22 := Try.isAgg41
  z22 := Try.sizeOf41
  v22 := Try.zeroValue41
  i3 := by kernel_rfl
theorem sort_ok : SortOk := fun blk off cap zs w hH hb hl => AnyM.slices_Sort_int sortI blk off cap zs w hH hb hl
theorem compact_ok : CompactOk := fun blk off cap zs w hH hl hc => Any.slices_Compact_int compL blk off cap zs w hH hl hc
def pathF (y : List Int) : Option Bool := some (pathB y)
theorem path_ok [Dr] (hD : ¬ Dr.D) : HdlOk Try.prog 25 (hdl [(false, .slice (.int .i64))] [.sl 0 false .bool] pathF) := by
  refine hdl_plain hD rfl ?_
  intro y r hr E σ w us hus
  obtain rfl := Option.some.inj hr
  have hus : RelL E σ w [] [.sv false (.int .i64) y] us := hus
  simp only [RelL] at hus
  obtain ⟨u, rest, rfl, hu, rfl⟩ := hus
  obtain ⟨A, c, rfl, hc, hcell⟩ := rel_ints hu
  refine Calls.mono (callsIn_wide.1 (path_in sort_ok compact_ok Fence.wide 8 (fun n f args w R h => callsIn_wide.2 h) (fun _ => trivial) trivial trivial trivial trivial rfl (by omega) A c y w (fun hz => ?_))) ?_
  · obtain ⟨b, off, rfl, hb, hcells⟩ := hcell hz
    exact .inr ⟨b, off, c, rfl, hb, hcells⟩
  · rintro e w' ⟨rfl, hb⟩
    exact ⟨_, rfl, hb, fun E σ' β => rfl⟩
end Go.Proofs.Ytfhcockdlfidmaa.Sv
