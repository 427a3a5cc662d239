/- Contracts of the kit,laid at this seat; no statement of its own. -/
import Derived.Test.YtniohchnpfpffaaGreatProg
import Derived.Shelf.SlLaysF0
import Derived.KernelRfl
namespace Go.Proofs.YtniohchnpfpffaaGreat.Y
open Go.Proofs
set_option maxRecDepth 100000
def zv1:Go.Shelf.Ren:=⟨fun|6=>64|14=>117|15=>118|20=>154|21=>155|22=>156|23=>157|24=>158|25=>159|26=>160|27=>161|28=>162|29=>163|46=>186|47=>187|48=>188|49=>189|50=>190|57=>205|n=>n,fun|0=>0|3=>3|4=>4|5=>5|9=>9|22=>28|24=>59|25=>137|39=>163|45=>202|46=>203|50=>113|53=>209|55=>49|66=>227|70=>231|76=>242|77=>133|n=>n,fun|n=>n⟩
theorem sortL:SlLaysF0.n6 Tryz.prog zv1 where
 mixed:=by kernel_rfl
 f6 := ⟨"slices.SortFunc[[]purser/entry.Leg,purser/entry.Leg]",by decide,Tryz.func64.trans (congrArg some (by kernel_rfl))⟩
 f14 := ⟨"slices.pdqsortCmpFunc[purser/entry.Leg]",by decide,Tryz.func117.trans (congrArg some (by kernel_rfl))⟩
 f15:=Tryz.func118.trans (congrArg some (by kernel_rfl))
 f20 := ⟨"slices.insertionSortCmpFunc[purser/entry.Leg]",by decide,Tryz.func154.trans (congrArg some (by kernel_rfl))⟩
 f21 := ⟨"slices.heapSortCmpFunc[purser/entry.Leg]",by decide,Tryz.func155.trans (congrArg some (by kernel_rfl))⟩
 f22 := ⟨"slices.breakPatternsCmpFunc[purser/entry.Leg]",by decide,Tryz.func156.trans (congrArg some (by kernel_rfl))⟩
 f23 := ⟨"slices.choosePivotCmpFunc[purser/entry.Leg]",by decide,Tryz.func157.trans (congrArg some (by kernel_rfl))⟩
 f24 := ⟨"slices.reverseRangeCmpFunc[purser/entry.Leg]",by decide,Tryz.func158.trans (congrArg some (by kernel_rfl))⟩
 f25 := ⟨"slices.partialInsertionSortCmpFunc[purser/entry.Leg]",by decide,Tryz.func159.trans (congrArg some (by kernel_rfl))⟩
 f26 := ⟨"slices.partitionEqualCmpFunc[purser/entry.Leg]",by decide,Tryz.func160.trans (congrArg some (by kernel_rfl))⟩
 f27 := ⟨"slices.partitionCmpFunc[purser/entry.Leg]",by decide,Tryz.func161.trans (congrArg some (by kernel_rfl))⟩
 f28:=Tryz.func162.trans (congrArg some (by kernel_rfl))
 f29:=Tryz.func163.trans (congrArg some (by kernel_rfl))
 f46 := ⟨"slices.siftDownCmpFunc[purser/entry.Leg]",by decide,Tryz.func186.trans (congrArg some (by kernel_rfl))⟩
 f47:=Tryz.func187.trans (congrArg some (by kernel_rfl))
 f48:=Tryz.func188.trans (congrArg some (by kernel_rfl))
 f49 := ⟨"slices.medianAdjacentCmpFunc[purser/entry.Leg]",by decide,Tryz.func189.trans (congrArg some (by kernel_rfl))⟩
 f50 := ⟨"slices.medianCmpFunc[purser/entry.Leg]",by decide,Tryz.func190.trans (congrArg some (by kernel_rfl))⟩
 f57 := ⟨"slices.order2CmpFunc[purser/entry.Leg]",by decide,Tryz.func205.trans (congrArg some (by kernel_rfl))⟩
 t0:=Tryz.underlying0
 a0:=Tryz.isAgg0
 z0:=Tryz.sizeOf0
 v0:=Tryz.zeroValue0
 t3:=Tryz.underlying3
 a3:=Tryz.isAgg3
 z3:=Tryz.sizeOf3
 v3:=Tryz.zeroValue3
 t4:=Tryz.underlying4
 a4:=Tryz.isAgg4
 z4:=Tryz.sizeOf4
 v4:=Tryz.zeroValue4
 t5:=Tryz.underlying5
 a5:=Tryz.isAgg5
 z5:=Tryz.sizeOf5
 v5:=Tryz.zeroValue5
 t9:=Tryz.underlying9
 a9:=Tryz.isAgg9
 z9:=Tryz.sizeOf9
 v9:=Tryz.zeroValue9
 t22:=Tryz.underlying28
 a22:=Tryz.isAgg28
 z22:=Tryz.sizeOf28
 v22:=Tryz.zeroValue28
 t25:=Tryz.underlying137
 a25:=Tryz.isAgg137
 z25:=Tryz.sizeOf137
 v25:=Tryz.zeroValue137
 t39:=Tryz.underlying163
 a39:=Tryz.isAgg163
 z39:=Tryz.sizeOf163
 v39:=Tryz.zeroValue163
 t45:=Tryz.underlying202
 a45:=Tryz.isAgg202
 z45:=Tryz.sizeOf202
 v45:=Tryz.zeroValue202
 t46:=Tryz.underlying203
 a46:=Tryz.isAgg203
 z46:=Tryz.sizeOf203
 v46:=Tryz.zeroValue203
 t50:=Tryz.underlying113
 a50:=Tryz.isAgg113
 z50:=Tryz.sizeOf113
 v50:=Tryz.zeroValue113
 t53:=Tryz.underlying209
 a53:=Tryz.isAgg209
 z53:=Tryz.sizeOf209
 v53:=Tryz.zeroValue209
 t55:=Tryz.underlying49
 a55:=Tryz.isAgg49
 z55:=Tryz.sizeOf49
 v55:=Tryz.zeroValue49
 t66:=Tryz.underlying227
 a66:=Tryz.isAgg227
 z66:=Tryz.sizeOf227
 v66:=Tryz.zeroValue227
 t70:=Tryz.underlying231
 a70:=Tryz.isAgg231
 z70:=Tryz.sizeOf231
 v70:=Tryz.zeroValue231
 t76:=Tryz.underlying242
 a76:=Tryz.isAgg242
 z76:=Tryz.sizeOf242
 v76:=Tryz.zeroValue242
 t77:=Tryz.underlying133
 a77:=Tryz.isAgg133
 z77:=Tryz.sizeOf133
 v77:=Tryz.zeroValue133
end Go.Proofs.YtniohchnpfpffaaGreat.Y
