/- entry.path as a call,from the kit's contracts of slices.Sort and slices.Compact. No statement of its own. -/
import Derived.Test.YtniohchnpfpffaaGreatPa
import Derived.Test.YtniohchnpfpffaaGreatAmE
import Derived.Shelf.SortM.Plain
import Derived.Shelf.Slices.CompactI
import Derived.KernelRfl
set_option linter.unusedSimpArgs false
set_option linter.unusedVariables false
namespace Go.Proofs.YtniohchnpfpffaaGreat.Sv
open Go.RowKit Go.Shelf Go.Proofs Go.Sort Go.Am Go.Vk
set_option maxRecDepth 100000
def zuq:Go.Shelf.Ren:=⟨fun|5=>141|7=>171|8=>118|10=>192|11=>193|12=>194|13=>195|14=>196|15=>197|16=>198|17=>199|18=>200|19=>162|20=>163|30=>206|31=>187|32=>188|33=>207|34=>208|35=>110|40=>210|n=>n,fun|0=>0|3=>3|4=>4|5=>5|9=>9|22=>46|23=>46|25=>3|32=>163|35=>202|36=>203|41=>113|44=>209|46=>49|53=>227|57=>231|63=>242|64=>133|n=>n,fun|n=>n⟩
theorem sortI:SlLaysM.n5 Tryz.prog zuq where
 mixed:=by kernel_rfl
 f5 := ⟨"slices.Sort[[]int,int]",by decide,Tryz.func141.trans (congrArg some (by kernel_rfl))⟩
 f7 := ⟨"slices.pdqsortOrdered[int]",by decide,Tryz.func171.trans (congrArg some (by kernel_rfl))⟩
 f8:=Tryz.func118.trans (congrArg some (by kernel_rfl))
 f10 := ⟨"slices.insertionSortOrdered[int]",by decide,Tryz.func192.trans (congrArg some (by kernel_rfl))⟩
 f11 := ⟨"slices.heapSortOrdered[int]",by decide,Tryz.func193.trans (congrArg some (by kernel_rfl))⟩
 f12 := ⟨"slices.breakPatternsOrdered[int]",by decide,Tryz.func194.trans (congrArg some (by kernel_rfl))⟩
 f13 := ⟨"slices.choosePivotOrdered[int]",by decide,Tryz.func195.trans (congrArg some (by kernel_rfl))⟩
 f14 := ⟨"slices.reverseRangeOrdered[int]",by decide,Tryz.func196.trans (congrArg some (by kernel_rfl))⟩
 f15 := ⟨"slices.partialInsertionSortOrdered[int]",by decide,Tryz.func197.trans (congrArg some (by kernel_rfl))⟩
 f16 := ⟨"cmp.Less[int]",by decide,Tryz.func198.trans (congrArg some (by kernel_rfl))⟩
 f17 := ⟨"slices.partitionEqualOrdered[int]",by decide,Tryz.func199.trans (congrArg some (by kernel_rfl))⟩
 f18 := ⟨"slices.partitionOrdered[int]",by decide,Tryz.func200.trans (congrArg some (by kernel_rfl))⟩
 f19:=Tryz.func162.trans (congrArg some (by kernel_rfl))
 f20:=Tryz.func163.trans (congrArg some (by kernel_rfl))
 f30 := ⟨"slices.siftDownOrdered[int]",by decide,Tryz.func206.trans (congrArg some (by kernel_rfl))⟩
 f31:=Tryz.func187.trans (congrArg some (by kernel_rfl))
 f32:=Tryz.func188.trans (congrArg some (by kernel_rfl))
 f33 := ⟨"slices.medianAdjacentOrdered[int]",by decide,Tryz.func207.trans (congrArg some (by kernel_rfl))⟩
 f34 := ⟨"slices.medianOrdered[int]",by decide,Tryz.func208.trans (congrArg some (by kernel_rfl))⟩
 f35 := ⟨"cmp.isNaN[int]",by decide,Tryz.func110.trans (congrArg some (by kernel_rfl))⟩
 f40 := ⟨"slices.order2Ordered[int]",by decide,Tryz.func210.trans (congrArg some (by kernel_rfl))⟩
 t0:=Tryz.underlying0
 a0:=Tryz.isAgg0
 z0:=Tryz.sizeOf0
 v0:=Tryz.zeroValue0
 t3:=Tryz.underlying3
 a3:=Tryz.isAgg3
 z3:=Tryz.sizeOf3
 v3:=Tryz.zeroValue3
 t4:=Tryz.underlying4
 a4:=Tryz.isAgg4
 z4:=Tryz.sizeOf4
 v4:=Tryz.zeroValue4
 t5:=Tryz.underlying5
 a5:=Tryz.isAgg5
 z5:=Tryz.sizeOf5
 v5:=Tryz.zeroValue5
 t9:=Tryz.underlying9
 a9:=Tryz.isAgg9
 z9:=Tryz.sizeOf9
 v9:=Tryz.zeroValue9
 t22:=Tryz.underlying46
 a22:=Tryz.isAgg46
 z22:=Tryz.sizeOf46
 v22:=Tryz.zeroValue46
 t23:=Tryz.underlying46
 a23:=Tryz.isAgg46
 z23:=Tryz.sizeOf46
 v23:=Tryz.zeroValue46
 t25:=Tryz.underlying3
 a25:=Tryz.isAgg3
 z25:=Tryz.sizeOf3
 v25:=Tryz.zeroValue3
 t32:=Tryz.underlying163
 a32:=Tryz.isAgg163
 z32:=Tryz.sizeOf163
 v32:=Tryz.zeroValue163
 t35:=Tryz.underlying202
 a35:=Tryz.isAgg202
 z35:=Tryz.sizeOf202
 v35:=Tryz.zeroValue202
 t36:=Tryz.underlying203
 a36:=Tryz.isAgg203
 z36:=Tryz.sizeOf203
 v36:=Tryz.zeroValue203
 t41:=Tryz.underlying113
 a41:=Tryz.isAgg113
 z41:=Tryz.sizeOf113
 v41:=Tryz.zeroValue113
 t44:=Tryz.underlying209
 a44:=Tryz.isAgg209
 z44:=Tryz.sizeOf209
 v44:=Tryz.zeroValue209
 t46:=Tryz.underlying49
 a46:=Tryz.isAgg49
 z46:=Tryz.sizeOf49
 v46:=Tryz.zeroValue49
 t53:=Tryz.underlying227
 a53:=Tryz.isAgg227
 z53:=Tryz.sizeOf227
 v53:=Tryz.zeroValue227
 t57:=Tryz.underlying231
 a57:=Tryz.isAgg231
 z57:=Tryz.sizeOf231
 v57:=Tryz.zeroValue231
 t63:=Tryz.underlying242
 a63:=Tryz.isAgg242
 z63:=Tryz.sizeOf242
 v63:=Tryz.zeroValue242
 t64:=Tryz.underlying133
 a64:=Tryz.isAgg133
 z64:=Tryz.sizeOf133
 v64:=Tryz.zeroValue133
def zwt:Go.Shelf.Ren:=⟨fun|20=>116|n=>n,fun|0=>0|3=>3|4=>4|22=>46|n=>n,fun|n=>n⟩
theorem compL:Lays2.n20 Tryz.prog zwt where
 mixed:=by kernel_rfl
 f20:=Tryz.func116.trans (congrArg some (by kernel_rfl))
 t0:=Tryz.underlying0
 a0:=Tryz.isAgg0
 z0:=Tryz.sizeOf0
 v0:=Tryz.zeroValue0
 t3:=Tryz.underlying3
 a3:=Tryz.isAgg3
 z3:=Tryz.sizeOf3
 v3:=Tryz.zeroValue3
 t4:=Tryz.underlying4
 a4:=Tryz.isAgg4
 z4:=Tryz.sizeOf4
 v4:=Tryz.zeroValue4
 t22:=Tryz.underlying46
 a22:=Tryz.isAgg46
 z22:=Tryz.sizeOf46
 v22:=Tryz.zeroValue46
 i3:=by kernel_rfl
theorem sort_ok:zxe:=fun blk off cap zs w hH hb hl=>AnyM.slices_Sort_int sortI blk off cap zs w hH hb hl
theorem zts:zq3:=fun blk off cap zs w hH hl hc=>Any.slices_Compact_int compL blk off cap zs w hH hl hc
def pathF(y:List Int):Option Bool:=some (pathB y)
theorem path_ok [Dr](hD: ¬Dr.D):zaj Tryz.prog 61 (hdl [(false,.slice (.int .i64))] [.sl 0 false .bool] pathF):=by
 refine zw4 hD rfl ?_
 intro y r hr E σ w us hus
 obtain rfl:=Option.some.inj hr
 have hus:RelL E σ w [] [.sv false (.int .i64) y] us:=hus
 simp only[RelL]at hus
 obtain⟨u,rest,rfl,hu,rfl⟩:=hus
 obtain⟨A,c,rfl,hc,hcell⟩:=zy2 hu
 refine Calls.mono (callsIn_wide.1 (path_in sort_ok zts Fence.wide 8 (fun n f args w R h=>callsIn_wide.2 h) (fun _=>trivial) trivial trivial trivial trivial rfl (by omega) A c y w (fun hz=> ?_))) ?_
 ·obtain⟨b,off,rfl,hb,hcells⟩:=hcell hz
  exact .inr ⟨b,off,c,rfl,hb,hcells⟩
 ·rintro e w' ⟨rfl,hb⟩
  exact⟨_,rfl,hb,fun E σ' β=>rfl⟩
end Go.Proofs.YtniohchnpfpffaaGreat.Sv
