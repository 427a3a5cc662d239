/- entry.path as a call,from the kit's contracts of slices.Sort and slices.Compact. No statement of its own. -/
import Derived.Test.YtfcgafnmlkiimaaGreatDoorPa
import Derived.Test.YtfcgafnmlkiimaaGreatDoorAmE
import Derived.Shelf.SortM.Plain
import Derived.Shelf.Slices.CompactI
import Derived.KernelRfl
set_option linter.unusedSimpArgs false
set_option linter.unusedVariables false
namespace Go.Proofs.YtfcgafnmlkiimaaGreatDoor.Sv
open Go.RowKit Go.Shelf Go.Proofs Go.Sort Go.Am Go.Vk
set_option maxRecDepth 100000
def sortI_ren:Go.Shelf.Ren:=⟨fun|5=>111|7=>144|8=>86|10=>160|11=>161|12=>162|13=>163|14=>164|15=>165|16=>166|17=>167|18=>168|19=>121|20=>122|30=>184|31=>146|32=>147|33=>185|34=>186|35=>123|40=>200|n=>n,fun|0=>0|3=>3|4=>4|5=>5|9=>9|22=>49|23=>49|25=>3|32=>185|35=>212|36=>213|41=>64|44=>219|46=>56|53=>243|57=>111|63=>263|64=>128|n=>n,fun|n=>n⟩
theorem sortI:SlLaysM.n5 Tryz.prog sortI_ren where
 mixed:=by kernel_rfl
 f5 := ⟨"slices.Sort[[]int,int]",by decide,Tryz.func111.trans (congrArg some (by kernel_rfl))⟩
 f7 := ⟨"slices.pdqsortOrdered[int]",by decide,Tryz.func144.trans (congrArg some (by kernel_rfl))⟩
 f8:=Tryz.func86.trans (congrArg some (by kernel_rfl))
 f10 := ⟨"slices.insertionSortOrdered[int]",by decide,Tryz.func160.trans (congrArg some (by kernel_rfl))⟩
 f11 := ⟨"slices.heapSortOrdered[int]",by decide,Tryz.func161.trans (congrArg some (by kernel_rfl))⟩
 f12 := ⟨"slices.breakPatternsOrdered[int]",by decide,Tryz.func162.trans (congrArg some (by kernel_rfl))⟩
 f13 := ⟨"slices.choosePivotOrdered[int]",by decide,Tryz.func163.trans (congrArg some (by kernel_rfl))⟩
 f14 := ⟨"slices.reverseRangeOrdered[int]",by decide,Tryz.func164.trans (congrArg some (by kernel_rfl))⟩
 f15 := ⟨"slices.partialInsertionSortOrdered[int]",by decide,Tryz.func165.trans (congrArg some (by kernel_rfl))⟩
 f16 := ⟨"cmp.Less[int]",by decide,Tryz.func166.trans (congrArg some (by kernel_rfl))⟩
 f17 := ⟨"slices.partitionEqualOrdered[int]",by decide,Tryz.func167.trans (congrArg some (by kernel_rfl))⟩
 f18 := ⟨"slices.partitionOrdered[int]",by decide,Tryz.func168.trans (congrArg some (by kernel_rfl))⟩
 f19:=Tryz.func121.trans (congrArg some (by kernel_rfl))
 f20:=Tryz.func122.trans (congrArg some (by kernel_rfl))
 f30 := ⟨"slices.siftDownOrdered[int]",by decide,Tryz.func184.trans (congrArg some (by kernel_rfl))⟩
 f31:=Tryz.func146.trans (congrArg some (by kernel_rfl))
 f32:=Tryz.func147.trans (congrArg some (by kernel_rfl))
 f33 := ⟨"slices.medianAdjacentOrdered[int]",by decide,Tryz.func185.trans (congrArg some (by kernel_rfl))⟩
 f34 := ⟨"slices.medianOrdered[int]",by decide,Tryz.func186.trans (congrArg some (by kernel_rfl))⟩
 f35 := ⟨"cmp.isNaN[int]",by decide,Tryz.func123.trans (congrArg some (by kernel_rfl))⟩
 f40 := ⟨"slices.order2Ordered[int]",by decide,Tryz.func200.trans (congrArg some (by kernel_rfl))⟩
 t0:=Tryz.underlying0
 a0:=Tryz.isAgg0
 z0:=Tryz.sizeOf0
 v0:=Tryz.zeroValue0
 t3:=Tryz.underlying3
 a3:=Tryz.isAgg3
 z3:=Tryz.sizeOf3
 v3:=Tryz.zeroValue3
 t4:=Tryz.underlying4
 a4:=Tryz.isAgg4
 z4:=Tryz.sizeOf4
 v4:=Tryz.zeroValue4
 t5:=Tryz.underlying5
 a5:=Tryz.isAgg5
 z5:=Tryz.sizeOf5
 v5:=Tryz.zeroValue5
 t9:=Tryz.underlying9
 a9:=Tryz.isAgg9
 z9:=Tryz.sizeOf9
 v9:=Tryz.zeroValue9
 t22:=Tryz.underlying49
 a22:=Tryz.isAgg49
 z22:=Tryz.sizeOf49
 v22:=Tryz.zeroValue49
 t23:=Tryz.underlying49
 a23:=Tryz.isAgg49
 z23:=Tryz.sizeOf49
 v23:=Tryz.zeroValue49
 t25:=Tryz.underlying3
 a25:=Tryz.isAgg3
 z25:=Tryz.sizeOf3
 v25:=Tryz.zeroValue3
 t32:=Tryz.underlying185
 a32:=Tryz.isAgg185
 z32:=Tryz.sizeOf185
 v32:=Tryz.zeroValue185
 t35:=Tryz.underlying212
 a35:=Tryz.isAgg212
 z35:=Tryz.sizeOf212
 v35:=Tryz.zeroValue212
 t36:=Tryz.underlying213
 a36:=Tryz.isAgg213
 z36:=Tryz.sizeOf213
 v36:=Tryz.zeroValue213
 t41:=Tryz.underlying64
 a41:=Tryz.isAgg64
 z41:=Tryz.sizeOf64
 v41:=Tryz.zeroValue64
 t44:=Tryz.underlying219
 a44:=Tryz.isAgg219
 z44:=Tryz.sizeOf219
 v44:=Tryz.zeroValue219
 t46:=Tryz.underlying56
 a46:=Tryz.isAgg56
 z46:=Tryz.sizeOf56
 v46:=Tryz.zeroValue56
 t53:=Tryz.underlying243
 a53:=Tryz.isAgg243
 z53:=Tryz.sizeOf243
 v53:=Tryz.zeroValue243
 t57:=Tryz.underlying111
 a57:=Tryz.isAgg111
 z57:=Tryz.sizeOf111
 v57:=Tryz.zeroValue111
 t63:=Tryz.underlying263
 a63:=Tryz.isAgg263
 z63:=Tryz.sizeOf263
 v63:=Tryz.zeroValue263
 t64:=Tryz.underlying128
 a64:=Tryz.isAgg128
 z64:=Tryz.sizeOf128
 v64:=Tryz.zeroValue128
def compL_ren:Go.Shelf.Ren:=⟨fun|20=>84|n=>n,fun|0=>0|3=>3|4=>4|22=>49|n=>n,fun|n=>n⟩
theorem compL:Lays2.n20 Tryz.prog compL_ren where
 mixed:=by kernel_rfl
 f20:=Tryz.func84.trans (congrArg some (by kernel_rfl))
 t0:=Tryz.underlying0
 a0:=Tryz.isAgg0
 z0:=Tryz.sizeOf0
 v0:=Tryz.zeroValue0
 t3:=Tryz.underlying3
 a3:=Tryz.isAgg3
 z3:=Tryz.sizeOf3
 v3:=Tryz.zeroValue3
 t4:=Tryz.underlying4
 a4:=Tryz.isAgg4
 z4:=Tryz.sizeOf4
 v4:=Tryz.zeroValue4
 t22:=Tryz.underlying49
 a22:=Tryz.isAgg49
 z22:=Tryz.sizeOf49
 v22:=Tryz.zeroValue49
 i3:=by kernel_rfl
theorem sort_ok:SortOk:=fun blk off cap zs w hH hb hl=>AnyM.slices_Sort_int sortI blk off cap zs w hH hb hl
theorem compact_ok:CompactOk:=fun blk off cap zs w hH hl hc=>Any.slices_Compact_int compL blk off cap zs w hH hl hc
def pathF(y:List Int):Option Bool:=some (pathB y)
theorem path_ok [Dr](hD: ¬Dr.D):HdlOk Tryz.prog 48 (hdl [(false,.slice (.int .i64))] [.sl 0 false .bool] pathF):=by
 refine hdl_plain hD rfl ?_
 intro y r hr E σ w us hus
 obtain rfl:=Option.some.inj hr
 have hus:RelL E σ w [] [.sv false (.int .i64) y] us:=hus
 simp only[RelL]at hus
 obtain⟨u,rest,rfl,hu,rfl⟩:=hus
 obtain⟨A,c,rfl,hc,hcell⟩:=rel_ints hu
 refine Calls.mono (callsIn_wide.1 (path_in sort_ok compact_ok Fence.wide 8 (fun n f args w R h=>callsIn_wide.2 h) (fun _=>trivial) trivial trivial trivial trivial rfl (by omega) A c y w (fun hz=> ?_))) ?_
 ·obtain⟨b,off,rfl,hb,hcells⟩:=hcell hz
  exact .inr ⟨b,off,c,rfl,hb,hcells⟩
 ·rintro e w' ⟨rfl,hb⟩
  exact⟨_,rfl,hb,fun E σ' β=>rfl⟩
end Go.Proofs.YtfcgafnmlkiimaaGreatDoor.Sv
