/- Contracts of the kit,laid at this seat; no statement of its own. -/
import Derived.Test.YtfcgafnmlkiimaaGreatDoorProg
import Derived.Shelf.Lays
import Derived.Shelf.Strings.BuilderX
import Derived.KernelRfl
namespace Go.Proofs.YtfcgafnmlkiimaaGreatDoor.Y
open Go.Proofs
set_option maxRecDepth 100000
def ccL_ren:Go.Shelf.Ren:=⟨fun|240=>107|276=>141|n=>n,fun|0=>0|4=>4|9=>9|20=>20|37=>33|70=>98|72=>100|164=>238|n=>n,fun|n=>n⟩
theorem ccL:Lays.n240 Tryz.prog ccL_ren where
 mixed:=by kernel_rfl
 f240:=Tryz.func107.trans (congrArg some (by kernel_rfl))
 f276:=Tryz.func141.trans (congrArg some (by kernel_rfl))
 t0:=Tryz.underlying0
 a0:=Tryz.isAgg0
 z0:=Tryz.sizeOf0
 v0:=Tryz.zeroValue0
 t4:=Tryz.underlying4
 a4:=Tryz.isAgg4
 z4:=Tryz.sizeOf4
 v4:=Tryz.zeroValue4
 t9:=Tryz.underlying9
 a9:=Tryz.isAgg9
 z9:=Tryz.sizeOf9
 v9:=Tryz.zeroValue9
 t20:=Tryz.underlying20
 a20:=Tryz.isAgg20
 z20:=Tryz.sizeOf20
 v20:=Tryz.zeroValue20
 t70:=Tryz.underlying98
 a70:=Tryz.isAgg98
 z70:=Tryz.sizeOf98
 v70:=Tryz.zeroValue98
 t72:=Tryz.underlying100
 a72:=Tryz.isAgg100
 z72:=Tryz.sizeOf100
 v72:=Tryz.zeroValue100
 t164:=Tryz.underlying238
 a164:=Tryz.isAgg238
 z164:=Tryz.sizeOf238
 v164:=Tryz.zeroValue238
def bstrL_ren:Go.Shelf.Ren:=⟨fun|169=>37|n=>n,fun|0=>0|3=>3|5=>5|9=>9|37=>33|70=>98|72=>100|127=>170|n=>n,fun|n=>n⟩
theorem bstrL:Lays.n169 Tryz.prog bstrL_ren where
 mixed:=by kernel_rfl
 f169:=Tryz.func37.trans (congrArg some (by kernel_rfl))
 t0:=Tryz.underlying0
 a0:=Tryz.isAgg0
 z0:=Tryz.sizeOf0
 v0:=Tryz.zeroValue0
 t3:=Tryz.underlying3
 a3:=Tryz.isAgg3
 z3:=Tryz.sizeOf3
 v3:=Tryz.zeroValue3
 t9:=Tryz.underlying9
 a9:=Tryz.isAgg9
 z9:=Tryz.sizeOf9
 v9:=Tryz.zeroValue9
 t37:=Tryz.underlying33
 a37:=Tryz.isAgg33
 z37:=Tryz.sizeOf33
 v37:=Tryz.zeroValue33
 t70:=Tryz.underlying98
 a70:=Tryz.isAgg98
 z70:=Tryz.sizeOf98
 v70:=Tryz.zeroValue98
 t72:=Tryz.underlying100
 a72:=Tryz.isAgg100
 z72:=Tryz.sizeOf100
 v72:=Tryz.zeroValue100
 t127:=Tryz.underlying170
 a127:=Tryz.isAgg170
 z127:=Tryz.sizeOf170
 v127:=Tryz.zeroValue170
def itoaL_ren:Go.Shelf.Ren:=⟨fun|129=>122|246=>142|283=>156|284=>157|285=>158|286=>159|317=>180|318=>181|319=>182|320=>183|337=>198|338=>199|n=>n,fun|0=>0|2=>2|3=>3|4=>4|5=>5|9=>9|20=>20|37=>33|46=>185|51=>219|53=>56|171=>253|173=>255|212=>273|213=>274|232=>288|233=>289|n=>n,fun|17=>0|18=>1|19=>2|n=>n⟩
theorem itoaL:Lays.n246 Tryz.prog itoaL_ren where
 mixed:=by kernel_rfl
 f129:=Tryz.func122.trans (congrArg some (by kernel_rfl))
 f246:=Tryz.func142.trans (congrArg some (by kernel_rfl))
 f283:=Tryz.func156.trans (congrArg some (by kernel_rfl))
 f284:=Tryz.func157.trans (congrArg some (by kernel_rfl))
 f285:=Tryz.func158.trans (congrArg some (by kernel_rfl))
 f286:=Tryz.func159.trans (congrArg some (by kernel_rfl))
 f317:=Tryz.func180.trans (congrArg some (by kernel_rfl))
 f318:=Tryz.func181.trans (congrArg some (by kernel_rfl))
 f319:=Tryz.func182.trans (congrArg some (by kernel_rfl))
 f320:=Tryz.func183.trans (congrArg some (by kernel_rfl))
 f337:=Tryz.func198.trans (congrArg some (by kernel_rfl))
 f338:=Tryz.func199.trans (congrArg some (by kernel_rfl))
 t0:=Tryz.underlying0
 a0:=Tryz.isAgg0
 z0:=Tryz.sizeOf0
 v0:=Tryz.zeroValue0
 t2:=Tryz.underlying2
 a2:=Tryz.isAgg2
 z2:=Tryz.sizeOf2
 v2:=Tryz.zeroValue2
 t3:=Tryz.underlying3
 a3:=Tryz.isAgg3
 z3:=Tryz.sizeOf3
 v3:=Tryz.zeroValue3
 t4:=Tryz.underlying4
 a4:=Tryz.isAgg4
 z4:=Tryz.sizeOf4
 v4:=Tryz.zeroValue4
 t5:=Tryz.underlying5
 a5:=Tryz.isAgg5
 z5:=Tryz.sizeOf5
 v5:=Tryz.zeroValue5
 t9:=Tryz.underlying9
 a9:=Tryz.isAgg9
 z9:=Tryz.sizeOf9
 v9:=Tryz.zeroValue9
 t20:=Tryz.underlying20
 a20:=Tryz.isAgg20
 z20:=Tryz.sizeOf20
 v20:=Tryz.zeroValue20
 t37:=Tryz.underlying33
 a37:=Tryz.isAgg33
 z37:=Tryz.sizeOf33
 v37:=Tryz.zeroValue33
 t46:=Tryz.underlying185
 a46:=Tryz.isAgg185
 z46:=Tryz.sizeOf185
 v46:=Tryz.zeroValue185
 t51:=Tryz.underlying219
 a51:=Tryz.isAgg219
 z51:=Tryz.sizeOf219
 v51:=Tryz.zeroValue219
 t53:=Tryz.underlying56
 a53:=Tryz.isAgg56
 z53:=Tryz.sizeOf56
 v53:=Tryz.zeroValue56
 t171:=Tryz.underlying253
 a171:=Tryz.isAgg253
 z171:=Tryz.sizeOf253
 v171:=Tryz.zeroValue253
 t173:=Tryz.underlying255
 a173:=Tryz.isAgg255
 z173:=Tryz.sizeOf255
 v173:=Tryz.zeroValue255
 t212:=Tryz.underlying273
 a212:=Tryz.isAgg273
 z212:=Tryz.sizeOf273
 v212:=Tryz.zeroValue273
 t213:=Tryz.underlying274
 a213:=Tryz.isAgg274
 z213:=Tryz.sizeOf274
 t232:=Tryz.underlying288
 a232:=Tryz.isAgg288
 z232:=Tryz.sizeOf288
 v232:=Tryz.zeroValue288
 t233:=Tryz.underlying289
 a233:=Tryz.isAgg289
 z233:=Tryz.sizeOf289
 v233:=Tryz.zeroValue289
 g17:=by kernel_rfl
 g18:=by kernel_rfl
 g19:=by kernel_rfl
theorem ccL_x:Builder.X72 Tryz.prog ccL_ren where
 sizeBuilder:=by kernel_rfl
 liesBuilder:=by kernel_rfl
theorem bstrL_x:Builder.Extra Tryz.prog bstrL_ren where
 sizeBuilder:=by kernel_rfl
 liesBuilder:=by kernel_rfl
 t5:=Tryz.underlying5
 a5:=Tryz.isAgg5
 z5:=Tryz.sizeOf5
 v5:=Tryz.zeroValue5
 infoByte:=by kernel_rfl
 cellsByte:=by kernel_rfl
 sizeByte:=by kernel_rfl
 neB5:=by decide
end Go.Proofs.YtfcgafnmlkiimaaGreatDoor.Y
