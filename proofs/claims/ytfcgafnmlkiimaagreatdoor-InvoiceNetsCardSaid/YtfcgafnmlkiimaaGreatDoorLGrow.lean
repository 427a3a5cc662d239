/- Contracts of the kit,laid at this seat; no statement of its own. -/
import Derived.Test.YtfcgafnmlkiimaaGreatDoorProg
import Derived.Shelf.Lays8
import Derived.KernelRfl
namespace Go.Proofs.YtfcgafnmlkiimaaGreatDoor.Y
open Go.Proofs
set_option maxRecDepth 100000
def growL_ren:Go.Shelf.Ren:=⟨fun|4=>150|n=>n,fun|0=>0|3=>3|4=>4|9=>9|20=>20|22=>90|25=>89|n=>n,fun|n=>n⟩
theorem growL:Lays8.n4 Tryz.prog growL_ren where
 mixed:=by kernel_rfl
 f4 := ⟨"slices.Grow[[]purser/api.Line,purser/api.Line]",by decide,Tryz.func150.trans (congrArg some (by kernel_rfl))⟩
 t0:=Tryz.underlying0
 a0:=Tryz.isAgg0
 z0:=Tryz.sizeOf0
 v0:=Tryz.zeroValue0
 t3:=Tryz.underlying3
 a3:=Tryz.isAgg3
 z3:=Tryz.sizeOf3
 v3:=Tryz.zeroValue3
 t4:=Tryz.underlying4
 a4:=Tryz.isAgg4
 z4:=Tryz.sizeOf4
 v4:=Tryz.zeroValue4
 t9:=Tryz.underlying9
 a9:=Tryz.isAgg9
 z9:=Tryz.sizeOf9
 v9:=Tryz.zeroValue9
 t20:=Tryz.underlying20
 a20:=Tryz.isAgg20
 z20:=Tryz.sizeOf20
 v20:=Tryz.zeroValue20
 t22:=Tryz.underlying90
 a22:=Tryz.isAgg90
 z22:=Tryz.sizeOf90
 v22:=Tryz.zeroValue90
end Go.Proofs.YtfcgafnmlkiimaaGreatDoor.Y
