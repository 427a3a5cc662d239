/- Plain laws: what the document's journal tells. No statement of its own. -/
import Derived.Test.YtfcgafnmlkiimaaGreatDoorNa
import Derived.Test.YtfcgafnmlkiimaaGreatDoorJe
set_option linter.unusedSimpArgs false
set_option linter.unusedVariables false
namespace Go.Proofs.YtfcgafnmlkiimaaGreatDoor.Pure
open Go.Vk Go.Am Go.Pg Go.Sort Go.Proofs.YtfcgafnmlkiimaaGreatDoor.Y
def inM(q:Int)(x:Ps):Bool:=bif decide (q≥0)then !(x.2 !=q)else true
def sumM(a:Acc)(q:Int)(l:List Ps):Int:=sumL ((l.filter (inM q)).map fun x=>atK a x.1.2)
end Go.Proofs.YtfcgafnmlkiimaaGreatDoor.Pure
