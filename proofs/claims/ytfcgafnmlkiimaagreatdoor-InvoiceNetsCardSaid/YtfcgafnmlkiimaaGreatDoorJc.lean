/- Plain laws of the journal: what a trial tells. No statement of its own. -/
import Derived.Test.YtfcgafnmlkiimaaGreatDoorJb
set_option linter.unusedSimpArgs false
set_option linter.unusedVariables false
namespace Go.Proofs.YtfcgafnmlkiimaaGreatDoor.Pure
open Go.Vk Go.Am Go.Pg Go.Sort Go.Proofs.YtfcgafnmlkiimaaGreatDoor.Y
abbrev Ps:=(Int×List Leg)×Int
def inP(q:Int)(x:Ps):Bool:=bif (q != -1)then !(x.2 !=q)else true
def sel(q:Int)(L:List Ps):List Leg:=(L.filter (inP q)).flatMap (fun x=>x.1.2)
end Go.Proofs.YtfcgafnmlkiimaaGreatDoor.Pure
