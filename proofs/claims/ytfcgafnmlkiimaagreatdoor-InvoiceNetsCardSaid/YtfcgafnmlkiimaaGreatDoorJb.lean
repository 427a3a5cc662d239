/- Plain laws of the journal: the first line of its laws,and what a row of top-ups makes. No statement of its own. -/
import Derived.Test.YtfcgafnmlkiimaaGreatDoorJa
set_option linter.unusedSimpArgs false
set_option linter.unusedVariables false
namespace Go.Proofs.YtfcgafnmlkiimaaGreatDoor.Pure
open Go.Vk Go.Am Go.Pg Go.Sort Go.Proofs.YtfcgafnmlkiimaaGreatDoor.Y
theorem eqA(a b:Acc):eqT KA a b=decide (a=b):=by
 obtain⟨x,y,z⟩:=a
 obtain⟨u,v,w⟩:=b
 simp[eqT,Bool.decide_and]
 rfl
theorem bal_upd(B:Bk)(l:Leg)(q:Acc):bal (upd B l) q=if q=l.1 then IntKind.i64.wrap (bal B l.1+l.2)else bal B q:=by
 unfold upd
 unfold bal
 rw[get_set flatK]
 rw[eqA]
 by_cases h:q=l.1
 ·simp[h]
 ·simp[h]
end Go.Proofs.YtfcgafnmlkiimaaGreatDoor.Pure
