/- Plain laws: a journal and the document's have the same to tell. No statement of its own. -/
import Derived.Test.YtfcgafnmlkiimaaGreatDoorNd
set_option linter.unusedSimpArgs false
set_option linter.unusedVariables false
namespace Go.Proofs.YtfcgafnmlkiimaaGreatDoor.Pure
open Go.Vk Go.Am Go.Pg Go.Sort Go.Proofs.YtfcgafnmlkiimaaGreatDoor.Y
theorem own_moved_j{p m:Nat}{j:Jn}(h:JJ p m j)(a:Acc)(q:Int)(hq:0≤q):journal_Journal_Moved.f j a q=some (j,sumM a q j.1):=by
 have hm:=h.mov
 by_cases hlt:q.toNat<j.2.2.2.length
 ·have h1:=moved_eq j a q.toNat hlt
  rw[show((q.toNat:Nat):Int)=q by omega,h.mvs q.toNat hlt,show((q.toNat:Nat):Int)=q by omega]at h1
  exact h1
 ·rw[sumM_none (fun x hx=> ?_)]
  ·unfold journal_Journal_Moved.f
   rw[decide_eq_false (show¬q<0 by omega),Bool.not_false,cond_true,show decide (q≥(j.2.2.2.length:Int))=true from decide_eq_true (by omega),Option.bind_some,cond_true]
  ·have:=h.tim x hx
   unfold inM
   rw[decide_eq_true (show q≥0 from hq),cond_true]
   simp;omega
theorem own_post_j{p m:Nat}{j:Jn}(h:JJ p m j)(hm:m≤100)(e:Int×List Leg)(he:e.2.length≤1000):
  journal_Journal_Post.f j e=some (if chk e.1 e.2≠0 then(j,(0,chk e.1 e.2))else if e.2.any (far j.2.2.1)=true then(j,(0,6))else(postJ j e,((j.1.length:Int),0))):=by
 have hmv:=h.mov
 have hl:=h.list
 rw[post_eq j e p h.per (by omega) (by omega) he]
 congr 1
 by_cases h1:chk e.1 e.2≠0
 ·rw[if_pos h1,if_pos h1]
 ·rw[if_neg h1,if_neg h1,if_neg (by omega)]
end Go.Proofs.YtfcgafnmlkiimaaGreatDoor.Pure
