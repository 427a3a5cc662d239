/- Plain laws of the journal: accounts,moves,a job's entry,and what every journal keeps. No statement of its own. -/
import Derived.Test.YtfcgafnmlkiimaaGreatDoorJd
import Derived.Test.YtfcgafnmlkiimaaGreatDoorFc
set_option linter.unusedSimpArgs false
set_option linter.unusedVariables false
namespace Go.Proofs.YtfcgafnmlkiimaaGreatDoor.Pure
open Go.Vk Go.Am Go.Pg Go.Sort Go.Proofs.YtfcgafnmlkiimaaGreatDoor.Y
theorem moved_eq(j:Jn)(a:Acc)(q:Nat)(hq:q<j.2.2.2.length):journal_Journal_Moved.f j a q=some (j,bal j.2.2.2[q] a):=by
 unfold journal_Journal_Moved.f
 have e1:decide ((q:Int)<0)=false:=by simp
 have e2:decide ((q:Int)≥(j.2.2.2.length:Int))=false:=by simp;omega
 have e3:j.2.2.2[((q:Nat):Int).toNat]? =some j.2.2.2[q]:=by rw[Int.toNat_natCast];exact List.getElem?_eq_getElem hq
 rw[e1,e2,e3,nn,ilt hq]
 simp only[Bool.not_false,cond_true,Option.bind_some,cond_false,Bool.and_self,optS,Int.toNat_natCast,List.set_getElem_self]
 rfl
/-! ### a job's entry -/
structure Inv(m p:Nat)(j:Jn):Prop where
 per:j.2.1=(p:Int)
 p31:p≤31
 mov:j.2.2.2.length=p+1
 list:j.1.length≤m
 ent: ∀x∈j.1,chk x.1.1 x.1.2=0
 balB: ∀k,-((m:Int)*9007199254740992)≤bal j.2.2.1 k∧bal j.2.2.1 k≤(m:Int)*9007199254740992
 balM: ∀b∈j.2.2.2,∀k,-((m:Int)*9007199254740992)≤bal b k∧bal b k≤(m:Int)*9007199254740992
 sum: ∀k,sumL (j.2.2.2.map (fun b=>bal b k))=bal j.2.2.1 k
 tot:totB j.2.2.1=0
 nod:(keysB j.2.2.1).Nodup
 len:j.2.2.1.length≤m*1000
theorem Inv.le{m n p:Nat}{j:Jn}(h:Inv m p j)(hl:m≤n):Inv n p j:=by
 obtain⟨h1,h2,h3,h4,h5,h6,h7,h8,h9,h10,h11⟩:=h
 refine⟨h1,h2,h3,by omega,h5,fun k=> ?_,fun b hb k=> ?_,h8,h9,h10,Nat.le_trans h11 (Nat.mul_le_mul_right _ hl)⟩
 ·have:=h6 k;omega
 ·have:=h7 b hb k;omega
end Go.Proofs.YtfcgafnmlkiimaaGreatDoor.Pure
