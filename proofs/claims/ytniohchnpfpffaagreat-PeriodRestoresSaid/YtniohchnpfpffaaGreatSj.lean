/- Plain laws: the accounts and the journal's balances. No statement of its own. -/
import Derived.Test.YtniohchnpfpffaaGreatSi
set_option linter.unusedSimpArgs false
set_option linter.unusedVariables false
namespace Go.Proofs.YtniohchnpfpffaaGreat.Pure
open Go.Vk Go.Am Go.Pg Go.Sort Go.Proofs.YtniohchnpfpffaaGreat.Y
def zld(j:Jn):Bk:=j.2.2.2.getD j.2.1.toNat []
def mvd(M:Bk)(n:Int):Nat→Int
 |0=>0
 |k+1=>mvd M n k+bal M (4,n,(k:Int)+1)
def atU(ys:List Leg)(n:Int):Nat→Int
 |0=>0
 |k+1=>atU ys n k+atK (4,n,(k:Int)+1) ys
structure BalI(c:Nat)(B:FB)(j:Jn):Prop where
 left: ∀n,1≤n∧n≤32→bal j.2.2.1 (2,n,0)= -(zag (geA B n))
 held: ∀n,1≤n∧n≤32→bal j.2.2.1 (3,n,0)= -((geA B n).2.2.2.2)
 used: ∀n,1≤n∧n≤32→mvd (zld j) n 8= -((geA B n).2.2.2.1)
 mb: ∀k,-((c:Int)*9007199254740992)≤bal (zld j) k∧bal (zld j) k≤(c:Int)*9007199254740992
theorem zAj{p m:Nat}{j:Jn}(h:JI p m j)(k:Int)(ys:List Leg):zld (zb6 j (k,ys))=zel (zld j) ys:=by
 have hp:=h.per
 have hm:=h.mov
 unfold zld zb6
 simp only
 rw[hp,Int.toNat_natCast,List.getD_eq_getElem?_getD,List.getElem?_set_self (by omega)]
 rfl
theorem zAf{M M':Bk}{ys:List Leg}(h: ∀q,bal M' q=bal M q+atK q ys)(n:Int): ∀k,mvd M' n k=mvd M n k+atU ys n k
 |0=>rfl
 |k+1=>by
  simp only[mvd,atU]
  rw[zAf h n k,h];omega
theorem zEj{k a g:Int}{l:List Int}{ys:List Leg}(hp:ys.Perm (zcb k a g l))(hl:l.Nodup)(hk:1≤k∧k≤6)(ha:1≤a∧a≤9007199254740992)(hg:k=4∨k=6→1≤g∧g≤8)(n:Int):
  atU ys n 8=if n∈l then(if k=4 then -a else if k=6 then a else 0)else 0:=by
 have h4: ∀f:Int,atK (4,n,f) ys=if n∈l then zi3 k a g (4,n,f) n else 0:=fun f=>zrj hp hl (4,n,f) (show(4:Int)≠1 by decide)
 simp only[atU]
 simp only[h4]
 by_cases hn:n∈l
 ·simp only[if_pos hn,nodeK_4 k a g n _ hk ha]
  by_cases hk4:k=4∨k=6
  ·have hgr:=hg hk4
   have h8:g=1∨g=2∨g=3∨g=4∨g=5∨g=6∨g=7∨g=8:=by omega
   rcases h8 with rfl|rfl|rfl|rfl|rfl|rfl|rfl|rfl<;>simp
  ·have e4:k≠4:=fun e=>hk4 (.inl e)
   have e6:k≠6:=fun e=>hk4 (.inr e)
   simp[e4,e6]
 ·simp[hn]
theorem zEi{p m c d:Nat}{j:Jn}{J:RJ}(hJ:JRel p m d j J){B:FB}(hb:BalI c B j)(hc:c≤100){k:Int}{ys:List Leg}(hk:chk k ys=0):
  (∀q,bal (zb6 j (k,ys)).2.2.1 q=bal j.2.2.1 q+atK q ys)∧(∀q,bal (zld (zb6 j (k,ys))) q=bal (zld j) q+atK q ys)∧∀q,-9007199254740992≤atK q ys∧atK q ys≤9007199254740992:=by
 obtain⟨c1,c2,c3,c4⟩:=zht hk
 obtain⟨b1,b2⟩:=zf0 ys j.2.2.1 c3 c2 (fun q=>by have:=hJ.rng q;omega)
 obtain⟨b3,_⟩:=zf0 ys (zld j) c3 c2 (fun q=>by have:=hb.mb q;omega)
 refine⟨b1,fun q=> ?_,b2⟩
 rw[zAj hJ.ji]
 exact b3 q
def Fit(k a g:Int)(l:List Int)(F G:Int→FA):Prop:=(k=4∨k=6→1≤g∧g≤8)∧∀n∈l,zag (G n)=zag (F n) - zi3 k a g (2,n,0) n∧(G n).2.2.2.2=(F n).2.2.2.2 - zi3 k a g (3,n,0) n∧(G n).2.2.2.1=(F n).2.2.2.1 - (if k=4 then -a else if k=6 then a else 0)
theorem znu {p m c d:Nat} {j:Jn} {J:RJ} (hJ:JRel p m d j J) {B:FB} (hb:BalI c B j) (hc:c≤100) {k a g:Int} {l:List Int} {G:Int→FA} {P':FB×Jn} (hs:Stp k a g l G (B,j) P')
  (hF:(1≤k∧k≤6)→(1≤a∧a≤9007199254740992)→(∀ys:List Leg,ys.Perm (zcb k a g l)→chk k ys=0→Fit k a g l (geA B) G)):BalI (c+1) P'.1 P'.2:=by
 rcases hs with⟨h1,h2⟩|⟨h1,hnd,h3,hk,ha,ys,hp,hc0,h2⟩
 ·simp only at h1 h2
  refine⟨fun n hn=>by rw[h2,h1 n hn];exact hb.left n hn,fun n hn=>by rw[h2,h1 n hn];exact hb.held n hn,fun n hn=>by rw[h2,h1 n hn];exact hb.used n hn,fun q=>by rw[h2];have:=hb.mb q;omega⟩
 ·simp only at h1 h2
  obtain⟨hg,hG⟩:=hF hk ha ys hp hc0
  obtain⟨b1,b2,b3⟩:=zEi hJ hb hc hc0
  have a2:=fun n:Int=>zrj hp hnd (2,n,0) (show(2:Int)≠1 by decide)
  have a3:=fun n:Int=>zrj hp hnd (3,n,0) (show(3:Int)≠1 by decide)
  have aU:=zEj hp hnd hk ha hg
  simp only at a2 a3
  refine⟨fun n hn=> ?_,fun n hn=> ?_,fun n hn=> ?_,fun q=> ?_⟩
  ·rw[h2,b1,hb.left n hn,a2 n,h1 n hn]
   by_cases hm:n∈l
   ·have:=(hG n hm).1
    rw[if_pos hm,if_pos hm];omega
   ·rw[if_neg hm,if_neg hm];omega
  ·rw[h2,b1,hb.held n hn,a3 n,h1 n hn]
   by_cases hm:n∈l
   ·have:=(hG n hm).2.1
    rw[if_pos hm,if_pos hm];omega
   ·rw[if_neg hm,if_neg hm];omega
  ·rw[h2,zAf b2 n 8,hb.used n hn,aU n,h1 n hn]
   by_cases hm:n∈l
   ·have:=(hG n hm).2.2
    rw[if_pos hm,if_pos hm];omega
   ·rw[if_neg hm,if_neg hm];omega
  ·rw[h2,b2]
   have h4:=hb.mb q
   have h5:=b3 q
   constructor<;>omega
end Go.Proofs.YtniohchnpfpffaaGreat.Pure
