/- Plain laws of purses: TopUp,Hold,Commit,Release along a path on which all have the same. No statement of its own. -/
import Derived.Test.YtniohchnpfpffaaGreatRb
set_option linter.unusedSimpArgs false
set_option linter.unusedVariables false
namespace Go.Proofs.YtniohchnpfpffaaGreat.Pure
open Go.Vk Go.Am Go.Pg Go.Sort Go.Proofs.YtniohchnpfpffaaGreat.Y
theorem top_p(B:FB)(j:Jn)(n a:Int)(m:Nat)(hn:1≤n∧n≤32)(ha:1≤a∧a≤10000)(hs:geA B n=(0,0,0,0,0))(hm:m≤100)(hi:Inv m 0 j):
  period_Purse_TopUp.f (B,j) n a=some ((zb0 KI VA B n (a,0,0,0,0),zcg j (1,zod n a)),0)∧Inv (m+1) 0 (zcg j (1,zod n a)):=by
 obtain⟨p1,p2⟩:=post_p (zb0 KI VA B n (a,0,0,0,0)) j 1 a 0 [n] (zod n a) m (mTop n a hn (by omega)) (cTop n a hn (by omega)) hm hi
 refine⟨?_,p2⟩
 obtain⟨M,hM⟩: ∃M,zac (period_Purse_TopUp.l1 n) (0,(),B,([]:FB))=some ((),B,M):=⟨_,zft (n:=2) rfl⟩
 unfold period_Purse_TopUp.f
 simp only
 rw[hM,Option.bind_some]
 simp only
 rw[zxv B n a hn ha hs,Option.bind_some]
 have e:((0:Int) !=0)=false:=rfl
 simp only
 rw[e,cond_false,show(j.1,j.2.1,j.2.2.1,j.2.2.2)=j from rfl,p1,Option.bind_some]
 rfl
theorem hold_p {l lim:List Int} (hp:zsb l) (hll:lim.length=l.length) (hlim: ∀x∈lim,x= -1) (zs:List Leg) (B:FB) (j:Jn) (t u h a:Int) (m:Nat) (ht:1≤t∧t≤10000) (hu:0≤u∧u≤10000) (hh:0≤h∧h≤10000) (ha:1≤a∧a≤t - u - h) (hs: ∀n∈l,geA B n=(t,0,0,u,h))
  (hM: ∃M,zac (period_Purse_Hold.l1 l) (0,(),B,([]:FB))=some ((),B,M)) (hmk:entry_Make.f 2 a l 0=some ((2,zs),0)) (hc:chk 2 zs=0) (hm:m≤100) (hi:Inv m 0 j):
  ∃B',period_Purse_Hold.f (B,j) l lim a=some ((B',zcg j (2,zs)),0)∧Inv (m+1) 0 (zcg j (2,zs))∧∀n∈l,geA B' n=(t,0,0,u,h+a):=by
 obtain⟨B',k1,k2,_⟩:=hold_ok hp hll hlim B t u h a ht hu hh ha hs
 obtain⟨p1,p2⟩:=post_p B' j 2 a 0 l zs m hmk hc hm hi
 refine⟨B',?_,p2,k2⟩
 obtain⟨M,hM⟩:=hM
 unfold period_Purse_Hold.f
 simp only
 rw[hM,Option.bind_some]
 simp only
 rw[k1,Option.bind_some]
 have e:((0:Int) !=0)=false:=rfl
 simp only
 rw[e,cond_false,show(j.1,j.2.1,j.2.2.1,j.2.2.2)=j from rfl,p1,Option.bind_some]
 rfl
theorem newP:period_New.f=some (([]:FB),(([],(0,([],[[]]))):Jn)):=rfl
/-! ### the first line of the law -/
end Go.Proofs.YtniohchnpfpffaaGreat.Pure
