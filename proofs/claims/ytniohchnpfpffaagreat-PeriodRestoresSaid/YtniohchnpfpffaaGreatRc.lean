/- Plain laws of purses: TopUp,Hold,Commit,Release along a path on which all have the same. No statement of its own. -/
import Derived.Test.YtniohchnpfpffaaGreatRb
set_option linter.unusedSimpArgs false
set_option linter.unusedVariables false
namespace Go.Proofs.YtniohchnpfpffaaGreat.Pure
open Go.Vk Go.Am Go.Pg Go.Sort Go.Proofs.YtniohchnpfpffaaGreat.Y
theorem get_p(B:FB)(j:Jn)(n:Int):period_Purse_Get.f (B,j) n=some ((B,j),geA B n):=rfl
theorem avail_p(B:FB)(j:Jn)(n:Int):period_Purse_Available.f (B,j) n=(funds_Account_left.f (geA B n)).bind fun r=>some ((B,j),r):=by
 unfold period_Purse_Available.f funds_Book_Available.f
 rw[show funds_Book_Get.f (B,j).1 n=some (B,geA B n)from rfl]
 simp only[Option.bind_some]
 cases funds_Account_left.f ((geA B n).1,(geA B n).2.1,(geA B n).2.2.1,(geA B n).2.2.2.1,(geA B n).2.2.2.2)<;>rfl
theorem top_p(B:FB)(j:Jn)(n a:Int)(m:Nat)(hn:1≤n∧n≤32)(ha:1≤a∧a≤10000)(hs:geA B n=(0,0,0,0,0))(hm:m≤100)(hi:Inv m 0 j):
  period_Purse_TopUp.f (B,j) n a=some ((zaw KI VA B n (a,0,0,0,0),zb6 j (1,zvc n a)),0)∧Inv (m+1) 0 (zb6 j (1,zvc n a)):=by
 obtain⟨p1,p2⟩:=zA4 (zaw KI VA B n (a,0,0,0,0)) j 1 a 0 [n] (zvc n a) m (mTop n a hn (by omega)) (cTop n a hn (by omega)) hm hi
 refine⟨?_,p2⟩
 obtain⟨M,hM⟩: ∃M,za2 (period_Purse_TopUp.l1 n) (0,(),B,([]:FB))=some ((),B,M):=⟨_,zfu (n:=2) rfl⟩
 unfold period_Purse_TopUp.f
 simp only
 rw[hM,Option.bind_some]
 simp only
 rw[zCv B n a hn ha hs,Option.bind_some]
 have e:((0:Int) !=0)=false:=rfl
 simp only
 rw[e,cond_false,show(j.1,j.2.1,j.2.2.1,j.2.2.2)=j from rfl,p1,Option.bind_some]
 rfl
theorem hold_p {l lim:List Int} (hp:zpa l) (hll:lim.length=l.length) (hlim: ∀x∈lim,x= -1) (zs:List Leg) (B:FB) (j:Jn) (t u h a:Int) (m:Nat) (ht:1≤t∧t≤10000) (hu:0≤u∧u≤10000) (hh:0≤h∧h≤10000) (ha:1≤a∧a≤t - u - h) (hs: ∀n∈l,geA B n=(t,0,0,u,h))
  (hM: ∃M,za2 (period_Purse_Hold.l1 l) (0,(),B,([]:FB))=some ((),B,M)) (hmk:entry_Make.f 2 a l 0=some ((2,zs),0)) (hc:chk 2 zs=0) (hm:m≤100) (hi:Inv m 0 j):
  ∃B',period_Purse_Hold.f (B,j) l lim a=some ((B',zb6 j (2,zs)),0)∧Inv (m+1) 0 (zb6 j (2,zs))∧∀n∈l,geA B' n=(t,0,0,u,h+a):=by
 obtain⟨B',k1,k2,_⟩:=hold_ok hp hll hlim B t u h a ht hu hh ha hs
 obtain⟨p1,p2⟩:=zA4 B' j 2 a 0 l zs m hmk hc hm hi
 refine⟨B',?_,p2,k2⟩
 obtain⟨M,hM⟩:=hM
 unfold period_Purse_Hold.f
 simp only
 rw[hM,Option.bind_some]
 simp only
 rw[k1,Option.bind_some]
 have e:((0:Int) !=0)=false:=rfl
 simp only
 rw[e,cond_false,show(j.1,j.2.1,j.2.2.1,j.2.2.2)=j from rfl,p1,Option.bind_some]
 rfl
theorem zEc {l:List Int} (hp:zpa l) (zs:List Leg) (B:FB) (j:Jn) (t u h a g:Int) (m:Nat) (ht:1≤t∧t≤10000) (hu:0≤u∧u≤10000) (hh:0≤h∧h≤10000) (ha:1≤a∧a≤h) (hs: ∀n∈l,geA B n=(t,0,0,u,h))
  (hM: ∃M,za2 (period_Purse_Commit.l1 l) (0,(),B,([]:FB))=some ((),B,M)) (hmk:entry_Make.f 4 a l g=some ((4,zs),0)) (hc:chk 4 zs=0) (hm:m≤100) (hi:Inv m 0 j):
  ∃B',period_Purse_Commit.f (B,j) l a g=some ((B',zb6 j (4,zs)),0)∧Inv (m+1) 0 (zb6 j (4,zs))∧∀n∈l,geA B' n=(t,0,0,u+a,h - a):=by
 obtain⟨B',k1,k2,_⟩:=zC0 hp B t u h a ht hu hh ha hs
 obtain⟨p1,p2⟩:=zA4 B' j 4 a g l zs m hmk hc hm hi
 refine⟨B',?_,p2,k2⟩
 obtain⟨M,hM⟩:=hM
 unfold period_Purse_Commit.f
 simp only
 rw[hM,Option.bind_some]
 simp only
 rw[k1,Option.bind_some]
 have e:((0:Int) !=0)=false:=rfl
 simp only
 rw[e,cond_false,show(j.1,j.2.1,j.2.2.1,j.2.2.2)=j from rfl,p1,Option.bind_some]
 rfl
theorem newP:period_New.f=some (([]:FB),(([],(0,([],[[]]))):Jn)):=rfl
/-! ### the first line of the law -/
theorem zA1:purserlaw15_purses.f=some true:=by
 obtain⟨t1,i1⟩:=top_p ([]:FB) ([],(0,([],[[]]))) 1 9 0 (by omega) (by omega) rfl (by omega) inv_new
 obtain⟨B2,t2,i2,a2⟩:=hold_p (path1 1 (by omega)) (l:= [1]) (lim:= [-1]) rfl (by simp) (zlv 4) (zaw KI VA ([]:FB) 1 (9,0,0,0,0)) _ 9 0 0 4 1 (by omega) (by omega) (by omega) (by omega) (by intro n hn;obtain rfl:n=1:=(by simpa using hn);rw[zkh,if_pos rfl]) ⟨_,zfu (n:=2) rfl⟩ (mHold1 4 (by omega)) (cHold1 4 (by omega)) (by omega) i1
 obtain⟨B3,t3,i3,a3⟩:=zEc (path1 1 (by omega)) (zu4 3 2) B2 _ 9 0 4 3 2 2 (by omega) (by omega) (by omega) (by omega) (by simpa using a2) ⟨_,zfu (n:=2) rfl⟩ (mCom1 3 2 (by omega) (by omega)) (cCom1 3 2 (by omega) (by omega)) (by omega) i2
 have g3:=a3 1 (by simp)
 unfold purserlaw15_purses.f
 rw[newP,Option.bind_some]
 simp only
 rw[t1,Option.bind_some]
 simp only
 rw[show period_Purse_Hold.f (zaw KI VA ([]:FB) 1 (9,0,0,0,0),((zb6 ([],(0,([],[[]]))) (1,zvc 1 9)).1,((zb6 ([],(0,([],[[]]))) (1,zvc 1 9)).2.1,((zb6 ([],(0,([],[[]]))) (1,zvc 1 9)).2.2.1,(zb6 ([],(0,([],[[]]))) (1,zvc 1 9)).2.2.2)))) [1] [-1] 4=_ from t2,Option.bind_some]
 simp only
 generalize hj2:zb6 (zb6 ([],(0,([],[[]]))) (1,zvc 1 9)) (2,zlv 4)=j2 at t3 i3
 rw[show(j2.1,j2.2.1,j2.2.2.1,j2.2.2.2)=j2 from rfl,t3,Option.bind_some]
 simp only
 generalize hj3:zb6 j2 (4,zu4 3 2)=j3 at i3
 have e0:((0:Int)==0)=true:=rfl
 rw[e0,cond_true,cond_true,cond_true,show(j3.1,j3.2.1,j3.2.2.1,j3.2.2.2)=j3 from rfl,avail_p,g3,left_eq 9 (0+3) (4 - 3) (by omega) (by omega) (by omega)]
 simp only[Option.bind_some]
 rw[show(j3.1,j3.2.1,j3.2.2.1,j3.2.2.2)=j3 from rfl,get_p,g3]
 have hb:bal j3.2.2.1 (4,1,2)= -3:=by
  subst hj3 hj2
  decide
 simp only[Option.bind_some]
 rw[show(j3.1,j3.2.1,j3.2.2.1,j3.2.2.2)=j3 from rfl,zyk,hb]
 rfl
end Go.Proofs.YtniohchnpfpffaaGreat.Pure
