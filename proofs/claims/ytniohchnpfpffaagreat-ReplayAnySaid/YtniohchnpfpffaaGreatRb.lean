/- Plain laws of purses: what a purse's methods do along a path on which all have the same. No statement of its own. -/
import Derived.Test.YtniohchnpfpffaaGreatRa
set_option linter.unusedSimpArgs false
set_option linter.unusedVariables false
namespace Go.Proofs.YtniohchnpfpffaaGreat.Pure
open Go.Vk Go.Am Go.Pg Go.Sort Go.Proofs.YtniohchnpfpffaaGreat.Y
theorem zk4{k a g:Int}{l:List Int}(zs:List Leg)(hk:1≤k∧k≤6)(ha:1≤a∧a≤9007199254740992∧pathB l=true)(hp:(zcl k a g l).Perm zs)(hz:zs.Pairwise (fun x y=>ltA x.1 y.1))(hc:chk k zs=0):entry_Make.f k a l g=some ((k,zs),0):=by
 obtain⟨ys,h1,h2,h3⟩:=zvz k a l g hk ha
 have hy:ys=zs:=zrh (h1.trans hp) h2 hz
 subst hy
 rw[hc]at h3
 simpa using h3
theorem post_p(B:FB)(j:Jn)(k a g:Int)(l:List Int)(zs:List Leg)(m:Nat)(hmk:entry_Make.f k a l g=some ((k,zs),0))(hc:chk k zs=0)(hm:m≤100)(hi:Inv m 0 j):
  period_Purse_post.f (B,j) k a l g=some ((B,zcg j (k,zs)),0)∧Inv (m+1) 0 (zcg j (k,zs)):=by
 obtain⟨c1,c2,c3,c4⟩:=zmt hc
 have hl:=hi.list
 have hfar:zs.any (far j.2.2.1)=false:=by
  rw[List.any_eq_false]
  intro x hx
  have h1:=hi.balB x.1
  have h2:=c2 x hx
  unfold far
  rw[wr (bal j.2.2.1 x.1+x.2) (by omega) (by omega)]
  simp;omega
 have hpe:=zqu j (k,zs) 0 hi.per (by rw[hi.mov];omega) (by omega) (by show zs.length≤1000;omega)
 rw[if_neg (by show¬chk k zs≠0;simp[hc]),if_neg (by omega),if_neg (by show¬zs.any (far j.2.2.1)=true;simp[hfar])]at hpe
 refine⟨?_,?_⟩
 ·unfold period_Purse_post.f
  rw[hmk,Option.bind_some]
  have e:((0:Int) !=0)=false:=rfl
  simp only
  rw[e,cond_false,show(j.1,j.2.1,j.2.2.1,j.2.2.2)=j from rfl,hpe,Option.bind_some]
 ·obtain⟨r,h1,h2⟩:=zyt hi hm (k,zs) (by show zs.length≤1000;omega)
  rw[hpe]at h1
  simp only[Option.some.injEq]at h1
  subst h1
  exact h2
theorem chk_of{k:Int}{zs:List Leg}(hk:1≤k∧k≤6)(hl:2≤zs.length∧zs.length≤64)(h1:zoa none zs=0)(h2:zo6 0 zs=0):chk k zs=0:=by
 unfold chk
 rw[if_neg (by simpa using hk),if_neg (by omega),if_neg (by simp[h1]),if_neg (by simp[h2])]
theorem negI(a:Int)(h:1≤a∧a≤9007199254740992):neg a= -a:=by unfold neg;rw[wr _ (by omega) (by omega)];omega
/-! ### the entries -/
def zod(n a:Int):List Leg:= [((1,0,0),a),((2,n,0),-a)]
def zew(a:Int):List Leg:= [((2,1,0),a),((3,1,0),-a)]
theorem zw5{x:Leg}(h:zbw x.1=true)(h1:x.2≠0)(h2: -9007199254740992≤x.2∧x.2≤9007199254740992):zo8 none x=0:=by
 unfold zo8
 rw[if_neg (by simp[h]),if_neg (by omega)]
theorem zw4{p:Acc}{x:Leg}(h:zbw x.1=true)(h1:x.2≠0)(h2: -9007199254740992≤x.2∧x.2≤9007199254740992)(h3:ltA p x.1):zo8 (some p) x=0:=by
 unfold zo8
 rw[if_neg (by simp[h]),if_neg (by omega)]
 have:=(zeb p x.1).2 h3
 simp only
 rw[if_neg (by omega)]
theorem chk2{k:Int}{x y:Leg}(hk:1≤k∧k≤6)(a:Int)(ha:1≤a∧a≤1000000)(r1:zbw x.1=true)(r2:zbw y.1=true)(l1:ltA x.1 y.1)(a1:x.2=a)(a2:y.2= -a):chk k [x,y]=0:=by
 refine chk_of hk (by simp) ?_ ?_
 ·simp only[zoa]
  rw[zw5 r1 (by omega) (by omega),zw4 r2 (by omega) (by omega) l1]
  simp
 ·simp only[zo6]
  rw[a1,a2,wr (0+a) (by omega) (by omega),wr (0+a+ -a) (by omega) (by omega)]
  omega
theorem ztf(n:Int)(h:1≤n∧n≤32):zbw (2,n,0)=true:=by
 unfold zbw zer
 simp;omega
theorem grpR(n g:Int)(h:1≤n∧n≤32)(hg:1≤g∧g≤8):zbw (4,n,g)=true:=by
 unfold zbw zer
 simp;omega
theorem cTop(n a:Int)(hn:1≤n∧n≤32)(ha:1≤a∧a≤1000000):chk 1 (zod n a)=0:=
 chk2 (by omega) a ha rfl (ztf n hn) (by simp[ltA]) rfl rfl
theorem mTop(n a:Int)(hn:1≤n∧n≤32)(ha:1≤a∧a≤1000000):entry_Make.f 1 a [n] 0=some ((1,zod n a),0):=by
 refine zk4 (zod n a) (by omega) ⟨by omega,by omega,by simp[pathB]⟩ ?_ ?_ (cTop n a hn ha)
 ·have:zcl 1 a 0 [n]=zod n a:=by
   show [((1,0,0),IntKind.i64.wrap (a*1)),((2,n,0),neg a)]=_
   rw[negI a (by omega),Int.mul_one,wr a (by omega) (by omega)]
   rfl
  rw[this]
 ·simp[zod,ltA]
theorem cHold1(a:Int)(ha:1≤a∧a≤1000000):chk 2 (zew a)=0:=chk2 (by omega) a ha rfl rfl (by simp[ltA]) rfl rfl
theorem mHold1(a:Int)(ha:1≤a∧a≤1000000):entry_Make.f 2 a [1] 0=some ((2,zew a),0):=by
 refine zk4 (zew a) (by omega) ⟨by omega,by omega,by decide⟩ ?_ ?_ (cHold1 a ha)
 ·have:zcl 2 a 0 [1]=zew a:=by
   show [((2,1,0),a),((3,1,0),neg a)]=_
   rw[negI a (by omega)]
   rfl
  rw[this]
 ·simp[zew,ltA]
end Go.Proofs.YtniohchnpfpffaaGreat.Pure
