/- Plain laws of purses: what a purse's methods do along a path on which all have the same. No statement of its own. -/
import Derived.Test.YtfcgafnmlkiimaaGreatDoorJe
set_option linter.unusedSimpArgs false
set_option linter.unusedVariables false
namespace Go.Proofs.YtfcgafnmlkiimaaGreatDoor.Pure
open Go.Vk Go.Am Go.Pg Go.Sort Go.Proofs.YtfcgafnmlkiimaaGreatDoor.Y
theorem make_good{k a g:Int}{l:List Int}(zs:List Leg)(hk:1≤k∧k≤6)(ha:1≤a∧a≤9007199254740992∧pathB l=true)(hp:(legsOf k a g l).Perm zs)(hz:zs.Pairwise (fun x y=>ltA x.1 y.1))(hc:chk k zs=0):entry_Make.f k a l g=some ((k,zs),0):=by
 obtain⟨ys,h1,h2,h3⟩:=make_ok k a l g hk ha
 have hy:ys=zs:=sort_fix (h1.trans hp) h2 hz
 subst hy
 rw[hc]at h3
 simpa using h3
theorem chk_of{k:Int}{zs:List Leg}(hk:1≤k∧k≤6)(hl:2≤zs.length∧zs.length≤64)(h1:chkL none zs=0)(h2:wsum 0 zs=0):chk k zs=0:=by
 unfold chk
 rw[if_neg (by simpa using hk),if_neg (by omega),if_neg (by simp[h1]),if_neg (by simp[h2])]
theorem negI(a:Int)(h:1≤a∧a≤9007199254740992):neg a= -a:=by unfold neg;rw[wr _ (by omega) (by omega)];omega
/-! ### the entries -/
theorem leg_ok0{x:Leg}(h:rightB x.1=true)(h1:x.2≠0)(h2: -9007199254740992≤x.2∧x.2≤9007199254740992):legC none x=0:=by
 unfold legC
 rw[if_neg (by simp[h]),if_neg (by omega)]
theorem leg_ok1{p:Acc}{x:Leg}(h:rightB x.1=true)(h1:x.2≠0)(h2: -9007199254740992≤x.2∧x.2≤9007199254740992)(h3:ltA p x.1):legC (some p) x=0:=by
 unfold legC
 rw[if_neg (by simp[h]),if_neg (by omega)]
 have:=(ordA_neg p x.1).2 h3
 simp only
 rw[if_neg (by omega)]
theorem chk2{k:Int}{x y:Leg}(hk:1≤k∧k≤6)(a:Int)(ha:1≤a∧a≤1000000)(r1:rightB x.1=true)(r2:rightB y.1=true)(l1:ltA x.1 y.1)(a1:x.2=a)(a2:y.2= -a):chk k [x,y]=0:=by
 refine chk_of hk (by simp) ?_ ?_
 ·simp only[chkL]
  rw[leg_ok0 r1 (by omega) (by omega),leg_ok1 r2 (by omega) (by omega) l1]
  simp
 ·simp only[wsum]
  rw[a1,a2,wr (0+a) (by omega) (by omega),wr (0+a+ -a) (by omega) (by omega)]
  omega
theorem nodeR(n:Int)(h:1≤n∧n≤32):rightB (2,n,0)=true:=by
 unfold rightB nodeB
 simp;omega
theorem grpR(n g:Int)(h:1≤n∧n≤32)(hg:1≤g∧g≤8):rightB (4,n,g)=true:=by
 unfold rightB nodeB
 simp;omega
end Go.Proofs.YtfcgafnmlkiimaaGreatDoor.Pure
