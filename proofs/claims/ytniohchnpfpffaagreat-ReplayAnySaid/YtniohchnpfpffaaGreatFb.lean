/- Plain laws of entries,part 2: Check,Sum,Make. No statement of its own. -/
import Derived.Test.YtniohchnpfpffaaGreatFa
set_option linter.unusedSimpArgs false
set_option linter.unusedVariables false
namespace Go.Proofs.YtniohchnpfpffaaGreat.Pure
open Go.Vk Go.Am Go.Pg Go.Sort Go.Proofs.YtniohchnpfpffaaGreat.Y
theorem zfw{α:Type}(pre:List α)(x:α)(suf:List α)(d:α):(pre++x::suf).getD ((pre.length:Int)).toNat d=x:=by simp
def zg2:List Int→Int
 | []=>0
 |x::l=>x+zg2 l
theorem znk(k:Int):entry_kind.f k=some (decide (1≤k∧k≤6)):=by
 unfold entry_kind.f
 by_cases h:k≥1
 ·simp[h]
 ·simp[h]
def zer(n:Int):Bool:=decide (1≤n∧n≤32)
def zbw(a:Acc):Bool:=if a.1=1 then a.2.1==0 && a.2.2==0 else if a.1=2∨a.1=3∨a.1=5 then zer a.2.1 && a.2.2==0 else if a.1=4 then zer a.2.1 && decide (1≤a.2.2∧a.2.2≤8)else false
theorem zy6(a:Acc):entry_Account_right.f a=some (zbw a):=by
 obtain⟨k,n,g⟩:=a
 unfold entry_Account_right.f zbw
 have hn:(bif decide (n≥1)then(some (decide (n≤32)))else(some false))=some (zer n):=by
  unfold zer
  by_cases h:n≥1<;>simp[h]
 dsimp only
 rw[hn]
 simp only[Option.bind_some]
 by_cases h1:k=1
 ·subst h1;cases n==0<;>simp
 by_cases h2:k=2
 ·subst h2;cases zer n<;>simp
 by_cases h3:k=3
 ·subst h3;cases zer n<;>simp
 by_cases h5:k=5
 ·subst h5;cases zer n<;>simp
 by_cases h4:k=4
 ·subst h4
  cases zer n
  ·simp
  ·by_cases h:g≥1<;>simp[h]
 ·have e1:(k==1)=false:=by simp[h1]
  have e2:(k==2)=false:=by simp[h2]
  have e3:(k==3)=false:=by simp[h3]
  have e4:(k==4)=false:=by simp[h4]
  have e5:(k==5)=false:=by simp[h5]
  simp[e1,e2,e3,e4,e5,h1,h2,h3,h4,h5]
def zo8(prev:Option Acc)(x:Leg):Int:=
 if zbw x.1=false then 1 else if x.2=0∨x.2< -9007199254740992∨x.2 >9007199254740992 then 5 else
  match prev with
  |none=>0
  |some p=>if zvp p x.1≥0 then 15 else 0
def zf8(pre:List Leg):Option Acc:=(pre.getLast?).map (·.1)
theorem zfv(pre:List Leg)(x:Leg):zf8 (pre++ [x])=some x.1:=by simp[zf8]
theorem leg_eq(k:Int)(pre:List Leg)(x:Leg)(suf:List Leg)(hl:(pre++x::suf).length≤1099511627776):entry_Entry_leg.f (k,pre++x::suf) (pre.length:Int)=some (zo8 (zf8 pre) x):=by
 have hlt:(pre.length:Int)< ((pre++x::suf).length:Int):=by simp;omega
 unfold entry_Entry_leg.f
 simp only[nn,decide_eq_true hlt,Bool.and_self,cond_true,zfw,zy6,Option.bind_some]
 unfold zo8
 cases hr:zbw x.1 with
 |false=>simp[hr]
 |true=>
  simp only[Bool.not_true,cond_false,Bool.true_eq_false,if_false]
  by_cases h0:x.2=0
  ·simp[h0]
  have e0:(x.2==0)=false:=by simp[h0]
  rw[e0]
  by_cases h1:x.2< -9007199254740992
  ·simp[h0,h1]
  by_cases h2:x.2 >9007199254740992
  ·simp[h0,h1,h2]
  simp only[h0,h1,h2,decide_false,Bool.not_false,cond_true,Option.bind_some,cond_false,or_self,if_false]
  rcases List.eq_nil_or_concat pre with rfl|⟨pre',p,rfl⟩
  ·simp[zf8]
  ·have hL:((pre'++ [p]).length:Int)=(pre'.length:Int)+1:=by simp
   have hp:(pre'++ [p])++x::suf=pre'++p::(x::suf):=by simp
   have hl':pre'.length+1≤1099511627776:=by simp at hl;omega
   have hw:IntKind.i64.wrap (((pre'++ [p]).length:Int) - 1)=(pre'.length:Int):=by rw[hL,wr _ (by omega) (by omega)];omega
   have hgt:((pre'++ [p]).length:Int)>0:=by rw[hL];omega
   have hlt2:(pre'.length:Int)< ((pre'++p::(x::suf)).length:Int):=by simp;omega
   simp only[List.concat_eq_append]at*
   simp only[decide_eq_true hgt,cond_true,hw,nn,hp,decide_eq_true hlt2,Bool.and_self,zfw,zmr,Option.bind_some,or_eq,zfv]
   have:(if zu4 p.1.1 x.1.1≠0 then zu4 p.1.1 x.1.1 else if zu4 p.1.2.1 x.1.2.1≠0 then zu4 p.1.2.1 x.1.2.1 else zu4 p.1.2.2 x.1.2.2)=zvp p.1 x.1:=rfl
   rw[this]
   by_cases h3:zvp p.1 x.1≥0<;>simp[h3]
def zoa:Option Acc→List Leg→Int
 |_,[]=>0
 |prev,x::l=>if zo8 prev x≠0 then zo8 prev x else zoa (some x.1) l
def zo6:Int→List Leg→Int
 |s,[]=>s
 |s,x::l=>zo6 (IntKind.i64.wrap (s+x.2)) l
theorem zu7(k:Int)(suf:List Leg): ∀(pre:List Leg) (S:Int),(pre++suf).length≤1099511627776→
  zac (entry_Check.l3 (k,pre++suf)) (S,(pre.length:Int))=some (if zoa (zf8 pre) suf≠0 then .inl (zoa (zf8 pre) suf)else .inr (zo6 S suf)):=by
 induction suf with
 |nil=>
  intro pre S _
  rw[zae]
  simp[entry_Check.l3,zoa,zo6]
 |cons x suf ih=>
  intro pre S hl
  have hlt:(pre.length:Int)< ((pre++x::suf).length:Int):=by simp;omega
  rw[zae]
  simp only[entry_Check.l3,decide_eq_true hlt,nn,Bool.and_self,cond_true,leg_eq k pre x suf hl,Option.bind_some,zfw,zoa,zo6]
  by_cases hc:zo8 (zf8 pre) x=0
  ·have e:(zo8 (zf8 pre) x !=0)=false:=by simp[hc]
   simp only[e,cond_false,Option.bind_some]
   have hw:IntKind.i64.wrap ((pre.length:Int)+1)=((pre++ [x]).length:Int):=by rw[wrS _ (by simp at hl;omega)];simp
   have hp:pre++x::suf=(pre++ [x])++suf:=by simp
   rw[hw,hp,ih (pre++ [x]) _ (by rw[←hp];exact hl),zfv]
   simp[hc]
  ·have e:(zo8 (zf8 pre) x !=0)=true:=by simp[hc]
   simp[e,hc]
def chk(k:Int)(l:List Leg):Int:=if¬(1≤k∧k≤6)then 21 else if l.length<2∨l.length >64 then 1 else if zoa none l≠0 then zoa none l else if zo6 0 l≠0 then 20 else 0
theorem zsr(k:Int)(l:List Leg)(hl:l.length≤1099511627776):entry_Check.f (k,l)=some (chk k l):=by
 have h:=zu7 k l [] 0 (by simpa using hl)
 simp only[List.nil_append,List.length_nil]at h
 rw[show((0:Nat):Int)=0 from rfl]at h
 unfold entry_Check.f chk
 simp only[znk,Option.bind_some]
 by_cases hk:1≤k∧k≤6
 ·simp only[hk,and_self,decide_true,Bool.not_true,cond_false,not_true_eq_false,if_false]
  by_cases h1:l.length<2
  ·have:((l.length:Int)<2):=by omega
   simp[h1,this]
  ·have: ¬((l.length:Int)<2):=by omega
   by_cases h2:l.length >64
   ·have h2':((l.length:Int)>64):=by omega
    simp[h1,h2,this,h2']
   ·have h2': ¬((l.length:Int)>64):=by omega
    simp only[this,h2',h1,h2,or_self,decide_false,Bool.not_false,cond_true,Option.bind_some,cond_false,if_false]
    rw[h]
    simp only[Option.bind_some,zf8,List.getLast?_nil,Option.map_none]
    by_cases hc:zoa none l=0
    ·simp only[hc,ne_eq,not_true_eq_false,if_false]
     by_cases hw:zo6 0 l=0
     ·simp[hw]
     ·have hw':(zo6 0 l !=0)=true:=by simp[hw]
      simp[hw,hw']
    ·simp[hc]
 ·have:decide (1≤k∧k≤6)=false:=decide_eq_false hk
  simp[this,hk]
def amt(l:List Leg):Int:=zg2 (l.map (·.2))
theorem zui: ∀(l:List Leg) (S:Int),(∀x∈l,-9007199254740992≤x.2∧x.2≤9007199254740992)→l.length≤64→ -(9007199254740992* (64 - l.length))≤S→S≤9007199254740992* (64 - l.length)→zo6 S l=S+amt l
 | [],S,_,_,_,_=>by simp[zo6,amt,zg2]
 |x::l,S,h,hl,h1,h2=>by
  have hx:=h x (by simp)
  simp only[List.length_cons]at hl h1 h2
  simp only[zo6]
  rw[wr _ (by omega) (by omega),zui l _ (fun y hy=>h y (by simp[hy])) (by omega) (by omega) (by omega)]
  simp only[amt,List.map_cons,zg2]
  omega
end Go.Proofs.YtniohchnpfpffaaGreat.Pure
