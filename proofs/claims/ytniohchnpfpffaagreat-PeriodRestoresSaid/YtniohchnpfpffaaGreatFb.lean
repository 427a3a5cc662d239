/- Plain laws of entries,part 2: Check,Sum,Make. No statement of its own. -/
import Derived.Test.YtniohchnpfpffaaGreatFa
set_option linter.unusedSimpArgs false
set_option linter.unusedVariables false
namespace Go.Proofs.YtniohchnpfpffaaGreat.Pure
open Go.Vk Go.Am Go.Pg Go.Sort Go.Proofs.YtniohchnpfpffaaGreat.Y
theorem zhh{α:Type}(pre:List α)(x:α)(suf:List α)(d:α):(pre++x::suf).getD ((pre.length:Int)).toNat d=x:=by simp
def zcj:List Int→Int
 | []=>0
 |x::l=>x+zcj l
theorem zqr(k:Int):entry_kind.f k=some (decide (1≤k∧k≤6)):=by
 unfold entry_kind.f
 by_cases h:k≥1
 ·simp[h]
 ·simp[h]
def zgo(n:Int):Bool:=decide (1≤n∧n≤32)
def zcg(a:Acc):Bool:=if a.1=1 then a.2.1==0 && a.2.2==0 else if a.1=2∨a.1=3∨a.1=5 then zgo a.2.1 && a.2.2==0 else if a.1=4 then zgo a.2.1 && decide (1≤a.2.2∧a.2.2≤8)else false
theorem zD8(a:Acc):entry_Account_right.f a=some (zcg a):=by
 obtain⟨k,n,g⟩:=a
 unfold entry_Account_right.f zcg
 have hn:(bif decide (n≥1)then(some (decide (n≤32)))else(some false))=some (zgo n):=by
  unfold zgo
  by_cases h:n≥1<;>simp[h]
 dsimp only
 rw[hn]
 simp only[Option.bind_some]
 by_cases h1:k=1
 ·subst h1;cases n==0<;>simp
 by_cases h2:k=2
 ·subst h2;cases zgo n<;>simp
 by_cases h3:k=3
 ·subst h3;cases zgo n<;>simp
 by_cases h5:k=5
 ·subst h5;cases zgo n<;>simp
 by_cases h4:k=4
 ·subst h4
  cases zgo n
  ·simp
  ·by_cases h:g≥1<;>simp[h]
 ·have e1:(k==1)=false:=by simp[h1]
  have e2:(k==2)=false:=by simp[h2]
  have e3:(k==3)=false:=by simp[h3]
  have e4:(k==4)=false:=by simp[h4]
  have e5:(k==5)=false:=by simp[h5]
  simp[e1,e2,e3,e4,e5,h1,h2,h3,h4,h5]
def zp5(prev:Option Acc)(x:Leg):Int:=
 if zcg x.1=false then 1 else if x.2=0∨x.2< -9007199254740992∨x.2 >9007199254740992 then 5 else
  match prev with
  |none=>0
  |some p=>if zAa p x.1≥0 then 15 else 0
def zgs(pre:List Leg):Option Acc:=(pre.getLast?).map (·.1)
theorem zhg(pre:List Leg)(x:Leg):zgs (pre++ [x])=some x.1:=by simp[zgs]
theorem leg_eq(k:Int)(pre:List Leg)(x:Leg)(suf:List Leg)(hl:(pre++x::suf).length≤1099511627776):entry_Entry_leg.f (k,pre++x::suf) (pre.length:Int)=some (zp5 (zgs pre) x):=by
 have hlt:(pre.length:Int)< ((pre++x::suf).length:Int):=by simp;omega
 unfold entry_Entry_leg.f
 simp only[nn,decide_eq_true hlt,Bool.and_self,cond_true,zhh,zD8,Option.bind_some]
 unfold zp5
 cases hr:zcg x.1 with
 |false=>simp[hr]
 |true=>
  simp only[Bool.not_true,cond_false,Bool.true_eq_false,if_false]
  by_cases h0:x.2=0
  ·simp[h0]
  have e0:(x.2==0)=false:=by simp[h0]
  rw[e0]
  by_cases h1:x.2< -9007199254740992
  ·simp[h0,h1]
  by_cases h2:x.2 >9007199254740992
  ·simp[h0,h1,h2]
  simp only[h0,h1,h2,decide_false,Bool.not_false,cond_true,Option.bind_some,cond_false,or_self,if_false]
  rcases List.eq_nil_or_concat pre with rfl|⟨pre',p,rfl⟩
  ·simp[zgs]
  ·have hL:((pre'++ [p]).length:Int)=(pre'.length:Int)+1:=by simp
   have hp:(pre'++ [p])++x::suf=pre'++p::(x::suf):=by simp
   have hl':pre'.length+1≤1099511627776:=by simp at hl;omega
   have hw:IntKind.i64.wrap (((pre'++ [p]).length:Int) - 1)=(pre'.length:Int):=by rw[hL,wr _ (by omega) (by omega)];omega
   have hgt:((pre'++ [p]).length:Int)>0:=by rw[hL];omega
   have hlt2:(pre'.length:Int)< ((pre'++p::(x::suf)).length:Int):=by simp;omega
   simp only[List.concat_eq_append]at*
   simp only[decide_eq_true hgt,cond_true,hw,nn,hp,decide_eq_true hlt2,Bool.and_self,zhh,zpp,Option.bind_some,or_eq,zhg]
   have:(if zyf p.1.1 x.1.1≠0 then zyf p.1.1 x.1.1 else if zyf p.1.2.1 x.1.2.1≠0 then zyf p.1.2.1 x.1.2.1 else zyf p.1.2.2 x.1.2.2)=zAa p.1 x.1:=rfl
   rw[this]
   by_cases h3:zAa p.1 x.1≥0<;>simp[h3]
def zps:Option Acc→List Leg→Int
 |_,[]=>0
 |prev,x::l=>if zp5 prev x≠0 then zp5 prev x else zps (some x.1) l
def zro:Int→List Leg→Int
 |s,[]=>s
 |s,x::l=>zro (IntKind.i64.wrap (s+x.2)) l
theorem zyh(k:Int)(suf:List Leg): ∀(pre:List Leg) (S:Int),(pre++suf).length≤1099511627776→
  za2 (entry_Check.l3 (k,pre++suf)) (S,(pre.length:Int))=some (if zps (zgs pre) suf≠0 then .inl (zps (zgs pre) suf)else .inr (zro S suf)):=by
 induction suf with
 |nil=>
  intro pre S _
  rw[zai]
  simp[entry_Check.l3,zps,zro]
 |cons x suf ih=>
  intro pre S hl
  have hlt:(pre.length:Int)< ((pre++x::suf).length:Int):=by simp;omega
  rw[zai]
  simp only[entry_Check.l3,decide_eq_true hlt,nn,Bool.and_self,cond_true,leg_eq k pre x suf hl,Option.bind_some,zhh,zps,zro]
  by_cases hc:zp5 (zgs pre) x=0
  ·have e:(zp5 (zgs pre) x !=0)=false:=by simp[hc]
   simp only[e,cond_false,Option.bind_some]
   have hw:IntKind.i64.wrap ((pre.length:Int)+1)=((pre++ [x]).length:Int):=by rw[wrS _ (by simp at hl;omega)];simp
   have hp:pre++x::suf=(pre++ [x])++suf:=by simp
   rw[hw,hp,ih (pre++ [x]) _ (by rw[←hp];exact hl),zhg]
   simp[hc]
  ·have e:(zp5 (zgs pre) x !=0)=true:=by simp[hc]
   simp[e,hc]
def chk(k:Int)(l:List Leg):Int:=if¬(1≤k∧k≤6)then 21 else if l.length<2∨l.length >64 then 1 else if zps none l≠0 then zps none l else if zro 0 l≠0 then 20 else 0
theorem zwr(k:Int)(l:List Leg)(hl:l.length≤1099511627776):entry_Check.f (k,l)=some (chk k l):=by
 have h:=zyh k l [] 0 (by simpa using hl)
 simp only[List.nil_append,List.length_nil]at h
 rw[show((0:Nat):Int)=0 from rfl]at h
 unfold entry_Check.f chk
 simp only[zqr,Option.bind_some]
 by_cases hk:1≤k∧k≤6
 ·simp only[hk,and_self,decide_true,Bool.not_true,cond_false,not_true_eq_false,if_false]
  by_cases h1:l.length<2
  ·have:((l.length:Int)<2):=by omega
   simp[h1,this]
  ·have: ¬((l.length:Int)<2):=by omega
   by_cases h2:l.length >64
   ·have h2':((l.length:Int)>64):=by omega
    simp[h1,h2,this,h2']
   ·have h2': ¬((l.length:Int)>64):=by omega
    simp only[this,h2',h1,h2,or_self,decide_false,Bool.not_false,cond_true,Option.bind_some,cond_false,if_false]
    rw[h]
    simp only[Option.bind_some,zgs,List.getLast?_nil,Option.map_none]
    by_cases hc:zps none l=0
    ·simp only[hc,ne_eq,not_true_eq_false,if_false]
     by_cases hw:zro 0 l=0
     ·simp[hw]
     ·have hw':(zro 0 l !=0)=true:=by simp[hw]
      simp[hw,hw']
    ·simp[hc]
 ·have:decide (1≤k∧k≤6)=false:=decide_eq_false hk
  simp[this,hk]
def amt(l:List Leg):Int:=zcj (l.map (·.2))
theorem zyu: ∀(l:List Leg) (S:Int),(∀x∈l,-9007199254740992≤x.2∧x.2≤9007199254740992)→l.length≤64→ -(9007199254740992* (64 - l.length))≤S→S≤9007199254740992* (64 - l.length)→zro S l=S+amt l
 | [],S,_,_,_,_=>by simp[zro,amt,zcj]
 |x::l,S,h,hl,h1,h2=>by
  have hx:=h x (by simp)
  simp only[List.length_cons]at hl h1 h2
  simp only[zro]
  rw[wr _ (by omega) (by omega),zyu l _ (fun y hy=>h y (by simp[hy])) (by omega) (by omega) (by omega)]
  simp only[amt,List.map_cons,zcj]
  omega
end Go.Proofs.YtniohchnpfpffaaGreat.Pure
