/- Plain laws of entries as bytes,and of the document's Check. No statement of its own. -/
import Derived.Test.YtniohchnpfpffaaGreatFc
set_option linter.unusedSimpArgs false
set_option linter.unusedVariables false
namespace Go.Proofs.YtniohchnpfpffaaGreat.Pure
open Go.Vk Go.Am Go.Pg Go.Sort Go.Proofs.YtniohchnpfpffaaGreat.Y
/-! ### the document's Check -/
theorem racc_eq(l:zc3):purserref07_account.f l=some (zdr (toL l).1):=by
 obtain⟨k,n,g,x⟩:=l
 unfold purserref07_account.f zdr toL
 have hn:(bif decide (n≥1)then(some (decide (n≤32)))else(some false))=some (zg9 n):=by
  unfold zg9
  by_cases h:n≥1<;>simp[h]
 dsimp only
 rw[hn]
 simp only[Option.bind_some]
 by_cases h1:k=1
 ·subst h1;cases n==0<;>simp
 by_cases h2:k=2
 ·subst h2;cases zg9 n<;>simp
 by_cases h3:k=3
 ·subst h3;cases zg9 n<;>simp
 by_cases h5:k=5
 ·subst h5;cases zg9 n<;>simp
 by_cases h4:k=4
 ·subst h4
  cases zg9 n
  ·simp
  ·by_cases h:g≥1<;>simp[h]
 ·have e1:(k==1)=false:=by simp[h1]
  have e2:(k==2)=false:=by simp[h2]
  have e3:(k==3)=false:=by simp[h3]
  have e4:(k==4)=false:=by simp[h4]
  have e5:(k==5)=false:=by simp[h5]
  simp[e1,e2,e3,e4,e5,h1,h2,h3,h4,h5]
open Classical in
theorem zrc(a b:zc3):purserref07_rises.f a b=some (decide (ltA (toL a).1 (toL b).1)):=by
 obtain⟨a1,a2,a3,a4⟩:=a
 obtain⟨b1,b2,b3,b4⟩:=b
 unfold purserref07_rises.f toL ltA
 dsimp only
 by_cases h1:a1=b1
 ·subst h1
  by_cases h2:a2=b2
  ·subst h2
   simp
  ·have e:(a2 !=b2)=true:=by simp[h2]
   simp[e,h2]
 ·have e:(a1 !=b1)=true:=by simp[h1]
  simp[e,h1]
theorem zoq(p x:Acc):(¬ltA p x)↔zqo p x≥0:=by rw[←zcl];omega
theorem zqk(k:Int)(suf:List zc3): ∀(pre:List zc3) (S:Int),(pre++suf).length≤1099511627776→
  zab (purserref07_Check.l3 (k,pre++suf)) (S,(pre.length:Int))=some (if zps (zf2 (pre.map toL)) (suf.map toL)≠0 then .inl (zps (zf2 (pre.map toL)) (suf.map toL))else .inr (zq8 S (suf.map toL))):=by
 induction suf with
 |nil=>
  intro pre S _
  rw[zaf]
  simp[purserref07_Check.l3,zps,zq8]
 |cons x suf ih=>
  intro pre S hl
  have hlt:(pre.length:Int)< ((pre++x::suf).length:Int):=by simp;omega
  have hlp:pre.length+1≤1099511627776:=by simp at hl;omega
  rw[zaf]
  have hw:IntKind.i64.wrap ((pre.length:Int)+1)=((pre++ [x]).length:Int):=by rw[wrS _ (by omega)];simp
  have hp:pre++x::suf=(pre++ [x])++suf:=by simp
  have hstep:purserref07_Check.l3 (k,pre++x::suf) (S,(pre.length:Int))=some (if zoz (zf2 (pre.map toL)) (toL x)≠0 then .inr (.inl (zoz (zf2 (pre.map toL)) (toL x)))else .inl (IntKind.i64.wrap (S+(toL x).2),((pre++ [x]).length:Int))):=by
   unfold purserref07_Check.l3
   dsimp only
   rw[decide_eq_true hlt,cond_true,nn,Bool.and_self,cond_true,zdh,hw]
   rw[show purserref07_account.f (x.1,x.2.1,x.2.2.1,x.2.2.2)=some (zdr (toL x).1)from racc_eq x,Option.bind_some]
   unfold zoz
   cases hr:zdr (toL x).1 with
   |false=>rfl
   |true=>
    simp only[Bool.not_true,cond_false,Bool.true_eq_false,if_false]
    have hx2:(toL x).2=x.2.2.2:=rfl
    rw[hx2]
    by_cases h0:x.2.2.2=0
    ·simp[h0]
    have e0:(x.2.2.2==0)=false:=by simp[h0]
    rw[e0]
    by_cases h1:x.2.2.2< -9007199254740992
    ·simp[h0,h1]
    by_cases h2:x.2.2.2 >9007199254740992
    ·simp[h0,h1,h2]
    simp only[h0,h1,h2,decide_false,Bool.not_false,cond_true,Option.bind_some,cond_false,or_self,if_false]
    rcases List.eq_nil_or_concat pre with rfl|⟨pre',p,rfl⟩
    ·simp[zf2]
    ·simp only[List.concat_eq_append]at*
     have hL:((pre'++ [p]).length:Int)=(pre'.length:Int)+1:=by simp
     have hp':(pre'++ [p])++x::suf=pre'++p::(x::suf):=by simp
     have hl':pre'.length+1≤1099511627776:=by simp at hlp;omega
     have hw':IntKind.i64.wrap (((pre'++ [p]).length:Int) - 1)=(pre'.length:Int):=by rw[hL,wr _ (by omega) (by omega)];omega
     have hgt:((pre'++ [p]).length:Int)>0:=by rw[hL];omega
     have hlt2:(pre'.length:Int)< ((pre'++p::(x::suf)).length:Int):=by simp;omega
     rw[decide_eq_true hgt,cond_true,hw',nn,hp',decide_eq_true hlt2,Bool.and_self,cond_true,zdh]
     rw[show purserref07_rises.f (p.1,p.2.1,p.2.2.1,p.2.2.2) (x.1,x.2.1,x.2.2.1,x.2.2.2)=_ from zrc p x,Option.bind_some,List.map_append,List.map_singleton,zfo]
     simp only[Option.bind_some]
     by_cases h3:zqo (toL p).1 (toL x).1≥0
     ·have:=(zoq _ _).2 h3
      simp[h3,this]
     ·have:=mt (zoq _ _).1 h3
      simp[h3,Classical.not_not.1 this]
  rw[hstep]
  simp only[List.map_cons,zps,zq8,Option.bind_some]
  by_cases hc:zoz (zf2 (pre.map toL)) (toL x)=0
  ·simp only[hc,ne_eq,not_true_eq_false,if_false]
   rw[hp,ih (pre++ [x]) _ (by rw[←hp];exact hl),List.map_append,List.map_singleton,zfo]
  ·simp only[hc,ne_eq,not_false_eq_true,if_true]
theorem zoi(k:Int)(l:List zc3)(hl:l.length≤1099511627776):purserref07_Check.f (k,l)=some (chk k (l.map toL)):=by
 have h:=zqk k l [] 0 (by simpa using hl)
 simp only[List.nil_append,List.length_nil,List.map_nil]at h
 rw[show((0:Nat):Int)=0 from rfl]at h
 unfold purserref07_Check.f chk
 simp only[List.length_map]
 by_cases hk1:k<1
 ·have: ¬(1≤k∧k≤6):=by omega
  simp[hk1,this]
 by_cases hk2:k >6
 ·have: ¬(1≤k∧k≤6):=by omega
  simp[hk1,hk2,this]
 have hk:1≤k∧k≤6:=by omega
 simp only[hk1,hk2,decide_false,Bool.not_false,cond_true,Option.bind_some,cond_false,hk,and_self,not_true_eq_false,if_false]
 by_cases h1:l.length<2
 ·have:((l.length:Int)<2):=by omega
  simp[h1,this]
 have h1': ¬((l.length:Int)<2):=by omega
 by_cases h2:l.length >64
 ·have h2':((l.length:Int)>64):=by omega
  simp[h1,h2,h1',h2']
 have h2': ¬((l.length:Int)>64):=by omega
 simp only[h1',h2',h1,h2,or_self,decide_false,Bool.not_false,cond_true,Option.bind_some,cond_false,if_false]
 rw[h]
 simp only[Option.bind_some,zf2,List.getLast?_nil,Option.map_none]
 by_cases hc:zps none (l.map toL)=0
 ·simp only[hc,ne_eq,not_true_eq_false,if_false]
  by_cases hw:zq8 0 (l.map toL)=0
  ·simp[hw]
  ·have hw':(zq8 0 (l.map toL) !=0)=true:=by simp[hw]
   simp[hw,hw']
 ·simp[hc]
end Go.Proofs.YtniohchnpfpffaaGreat.Pure
