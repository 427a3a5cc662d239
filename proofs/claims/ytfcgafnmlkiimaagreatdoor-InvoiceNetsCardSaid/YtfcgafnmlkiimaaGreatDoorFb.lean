/- Plain laws of entries,part 2: Check,Sum,Make. No statement of its own. -/
import Derived.Test.YtfcgafnmlkiimaaGreatDoorFa
set_option linter.unusedSimpArgs false
set_option linter.unusedVariables false
namespace Go.Proofs.YtfcgafnmlkiimaaGreatDoor.Pure
open Go.Vk Go.Am Go.Pg Go.Sort Go.Proofs.YtfcgafnmlkiimaaGreatDoor.Y
theorem getD_pre{α:Type}(pre:List α)(x:α)(suf:List α)(d:α):(pre++x::suf).getD ((pre.length:Int)).toNat d=x:=by simp
theorem sh63(x:Int):Int.fdiv x (2 ^ 63)=x / 9223372036854775808:=by rw[Int.fdiv_eq_ediv_of_nonneg _ (by decide)];rfl
def FI(n:Int):Int×Bool:=if -9223372036854775808≤n∧n≤9223372036854775807 then(n,true)else(0,false)
def sumL:List Int→Int
 | []=>0
 |x::l=>x+sumL l
theorem sum_loop(l0:List Int)(suf:List Int): ∀(pre:List Int) (S:Int),l0=pre++suf→l0.length≤1099511627776→(∀x∈suf,-9223372036854775808≤x∧x≤9223372036854775807)→
  loopO (arith_Sum.l1 l0) (S / 18446744073709551616 % 18446744073709551616,S % 18446744073709551616,(pre.length:Int))=some ((S+sumL suf) / 18446744073709551616 % 18446744073709551616,(S+sumL suf) % 18446744073709551616):=by
 induction suf with
 |nil=>
  intro pre S h hn _
  rw[loopO_eq]
  simp[arith_Sum.l1,h,sumL]
 |cons x rest ih=>
  intro pre S h hn hx
  obtain⟨x1,x2⟩:=hx x (by simp)
  have hl:l0.length=pre.length+rest.length+1:=by rw[h];simp;omega
  have hlt:(pre.length:Int)< (l0.length:Int):=by omega
  have g:l0.getD ((pre.length:Int)).toNat 0=x:=by rw[h];exact getD_pre _ _ _ _
  have e2:IntKind.i64.wrap ((pre.length:Int)+1)=((pre++ [x]).length:Nat):=by rw[wr _ (by omega) (by omega)];simp
  have hw:IntKind.u64.wrap x=x % 18446744073709551616:=IntKind.wrap_u64 x
  rw[loopO_eq]
  simp only[arith_Sum.l1,hlt,g,e2,decide_true,cond_true,Int.natCast_nonneg,Bool.and_self,Option.bind_some,hw]
  have key:(IntKind.u64.wrap (S / 18446744073709551616 % 18446744073709551616+IntKind.u64.wrap (IntKind.u64.wrap (Int.fdiv x (2 ^ 63))+Int.ofNat (((S % 18446744073709551616).toNat+(x % 18446744073709551616).toNat+0) / 2 ^ 64))),
    Int.ofNat (((S % 18446744073709551616).toNat+(x % 18446744073709551616).toNat+0) % 2 ^ 64),(((pre++ [x]).length:Nat):Int))=((S+x) / 18446744073709551616 % 18446744073709551616,(S+x) % 18446744073709551616,(((pre++ [x]).length:Nat):Int)):=by
   rw[sh63,IntKind.wrap_u64,IntKind.wrap_u64,IntKind.wrap_u64]
   have p64:(2:Nat) ^ 64=18446744073709551616:=by decide
   rw[p64]
   have hS:=Int.emod_nonneg S (show(18446744073709551616:Int)≠0 by decide)
   have hX:=Int.emod_nonneg x (show(18446744073709551616:Int)≠0 by decide)
   have hn: ∀n:Nat,Int.ofNat n=(n:Int):=fun n=>rfl
   simp only[hn,Nat.add_zero]
   have e3:((((S % 18446744073709551616).toNat+(x % 18446744073709551616).toNat) / 18446744073709551616:Nat):Int)=(S % 18446744073709551616+x % 18446744073709551616) / 18446744073709551616:=by omega
   have e4:((((S % 18446744073709551616).toNat+(x % 18446744073709551616).toNat) % 18446744073709551616:Nat):Int)=(S % 18446744073709551616+x % 18446744073709551616) % 18446744073709551616:=by omega
   rw[e3,e4]
   have f1:(S % 18446744073709551616+x % 18446744073709551616) % 18446744073709551616=(S+x) % 18446744073709551616:=by omega
   have f2:(S / 18446744073709551616 % 18446744073709551616+(x / 9223372036854775808 % 18446744073709551616+(S % 18446744073709551616+x % 18446744073709551616) / 18446744073709551616) % 18446744073709551616) % 18446744073709551616=(S+x) / 18446744073709551616 % 18446744073709551616:=by omega
   rw[f1,f2]
  rw[key]
  have:=ih (pre++ [x]) (S+x) (by rw[h];simp) hn (fun y hy=>hx y (by simp[hy]))
  rw[this]
  simp only[sumL,Int.add_assoc]
theorem sumL_bound(B:Int)(l:List Int)(h: ∀x∈l,-B≤x∧x≤B): -(B*l.length)≤sumL l∧sumL l≤B*l.length:=by
 induction l with
 |nil=>simp[sumL]
 |cons x l ih=>
  have h1:=h x (by simp)
  have h2:=ih (fun y hy=>h y (by simp[hy]))
  simp only[sumL,List.length_cons,Int.natCast_add,Int.mul_add]
  omega
theorem sum_eq(l:List Int)(hl:l.length≤1048576)(h: ∀x∈l,-9223372036854775808≤x∧x≤9223372036854775807):arith_Sum.f l=some (FI (sumL l)):=by
 have h1:=sum_loop l l [] 0 rfl (by omega) h
 have hb:=sumL_bound 9223372036854775808 l (fun x hx=>by have:=h x hx;omega)
 have hbl:(9223372036854775808:Int)*l.length≤9223372036854775808*1048576:=Int.mul_le_mul_of_nonneg_left (by omega) (by decide)
 have h1:loopO (arith_Sum.l1 l) (0,0,0)=some (sumL l / 18446744073709551616 % 18446744073709551616,sumL l % 18446744073709551616):=by simpa using h1
 simp only[arith_Sum.f,h1,Option.bind_some,sh63]
 generalize sumL l=S at*
 unfold FI
 rw[IntKind.wrap_i64,IntKind.wrap_u64]
 have hS:S=S / 18446744073709551616*18446744073709551616+S % 18446744073709551616:=by omega
 have hlo:0≤S % 18446744073709551616∧S % 18446744073709551616<18446744073709551616:=by omega
 have hhi: -1048577≤S / 18446744073709551616∧S / 18446744073709551616≤1048577:=by omega
 generalize S / 18446744073709551616=hi at*
 generalize S % 18446744073709551616=lo at*
 by_cases hc:lo<9223372036854775808
 ·have e1:(lo+9223372036854775808) % 18446744073709551616 - 9223372036854775808=lo:=by omega
  rw[e1]
  have e2:lo / 9223372036854775808=0:=by omega
  rw[e2]
  by_cases hf:hi=0
  ·have:(hi % 18446744073709551616 !=0 % 18446744073709551616)=false:=by simp[hf]
   rw[this,cond_false,if_pos (by omega)]
   congr 2
   omega
  ·have:(hi % 18446744073709551616 !=0 % 18446744073709551616)=true:=by simp only[bne_iff_ne];omega
   rw[this,cond_true,if_neg (by omega)]
 ·have e1:(lo+9223372036854775808) % 18446744073709551616 - 9223372036854775808=lo - 18446744073709551616:=by omega
  rw[e1]
  have e2:(lo - 18446744073709551616) / 9223372036854775808= -1:=by omega
  rw[e2]
  by_cases hf:hi= -1
  ·have:(hi % 18446744073709551616 != -1 % 18446744073709551616)=false:=by simp[hf]
   rw[this,cond_false,if_pos (by omega)]
   congr 2
   omega
  ·have:(hi % 18446744073709551616 != -1 % 18446744073709551616)=true:=by simp only[bne_iff_ne];omega
   rw[this,cond_true,if_neg (by omega)]
theorem kind_eq(k:Int):entry_kind.f k=some (decide (1≤k∧k≤6)):=by
 unfold entry_kind.f
 by_cases h:k≥1
 ·simp[h]
 ·simp[h]
def nodeB(n:Int):Bool:=decide (1≤n∧n≤32)
def rightB(a:Acc):Bool:=if a.1=1 then a.2.1==0 && a.2.2==0 else if a.1=2∨a.1=3∨a.1=5 then nodeB a.2.1 && a.2.2==0 else if a.1=4 then nodeB a.2.1 && decide (1≤a.2.2∧a.2.2≤8)else false
theorem right_eq(a:Acc):entry_Account_right.f a=some (rightB a):=by
 obtain⟨k,n,g⟩:=a
 unfold entry_Account_right.f rightB
 have hn:(bif decide (n≥1)then(some (decide (n≤32)))else(some false))=some (nodeB n):=by
  unfold nodeB
  by_cases h:n≥1<;>simp[h]
 dsimp only
 rw[hn]
 simp only[Option.bind_some]
 by_cases h1:k=1
 ·subst h1;cases n==0<;>simp
 by_cases h2:k=2
 ·subst h2;cases nodeB n<;>simp
 by_cases h3:k=3
 ·subst h3;cases nodeB n<;>simp
 by_cases h5:k=5
 ·subst h5;cases nodeB n<;>simp
 by_cases h4:k=4
 ·subst h4
  cases nodeB n
  ·simp
  ·by_cases h:g≥1<;>simp[h]
 ·have e1:(k==1)=false:=by simp[h1]
  have e2:(k==2)=false:=by simp[h2]
  have e3:(k==3)=false:=by simp[h3]
  have e4:(k==4)=false:=by simp[h4]
  have e5:(k==5)=false:=by simp[h5]
  simp[e1,e2,e3,e4,e5,h1,h2,h3,h4,h5]
def legC(prev:Option Acc)(x:Leg):Int:=
 if rightB x.1=false then 1 else if x.2=0∨x.2< -9007199254740992∨x.2 >9007199254740992 then 5 else
  match prev with
  |none=>0
  |some p=>if ordA p x.1≥0 then 15 else 0
def lastA(pre:List Leg):Option Acc:=(pre.getLast?).map (·.1)
theorem lastA_snoc(pre:List Leg)(x:Leg):lastA (pre++ [x])=some x.1:=by simp[lastA]
theorem leg_eq(k:Int)(pre:List Leg)(x:Leg)(suf:List Leg)(hl:(pre++x::suf).length≤1099511627776):entry_Entry_leg.f (k,pre++x::suf) (pre.length:Int)=some (legC (lastA pre) x):=by
 have hlt:(pre.length:Int)< ((pre++x::suf).length:Int):=by simp;omega
 unfold entry_Entry_leg.f
 simp only[nn,decide_eq_true hlt,Bool.and_self,cond_true,getD_pre,right_eq,Option.bind_some]
 unfold legC
 cases hr:rightB x.1 with
 |false=>simp[hr]
 |true=>
  simp only[Bool.not_true,cond_false,Bool.true_eq_false,if_false]
  by_cases h0:x.2=0
  ·simp[h0]
  have e0:(x.2==0)=false:=by simp[h0]
  rw[e0]
  by_cases h1:x.2< -9007199254740992
  ·simp[h0,h1]
  by_cases h2:x.2 >9007199254740992
  ·simp[h0,h1,h2]
  simp only[h0,h1,h2,decide_false,Bool.not_false,cond_true,Option.bind_some,cond_false,or_self,if_false]
  rcases List.eq_nil_or_concat pre with rfl|⟨pre',p,rfl⟩
  ·simp[lastA]
  ·have hL:((pre'++ [p]).length:Int)=(pre'.length:Int)+1:=by simp
   have hp:(pre'++ [p])++x::suf=pre'++p::(x::suf):=by simp
   have hl':pre'.length+1≤1099511627776:=by simp at hl;omega
   have hw:IntKind.i64.wrap (((pre'++ [p]).length:Int) - 1)=(pre'.length:Int):=by rw[hL,wr _ (by omega) (by omega)];omega
   have hgt:((pre'++ [p]).length:Int)>0:=by rw[hL];omega
   have hlt2:(pre'.length:Int)< ((pre'++p::(x::suf)).length:Int):=by simp;omega
   simp only[List.concat_eq_append]at*
   simp only[decide_eq_true hgt,cond_true,hw,nn,hp,decide_eq_true hlt2,Bool.and_self,getD_pre,compare_eq,Option.bind_some,or_eq,lastA_snoc]
   have:(if cmpI p.1.1 x.1.1≠0 then cmpI p.1.1 x.1.1 else if cmpI p.1.2.1 x.1.2.1≠0 then cmpI p.1.2.1 x.1.2.1 else cmpI p.1.2.2 x.1.2.2)=ordA p.1 x.1:=rfl
   rw[this]
   by_cases h3:ordA p.1 x.1≥0<;>simp[h3]
def chkL:Option Acc→List Leg→Int
 |_,[]=>0
 |prev,x::l=>if legC prev x≠0 then legC prev x else chkL (some x.1) l
def wsum:Int→List Leg→Int
 |s,[]=>s
 |s,x::l=>wsum (IntKind.i64.wrap (s+x.2)) l
theorem check_loop(k:Int)(suf:List Leg): ∀(pre:List Leg) (S:Int),(pre++suf).length≤1099511627776→
  loopO (entry_Check.l3 (k,pre++suf)) (S,(pre.length:Int))=some (if chkL (lastA pre) suf≠0 then .inl (chkL (lastA pre) suf)else .inr (wsum S suf)):=by
 induction suf with
 |nil=>
  intro pre S _
  rw[loopO_eq]
  simp[entry_Check.l3,chkL,wsum]
 |cons x suf ih=>
  intro pre S hl
  have hlt:(pre.length:Int)< ((pre++x::suf).length:Int):=by simp;omega
  rw[loopO_eq]
  simp only[entry_Check.l3,decide_eq_true hlt,nn,Bool.and_self,cond_true,leg_eq k pre x suf hl,Option.bind_some,getD_pre,chkL,wsum]
  by_cases hc:legC (lastA pre) x=0
  ·have e:(legC (lastA pre) x !=0)=false:=by simp[hc]
   simp only[e,cond_false,Option.bind_some]
   have hw:IntKind.i64.wrap ((pre.length:Int)+1)=((pre++ [x]).length:Int):=by rw[wrS _ (by simp at hl;omega)];simp
   have hp:pre++x::suf=(pre++ [x])++suf:=by simp
   rw[hw,hp,ih (pre++ [x]) _ (by rw[←hp];exact hl),lastA_snoc]
   simp[hc]
  ·have e:(legC (lastA pre) x !=0)=true:=by simp[hc]
   simp[e,hc]
def chk(k:Int)(l:List Leg):Int:=if¬(1≤k∧k≤6)then 21 else if l.length<2∨l.length >64 then 1 else if chkL none l≠0 then chkL none l else if wsum 0 l≠0 then 20 else 0
theorem check_eq(k:Int)(l:List Leg)(hl:l.length≤1099511627776):entry_Check.f (k,l)=some (chk k l):=by
 have h:=check_loop k l [] 0 (by simpa using hl)
 simp only[List.nil_append,List.length_nil]at h
 rw[show((0:Nat):Int)=0 from rfl]at h
 unfold entry_Check.f chk
 simp only[kind_eq,Option.bind_some]
 by_cases hk:1≤k∧k≤6
 ·simp only[hk,and_self,decide_true,Bool.not_true,cond_false,not_true_eq_false,if_false]
  by_cases h1:l.length<2
  ·have:((l.length:Int)<2):=by omega
   simp[h1,this]
  ·have: ¬((l.length:Int)<2):=by omega
   by_cases h2:l.length >64
   ·have h2':((l.length:Int)>64):=by omega
    simp[h1,h2,this,h2']
   ·have h2': ¬((l.length:Int)>64):=by omega
    simp only[this,h2',h1,h2,or_self,decide_false,Bool.not_false,cond_true,Option.bind_some,cond_false,if_false]
    rw[h]
    simp only[Option.bind_some,lastA,List.getLast?_nil,Option.map_none]
    by_cases hc:chkL none l=0
    ·simp only[hc,ne_eq,not_true_eq_false,if_false]
     by_cases hw:wsum 0 l=0
     ·simp[hw]
     ·have hw':(wsum 0 l !=0)=true:=by simp[hw]
      simp[hw,hw']
    ·simp[hc]
 ·have:decide (1≤k∧k≤6)=false:=decide_eq_false hk
  simp[this,hk]
def amt(l:List Leg):Int:=sumL (l.map (·.2))
theorem wsum_eq: ∀(l:List Leg) (S:Int),(∀x∈l,-9007199254740992≤x.2∧x.2≤9007199254740992)→l.length≤64→ -(9007199254740992* (64 - l.length))≤S→S≤9007199254740992* (64 - l.length)→wsum S l=S+amt l
 | [],S,_,_,_,_=>by simp[wsum,amt,sumL]
 |x::l,S,h,hl,h1,h2=>by
  have hx:=h x (by simp)
  simp only[List.length_cons]at hl h1 h2
  simp only[wsum]
  rw[wr _ (by omega) (by omega),wsum_eq l _ (fun y hy=>h y (by simp[hy])) (by omega) (by omega) (by omega)]
  simp only[amt,List.map_cons,sumL]
  omega
end Go.Proofs.YtfcgafnmlkiimaaGreatDoor.Pure
