/- Plain laws: what the document's journal tells. No statement of its own. -/
import Derived.Test.YtniohchnpfpffaaGreatNa
import Derived.Test.YtniohchnpfpffaaGreatJe
set_option linter.unusedSimpArgs false
set_option linter.unusedVariables false
namespace Go.Proofs.YtniohchnpfpffaaGreat.Pure
open Go.Vk Go.Am Go.Pg Go.Sort Go.Proofs.YtniohchnpfpffaaGreat.Y
def zc6(l:List Ps):List (Int×List zc3):=l.map fun x=>(x.1.1,x.1.2.map frL)
def zco(l:List Ps):List Int:=l.map fun x=>x.2
theorem zu8(x y:Int):IntKind.i64.wrap (IntKind.i64.wrap x+y)=IntKind.i64.wrap (x+y):=by
 simp only[IntKind.wrap_i64];omega
theorem zba(l:List Ps):(zc6 l).length=l.length:=by unfold zc6;rw[List.length_map]
theorem znq(l:List Ps):(zco l).length=l.length:=by unfold zco;rw[List.length_map]
theorem zr6(l:List Ps)(i:Nat)(hi:i<l.length):(zc6 l).getD ((i:Int)).toNat ((0,[]):Int×List zc3)=(l[i].1.1,l[i].1.2.map frL):=by
 unfold zc6
 rw[at_ _ i (by rw[List.length_map];exact hi),List.getElem_map]
theorem zwi(l:List Ps)(i:Nat)(hi:i<l.length):(zco l).getD ((i:Int)).toNat (0:Int)=l[i].2:=by
 unfold zco
 rw[at_ _ i (by rw[List.length_map];exact hi),List.getElem_map]
theorem zw6(ls:List Leg)(k:Nat)(hk:k<ls.length):(ls.map frL).getD ((k:Int)).toNat ((0,(0,(0,0))):zc3)=frL ls[k]:=by
 rw[at_ _ k (by rw[List.length_map];exact hk),List.getElem_map]
theorem zrb(g:Leg)(a:Acc)(z:Int):purserref08_same.f (g.1.1,(g.1.2.1,(g.1.2.2,g.2))) (a.1,(a.2.1,(a.2.2,z)))=some (decide (g.1=a)):=by
 obtain⟨⟨a1,b1,c1⟩,d1⟩:=g
 obtain⟨p,q,r⟩:=a
 unfold purserref08_same.f
 by_cases h1:a1=p
 ·by_cases h2:b1=q
  ·by_cases h3:c1=r
   ·subst h1 h2 h3;simp
   ·subst h1 h2;simp[show(c1==r)=false by simp[h3],h3]
  ·subst h1;simp[show(b1==q)=false by simp[h2],h2]
 ·simp[show(a1==p)=false by simp[h1],h1]
/-! ### Moved -/
def inM(q:Int)(x:Ps):Bool:=bif decide (q≥0)then !(x.2 !=q)else true
def zho(a:Acc)(q:Int)(l:List Ps):Int:=zd9 ((l.filter (inM q)).map fun x=>atK a x.1.2)
theorem zz6(a:Acc)(ls:List Leg)(g:Leg):atK a (ls++ [g])=atK a ls+(if g.1=a then g.2 else 0):=by
 unfold atK
 rw[List.filter_append,List.map_append,ziz]
 by_cases h:g.1=a
 ·rw[if_pos h];simp[h,zd9]
 ·rw[if_neg h];simp[h,zd9]
theorem zqr(l:List Ps)(W:List Int)(p:Int)(a:Acc)(z:Int)(i:Nat)(hi:i<l.length)(hl:l[i].1.2.length≤1000000)(S:Int):
  zab (purserref08_Journal_Moved.l3 (zc6 l,(W,p)) (a.1,(a.2.1,(a.2.2,z))) (IntKind.i64.wrap S,(i:Int))) (IntKind.i64.wrap S,0)=some (IntKind.i64.wrap (S+atK a l[i].1.2)):=by
 have e0:=zr6 l i hi
 obtain⟨ls,hls⟩: ∃ls,ls=l[i].1.2:=⟨_,rfl⟩
 rw[←hls]at e0 hl⊢
 refine zb9 (fun k=>(IntKind.i64.wrap (S+atK a (ls.take k)),(k:Int))) ls.length (by simp[atK,zd9]) (fun k hk=> ?_) ?_
 ·have e2:=zw6 ls k hk
  unfold purserref08_Journal_Moved.l3
  simp only
  rw[zba,ilt hi,nn,Bool.and_self,cond_true]
  simp only[e0]
  rw[List.length_map,ilt hk,nn,Bool.and_self]
  simp only[e2,cond_true]
  have hs:=zrb ls[k] a z
  rw[show purserref08_same.f ((frL ls[k]).1,((frL ls[k]).2.1,((frL ls[k]).2.2.1,(frL ls[k]).2.2.2))) (a.1,(a.2.1,(a.2.2,z)))=_ from hs,Option.bind_some,zcp ls k hk,zz6,wrS k (by omega)]
  by_cases h:ls[k].1=a
  ·rw[decide_eq_true h,cond_true,Option.bind_some,if_pos h,zu8,show(frL ls[k]).2.2.2=ls[k].2 from rfl,Int.add_assoc]
  ·rw[decide_eq_false h,cond_false,Option.bind_some,if_neg h,Int.add_zero]
 ·rw[List.take_length]
  unfold purserref08_Journal_Moved.l3
  simp only
  rw[zba,ilt hi,nn,Bool.and_self,cond_true]
  simp only[e0]
  rw[List.length_map,ige,cond_false]
theorem zwg(l:List Ps)(p:Int)(a:Acc)(z q:Int)(hl: ∀x∈l,x.1.2.length≤1000000)(hn:l.length≤1000000):
  purserref08_Journal_Moved.f (zc6 l,(zco l,p)) (a.1,(a.2.1,(a.2.2,z))) q=some ((zc6 l,(zco l,p)),IntKind.i64.wrap (zho a q l)):=by
 have h:zab (purserref08_Journal_Moved.l1 (zc6 l,(zco l,p)) (a.1,(a.2.1,(a.2.2,z))) q) (0,0)=some (IntKind.i64.wrap (zho a q l)):=by
  refine zb9 (fun i=>(IntKind.i64.wrap (zho a q (l.take i)),(i:Int))) l.length rfl (fun i hi=> ?_) ?_
  ·have ht:zho a q (l.take (i+1))=zho a q (l.take i)+(bif inM q l[i]then atK a l[i].1.2 else 0):=by
    unfold zho
    rw[zcp l i hi,List.filter_append,List.map_append,ziz]
    cases hq:inM q l[i]<;>simp[hq,zd9]
   have hin:=zqr l (zco l) p a z i hi (hl _ (List.getElem_mem hi)) (zho a q (l.take i))
   unfold purserref08_Journal_Moved.l1
   simp only
   rw[zba,znq,ilt hi,cond_true,nn,Bool.and_self,cond_true,zwi l i hi,wrS i (by omega),ht]
   unfold inM
   cases hq:decide (q≥0)with
   |false=> 
    simp only[cond_false,Option.bind_some,cond_true]
    rw[hin,Option.bind_some,Option.bind_some]
   |true=>
    simp only[cond_true,Option.bind_some]
    cases hp:(l[i].2 !=q)with
    |true=>simp
    |false=>
     simp only[cond_false,Bool.not_false,cond_true]
     rw[hin,Option.bind_some,Option.bind_some]
  ·rw[List.take_length]
   unfold purserref08_Journal_Moved.l1
   simp only
   rw[zba,ige,cond_false]
 unfold purserref08_Journal_Moved.f
 rw[h,Option.bind_some]
/-! ### DocTrial -/
theorem zlf(l:List Ps)(W:List Int)(p:Int)(i:Nat)(hi:i<l.length)(hl:l[i].1.2.length≤1000)(D C:List Int)(hd:D.length≤1000000)(hc:C.length≤1000000):
  zab (purserref08_Journal_DocTrial.l4 (zc6 l,(W,p)) (D,C,(i:Int))) (D,C,0)=some (D++l[i].1.2.map zmf,C++l[i].1.2.map zmi):=by
 have e0:=zr6 l i hi
 obtain⟨ls,hls⟩: ∃ls,ls=l[i].1.2:=⟨_,rfl⟩
 rw[←hls]at e0 hl⊢
 refine zb9 (fun k=>(D++(ls.take k).map zmf,C++(ls.take k).map zmi,(k:Int))) ls.length (by simp) (fun k hk=> ?_) ?_
 ·have e2:=zw6 ls k hk
  have l1:(D++(ls.take k).map zmf).length≤2000000:=by simp;omega
  have l2:(C++(ls.take k).map zmi).length≤2000000:=by simp;omega
  unfold purserref08_Journal_DocTrial.l4
  simp only
  rw[zba,ilt hi,nn,Bool.and_self,cond_true,cond_true]
  simp only[e0]
  rw[List.length_map,ilt hk,nn,Bool.and_self]
  simp only[e2,cond_true]
  rw[decide_eq_true (by simp only[List.length_singleton];omega),cond_true,decide_eq_true (by simp only[List.length_singleton];omega),cond_true,wrS k (by omega),zcp ls k hk,List.map_append,List.map_append,←List.append_assoc,←List.append_assoc]
  rfl
 ·rw[List.take_length]
  unfold purserref08_Journal_DocTrial.l4
  simp only
  rw[zba,ilt hi,nn,Bool.and_self,cond_true]
  simp only[e0]
  rw[List.length_map,ige,cond_false]
theorem zqg(q:Int): ∀L:List Ps,(∀x∈L,x.1.2.length≤100)→(sel q L).length≤100*L.length
 | [],_=>by simp[sel]
 |x::L,h=>by
  have h1:=h x (by simp)
  have h2:=zqg q L fun y hy=>h y (by simp[hy])
  unfold sel at h2⊢
  rw[List.filter_cons]
  split
  ·rw[List.flatMap_cons,List.length_append,List.length_cons];omega
  ·rw[List.length_cons];omega
theorem zle(l:List Ps)(p q:Int)(hq: -1≤q)(hL:l.length≤1000)(hl: ∀x∈l,x.1.2.length≤100):
  zab (purserref08_Journal_DocTrial.l2 (zc6 l,(zco l,p)) q) ([],[],0)=some ((sel q l).map zmf,(sel q l).map zmi):=by
 refine zb9 (fun i=>((sel q (l.take i)).map zmf,(sel q (l.take i)).map zmi,(i:Int))) l.length (by simp[sel]) (fun i hi=> ?_) ?_
 ·have hsl:=zqg q (l.take i) (fun x hx=>hl x (List.mem_of_mem_take hx))
  rw[List.length_take]at hsl
  have hlp:=zlf l (zco l) p i hi (by have:=hl _ (List.getElem_mem hi);omega) ((sel q (l.take i)).map zmf) ((sel q (l.take i)).map zmi) (by rw[List.length_map];omega) (by rw[List.length_map];omega)
  have ht:sel q (l.take (i+1))=sel q (l.take i)++(bif inP q l[i]then l[i].1.2 else []):=by
   rw[zcp l i hi]
   unfold sel
   rw[List.filter_append,List.flatMap_append]
   congr 1
   simp only[List.filter_cons,List.filter_nil]
   cases inP q l[i]<;>simp
  have hin:inP q l[i]=bif decide (q≥0)then !(l[i].2 !=q)else true:=by
   unfold inP
   by_cases h0:q= -1
   ·subst h0;rfl
   ·rw[show(q != -1)=true by simp[h0],decide_eq_true (show q≥0 by omega)]
  unfold purserref08_Journal_DocTrial.l2
  simp only
  rw[zba,znq,ilt hi,cond_true,nn,Bool.and_self,cond_true,zwi l i hi,wrS i (by omega),ht,hin]
  cases hq0:decide (q≥0)with
  |false=>
   simp only[cond_false,Option.bind_some,cond_true]
   rw[hlp,Option.bind_some,Option.bind_some,List.map_append,List.map_append]
  |true=>
   simp only[cond_true,Option.bind_some]
   cases hp:(l[i].2 !=q)with
   |true=>simp
   |false=>
    simp only[cond_false,Bool.not_false,cond_true]
    rw[hlp,Option.bind_some,Option.bind_some,List.map_append,List.map_append]
 ·rw[List.take_length]
  unfold purserref08_Journal_DocTrial.l2
  simp only
  rw[zba,ige,cond_false]
def triR(p q:Int)(l:List Ps):Int×Int×Int:=if q< -1∨q >p then(0,0,7)else bif (FI (zd9 ((sel q l).map zmf))).2 && (FI (zd9 ((sel q l).map zmi))).2 then((FI (zd9 ((sel q l).map zmf))).1,(FI (zd9 ((sel q l).map zmi))).1,0)else(0,0,6)
theorem zui(q:Int)(l:List Ps)(hL:l.length≤1000)(hl: ∀x∈l,x.1.2.length≤100)(ha: ∀x∈l,∀g∈x.1.2,-9007199254740992≤g.2∧g.2≤9007199254740992):
  ((sel q l).map zmf).length≤1048576∧((sel q l).map zmi).length≤1048576∧(∀x∈(sel q l).map zmf,-9223372036854775808≤x∧x≤9223372036854775807)∧∀x∈(sel q l).map zmi,-9223372036854775808≤x∧x≤9223372036854775807:=by
 have hlen:=zqg q l hl
 have hin: ∀g∈sel q l,-9007199254740992≤g.2∧g.2≤9007199254740992:=by
  intro g h
  unfold sel at h
  obtain⟨x,h1,h2⟩:=List.mem_flatMap.1 h
  exact ha x (List.mem_filter.1 h1).1 g h2
 refine⟨by rw[List.length_map];omega,by rw[List.length_map];omega,fun x h=> ?_,fun x h=> ?_⟩
 ·obtain⟨g,h1,rfl⟩:=List.mem_map.1 h
  have:=hin g h1
  unfold zmf
  split<;>omega
 ·obtain⟨g,h1,rfl⟩:=List.mem_map.1 h
  have:=hin g h1
  unfold zmi
  rw[wr (0 - g.2) (by omega) (by omega)]
  split<;>omega
theorem zwf(l:List Ps)(p q:Int)(hL:l.length≤1000)(hl: ∀x∈l,x.1.2.length≤100)(ha: ∀x∈l,∀g∈x.1.2,-9007199254740992≤g.2∧g.2≤9007199254740992):
  purserref08_Journal_DocTrial.f (zc6 l,(zco l,p)) q=some ((zc6 l,(zco l,p)),triR p q l):=by
 obtain⟨s1,s2,s3,s4⟩:=zui q l hL hl ha
 unfold purserref08_Journal_DocTrial.f triR
 by_cases h1:q< -1
 ·rw[decide_eq_true h1,if_pos (.inl h1)];rfl
 ·rw[decide_eq_false h1,Bool.not_false,cond_true,Option.bind_some]
  by_cases h2:q >p
  ·rw[show decide (q >p)=true from decide_eq_true h2,if_pos (.inr h2)];rfl
  ·rw[show decide (q >p)=false from decide_eq_false h2,if_neg (by omega),cond_false,zle l p q (by omega) hL hl,Option.bind_some]
   simp only
   rw[zv4 _ s1 s3,zv4 _ s2 s4,Option.bind_some,Option.bind_some]
   cases (FI (zd9 ((sel q l).map zmf))).2<;>cases (FI (zd9 ((sel q l).map zmi))).2<;>rfl
theorem zvf(j:Jn)(q:Int)(hL:j.1.length≤1000)(hl: ∀x∈j.1,x.1.2.length≤100)(ha: ∀x∈j.1,∀g∈x.1.2,-9007199254740992≤g.2∧g.2≤9007199254740992):
  journal_Journal_Trial.f j q=some (j,triR j.2.1 q j.1):=by
 obtain⟨s1,s2,s3,s4⟩:=zui q j.1 hL hl ha
 unfold journal_Journal_Trial.f triR
 by_cases h1:q< -1
 ·rw[decide_eq_true h1,if_pos (.inl h1)];rfl
 ·rw[decide_eq_false h1,Bool.not_false,cond_true,Option.bind_some]
  by_cases h2:q >j.2.1
  ·rw[show decide (q >j.2.1)=true from decide_eq_true h2,if_pos (.inr h2)];rfl
  ·rw[show decide (q >j.2.1)=false from decide_eq_false h2,if_neg (by omega),cond_false,zsu j q hL hl,Option.bind_some]
   simp only
   rw[sum_eq _ s1 s3,sum_eq _ s2 s4,Option.bind_some,Option.bind_some]
   cases (FI (zd9 ((sel q j.1).map zmf))).2<;>cases (FI (zd9 ((sel q j.1).map zmi))).2<;>rfl
end Go.Proofs.YtniohchnpfpffaaGreat.Pure
