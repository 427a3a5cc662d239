/- Plain laws: the document's Roll. No statement of its own. -/
import Derived.Test.YtniohchnpfpffaaGreatSd
set_option linter.unusedSimpArgs false
set_option linter.unusedVariables false
namespace Go.Proofs.YtniohchnpfpffaaGreat.Pure
open Go.Vk Go.Am Go.Pg Go.Sort Go.Proofs.YtniohchnpfpffaaGreat.Y
theorem zyl{X:Type}(p:Option X):zhu p p=p:=by
 unfold zhu
 rw[if_pos rfl]
section
variable (gq : Int) (As : List FA) (J : RJ) (e : (Int × List zd8) × Int)
theorem zxg(k i:Nat)(hi:i<J.1.length)(hk:k<e.1.2.length)(hl:(J.1[i]).2.length≤1000000)(n:Int):
  za2 (purserref15_Purse_Roll.l13 (gq,(),As,J.1,J.2.1,J.2.2) e (k:Int) (n,(i:Int))) (n,0)=some (zo2 (toL e.1.2[k]).1 n (J.1[i]).2):=by
 refine zap (fun q=>(zo2 (toL e.1.2[k]).1 n ((J.1[i]).2.take q),(q:Int))) (J.1[i]).2.length (by simp[zo2]) (fun q hq=> ?_) ?_
 ·unfold purserref15_Purse_Roll.l13
  simp only[zak]
  rw[nn,ilt hi,Bool.and_self,cond_true,at_ J.1 i hi,ilt hq,cond_true,cond_true,nn,Bool.and_self,cond_true,at_ _ q hq,at_ _ k hk]
  rw[show purserref08_same.f (((J.1[i]).2[q]).1,((((J.1[i]).2[q]).2).1,(((((J.1[i]).2[q]).2).2).1,((((J.1[i]).2[q]).2).2).2))) ((e.1.2[k]).1,(((e.1.2[k]).2).1,((((e.1.2[k]).2).2).1,(((e.1.2[k]).2).2).2)))=some (decide ((toL (J.1[i]).2[q]).1=(toL e.1.2[k]).1))from zzl _ _,Option.bind_some]
  have hs:zo2 (toL e.1.2[k]).1 n ((J.1[i]).2.take (q+1))=if(toL (J.1[i]).2[q]).1=(toL e.1.2[k]).1 then IntKind.i64.wrap (zo2 (toL e.1.2[k]).1 n ((J.1[i]).2.take q)+((J.1[i]).2[q]).2.2.2)else zo2 (toL e.1.2[k]).1 n ((J.1[i]).2.take q):=by
   rw[zad _ q hq]
   unfold zo2
   rw[List.foldl_append]
   rfl
  rw[hs]
  by_cases h:(toL (J.1[i]).2[q]).1=(toL e.1.2[k]).1
  ·rw[decide_eq_true h,if_pos h]
   simp only[cond_true,Option.bind_some]
   rw[wrS q (by omega)]
  ·rw[decide_eq_false h,if_neg h]
   simp only[cond_false,Option.bind_some]
   rw[wrS q (by omega)]
 ·unfold purserref15_Purse_Roll.l13
  simp only[zak]
  rw[nn,ilt hi,Bool.and_self,cond_true,at_ J.1 i hi,ige,List.take_length]
  rfl
theorem zxi(k:Nat)(hk:k<e.1.2.length)(hL:J.1.length≤1000000)(hl: ∀x∈J.1,x.2.length≤1000000):
  za2 (purserref15_Purse_Roll.l12 (gq,(),As,J.1,J.2.1,J.2.2) e (k:Int)) (0,0)=some (ztw (toL e.1.2[k]).1 0 J.1):=by
 refine zap (fun i=>(ztw (toL e.1.2[k]).1 0 (J.1.take i),(i:Int))) J.1.length (by simp[ztw]) (fun i hi=> ?_) ?_
 ·unfold purserref15_Purse_Roll.l12
  simp only[zak]
  rw[ilt hi,cond_true,zxg gq As J e k i hi hk (hl _ (List.getElem_mem hi)),Option.bind_some,wrS i (by omega)]
  have hs:ztw (toL e.1.2[k]).1 0 (J.1.take (i+1))=zo2 (toL e.1.2[k]).1 (ztw (toL e.1.2[k]).1 0 (J.1.take i)) (J.1[i]).2:=by
   rw[zad _ i hi]
   unfold ztw
   rw[List.foldl_append]
   rfl
  rw[hs]
 ·unfold purserref15_Purse_Roll.l12
  simp only[zak]
  rw[ige,List.take_length]
  rfl
end
theorem zuj{p m c:Nat}{j:Jn}{J:RJ}(h:JRel p m c j J)(hm:m≤1000000)(gq:Int)(As:List FA)(e:(Int×List zd8)×Int)(he:e.1.2.length≤1000000)(hl: ∀x∈J.1,x.2.length≤1000000):
  za2 (purserref15_Purse_Roll.l11 (gq,(),As,J.1,J.2.1,J.2.2) e) 0=some (if(e.1.2.map toL).any (far j.2.2.1)=true then .inl (0,6)else .inr ()):=by
 have hL:J.1.length≤1000000:=by rw[h.lst,List.length_map];have:=h.ji.list;omega
 have h1:=zbs (f:=purserref15_Purse_Roll.l11 (gq,(),As,J.1,J.2.1,J.2.2) e) e.1.2.length (zE4 j.2.2.1 (e.1.2.map toL)) (fun i hi=> ?_) ?_
 ·rw[h1]
  have:=zwm j.2.2.1 (e.1.2.map toL)
  rw[List.length_map]at this
  rw[this]
  by_cases hx:(e.1.2.map toL).any (far j.2.2.1)=true
  ·rw[if_pos hx,if_pos hx];rfl
  ·rw[if_neg hx,if_neg hx];rfl
 ·unfold purserref15_Purse_Roll.l11
  rw[ilt hi,nn,Bool.and_self,cond_true,cond_true,cond_true,zxi gq As J e i hi hL hl,Option.bind_some,h.acc,at_ e.1.2 i hi]
  have hfar:((bif !(decide ((IntKind.i64.wrap (bal j.2.2.1 (toL e.1.2[i]).1+(((e.1.2[i]).2).2).2))>1152921504606846976))then(some (decide ((IntKind.i64.wrap (bal j.2.2.1 (toL e.1.2[i]).1+(((e.1.2[i]).2).2).2))< (-1152921504606846976))))else(some true)):Option Bool)=some (far j.2.2.1 (toL e.1.2[i])):=by
   unfold far
   rw[show(toL e.1.2[i]).2=(((e.1.2[i]).2).2).2 from rfl]
   cases decide ((IntKind.i64.wrap (bal j.2.2.1 (toL e.1.2[i]).1+(((e.1.2[i]).2).2).2))>1152921504606846976)<;>rfl
  rw[hfar,Option.bind_some]
  unfold zE4
  rw[zl3 (e.1.2.map toL) i (by simpa using hi),List.getElem_map]
  cases far j.2.2.1 (toL e.1.2[i])with
  |true=>rfl
  |false=>rw[cond_false,wrS i (by omega)];rfl
 ·unfold purserref15_Purse_Roll.l11
  rw[ige];rfl
/-! ### what expires,node by node -/
def zjn(k:Acc)(es:List (Int×List Leg)):Int:=zcj (es.map fun e=>atK k e.2)
theorem zlm(k:Acc)(a b:List (Int×List Leg)):zjn k (a++b)=zjn k a+zjn k b:=by unfold zjn;rw[List.map_append,zeo]
theorem zri(k:Acc)(n a:Int):atK k (zjl n a)=if k=(2,n,0)then a else if k=(5,n,0)then -a else 0:=by
 unfold zjl atK
 by_cases h2:k=(2,n,0)
 ·subst h2
  simp[zcj]
 ·rw[if_neg h2]
  by_cases h5:k=(5,n,0)
  ·subst h5
   simp[zcj]
  ·rw[if_neg h5]
   have e2: ¬((2,n,0):Acc)=k:=fun h=>h2 h.symm
   have e5: ¬((5,n,0):Acc)=k:=fun h=>h5 h.symm
   simp[zcj,e2,e5]
theorem zdi(c:List Int)(B:FB)(a b:List Int):zaa c B (a++b)=zaa c B a++zaa c B b:=by unfold zaa;rw[List.filterMap_append]
theorem zev(c:List Int)(B:FB): ∀(ks:List Int) (k:Acc),(∀n∈ks,k≠(2,n,0)∧k≠(5,n,0))→zjn k (zaa c B ks)=0
 | [],k,_=>rfl
 |n::ks,k,h=>by
  rw[show n::ks= [n]++ks from rfl,zdi,zlm,zev c B ks k (fun m hm=>h m (by simp[hm]))]
  unfold zaa
  obtain⟨h1,h2⟩:=h n (by simp)
  by_cases hx:zag (geA B n)=0∨n∈c
  ·simp[hx,zjn,zcj]
  ·simp only[List.filterMap_cons,List.filterMap_nil,if_neg hx]
   simp only[zjn,List.map_cons,List.map_nil,zcj]
   rw[zri,if_neg h1,if_neg h2]
   omega
theorem zt2{c:List Int}{B:FB}{N:Nat}(hB:BOk B N): ∀(ks:List Int),ks.Nodup→∀k,-9007199254740992≤zjn k (zaa c B ks)∧zjn k (zaa c B ks)≤9007199254740992
 | [],_,k=>by simp[zaa,zjn,zcj]
 |n::ks,hn,k=>by
  obtain⟨n1,n2⟩:=List.nodup_cons.1 hn
  have ih:=zt2 (c:=c) hB ks n2 k
  have hl:=(hB.ok n).left
  have hl2:=zer (hB.ok n)
  rw[show n::ks= [n]++ks from rfl,zdi,zlm]
  have h1:zjn k (zaa c B [n])=0∨(k=(2,n,0)∨k=(5,n,0))∧ -9007199254740992≤zjn k (zaa c B [n])∧zjn k (zaa c B [n])≤9007199254740992:=by
   unfold zaa
   by_cases hx:zag (geA B n)=0∨n∈c
   ·left;simp[hx,zjn,zcj]
   ·simp only[List.filterMap_cons,List.filterMap_nil,if_neg hx]
    simp only[zjn,List.map_cons,List.map_nil,zcj]
    rw[zri]
    by_cases h2:k=(2,n,0)
    ·rw[if_pos h2];right;exact⟨.inl h2,by omega,by omega⟩
    ·rw[if_neg h2]
     by_cases h5:k=(5,n,0)
     ·rw[if_pos h5];right;exact⟨.inr h5,by omega,by omega⟩
     ·rw[if_neg h5];left;omega
  rcases h1 with h1|⟨hk,h1⟩
  ·rw[h1];omega
  ·have h0:zjn k (zaa c B ks)=0:=zev c B ks k fun m hm=>by
    have hmn:m≠n:=fun e=>n1 (e▸hm)
    rcases hk with rfl|rfl
    ·exact⟨fun e=>hmn (by injection e with _ e;injection e with e _;exact e.symm),fun e=>by injection e with e _;omega⟩
    ·exact⟨fun e=>by injection e with e _;omega,fun e=>hmn (by injection e with _ e;injection e with e _;exact e.symm)⟩
   rw[h0];omega
theorem zr5{c:List Int}{B:FB}{N:Nat}(hB:BOk B N){p m q:Nat}{j:Jn}{J:RJ}(h:JRel p m q j J)(hm:m+32≤16384)(hq:q≤100)(ks:List Int)(hn:ks.Nodup)(hr: ∀n∈ks,1≤n∧n≤32)(hl:ks.length≤32): ∀i,i≤ks.length→
  JRel p (m+(zaa c B (ks.take i)).length) (q+1) (zae j (zaa c B (ks.take i))) (J.1++(zaa c B (ks.take i)).map (fun e=>(e.1,e.2.map frL)),J.2.1++(zaa c B (ks.take i)).map (fun _=>J.2.2),J.2.2)∧
   (∀k,bal (zae j (zaa c B (ks.take i))).2.2.1 k=bal j.2.2.1 k+zjn k (zaa c B (ks.take i))):=by
 intro i
 induction i with
 |zero=>
  intro _
  refine⟨?_,fun k=>by simp[zaa,zae,zjn,zcj]⟩
  simp only[List.take_zero,zaa,List.filterMap_nil,List.map_nil,List.append_nil,List.length_nil]
  exact h.more (by omega) (by omega)
 |succ i ih=>
  intro hi
  have hi':i<ks.length:=by omega
  obtain⟨h1,h2⟩:=ih (by omega)
  have hnt:=zdo hn i hi'
  have hrn:=hr _ (List.getElem_mem hi')
  rw[zad ks i hi',zdi]
  by_cases hx:zag (geA B ks[i])=0∨ks[i]∈c
  ·have e0:zaa c B [ks[i]]= []:=by unfold zaa;simp[hx]
   rw[e0,List.append_nil]
   exact⟨h1,h2⟩
  ·have e1:zaa c B [ks[i]]= [(5,zjl ks[i] (zag (geA B ks[i])))]:=by unfold zaa;simp only[List.filterMap_cons,List.filterMap_nil,if_neg hx]
   have hok:=hB.ok ks[i]
   have ha0:=hok.left
   have ha1:=zer hok
   have hane:zag (geA B ks[i])≠0:=fun e=>hx (.inl e)
   have hc:=cExp ks[i] (zag (geA B ks[i])) hrn ⟨by omega,ha1⟩
   have hgl:(zaa c B (ks.take i)).length≤31:=by
    have:=ze0 c B (ks.take i)
    rw[List.length_take]at this
    omega
   have hjl:=h1.ji.list
   have hx2:zjn (2,ks[i],0) (zaa c B (ks.take i))=0:=zev c B _ _ fun m hm'=>⟨fun e=>hnt (by injection e with _ e;injection e with e _;rw[e];exact hm'),fun e=>by injection e with e _;omega⟩
   have hx5:zjn (5,ks[i],0) (zaa c B (ks.take i))=0:=zev c B _ _ fun m hm'=>⟨fun e=>by injection e with e _;omega,fun e=>hnt (by injection e with _ e;injection e with e _;rw[e];exact hm')⟩
   have b2:=h.bnd (2,ks[i],0)
   have b5:=h.bnd (5,ks[i],0)
   have g2:=h2 (2,ks[i],0)
   have g5:=h2 (5,ks[i],0)
   rw[hx2]at g2
   rw[hx5]at g5
   have hqq:(q:Int)*9007199254740992≤900719925474099200:=by omega
   have hfar:(zjl ks[i] (zag (geA B ks[i]))).any (far (zae j (zaa c B (ks.take i))).2.2.1)=false:=by
    unfold zjl
    simp only[List.any_cons,List.any_nil,Bool.or_false,far]
    rw[g2,g5,wr _ (by omega) (by omega),wr _ (by omega) (by omega)]
    simp only[Bool.or_eq_false_iff,decide_eq_false_iff_not]
    omega
   have hp:=zvr h1 (by omega) 5 (zjl ks[i] (zag (geA B ks[i]))) hc (by omega) hfar
   have hps:zae j (zaa c B (ks.take i)++zaa c B [ks[i]])=zb6 (zae j (zaa c B (ks.take i))) (5,zjl ks[i] (zag (geA B ks[i]))):=by
    rw[e1]
    show(zaa c B (ks.take i)++ [(5,zjl ks[i] (zag (geA B ks[i])))]).foldl zip j=_
    rw[List.foldl_append]
    show zip (zae j (zaa c B (ks.take i))) _=_
    unfold zip
    rw[if_neg (by simp[hc]),if_neg (by omega),if_neg (by simp[hfar])]
   obtain⟨c1,c2,c3,c4⟩:=zht hc
   have hbal: ∀k,bal (zae j (zaa c B (ks.take i)++zaa c B [ks[i]])).2.2.1 k=bal j.2.2.1 k+zjn k (zaa c B (ks.take i)++zaa c B [ks[i]]):=by
    intro k
    rw[hps,zlm]
    show bal (zel (zae j (zaa c B (ks.take i))).2.2.1 (zjl ks[i] (zag (geA B ks[i])))) k=_
    rw[(zf0 _ _ c3 c2 (fun q=>by have:=h1.rng q;omega)).1,h2,e1]
    simp only[zjn,List.map_cons,List.map_nil,zcj]
    omega
   refine⟨?_,hbal⟩
   have hbd:=zt2 (c:=c) hB (ks.take (i+1)) (hn.sublist (List.take_sublist _ _))
   rw[zad ks i hi',zdi]at hbd
   rw[hps]at hbal⊢
   rw[e1]at hbal hbd⊢
   simp only[List.map_append,List.map_cons,List.map_nil,List.length_append,List.length_cons,List.length_nil,←List.append_assoc]
   refine⟨⟨hp.ji.per,hp.ji.mov,hp.ji.p31,by have:=hp.ji.list;omega⟩,hp.lst,hp.whn,hp.per,hp.ent,hp.sum,hp.rng,fun k=> ?_⟩
   have:=hbal k
   have h3:=hbd k
   have h4:=h.bnd k
   rw[this]
   constructor<;>omega
theorem zpc(c:List Int)(B:FB):zaa c B nodes32=zaa c B (zb9 B)∧zcj (nodes32.map (zbb c B))=zcj ((zb9 B).map (zbb c B)):=by
 unfold zb9
 generalize nodes32=l
 induction l with
 |nil=>exact⟨rfl,rfl⟩
 |cons n l ih=>
  obtain⟨h1,h2⟩:=ih
  by_cases hz:geA B n=V0
  ·rw[List.filter_cons,if_neg (by simp[hz])]
   constructor
   ·rw[show n::l= [n]++l from rfl,zdi,h1]
    have:zaa c B [n]= []:=by unfold zaa;simp[hz,zag]
    rw[this,List.nil_append]
   ·rw[List.map_cons]
    simp only[zcj]
    rw[h2]
    have:zbb c B n=0:=by unfold zbb;rw[hz];split<;>rfl
    omega
  ·rw[List.filter_cons,if_pos (by simp[hz])]
   constructor
   ·rw[show n::l= [n]++l from rfl,zdi,h1,←zdi]
    rfl
   ·rw[List.map_cons,List.map_cons]
    simp only[zcj]
    rw[h2]
end Go.Proofs.YtniohchnpfpffaaGreat.Pure
