/- Plain laws: a purse's journal and the document's. No statement of its own. -/
import Derived.Test.YtniohchnpfpffaaGreatSa
import Derived.Test.YtniohchnpfpffaaGreatEj
set_option linter.unusedSimpArgs false
set_option linter.unusedVariables false
namespace Go.Proofs.YtniohchnpfpffaaGreat.Pure
open Go.Vk Go.Am Go.Pg Go.Sort Go.Proofs.YtniohchnpfpffaaGreat.Y
abbrev RJ:=List (Int×List zd8)×(List Int×Int)
theorem zyv(x y:Int):IntKind.i64.wrap (IntKind.i64.wrap x+y)=IntKind.i64.wrap (x+y):=by
 simp only[IntKind.wrap_i64];omega
def zo2(a:Acc)(n:Int)(ls:List zd8):Int:=ls.foldl (fun n l=>if(toL l).1=a then IntKind.i64.wrap (n+l.2.2.2)else n) n
theorem zva(a:Acc): ∀(ls:List zd8) (x:Int),zo2 a (IntKind.i64.wrap x) ls=IntKind.i64.wrap (x+atK a (ls.map toL))
 | [],x=>by simp[zo2,atK,zcj]
 |l::ls,x=>by
  unfold zo2
  rw[List.foldl_cons]
  by_cases h:(toL l).1=a
  ·rw[if_pos h,zyv]
   have:=zva a ls (x+l.2.2.2)
   unfold zo2 at this
   rw[this]
   congr 1
   unfold atK
   rw[List.map_cons,List.filter_cons,decide_eq_true h,if_pos rfl,List.map_cons]
   simp only[zcj]
   have:(toL l).2=l.2.2.2:=rfl
   omega
  ·rw[if_neg h]
   have:=zva a ls x
   unfold zo2 at this
   rw[this]
   congr 1
   unfold atK
   rw[List.map_cons,List.filter_cons,decide_eq_false h]
   simp
def ztw(a:Acc)(n:Int)(L:List (Int×List zd8)):Int:=L.foldl (fun n e=>zo2 a n e.2) n
theorem zCi(a:Acc): ∀(L:List (Int×List zd8)) (x:Int),ztw a (IntKind.i64.wrap x) L=IntKind.i64.wrap (x+zcj (L.map fun e=>atK a (e.2.map toL)))
 | [],x=>by simp[ztw,zcj]
 |e::L,x=>by
  unfold ztw
  rw[List.foldl_cons,zva]
  have:=zCi a L (x+atK a (e.2.map toL))
  unfold ztw at this
  rw[this,List.map_cons]
  simp only[zcj]
  congr 1;omega
theorem zzl(x y:zd8):purserref08_same.f x y=some (decide ((toL x).1=(toL y).1)):=by
 obtain⟨a,b,c,d⟩:=x
 obtain⟨p,q,r,s⟩:=y
 unfold purserref08_same.f toL
 simp only[zak]
 by_cases h1:a=p
 ·by_cases h2:b=q
  ·by_cases h3:c=r
   ·subst h1 h2 h3;simp
   ·rw[show(a==p)=true by simp[h1],show(b==q)=true by simp[h2],show(c==r)=false by simp[h3],decide_eq_false (by simp[h3])];rfl
  ·rw[show(a==p)=true by simp[h1],show(b==q)=false by simp[h2],decide_eq_false (by simp[h2])];rfl
 ·rw[show(a==p)=false by simp[h1],decide_eq_false (by simp[h1])];rfl
structure JRel(p m c:Nat)(j:Jn)(J:RJ):Prop where
 ji:JI p m j
 lst:J.1=j.1.map fun x=>(x.1.1,x.1.2.map frL)
 whn:J.2.1=j.1.map fun x=>x.2
 per:J.2.2=(p:Int)
 ent: ∀x∈j.1,chk x.1.1 x.1.2=0
 sum: ∀k,bal j.2.2.1 k=zcj (j.1.map fun x=>atK k x.1.2)
 rng: ∀k,-1152921504606846976≤bal j.2.2.1 k∧bal j.2.2.1 k≤1152921504606846976
 bnd: ∀k,-((c:Int)*9007199254740992)≤bal j.2.2.1 k∧bal j.2.2.1 k≤(c:Int)*9007199254740992
theorem zi9(l:List Leg):(l.map frL).map toL=l:=by
 rw[List.map_map]
 conv=>rhs;rw[←List.map_id l]
 rfl
theorem zms(l:List zd8):(l.map toL).map frL=l:=by
 rw[List.map_map]
 conv=>rhs;rw[←List.map_id l]
 rfl
theorem JRel.acc{p m c:Nat}{j:Jn}{J:RJ}(h:JRel p m c j J)(a:Acc):ztw a 0 J.1=bal j.2.2.1 a:=by
 have h0:(0:Int)=IntKind.i64.wrap 0:=rfl
 rw[h0,zCi,h.lst,List.map_map]
 have:(j.1.map ((fun e:Int×List zd8=>atK a (e.2.map toL)) ∘ fun x=>(x.1.1,x.1.2.map frL)))=j.1.map fun x=>atK a x.1.2:=by
  refine List.map_congr_left fun x _=> ?_
  simp only[Function.comp,zi9]
 rw[this,←h.sum a,Int.zero_add]
 have:=h.rng a
 exact wr _ (by omega) (by omega)
theorem zv9: ∀{ls:List Leg},ls.Pairwise (fun x y=>ltA x.1 y.1)→∀{x:Leg},x∈ls→atK x.1 ls=x.2
 | [],_,x,hx=>by simp at hx
 |y::ls,hp,x,hx=>by
  obtain⟨h1,h2⟩:=List.pairwise_cons.1 hp
  have hcons: ∀k,atK k (y::ls)=(if y.1=k then y.2 else 0)+atK k ls:=by
   intro k
   unfold atK
   rw[List.filter_cons]
   by_cases h:y.1=k
   ·rw[decide_eq_true h,if_pos rfl,if_pos h,List.map_cons];rfl
   ·rw[decide_eq_false h,if_neg h];simp
  rw[hcons]
  rcases List.mem_cons.1 hx with rfl|hx
  ·rw[if_pos rfl,zlt (fun z hz he=>by have:=h1 z hz;rw[he]at this;exact zcr _ this)]
   omega
  ·rw[if_neg (fun he=>by have:=h1 x hx;rw[he]at this;exact zcr _ this),zv9 h2 hx]
   omega
/-! ### the document's post -/
section
variable (As : List FA) (J : RJ) (e : (Int × List zd8) × Int)
theorem zAu(k i:Nat)(hi:i<J.1.length)(hk:k<e.1.2.length)(hl:(J.1[i]).2.length≤1000000)(n:Int):
  za2 (purserref15_Purse_post.l5 (As,J) e (k:Int) (n,(i:Int))) (n,0)=some (zo2 (toL e.1.2[k]).1 n (J.1[i]).2):=by
 refine zap (fun q=>(zo2 (toL e.1.2[k]).1 n ((J.1[i]).2.take q),(q:Int))) (J.1[i]).2.length (by simp[zo2]) (fun q hq=> ?_) ?_
 ·unfold purserref15_Purse_post.l5
  simp only[zak]
  rw[nn,ilt hi,Bool.and_self,cond_true,at_ J.1 i hi,ilt hq,cond_true,cond_true,nn,Bool.and_self,cond_true,at_ _ q hq,at_ _ k hk]
  rw[show purserref08_same.f (((J.1[i]).2[q]).1,((((J.1[i]).2[q]).2).1,(((((J.1[i]).2[q]).2).2).1,((((J.1[i]).2[q]).2).2).2))) ((e.1.2[k]).1,(((e.1.2[k]).2).1,((((e.1.2[k]).2).2).1,(((e.1.2[k]).2).2).2)))=some (decide ((toL (J.1[i]).2[q]).1=(toL e.1.2[k]).1))from zzl _ _,Option.bind_some]
  have hs:zo2 (toL e.1.2[k]).1 n ((J.1[i]).2.take (q+1))=if(toL (J.1[i]).2[q]).1=(toL e.1.2[k]).1 then IntKind.i64.wrap (zo2 (toL e.1.2[k]).1 n ((J.1[i]).2.take q)+((J.1[i]).2[q]).2.2.2)else zo2 (toL e.1.2[k]).1 n ((J.1[i]).2.take q):=by
   rw[zad _ q hq]
   unfold zo2
   rw[List.foldl_append]
   rfl
  rw[hs]
  by_cases h:(toL (J.1[i]).2[q]).1=(toL e.1.2[k]).1
  ·rw[decide_eq_true h,if_pos h]
   simp only[cond_true,Option.bind_some]
   rw[wrS q (by omega)]
  ·rw[decide_eq_false h,if_neg h]
   simp only[cond_false,Option.bind_some]
   rw[wrS q (by omega)]
 ·unfold purserref15_Purse_post.l5
  simp only[zak]
  rw[nn,ilt hi,Bool.and_self,cond_true,at_ J.1 i hi,ige,List.take_length]
  rfl
theorem zBm(k:Nat)(hk:k<e.1.2.length)(hL:J.1.length≤1000000)(hl: ∀x∈J.1,x.2.length≤1000000):
  za2 (purserref15_Purse_post.l4 (As,J) e (k:Int)) (0,0)=some (ztw (toL e.1.2[k]).1 0 J.1):=by
 refine zap (fun i=>(ztw (toL e.1.2[k]).1 0 (J.1.take i),(i:Int))) J.1.length (by simp[ztw]) (fun i hi=> ?_) ?_
 ·unfold purserref15_Purse_post.l4
  simp only[zak]
  rw[ilt hi,cond_true,zAu As J e k i hi hk (hl _ (List.getElem_mem hi)),Option.bind_some,wrS i (by omega)]
  have hs:ztw (toL e.1.2[k]).1 0 (J.1.take (i+1))=zo2 (toL e.1.2[k]).1 (ztw (toL e.1.2[k]).1 0 (J.1.take i)) (J.1[i]).2:=by
   rw[zad _ i hi]
   unfold ztw
   rw[List.foldl_append]
   rfl
  rw[hs]
 ·unfold purserref15_Purse_post.l4
  simp only[zak]
  rw[ige,List.take_length]
  rfl
end
def zE4(B:Bk)(ls:List Leg)(i:Nat):Option (Int×Int):=if far B (ls.getD i ((0,0,0),0))=true then some (0,6)else none
theorem zwm(B:Bk)(ls:List Leg):zaz (zE4 B ls) 0 ls.length=if ls.any (far B)=true then some (0,6)else none:=by
 by_cases h:ls.any (far B)=true
 ·rw[if_pos h]
  cases hf:zaz (zE4 B ls) 0 ls.length with
  |some b=>
   obtain⟨k,_,_,k3⟩:=zcl hf
   unfold zE4 at k3
   split at k3
   ·rw[←Option.some.inj k3]
   ·cases k3
  |none=>
   obtain⟨x,hx,hfx⟩:=List.any_eq_true.1 h
   obtain⟨k,hk,rfl⟩:=List.getElem_of_mem hx
   have:=zb7 hf k (by omega) (by omega)
   unfold zE4 at this
   rw[zl3 ls k hk,if_pos hfx]at this
   cases this
 ·rw[if_neg h]
  refine zlk fun k _ hk=> ?_
  unfold zE4
  rw[zl3 ls k (by omega),if_neg]
  exact fun hf=>h (List.any_eq_true.2 ⟨_,List.getElem_mem (by omega),hf⟩)
theorem zyj{p m c:Nat}{j:Jn}{J:RJ}(h:JRel p m c j J)(hm:m≤1000000)(As:List FA)(e:(Int×List zd8)×Int)(he:e.1.2.length≤1000000)(hl: ∀x∈J.1,x.2.length≤1000000):
  za2 (purserref15_Purse_post.l3 (As,J) e) 0=some (if(e.1.2.map toL).any (far j.2.2.1)=true then .inl (0,6)else .inr ()):=by
 have hL:J.1.length≤1000000:=by rw[h.lst,List.length_map];have:=h.ji.list;omega
 have h1:=zbs (f:=purserref15_Purse_post.l3 (As,J) e) e.1.2.length (zE4 j.2.2.1 (e.1.2.map toL)) (fun i hi=> ?_) ?_
 ·rw[h1]
  have:=zwm j.2.2.1 (e.1.2.map toL)
  rw[List.length_map]at this
  rw[this]
  by_cases hx:(e.1.2.map toL).any (far j.2.2.1)=true
  ·rw[if_pos hx,if_pos hx];rfl
  ·rw[if_neg hx,if_neg hx];rfl
 ·unfold purserref15_Purse_post.l3
  rw[ilt hi,nn,Bool.and_self,cond_true,cond_true,cond_true,zBm As J e i hi hL hl,Option.bind_some,h.acc,at_ e.1.2 i hi]
  have hfar:((bif !(decide ((IntKind.i64.wrap (bal j.2.2.1 (toL e.1.2[i]).1+(((e.1.2[i]).2).2).2))>1152921504606846976))then(some (decide ((IntKind.i64.wrap (bal j.2.2.1 (toL e.1.2[i]).1+(((e.1.2[i]).2).2).2))< (-1152921504606846976))))else(some true)):Option Bool)=some (far j.2.2.1 (toL e.1.2[i])):=by
   unfold far
   rw[show(toL e.1.2[i]).2=(((e.1.2[i]).2).2).2 from rfl]
   cases decide ((IntKind.i64.wrap (bal j.2.2.1 (toL e.1.2[i]).1+(((e.1.2[i]).2).2).2))>1152921504606846976)<;>rfl
  rw[hfar,Option.bind_some]
  unfold zE4
  rw[zl3 (e.1.2.map toL) i (by simpa using hi),List.getElem_map]
  cases far j.2.2.1 (toL e.1.2[i])with
  |true=>rfl
  |false=>rw[cond_false,wrS i (by omega)];rfl
 ·unfold purserref15_Purse_post.l3
  rw[ige];rfl
theorem zvr{p m c:Nat}{j:Jn}{J:RJ}(h:JRel p m c j J)(hm:m≤1000000)(k:Int)(ls:List Leg)(hk:chk k ls=0)(hlen:j.1.length≠16384)(hf:ls.any (far j.2.2.1)=false):
  JRel p (m+1) (c+1) (zb6 j (k,ls)) (J.1++ [(k,ls.map frL)],J.2.1++ [J.2.2],J.2.2):=by
 obtain⟨c1,c2,c3,c4⟩:=zht hk
 obtain⟨hb,hat⟩:=zf0 ls j.2.2.1 c3 c2 (fun q=>by have:=h.rng q;omega)
 have hji:=zvs h.ji (k,ls)
 have hps:zip j (k,ls)=zb6 j (k,ls):=by
  unfold zip
  rw[if_neg (by simp[hk]),if_neg hlen,if_neg (by simp[hf])]
 rw[hps]at hji
 refine⟨hji,?_,?_,h.per,?_,fun q=> ?_,fun q=> ?_,fun q=> ?_⟩
 ·simp only[zb6,List.map_append,List.map_cons,List.map_nil,h.lst]
 ·simp only[zb6,List.map_append,List.map_cons,List.map_nil,h.whn,h.per,h.ji.per]
 ·intro x hx
  simp only[zb6,List.mem_append,List.mem_singleton]at hx
  rcases hx with hx|rfl
  ·exact h.ent x hx
  ·exact hk
 ·show bal (zel j.2.2.1 ls) q=zcj ((j.1++ [((k,ls),j.2.1)]).map fun x=>atK q x.1.2)
  rw[hb,h.sum,List.map_append,zeo]
  simp[zcj]
 ·show _≤bal (zel j.2.2.1 ls) q∧bal (zel j.2.2.1 ls) q≤_
  by_cases hq: ∃x∈ls,x.1=q
  ·obtain⟨x,hx,rfl⟩:=hq
   have hfx:far j.2.2.1 x=false:=by
    rw[List.any_eq_false]at hf
    simpa using hf x hx
   have hat:atK x.1 ls=x.2:=zv9 c3 hx
   rw[hb,hat]
   have hx2:=c2 x hx
   have hr:=h.rng x.1
   unfold far at hfx
   simp only[Bool.or_eq_false_iff,decide_eq_false_iff_not]at hfx
   rw[wr _ (by omega) (by omega)]at hfx
   omega
  ·have hat:atK q ls=0:=zlt fun x hx he=>hq ⟨x,hx,he⟩
   rw[hb,hat]
   have:=h.rng q
   omega
 ·show _≤bal (zel j.2.2.1 ls) q∧bal (zel j.2.2.1 ls) q≤_
  rw[hb]
  have h1:=h.bnd q
  have h2:=hat q
  constructor<;>omega
end Go.Proofs.YtniohchnpfpffaaGreat.Pure
