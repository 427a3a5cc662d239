/- Plain laws: a purse's journal and the document's. No statement of its own. -/
import Derived.Test.YtniohchnpfpffaaGreatSa
import Derived.Test.YtniohchnpfpffaaGreatEj
set_option linter.unusedSimpArgs false
set_option linter.unusedVariables false
namespace Go.Proofs.YtniohchnpfpffaaGreat.Pure
open Go.Vk Go.Am Go.Pg Go.Sort Go.Proofs.YtniohchnpfpffaaGreat.Y
abbrev RJ:=List (Int×List zcj)×(List Int×Int)
theorem zuj(x y:Int):IntKind.i64.wrap (IntKind.i64.wrap x+y)=IntKind.i64.wrap (x+y):=by
 simp only[IntKind.wrap_i64];omega
def accN(a:Acc)(n:Int)(ls:List zcj):Int:=ls.foldl (fun n l=>if(toL l).1=a then IntKind.i64.wrap (n+l.2.2.2)else n) n
theorem zrb(a:Acc): ∀(ls:List zcj) (x:Int),accN a (IntKind.i64.wrap x) ls=IntKind.i64.wrap (x+atK a (ls.map toL))
 | [],x=>by simp[accN,atK,zg2]
 |l::ls,x=>by
  unfold accN
  rw[List.foldl_cons]
  by_cases h:(toL l).1=a
  ·rw[if_pos h,zuj]
   have:=zrb a ls (x+l.2.2.2)
   unfold accN at this
   rw[this]
   congr 1
   unfold atK
   rw[List.map_cons,List.filter_cons,decide_eq_true h,if_pos rfl,List.map_cons]
   simp only[zg2]
   have:(toL l).2=l.2.2.2:=rfl
   omega
  ·rw[if_neg h]
   have:=zrb a ls x
   unfold accN at this
   rw[this]
   congr 1
   unfold atK
   rw[List.map_cons,List.filter_cons,decide_eq_false h]
   simp
def accE(a:Acc)(n:Int)(L:List (Int×List zcj)):Int:=L.foldl (fun n e=>accN a n e.2) n
theorem zxi(a:Acc): ∀(L:List (Int×List zcj)) (x:Int),accE a (IntKind.i64.wrap x) L=IntKind.i64.wrap (x+zg2 (L.map fun e=>atK a (e.2.map toL)))
 | [],x=>by simp[accE,zg2]
 |e::L,x=>by
  unfold accE
  rw[List.foldl_cons,zrb]
  have:=zxi a L (x+atK a (e.2.map toL))
  unfold accE at this
  rw[this,List.map_cons]
  simp only[zg2]
  congr 1;omega
structure JRel(p m c:Nat)(j:Jn)(J:RJ):Prop where
 ji:JI p m j
 lst:J.1=j.1.map fun x=>(x.1.1,x.1.2.map frL)
 whn:J.2.1=j.1.map fun x=>x.2
 per:J.2.2=(p:Int)
 ent: ∀x∈j.1,chk x.1.1 x.1.2=0
 sum: ∀k,bal j.2.2.1 k=zg2 (j.1.map fun x=>atK k x.1.2)
 rng: ∀k,-1152921504606846976≤bal j.2.2.1 k∧bal j.2.2.1 k≤1152921504606846976
 bnd: ∀k,-((c:Int)*9007199254740992)≤bal j.2.2.1 k∧bal j.2.2.1 k≤(c:Int)*9007199254740992
theorem zqz(l:List Leg):(l.map frL).map toL=l:=by
 rw[List.map_map]
 conv=>rhs;rw[←List.map_id l]
 rfl
theorem zr0(l:List zcj):(l.map toL).map frL=l:=by
 rw[List.map_map]
 conv=>rhs;rw[←List.map_id l]
 rfl
theorem JRel.acc{p m c:Nat}{j:Jn}{J:RJ}(h:JRel p m c j J)(a:Acc):accE a 0 J.1=bal j.2.2.1 a:=by
 have h0:(0:Int)=IntKind.i64.wrap 0:=rfl
 rw[h0,zxi,h.lst,List.map_map]
 have:(j.1.map ((fun e:Int×List zcj=>atK a (e.2.map toL)) ∘ fun x=>(x.1.1,x.1.2.map frL)))=j.1.map fun x=>atK a x.1.2:=by
  refine List.map_congr_left fun x _=> ?_
  simp only[Function.comp,zqz]
 rw[this,←h.sum a,Int.zero_add]
 have:=h.rng a
 exact wr _ (by omega) (by omega)
theorem zxd: ∀{ls:List Leg},ls.Pairwise (fun x y=>ltA x.1 y.1)→∀{x:Leg},x∈ls→atK x.1 ls=x.2
 | [],_,x,hx=>by simp at hx
 |y::ls,hp,x,hx=>by
  obtain⟨h1,h2⟩:=List.pairwise_cons.1 hp
  have hcons: ∀k,atK k (y::ls)=(if y.1=k then y.2 else 0)+atK k ls:=by
   intro k
   unfold atK
   rw[List.filter_cons]
   by_cases h:y.1=k
   ·rw[decide_eq_true h,if_pos rfl,if_pos h,List.map_cons];rfl
   ·rw[decide_eq_false h,if_neg h];simp
  rw[hcons]
  rcases List.mem_cons.1 hx with rfl|hx
  ·rw[if_pos rfl,zjh (fun z hz he=>by have:=h1 z hz;rw[he]at this;exact zbu _ this)]
   omega
  ·rw[if_neg (fun he=>by have:=h1 x hx;rw[he]at this;exact zbu _ this),zxd h2 hx]
   omega
/-! ### the document's post -/
section
variable (As : List FA) (J : RJ) (e : (Int × List zcj) × Int)
end
theorem zyc{p m c:Nat}{j:Jn}{J:RJ}(h:JRel p m c j J)(hm:m≤1000000)(k:Int)(ls:List Leg)(hk:chk k ls=0)(hlen:j.1.length≠16384)(hf:ls.any (far j.2.2.1)=false):
  JRel p (m+1) (c+1) (zcg j (k,ls)) (J.1++ [(k,ls.map frL)],J.2.1++ [J.2.2],J.2.2):=by
 obtain⟨c1,c2,c3,c4⟩:=zmt hk
 obtain⟨hb,hat⟩:=zji ls j.2.2.1 c3 c2 (fun q=>by have:=h.rng q;omega)
 have hji:=zyd h.ji (k,ls)
 have hps:zye j (k,ls)=zcg j (k,ls):=by
  unfold zye
  rw[if_neg (by simp[hk]),if_neg hlen,if_neg (by simp[hf])]
 rw[hps]at hji
 refine⟨hji,?_,?_,h.per,?_,fun q=> ?_,fun q=> ?_,fun q=> ?_⟩
 ·simp only[zcg,List.map_append,List.map_cons,List.map_nil,h.lst]
 ·simp only[zcg,List.map_append,List.map_cons,List.map_nil,h.whn,h.per,h.ji.per]
 ·intro x hx
  simp only[zcg,List.mem_append,List.mem_singleton]at hx
  rcases hx with hx|rfl
  ·exact h.ent x hx
  ·exact hk
 ·show bal (zdn j.2.2.1 ls) q=zg2 ((j.1++ [((k,ls),j.2.1)]).map fun x=>atK q x.1.2)
  rw[hb,h.sum,List.map_append,zrd]
  simp[zg2]
 ·show _≤bal (zdn j.2.2.1 ls) q∧bal (zdn j.2.2.1 ls) q≤_
  by_cases hq: ∃x∈ls,x.1=q
  ·obtain⟨x,hx,rfl⟩:=hq
   have hfx:far j.2.2.1 x=false:=by
    rw[List.any_eq_false]at hf
    simpa using hf x hx
   have hat:atK x.1 ls=x.2:=zxd c3 hx
   rw[hb,hat]
   have hx2:=c2 x hx
   have hr:=h.rng x.1
   unfold far at hfx
   simp only[Bool.or_eq_false_iff,decide_eq_false_iff_not]at hfx
   rw[wr _ (by omega) (by omega)]at hfx
   omega
  ·have hat:atK q ls=0:=zjh fun x hx he=>hq ⟨x,hx,he⟩
   rw[hb,hat]
   have:=h.rng q
   omega
 ·show _≤bal (zdn j.2.2.1 ls) q∧bal (zdn j.2.2.1 ls) q≤_
  rw[hb]
  have h1:=h.bnd q
  have h2:=hat q
  constructor<;>omega
end Go.Proofs.YtniohchnpfpffaaGreat.Pure
