/- Plain laws of the journal: sums over books,what an entry that is taken is. No statement of its own. -/
import Derived.Test.YtniohchnpfpffaaGreatJc
set_option linter.unusedSimpArgs false
set_option linter.unusedVariables false
namespace Go.Proofs.YtniohchnpfpffaaGreat.Pure
open Go.Vk Go.Am Go.Pg Go.Sort Go.Proofs.YtniohchnpfpffaaGreat.Y
theorem ziz: ∀(a b:List Int),zd9 (a++b)=zd9 a+zd9 b
 | [],b=>by simp[zd9]
 |x::a,b=>by simp only[List.cons_append,zd9,ziz a b];omega
/-! ### an entry that is taken -/
theorem legC_ok{prev:Option Acc}{x:Leg}(h:zoz prev x=0):(-9007199254740992≤x.2∧x.2≤9007199254740992)∧∀p,prev=some p→ltA p x.1:=by
 unfold zoz at h
 split at h
 ·cases h
 ·split at h
  ·cases h
  ·rename_i h2
   refine⟨by omega,fun p hp=> ?_⟩
   subst hp
   simp only at h
   split at h
   ·cases h
   ·rename_i h3
    exact(zcl p x.1).1 (by omega)
theorem zwx: ∀(l:List Leg) (prev:Option Acc),zps prev l=0→(∀x∈l,-9007199254740992≤x.2∧x.2≤9007199254740992)∧(∀p,prev=some p→∀x∈l,ltA p x.1)∧l.Pairwise (fun x y=>ltA x.1 y.1)
 | [],prev,h=>⟨fun x hx=>by simp at hx,fun p _ x hx=>by simp at hx,List.Pairwise.nil⟩
 |x::l,prev,h=>by
  unfold zps at h
  split at h
  ·rename_i hne;exact absurd h hne
  ·rename_i hne
   have h0:zoz prev x=0:=by omega
   obtain⟨a1,a2⟩:=legC_ok h0
   obtain⟨b1,b2,b3⟩:=zwx l (some x.1) h
   have b2:=b2 x.1 rfl
   refine⟨fun y hy=> ?_,fun p hp y hy=> ?_,List.pairwise_cons.2 ⟨b2,b3⟩⟩
   ·rcases List.mem_cons.1 hy with rfl|hy
    ·exact a1
    ·exact b1 y hy
   ·rcases List.mem_cons.1 hy with rfl|hy
    ·exact a2 p hp
    ·exact zd4 (a2 p hp) (b2 y hy)
theorem zww{k:Int}{l:List Leg}(h:chk k l=0):l.length≤64∧(∀x∈l,-9007199254740992≤x.2∧x.2≤9007199254740992)∧l.Pairwise (fun x y=>ltA x.1 y.1)∧amt l=0:=by
 unfold chk at h
 split at h
 ·cases h
 ·split at h
  ·cases h
  ·rename_i h2
   split at h
   ·rename_i h3;exact absurd h h3
   ·rename_i h3
    split at h
    ·cases h
    ·rename_i h4
     obtain⟨c1,_,c3⟩:=zwx l none (by omega)
     refine⟨by omega,c1,c3,?_⟩
     have:=zu7 l 0 c1 (by omega) (by omega) (by omega)
     omega
/-! ### books -/
def zbx(B:Bk):List Acc:=(B.filterMap id).map (·.1)
def totB(B:Bk):Int:=zd9 ((B.filterMap id).map (·.2))
theorem zj0: ∀(B:Bk) (k:Acc) (v:Int),(zbx B).Nodup→(zbx (zbp KA VI B k v)).Nodup∧∀q,q∈zbx (zbp KA VI B k v)↔q=k∨q∈zbx B
 | [],k,v,_=>by simp[zbp,zbx]
 |none::B,k,v,h=>by
  have:=zj0 B k v (by simpa[zbx]using h)
  simpa[zbp,zbx]using this
 |some (k',v')::B,k,v,h=>by
  have h':k'∉zbx B∧(zbx B).Nodup:=by simpa[zbx]using h
  obtain⟨i1,i2⟩:=zj0 B k v h'.2
  simp only[zbp,eqA]
  by_cases hk:k=k'
  ·subst hk
   simp only[decide_true,cond_true]
   refine⟨by simpa[zbx]using h',fun q=> ?_⟩
   simp[zbx]
  ·simp only[decide_eq_false hk,cond_false]
   refine⟨?_,fun q=> ?_⟩
   ·show(k'::zbx (zbp KA VI B k v)).Nodup
    rw[List.nodup_cons]
    exact⟨fun hm=>((i2 k').1 hm).elim (fun e=>hk e.symm) h'.1,i1⟩
   ·show q∈k'::zbx (zbp KA VI B k v)↔q=k∨q∈k'::zbx B
    rw[List.mem_cons,List.mem_cons,i2 q]
    constructor
    ·rintro(h|h|h)
     ·exact .inr (.inl h)
     ·exact .inl h
     ·exact .inr (.inr h)
    ·rintro(h|h|h)
     ·exact .inr (.inl h)
     ·exact .inl h
     ·exact .inr (.inr h)
def atK(k:Acc)(ls:List Leg):Int:=zd9 ((ls.filter (fun l=>decide (l.1=k))).map (·.2))
theorem zsi{k:Acc}: ∀{ls:List Leg},(∀x∈ls,x.1≠k)→atK k ls=0
 | [],_=>rfl
 |x::ls,h=>by
  have ih:=zsi (k:=k) (ls:=ls) fun y hy=>h y (by simp[hy])
  have hx:=h x (by simp)
  unfold atK at ih⊢
  rw[List.filter_cons]
  simp only[hx,decide_false,Bool.false_eq_true,if_false]
  exact ih
theorem zny: ∀(ls:List Leg) (B:Bk),ls.Pairwise (fun x y=>ltA x.1 y.1)→(∀x∈ls,-9007199254740992≤x.2∧x.2≤9007199254740992)→(∀k,-4611686018427387904≤bal B k∧bal B k≤4611686018427387904)→
  (∀k,bal (zes B ls) k=bal B k+atK k ls)∧(∀k,-9007199254740992≤atK k ls∧atK k ls≤9007199254740992)
 | [],B,_,_,_=>⟨fun k=>by simp[zes,atK,zd9],fun k=>by simp[atK,zd9]⟩
 |x::ls,B,hp,ha,hb=>by
  rw[List.pairwise_cons]at hp
  have hx:=ha x (by simp)
  have hbx:=hb x.1
  have hw:IntKind.i64.wrap (bal B x.1+x.2)=bal B x.1+x.2:=wr _ (by omega) (by omega)
  have hno: ∀y∈ls,y.1≠x.1:=fun y hy e=>by
   have:=hp.1 y hy
   rw[e]at this
   exact zbq _ this
  have step: ∀(ls:List Leg) (B:Bk) (k:Acc),(∀y∈ls,y.1≠k)→bal (zes B ls) k=bal B k:=by
   intro ls
   induction ls with
   |nil=>intro B k _;rfl
   |cons y ls ih=>
    intro B k h
    show bal (zes (upd B y) ls) k=bal B k
    rw[ih (upd B y) k fun z hz=>h z (by simp[hz]),zkx,if_neg fun e=>h y (by simp) e.symm]
  have hind:=zny ls B hp.2 (fun y hy=>ha y (by simp[hy])) hb
  have hk: ∀k,k≠x.1→atK k (x::ls)=atK k ls:=fun k h=>by
   unfold atK
   rw[List.filter_cons]
   simp only[Ne.symm h,decide_false,Bool.false_eq_true,if_false]
  have hxk:atK x.1 (x::ls)=x.2:=by
   unfold atK
   rw[List.filter_cons]
   simp only[decide_true,if_true,List.map_cons,zd9]
   have:=zsi (k:=x.1) hno
   unfold atK at this
   omega
  have rest: ∀(ls:List Leg) (B B':Bk) (k:Acc),bal B k=bal B' k→bal (zes B ls) k=bal (zes B' ls) k:=by
   intro ls
   induction ls with
   |nil=>intro B B' k h;exact h
   |cons y ls ih=>
    intro B B' k h
    show bal (zes (upd B y) ls) k=bal (zes (upd B' y) ls) k
    refine ih _ _ _ ?_
    rw[zkx,zkx]
    by_cases e:k=y.1
    ·subst e;rw[if_pos rfl,if_pos rfl,h]
    ·rw[if_neg e,if_neg e,h]
  refine⟨fun k=> ?_,fun k=> ?_⟩
  ·by_cases h:k=x.1
   ·subst h
    show bal (zes (upd B x) ls) x.1=_
    rw[step ls (upd B x) x.1 hno,zkx,if_pos rfl,hw,hxk]
   ·show bal (zes (upd B x) ls) k=_
    rw[hk k h,rest ls (upd B x) B k (by rw[zkx,if_neg h])]
    exact hind.1 k
  ·by_cases h:k=x.1
   ·subst h;rw[hxk];exact hx
   ·rw[hk k h];exact hind.2 k
theorem zq1: ∀(ls:List Leg) (B:Bk),(zbx B).Nodup→(zbx (zes B ls)).Nodup
 | [],B,h=>h
 |x::ls,B,h=>zq1 ls (upd B x) (zj0 B x.1 _ h).1
theorem zmz: ∀(B:Bk) (k:Acc) (v:Int),(zbp KA VI B k v).length≤B.length+1
 | [],k,v=>by simp[zbp]
 |none::B,k,v=>by simp only[zbp,List.length_cons];have:=zmz B k v;omega
 |some (k',v')::B,k,v=>by
  have:=zmz B k v
  simp only[zbp,eqA]
  by_cases h:k=k'
  ·subst h;simp
  ·simp only[decide_eq_false h,cond_false,List.length_cons];omega
theorem zsn: ∀(ls:List Leg) (B:Bk),(zes B ls).length≤B.length+ls.length
 | [],B=>by simp[zes]
 |x::ls,B=>by
  have h1:=zsn ls (upd B x)
  have h2:=zmz B x.1 (IntKind.i64.wrap (bal B x.1+x.2))
  show(zes (upd B x) ls).length≤_
  unfold upd at h1⊢
  rw[List.length_cons]
  omega
end Go.Proofs.YtniohchnpfpffaaGreat.Pure
