/- Plain laws of the journal: sums over books,what an entry that is taken is. No statement of its own. -/
import Derived.Test.YtniohchnpfpffaaGreatQc
set_option linter.unusedSimpArgs false
set_option linter.unusedVariables false
namespace Go.Proofs.YtniohchnpfpffaaGreat.Pure
open Go.Vk Go.Am Go.Pg Go.Sort Go.Proofs.YtniohchnpfpffaaGreat.Y
theorem zeo: ∀(a b:List Int),zcj (a++b)=zcj a+zcj b
 | [],b=>by simp[zcj]
 |x::a,b=>by simp only[List.cons_append,zcj,zeo a b];omega
theorem zz8{a b:List Int}(h:a.Perm b):zcj a=zcj b:=by
 induction h with
 |nil=>rfl
 |cons x _ ih=>simp only[zcj,ih]
 |swap x y l=>simp only[zcj];omega
 |trans _ _ h1 h2=>exact h1.trans h2
/-! ### an entry that is taken -/
theorem legC_ok{prev:Option Acc}{x:Leg}(h:zp5 prev x=0):(-9007199254740992≤x.2∧x.2≤9007199254740992)∧∀p,prev=some p→ltA p x.1:=by
 unfold zp5 at h
 split at h
 ·cases h
 ·split at h
  ·cases h
  ·rename_i h2
   refine⟨by omega,fun p hp=> ?_⟩
   subst hp
   simp only at h
   split at h
   ·cases h
   ·rename_i h3
    exact(zfs p x.1).1 (by omega)
theorem zC4: ∀(l:List Leg) (prev:Option Acc),zps prev l=0→(∀x∈l,-9007199254740992≤x.2∧x.2≤9007199254740992)∧(∀p,prev=some p→∀x∈l,ltA p x.1)∧l.Pairwise (fun x y=>ltA x.1 y.1)
 | [],prev,h=>⟨fun x hx=>by simp at hx,fun p _ x hx=>by simp at hx,List.Pairwise.nil⟩
 |x::l,prev,h=>by
  unfold zps at h
  split at h
  ·rename_i hne;exact absurd h hne
  ·rename_i hne
   have h0:zp5 prev x=0:=by omega
   obtain⟨a1,a2⟩:=legC_ok h0
   obtain⟨b1,b2,b3⟩:=zC4 l (some x.1) h
   have b2:=b2 x.1 rfl
   refine⟨fun y hy=> ?_,fun p hp y hy=> ?_,List.pairwise_cons.2 ⟨b2,b3⟩⟩
   ·rcases List.mem_cons.1 hy with rfl|hy
    ·exact a1
    ·exact b1 y hy
   ·rcases List.mem_cons.1 hy with rfl|hy
    ·exact a2 p hp
    ·exact zgr (a2 p hp) (b2 y hy)
theorem zht{k:Int}{l:List Leg}(h:chk k l=0):l.length≤64∧(∀x∈l,-9007199254740992≤x.2∧x.2≤9007199254740992)∧l.Pairwise (fun x y=>ltA x.1 y.1)∧amt l=0:=by
 unfold chk at h
 split at h
 ·cases h
 ·split at h
  ·cases h
  ·rename_i h2
   split at h
   ·rename_i h3;exact absurd h h3
   ·rename_i h3
    split at h
    ·cases h
    ·rename_i h4
     obtain⟨c1,_,c3⟩:=zC4 l none (by omega)
     refine⟨by omega,c1,c3,?_⟩
     have:=zyu l 0 c1 (by omega) (by omega) (by omega)
     omega
/-! ### books -/
def zga(B:Bk):List Acc:=(B.filterMap id).map (·.1)
def zz4(B:Bk):Int:=zcj ((B.filterMap id).map (·.2))
theorem zuc: ∀(B:Bk) (k:Acc) (v:Int),zz4 (zaw KA VI B k v)=zz4 B - bal B k+v
 | [],k,v=>by simp[zaw,zz4,bal,zaj,zcj]
 |none::B,k,v=>by
  have:=zuc B k v
  simpa[zaw,zz4,bal,zaj]using this
 |some (k',v')::B,k,v=>by
  have ih:=zuc B k v
  simp only[zaw,bal,zaj,eqA]at ih⊢
  by_cases h:k=k'
  ·subst h
   simp[zz4,zcj]
   omega
  ·simp only[decide_eq_false h,cond_false]
   simp only[zz4,List.filterMap_cons,id_eq,List.map_cons,zcj]at ih⊢
   omega
theorem zq1: ∀(B:Bk) (k:Acc) (v:Int),(zga B).Nodup→(zga (zaw KA VI B k v)).Nodup∧∀q,q∈zga (zaw KA VI B k v)↔q=k∨q∈zga B
 | [],k,v,_=>by simp[zaw,zga]
 |none::B,k,v,h=>by
  have:=zq1 B k v (by simpa[zga]using h)
  simpa[zaw,zga]using this
 |some (k',v')::B,k,v,h=>by
  have h':k'∉zga B∧(zga B).Nodup:=by simpa[zga]using h
  obtain⟨i1,i2⟩:=zq1 B k v h'.2
  simp only[zaw,eqA]
  by_cases hk:k=k'
  ·subst hk
   simp only[decide_true,cond_true]
   refine⟨by simpa[zga]using h',fun q=> ?_⟩
   simp[zga]
  ·simp only[decide_eq_false hk,cond_false]
   refine⟨?_,fun q=> ?_⟩
   ·show(k'::zga (zaw KA VI B k v)).Nodup
    rw[List.nodup_cons]
    exact⟨fun hm=>((i2 k').1 hm).elim (fun e=>hk e.symm) h'.1,i1⟩
   ·show q∈k'::zga (zaw KA VI B k v)↔q=k∨q∈k'::zga B
    rw[List.mem_cons,List.mem_cons,i2 q]
    constructor
    ·rintro(h|h|h)
     ·exact .inr (.inl h)
     ·exact .inl h
     ·exact .inr (.inr h)
    ·rintro(h|h|h)
     ·exact .inr (.inl h)
     ·exact .inl h
     ·exact .inr (.inr h)
def atK(k:Acc)(ls:List Leg):Int:=zcj ((ls.filter (fun l=>decide (l.1=k))).map (·.2))
theorem zlt{k:Acc}: ∀{ls:List Leg},(∀x∈ls,x.1≠k)→atK k ls=0
 | [],_=>rfl
 |x::ls,h=>by
  have ih:=zlt (k:=k) (ls:=ls) fun y hy=>h y (by simp[hy])
  have hx:=h x (by simp)
  unfold atK at ih⊢
  rw[List.filter_cons]
  simp only[hx,decide_false,Bool.false_eq_true,if_false]
  exact ih
theorem zf0: ∀(ls:List Leg) (B:Bk),ls.Pairwise (fun x y=>ltA x.1 y.1)→(∀x∈ls,-9007199254740992≤x.2∧x.2≤9007199254740992)→(∀k,-4611686018427387904≤bal B k∧bal B k≤4611686018427387904)→
  (∀k,bal (zel B ls) k=bal B k+atK k ls)∧(∀k,-9007199254740992≤atK k ls∧atK k ls≤9007199254740992)
 | [],B,_,_,_=>⟨fun k=>by simp[zel,atK,zcj],fun k=>by simp[atK,zcj]⟩
 |x::ls,B,hp,ha,hb=>by
  rw[List.pairwise_cons]at hp
  have hx:=ha x (by simp)
  have hbx:=hb x.1
  have hw:IntKind.i64.wrap (bal B x.1+x.2)=bal B x.1+x.2:=wr _ (by omega) (by omega)
  have hno: ∀y∈ls,y.1≠x.1:=fun y hy e=>by
   have:=hp.1 y hy
   rw[e]at this
   exact zcr _ this
  have step: ∀(ls:List Leg) (B:Bk) (k:Acc),(∀y∈ls,y.1≠k)→bal (zel B ls) k=bal B k:=by
   intro ls
   induction ls with
   |nil=>intro B k _;rfl
   |cons y ls ih=>
    intro B k h
    show bal (zel (upd B y) ls) k=bal B k
    rw[ih (upd B y) k fun z hz=>h z (by simp[hz]),zkm,if_neg fun e=>h y (by simp) e.symm]
  have hind:=zf0 ls B hp.2 (fun y hy=>ha y (by simp[hy])) hb
  have hk: ∀k,k≠x.1→atK k (x::ls)=atK k ls:=fun k h=>by
   unfold atK
   rw[List.filter_cons]
   simp only[Ne.symm h,decide_false,Bool.false_eq_true,if_false]
  have hxk:atK x.1 (x::ls)=x.2:=by
   unfold atK
   rw[List.filter_cons]
   simp only[decide_true,if_true,List.map_cons,zcj]
   have:=zlt (k:=x.1) hno
   unfold atK at this
   omega
  have rest: ∀(ls:List Leg) (B B':Bk) (k:Acc),bal B k=bal B' k→bal (zel B ls) k=bal (zel B' ls) k:=by
   intro ls
   induction ls with
   |nil=>intro B B' k h;exact h
   |cons y ls ih=>
    intro B B' k h
    show bal (zel (upd B y) ls) k=bal (zel (upd B' y) ls) k
    refine ih _ _ _ ?_
    rw[zkm,zkm]
    by_cases e:k=y.1
    ·subst e;rw[if_pos rfl,if_pos rfl,h]
    ·rw[if_neg e,if_neg e,h]
  refine⟨fun k=> ?_,fun k=> ?_⟩
  ·by_cases h:k=x.1
   ·subst h
    show bal (zel (upd B x) ls) x.1=_
    rw[step ls (upd B x) x.1 hno,zkm,if_pos rfl,hw,hxk]
   ·show bal (zel (upd B x) ls) k=_
    rw[hk k h,rest ls (upd B x) B k (by rw[zkm,if_neg h])]
    exact hind.1 k
  ·by_cases h:k=x.1
   ·subst h;rw[hxk];exact hx
   ·rw[hk k h];exact hind.2 k
theorem zx0: ∀(ls:List Leg) (B:Bk),(∀x∈ls,-9007199254740992≤x.2∧x.2≤9007199254740992)→ls.Pairwise (fun x y=>ltA x.1 y.1)→(∀x∈ls,-4611686018427387904≤bal B x.1∧bal B x.1≤4611686018427387904)→zz4 (zel B ls)=zz4 B+amt ls
 | [],B,_,_,_=>by simp[zel,amt,zcj]
 |x::ls,B,ha,hp,hb=>by
  rw[List.pairwise_cons]at hp
  have hx:=ha x (by simp)
  have hbx:=hb x (by simp)
  have hw:IntKind.i64.wrap (bal B x.1+x.2)=bal B x.1+x.2:=wr _ (by omega) (by omega)
  show zz4 (zel (upd B x) ls)=_
  rw[zx0 ls (upd B x) (fun y hy=>ha y (by simp[hy])) hp.2 (fun y hy=>by
   have hne: ¬y.1=x.1:=fun e=>by
    have:=hp.1 y hy
    rw[e]at this
    exact zcr _ this
   rw[zkm,if_neg hne]
   exact hb y (by simp[hy]))]
  unfold upd
  rw[zuc,hw]
  simp only[amt,List.map_cons,zcj]
  omega
theorem ztv: ∀(ls:List Leg) (B:Bk),(zga B).Nodup→(zga (zel B ls)).Nodup
 | [],B,h=>h
 |x::ls,B,h=>ztv ls (upd B x) (zq1 B x.1 _ h).1
theorem zqe: ∀(B:Bk) (k:Acc) (v:Int),(zaw KA VI B k v).length≤B.length+1
 | [],k,v=>by simp[zaw]
 |none::B,k,v=>by simp only[zaw,List.length_cons];have:=zqe B k v;omega
 |some (k',v')::B,k,v=>by
  have:=zqe B k v
  simp only[zaw,eqA]
  by_cases h:k=k'
  ·subst h;simp
  ·simp only[decide_eq_false h,cond_false,List.length_cons];omega
theorem zx1: ∀(ls:List Leg) (B:Bk),(zel B ls).length≤B.length+ls.length
 | [],B=>by simp[zel]
 |x::ls,B=>by
  have h1:=zx1 ls (upd B x)
  have h2:=zqe B x.1 (IntKind.i64.wrap (bal B x.1+x.2))
  show(zel (upd B x) ls).length≤_
  unfold upd at h1⊢
  rw[List.length_cons]
  omega
end Go.Proofs.YtniohchnpfpffaaGreat.Pure
