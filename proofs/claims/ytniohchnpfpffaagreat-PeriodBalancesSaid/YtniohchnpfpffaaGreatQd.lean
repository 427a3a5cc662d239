/- Plain laws of the journal: sums over books,what an entry that is taken is. No statement of its own. -/
import Derived.Test.YtniohchnpfpffaaGreatQc
set_option linter.unusedSimpArgs false
set_option linter.unusedVariables false
namespace Go.Proofs.YtniohchnpfpffaaGreat.Pure
open Go.Vk Go.Am Go.Pg Go.Sort Go.Proofs.YtniohchnpfpffaaGreat.Y
theorem ze1: ∀(a b:List Int),zbm (a++b)=zbm a+zbm b
 | [],b=>by simp[zbm]
 |x::a,b=>by simp only[List.cons_append,zbm,ze1 a b];omega
theorem zy3{a b:List Int}(h:a.Perm b):zbm a=zbm b:=by
 induction h with
 |nil=>rfl
 |cons x _ ih=>simp only[zbm,ih]
 |swap x y l=>simp only[zbm];omega
 |trans _ _ h1 h2=>exact h1.trans h2
/-! ### an entry that is taken -/
theorem legC_ok{prev:Option Acc}{x:Leg}(h:zok prev x=0):(-9007199254740992≤x.2∧x.2≤9007199254740992)∧∀p,prev=some p→ltA p x.1:=by
 unfold zok at h
 split at h
 ·cases h
 ·split at h
  ·cases h
  ·rename_i h2
   refine⟨by omega,fun p hp=> ?_⟩
   subst hp
   simp only at h
   split at h
   ·cases h
   ·rename_i h3
    exact(zfo p x.1).1 (by omega)
theorem zAs: ∀(l:List Leg) (prev:Option Acc),zp3 prev l=0→(∀x∈l,-9007199254740992≤x.2∧x.2≤9007199254740992)∧(∀p,prev=some p→∀x∈l,ltA p x.1)∧l.Pairwise (fun x y=>ltA x.1 y.1)
 | [],prev,h=>⟨fun x hx=>by simp at hx,fun p _ x hx=>by simp at hx,List.Pairwise.nil⟩
 |x::l,prev,h=>by
  unfold zp3 at h
  split at h
  ·rename_i hne;exact absurd h hne
  ·rename_i hne
   have h0:zok prev x=0:=by omega
   obtain⟨a1,a2⟩:=legC_ok h0
   obtain⟨b1,b2,b3⟩:=zAs l (some x.1) h
   have b2:=b2 x.1 rfl
   refine⟨fun y hy=> ?_,fun p hp y hy=> ?_,List.pairwise_cons.2 ⟨b2,b3⟩⟩
   ·rcases List.mem_cons.1 hy with rfl|hy
    ·exact a1
    ·exact b1 y hy
   ·rcases List.mem_cons.1 hy with rfl|hy
    ·exact a2 p hp
    ·exact zgm (a2 p hp) (b2 y hy)
theorem zkn{k:Int}{l:List Leg}(h:chk k l=0):l.length≤64∧(∀x∈l,-9007199254740992≤x.2∧x.2≤9007199254740992)∧l.Pairwise (fun x y=>ltA x.1 y.1)∧amt l=0:=by
 unfold chk at h
 split at h
 ·cases h
 ·split at h
  ·cases h
  ·rename_i h2
   split at h
   ·rename_i h3;exact absurd h h3
   ·rename_i h3
    split at h
    ·cases h
    ·rename_i h4
     obtain⟨c1,_,c3⟩:=zAs l none (by omega)
     refine⟨by omega,c1,c3,?_⟩
     have:=zxn l 0 c1 (by omega) (by omega) (by omega)
     omega
theorem zAh: ∀(l:List Leg),(∀x∈l,-9007199254740992≤x.2∧x.2≤9007199254740992)→zbm (l.map zvh) - zbm (l.map zu5)=amt l
 | [],_=>rfl
 |x::l,h=>by
  have hx:=h x (by simp)
  have ih:=zAh l fun y hy=>h y (by simp[hy])
  have e:zvh x - zu5 x=x.2:=by
   unfold zvh zu5
   rw[wr (0 - x.2) (by omega) (by omega)]
   split<;>split<;>omega
  simp only[List.map_cons,zbm,amt]at ih⊢
  omega
theorem amt_app(a b:List Leg):amt (a++b)=amt a+amt b:=by unfold amt;rw[List.map_append,ze1]
theorem zyd(q:Int): ∀(L:List Ps),(∀x∈L,chk x.1.1 x.1.2=0)→amt (sel q L)=0
 | [],_=>rfl
 |x::L,h=>by
  have hx:=(zkn (h x (by simp))).2.2.2
  have ih:=zyd q L fun y hy=>h y (by simp[hy])
  unfold sel at ih⊢
  rw[List.filter_cons]
  split
  ·rw[List.flatMap_cons,amt_app,hx,ih];rfl
  ·exact ih
/-! ### books -/
def zg7(B:Bk):List Acc:=(B.filterMap id).map (·.1)
def zxz(B:Bk):Int:=zbm ((B.filterMap id).map (·.2))
theorem zta: ∀(B:Bk) (k:Acc) (v:Int),zxz (zb3 KA VI B k v)=zxz B - bal B k+v
 | [],k,v=>by simp[zb3,zxz,bal,zay,zbm]
 |none::B,k,v=>by
  have:=zta B k v
  simpa[zb3,zxz,bal,zay]using this
 |some (k',v')::B,k,v=>by
  have ih:=zta B k v
  simp only[zb3,bal,zay,eqA]at ih⊢
  by_cases h:k=k'
  ·subst h
   simp[zxz,zbm]
   omega
  ·simp only[decide_eq_false h,cond_false]
   simp only[zxz,List.filterMap_cons,id_eq,List.map_cons,zbm]at ih⊢
   omega
theorem zp9: ∀(B:Bk) (k:Acc) (v:Int),(zg7 B).Nodup→(zg7 (zb3 KA VI B k v)).Nodup∧∀q,q∈zg7 (zb3 KA VI B k v)↔q=k∨q∈zg7 B
 | [],k,v,_=>by simp[zb3,zg7]
 |none::B,k,v,h=>by
  have:=zp9 B k v (by simpa[zg7]using h)
  simpa[zb3,zg7]using this
 |some (k',v')::B,k,v,h=>by
  have h':k'∉zg7 B∧(zg7 B).Nodup:=by simpa[zg7]using h
  obtain⟨i1,i2⟩:=zp9 B k v h'.2
  simp only[zb3,eqA]
  by_cases hk:k=k'
  ·subst hk
   simp only[decide_true,cond_true]
   refine⟨by simpa[zg7]using h',fun q=> ?_⟩
   simp[zg7]
  ·simp only[decide_eq_false hk,cond_false]
   refine⟨?_,fun q=> ?_⟩
   ·show(k'::zg7 (zb3 KA VI B k v)).Nodup
    rw[List.nodup_cons]
    exact⟨fun hm=>((i2 k').1 hm).elim (fun e=>hk e.symm) h'.1,i1⟩
   ·show q∈k'::zg7 (zb3 KA VI B k v)↔q=k∨q∈k'::zg7 B
    rw[List.mem_cons,List.mem_cons,i2 q]
    constructor
    ·rintro(h|h|h)
     ·exact .inr (.inl h)
     ·exact .inl h
     ·exact .inr (.inr h)
    ·rintro(h|h|h)
     ·exact .inr (.inl h)
     ·exact .inl h
     ·exact .inr (.inr h)
def atK(k:Acc)(ls:List Leg):Int:=zbm ((ls.filter (fun l=>decide (l.1=k))).map (·.2))
theorem zlf{k:Acc}: ∀{ls:List Leg},(∀x∈ls,x.1≠k)→atK k ls=0
 | [],_=>rfl
 |x::ls,h=>by
  have ih:=zlf (k:=k) (ls:=ls) fun y hy=>h y (by simp[hy])
  have hx:=h x (by simp)
  unfold atK at ih⊢
  rw[List.filter_cons]
  simp only[hx,decide_false,Bool.false_eq_true,if_false]
  exact ih
theorem zg3: ∀(ls:List Leg) (B:Bk),ls.Pairwise (fun x y=>ltA x.1 y.1)→(∀x∈ls,-9007199254740992≤x.2∧x.2≤9007199254740992)→(∀k,-4611686018427387904≤bal B k∧bal B k≤4611686018427387904)→
  (∀k,bal (zei B ls) k=bal B k+atK k ls)∧(∀k,-9007199254740992≤atK k ls∧atK k ls≤9007199254740992)
 | [],B,_,_,_=>⟨fun k=>by simp[zei,atK,zbm],fun k=>by simp[atK,zbm]⟩
 |x::ls,B,hp,ha,hb=>by
  rw[List.pairwise_cons]at hp
  have hx:=ha x (by simp)
  have hbx:=hb x.1
  have hw:IntKind.i64.wrap (bal B x.1+x.2)=bal B x.1+x.2:=wr _ (by omega) (by omega)
  have hno: ∀y∈ls,y.1≠x.1:=fun y hy e=>by
   have:=hp.1 y hy
   rw[e]at this
   exact zcm _ this
  have step: ∀(ls:List Leg) (B:Bk) (k:Acc),(∀y∈ls,y.1≠k)→bal (zei B ls) k=bal B k:=by
   intro ls
   induction ls with
   |nil=>intro B k _;rfl
   |cons y ls ih=>
    intro B k h
    show bal (zei (upd B y) ls) k=bal B k
    rw[ih (upd B y) k fun z hz=>h z (by simp[hz]),zk7,if_neg fun e=>h y (by simp) e.symm]
  have hind:=zg3 ls B hp.2 (fun y hy=>ha y (by simp[hy])) hb
  have hk: ∀k,k≠x.1→atK k (x::ls)=atK k ls:=fun k h=>by
   unfold atK
   rw[List.filter_cons]
   simp only[Ne.symm h,decide_false,Bool.false_eq_true,if_false]
  have hxk:atK x.1 (x::ls)=x.2:=by
   unfold atK
   rw[List.filter_cons]
   simp only[decide_true,if_true,List.map_cons,zbm]
   have:=zlf (k:=x.1) hno
   unfold atK at this
   omega
  have rest: ∀(ls:List Leg) (B B':Bk) (k:Acc),bal B k=bal B' k→bal (zei B ls) k=bal (zei B' ls) k:=by
   intro ls
   induction ls with
   |nil=>intro B B' k h;exact h
   |cons y ls ih=>
    intro B B' k h
    show bal (zei (upd B y) ls) k=bal (zei (upd B' y) ls) k
    refine ih _ _ _ ?_
    rw[zk7,zk7]
    by_cases e:k=y.1
    ·subst e;rw[if_pos rfl,if_pos rfl,h]
    ·rw[if_neg e,if_neg e,h]
  refine⟨fun k=> ?_,fun k=> ?_⟩
  ·by_cases h:k=x.1
   ·subst h
    show bal (zei (upd B x) ls) x.1=_
    rw[step ls (upd B x) x.1 hno,zk7,if_pos rfl,hw,hxk]
   ·show bal (zei (upd B x) ls) k=_
    rw[hk k h,rest ls (upd B x) B k (by rw[zk7,if_neg h])]
    exact hind.1 k
  ·by_cases h:k=x.1
   ·subst h;rw[hxk];exact hx
   ·rw[hk k h];exact hind.2 k
theorem zvq: ∀(ls:List Leg) (B:Bk),(∀x∈ls,-9007199254740992≤x.2∧x.2≤9007199254740992)→ls.Pairwise (fun x y=>ltA x.1 y.1)→(∀x∈ls,-4611686018427387904≤bal B x.1∧bal B x.1≤4611686018427387904)→zxz (zei B ls)=zxz B+amt ls
 | [],B,_,_,_=>by simp[zei,amt,zbm]
 |x::ls,B,ha,hp,hb=>by
  rw[List.pairwise_cons]at hp
  have hx:=ha x (by simp)
  have hbx:=hb x (by simp)
  have hw:IntKind.i64.wrap (bal B x.1+x.2)=bal B x.1+x.2:=wr _ (by omega) (by omega)
  show zxz (zei (upd B x) ls)=_
  rw[zvq ls (upd B x) (fun y hy=>ha y (by simp[hy])) hp.2 (fun y hy=>by
   have hne: ¬y.1=x.1:=fun e=>by
    have:=hp.1 y hy
    rw[e]at this
    exact zcm _ this
   rw[zk7,if_neg hne]
   exact hb y (by simp[hy]))]
  unfold upd
  rw[zta,hw]
  simp only[amt,List.map_cons,zbm]
  omega
theorem zss: ∀(ls:List Leg) (B:Bk),(zg7 B).Nodup→(zg7 (zei B ls)).Nodup
 | [],B,h=>h
 |x::ls,B,h=>zss ls (upd B x) (zp9 B x.1 _ h).1
theorem zpj: ∀(B:Bk) (k:Acc) (v:Int),(zb3 KA VI B k v).length≤B.length+1
 | [],k,v=>by simp[zb3]
 |none::B,k,v=>by simp only[zb3,List.length_cons];have:=zpj B k v;omega
 |some (k',v')::B,k,v=>by
  have:=zpj B k v
  simp only[zb3,eqA]
  by_cases h:k=k'
  ·subst h;simp
  ·simp only[decide_eq_false h,cond_false,List.length_cons];omega
theorem zvr: ∀(ls:List Leg) (B:Bk),(zei B ls).length≤B.length+ls.length
 | [],B=>by simp[zei]
 |x::ls,B=>by
  have h1:=zvr ls (upd B x)
  have h2:=zpj B x.1 (IntKind.i64.wrap (bal B x.1+x.2))
  show(zei (upd B x) ls).length≤_
  unfold upd at h1⊢
  rw[List.length_cons]
  omega
end Go.Proofs.YtniohchnpfpffaaGreat.Pure
