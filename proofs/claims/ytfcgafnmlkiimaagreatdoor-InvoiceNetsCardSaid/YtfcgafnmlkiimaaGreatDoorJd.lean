/- Plain laws of the journal: sums over books,what an entry that is taken is. No statement of its own. -/
import Derived.Test.YtfcgafnmlkiimaaGreatDoorJc
set_option linter.unusedSimpArgs false
set_option linter.unusedVariables false
namespace Go.Proofs.YtfcgafnmlkiimaaGreatDoor.Pure
open Go.Vk Go.Am Go.Pg Go.Sort Go.Proofs.YtfcgafnmlkiimaaGreatDoor.Y
theorem sumL_app: ∀(a b:List Int),sumL (a++b)=sumL a+sumL b
 | [],b=>by simp[sumL]
 |x::a,b=>by simp only[List.cons_append,sumL,sumL_app a b];omega
/-! ### an entry that is taken -/
theorem legC_ok{prev:Option Acc}{x:Leg}(h:legC prev x=0):(-9007199254740992≤x.2∧x.2≤9007199254740992)∧∀p,prev=some p→ltA p x.1:=by
 unfold legC at h
 split at h
 ·cases h
 ·split at h
  ·cases h
  ·rename_i h2
   refine⟨by omega,fun p hp=> ?_⟩
   subst hp
   simp only at h
   split at h
   ·cases h
   ·rename_i h3
    exact(ordA_neg p x.1).1 (by omega)
theorem chkL_ok: ∀(l:List Leg) (prev:Option Acc),chkL prev l=0→(∀x∈l,-9007199254740992≤x.2∧x.2≤9007199254740992)∧(∀p,prev=some p→∀x∈l,ltA p x.1)∧l.Pairwise (fun x y=>ltA x.1 y.1)
 | [],prev,h=>⟨fun x hx=>by simp at hx,fun p _ x hx=>by simp at hx,List.Pairwise.nil⟩
 |x::l,prev,h=>by
  unfold chkL at h
  split at h
  ·rename_i hne;exact absurd h hne
  ·rename_i hne
   have h0:legC prev x=0:=by omega
   obtain⟨a1,a2⟩:=legC_ok h0
   obtain⟨b1,b2,b3⟩:=chkL_ok l (some x.1) h
   have b2:=b2 x.1 rfl
   refine⟨fun y hy=> ?_,fun p hp y hy=> ?_,List.pairwise_cons.2 ⟨b2,b3⟩⟩
   ·rcases List.mem_cons.1 hy with rfl|hy
    ·exact a1
    ·exact b1 y hy
   ·rcases List.mem_cons.1 hy with rfl|hy
    ·exact a2 p hp
    ·exact ltA_trans (a2 p hp) (b2 y hy)
theorem chk_ok{k:Int}{l:List Leg}(h:chk k l=0):l.length≤64∧(∀x∈l,-9007199254740992≤x.2∧x.2≤9007199254740992)∧l.Pairwise (fun x y=>ltA x.1 y.1)∧amt l=0:=by
 unfold chk at h
 split at h
 ·cases h
 ·split at h
  ·cases h
  ·rename_i h2
   split at h
   ·rename_i h3;exact absurd h h3
   ·rename_i h3
    split at h
    ·cases h
    ·rename_i h4
     obtain⟨c1,_,c3⟩:=chkL_ok l none (by omega)
     refine⟨by omega,c1,c3,?_⟩
     have:=wsum_eq l 0 c1 (by omega) (by omega) (by omega)
     omega
/-! ### books -/
def keysB(B:Bk):List Acc:=(B.filterMap id).map (·.1)
def totB(B:Bk):Int:=sumL ((B.filterMap id).map (·.2))
theorem set_keys: ∀(B:Bk) (k:Acc) (v:Int),(keysB B).Nodup→(keysB (mset KA VI B k v)).Nodup∧∀q,q∈keysB (mset KA VI B k v)↔q=k∨q∈keysB B
 | [],k,v,_=>by simp[mset,keysB]
 |none::B,k,v,h=>by
  have:=set_keys B k v (by simpa[keysB]using h)
  simpa[mset,keysB]using this
 |some (k',v')::B,k,v,h=>by
  have h':k'∉keysB B∧(keysB B).Nodup:=by simpa[keysB]using h
  obtain⟨i1,i2⟩:=set_keys B k v h'.2
  simp only[mset,eqA]
  by_cases hk:k=k'
  ·subst hk
   simp only[decide_true,cond_true]
   refine⟨by simpa[keysB]using h',fun q=> ?_⟩
   simp[keysB]
  ·simp only[decide_eq_false hk,cond_false]
   refine⟨?_,fun q=> ?_⟩
   ·show(k'::keysB (mset KA VI B k v)).Nodup
    rw[List.nodup_cons]
    exact⟨fun hm=>((i2 k').1 hm).elim (fun e=>hk e.symm) h'.1,i1⟩
   ·show q∈k'::keysB (mset KA VI B k v)↔q=k∨q∈k'::keysB B
    rw[List.mem_cons,List.mem_cons,i2 q]
    constructor
    ·rintro(h|h|h)
     ·exact .inr (.inl h)
     ·exact .inl h
     ·exact .inr (.inr h)
    ·rintro(h|h|h)
     ·exact .inr (.inl h)
     ·exact .inl h
     ·exact .inr (.inr h)
def atK(k:Acc)(ls:List Leg):Int:=sumL ((ls.filter (fun l=>decide (l.1=k))).map (·.2))
theorem atK_none{k:Acc}: ∀{ls:List Leg},(∀x∈ls,x.1≠k)→atK k ls=0
 | [],_=>rfl
 |x::ls,h=>by
  have ih:=atK_none (k:=k) (ls:=ls) fun y hy=>h y (by simp[hy])
  have hx:=h x (by simp)
  unfold atK at ih⊢
  rw[List.filter_cons]
  simp only[hx,decide_false,Bool.false_eq_true,if_false]
  exact ih
theorem addM_bal: ∀(ls:List Leg) (B:Bk),ls.Pairwise (fun x y=>ltA x.1 y.1)→(∀x∈ls,-9007199254740992≤x.2∧x.2≤9007199254740992)→(∀k,-4611686018427387904≤bal B k∧bal B k≤4611686018427387904)→
  (∀k,bal (addM B ls) k=bal B k+atK k ls)∧(∀k,-9007199254740992≤atK k ls∧atK k ls≤9007199254740992)
 | [],B,_,_,_=>⟨fun k=>by simp[addM,atK,sumL],fun k=>by simp[atK,sumL]⟩
 |x::ls,B,hp,ha,hb=>by
  rw[List.pairwise_cons]at hp
  have hx:=ha x (by simp)
  have hbx:=hb x.1
  have hw:IntKind.i64.wrap (bal B x.1+x.2)=bal B x.1+x.2:=wr _ (by omega) (by omega)
  have hno: ∀y∈ls,y.1≠x.1:=fun y hy e=>by
   have:=hp.1 y hy
   rw[e]at this
   exact ltA_irrefl _ this
  have step: ∀(ls:List Leg) (B:Bk) (k:Acc),(∀y∈ls,y.1≠k)→bal (addM B ls) k=bal B k:=by
   intro ls
   induction ls with
   |nil=>intro B k _;rfl
   |cons y ls ih=>
    intro B k h
    show bal (addM (upd B y) ls) k=bal B k
    rw[ih (upd B y) k fun z hz=>h z (by simp[hz]),bal_upd,if_neg fun e=>h y (by simp) e.symm]
  have hind:=addM_bal ls B hp.2 (fun y hy=>ha y (by simp[hy])) hb
  have hk: ∀k,k≠x.1→atK k (x::ls)=atK k ls:=fun k h=>by
   unfold atK
   rw[List.filter_cons]
   simp only[Ne.symm h,decide_false,Bool.false_eq_true,if_false]
  have hxk:atK x.1 (x::ls)=x.2:=by
   unfold atK
   rw[List.filter_cons]
   simp only[decide_true,if_true,List.map_cons,sumL]
   have:=atK_none (k:=x.1) hno
   unfold atK at this
   omega
  have rest: ∀(ls:List Leg) (B B':Bk) (k:Acc),bal B k=bal B' k→bal (addM B ls) k=bal (addM B' ls) k:=by
   intro ls
   induction ls with
   |nil=>intro B B' k h;exact h
   |cons y ls ih=>
    intro B B' k h
    show bal (addM (upd B y) ls) k=bal (addM (upd B' y) ls) k
    refine ih _ _ _ ?_
    rw[bal_upd,bal_upd]
    by_cases e:k=y.1
    ·subst e;rw[if_pos rfl,if_pos rfl,h]
    ·rw[if_neg e,if_neg e,h]
  refine⟨fun k=> ?_,fun k=> ?_⟩
  ·by_cases h:k=x.1
   ·subst h
    show bal (addM (upd B x) ls) x.1=_
    rw[step ls (upd B x) x.1 hno,bal_upd,if_pos rfl,hw,hxk]
   ·show bal (addM (upd B x) ls) k=_
    rw[hk k h,rest ls (upd B x) B k (by rw[bal_upd,if_neg h])]
    exact hind.1 k
  ·by_cases h:k=x.1
   ·subst h;rw[hxk];exact hx
   ·rw[hk k h];exact hind.2 k
theorem addM_keys: ∀(ls:List Leg) (B:Bk),(keysB B).Nodup→(keysB (addM B ls)).Nodup
 | [],B,h=>h
 |x::ls,B,h=>addM_keys ls (upd B x) (set_keys B x.1 _ h).1
theorem mset_len: ∀(B:Bk) (k:Acc) (v:Int),(mset KA VI B k v).length≤B.length+1
 | [],k,v=>by simp[mset]
 |none::B,k,v=>by simp only[mset,List.length_cons];have:=mset_len B k v;omega
 |some (k',v')::B,k,v=>by
  have:=mset_len B k v
  simp only[mset,eqA]
  by_cases h:k=k'
  ·subst h;simp
  ·simp only[decide_eq_false h,cond_false,List.length_cons];omega
theorem addM_len: ∀(ls:List Leg) (B:Bk),(addM B ls).length≤B.length+ls.length
 | [],B=>by simp[addM]
 |x::ls,B=>by
  have h1:=addM_len ls (upd B x)
  have h2:=mset_len B x.1 (IntKind.i64.wrap (bal B x.1+x.2))
  show(addM (upd B x) ls).length≤_
  unfold upd at h1⊢
  rw[List.length_cons]
  omega
end Go.Proofs.YtfcgafnmlkiimaaGreatDoor.Pure
