/- Plain laws: a journal behind posts and closes,and what its entries come to. No statement of its own. -/
import Derived.Test.YtfcgafnmlkiimaaGreatDoorNb
set_option linter.unusedSimpArgs false
set_option linter.unusedVariables false
namespace Go.Proofs.YtfcgafnmlkiimaaGreatDoor.Pure
open Go.Vk Go.Am Go.Pg Go.Sort Go.Proofs.YtfcgafnmlkiimaaGreatDoor.Y
theorem sumM_snoc(a:Acc)(q:Int)(l:List Ps)(x:Ps):sumM a q (l++ [x])=sumM a q l+(bif inM q x then atK a x.1.2 else 0):=by
 unfold sumM
 rw[List.filter_append,List.map_append,sumL_app]
 cases hq:inM q x<;>simp[hq,sumL]
theorem sumM_none{a:Acc}{q:Int}{l:List Ps}(h: ∀x∈l,inM q x=false):sumM a q l=0:=by
 unfold sumM
 rw[show l.filter (inM q)= []from List.filter_eq_nil_iff.2 (fun x hx=>by simp[h x hx])]
 rfl
theorem mem_addM: ∀(ls:List Leg) (B:Bk),(keysB B).Nodup→∀q,q∈keysB (addM B ls)↔q∈keysB B∨∃g∈ls,g.1=q
 | [],B,h,q=>by simp[addM]
 |g::ls,B,h,q=>by
  obtain⟨k1,k2⟩:=set_keys B g.1 (IntKind.i64.wrap (bal B g.1+g.2)) h
  have ih:=mem_addM ls (upd B g) k1 q
  show q∈keysB (addM (upd B g) ls)↔_
  rw[ih]
  rw[show q∈keysB (upd B g)↔q=g.1∨q∈keysB B from k2 q]
  constructor
  ·rintro((h1|h1)|⟨y,h1,h2⟩)
   ·exact .inr ⟨g,by simp,h1.symm⟩
   ·exact .inl h1
   ·exact .inr ⟨y,by simp[h1],h2⟩
  ·rintro(h1|⟨y,h1,h2⟩)
   ·exact .inl (.inr h1)
   ·rcases List.mem_cons.1 h1 with rfl|h1
    ·exact .inl (.inl h2.symm)
    ·exact .inr ⟨y,h1,h2⟩
structure JJ(p m:Nat)(j:Jn):Prop where
 per:j.2.1=(p:Int)
 p31:p≤31
 mov:j.2.2.2.length=p+1
 list:j.1.length≤m
 ent: ∀x∈j.1,chk x.1.1 x.1.2=0
 tim: ∀x∈j.1,0≤x.2∧x.2≤(p:Int)
 sum: ∀k,bal j.2.2.1 k=sumM k (-1) j.1
 mvs: ∀q (hq:q<j.2.2.2.length) k,bal j.2.2.2[q] k=sumM k (q:Int) j.1
 bnd: ∀k q,-((m:Int)*9007199254740992)≤sumM k q j.1∧sumM k q j.1≤(m:Int)*9007199254740992
 keys: ∀k,k∈keysB j.2.2.1↔ ∃x∈j.1,∃g∈x.1.2,g.1=k
 nod:(keysB j.2.2.1).Nodup
 len:j.2.2.1.length≤m*100
theorem JJ.more{p m n:Nat}{j:Jn}(h:JJ p m j)(hl:m≤n):JJ p n j:=⟨h.per,h.p31,h.mov,Nat.le_trans h.list hl,h.ent,h.tim,h.sum,h.mvs,fun k q=>by have:=h.bnd k q;omega,h.keys,h.nod,Nat.le_trans h.len (Nat.mul_le_mul_right _ hl)⟩
theorem jj_new:JJ 0 0 (([],(0,([],[[]]))):Jn):=by
 refine⟨rfl,by omega,rfl,by simp,fun x hx=>by simp at hx,fun x hx=>by simp at hx,fun k=>rfl,fun q hq k=> ?_,fun k q=> ?_,fun k=>by simp[keysB],List.nodup_nil,by simp⟩
 ·have:q=0:=by simpa using hq
  subst this
  rfl
 ·show _≤(0:Int)∧(0:Int)≤_
  omega
theorem jj_close{p m:Nat}{j:Jn}(h:JJ p m j)(hp:p<31):JJ (p+1) m (j.1,(j.2.1+1,(j.2.2.1,j.2.2.2++ [[]]))):=by
 have hm:=h.mov
 refine⟨by show j.2.1+1=_;rw[h.per];omega,by omega,by simp[hm],h.list,h.ent,fun x hx=>by have:=h.tim x hx;omega,h.sum,fun q hq k=> ?_,h.bnd,h.keys,h.nod,h.len⟩
 show bal (j.2.2.2++ [[]])[q] k=sumM k (q:Int) j.1
 by_cases hq2:q<j.2.2.2.length
 ·rw[List.getElem_append_left hq2];exact h.mvs q hq2 k
 ·have hqe:q=p+1:=by
   have:q< (j.2.2.2++ [[]]).length:=hq
   rw[List.length_append,List.length_singleton]at this
   omega
  rw[List.getElem_append_right (by omega)]
  have hz:([[]]:List Bk)[q - j.2.2.2.length]'(by simp;omega)= []:=by simp
  rw[hz,sumM_none (fun x hx=> ?_)]
  ·rfl
  ·have:=h.tim x hx
   unfold inM
   rw[decide_eq_true (show(q:Int)≥0 by omega),cond_true]
   simp;omega
theorem jj_post{p m:Nat}{j:Jn}(h:JJ p m j)(hm:m≤100){k:Int}{ls:List Leg}(hk:chk k ls=0):JJ p (m+1) (postJ j (k,ls)):=by
 obtain⟨c1,c2,c3,c4⟩:=chk_ok hk
 have hbb: ∀q,-4611686018427387904≤bal j.2.2.1 q∧bal j.2.2.1 q≤4611686018427387904:=fun q=>by
  rw[h.sum];have:=h.bnd q (-1);omega
 obtain⟨b1,b2⟩:=addM_bal ls j.2.2.1 c3 c2 hbb
 have hml:=h.mov
 have hper:=h.per
 have hp:p<j.2.2.2.length:=by omega
 have hpn:j.2.1.toNat=p:=by omega
 obtain⟨e1,e2⟩:=addM_bal ls j.2.2.2[p] c3 c2 (fun q=>by rw[h.mvs p hp q];have:=h.bnd q (p:Int);omega)
 have hgd:j.2.2.2.getD p []=j.2.2.2[p]:=at_n _ _ hp _
 have hx1:inM (-1) (((k,ls),j.2.1):Ps)=true:=rfl
 refine⟨hper,h.p31,by simp only[postJ,List.length_set];exact hml,by simp only[postJ,List.length_append,List.length_singleton];have:=h.list;omega,fun x hx=> ?_,fun x hx=> ?_,fun q=> ?_,fun q hq kk=> ?_,fun kk q=> ?_,fun kk=> ?_,addM_keys ls _ h.nod,?_⟩
 ·rcases List.mem_append.1 hx with hx|hx
  ·exact h.ent x hx
  ·obtain rfl:=List.mem_singleton.1 hx;exact hk
 ·rcases List.mem_append.1 hx with hx|hx
  ·exact h.tim x hx
  ·obtain rfl:=List.mem_singleton.1 hx
   show 0≤j.2.1∧j.2.1≤(p:Int)
   omega
 ·show bal (addM j.2.2.1 ls) q=sumM q (-1) (j.1++ [((k,ls),j.2.1)])
  rw[b1,sumM_snoc,hx1,cond_true,h.sum]
 ·have hq':q< (j.2.2.2.set p (addM j.2.2.2[p] ls)).length:=by rw[List.length_set];simpa[postJ]using hq
  have hget:(postJ j (k,ls)).2.2.2[q]'hq=(j.2.2.2.set p (addM j.2.2.2[p] ls))[q]'hq':=by
   simp only[postJ,hpn,hgd]
  rw[hget]
  show _=sumM kk (q:Int) (j.1++ [((k,ls),j.2.1)])
  rw[sumM_snoc,List.getElem_set]
  have hin:inM (q:Int) (((k,ls),j.2.1):Ps)=decide (p=q):=by
   unfold inM
   rw[decide_eq_true (show(q:Int)≥0 by omega),cond_true,hper]
   by_cases he:p=q
   ·subst he;simp
   ·rw[decide_eq_false he];simp;omega
  rw[hin]
  by_cases he:p=q
  ·subst he
   rw[if_pos rfl,decide_eq_true rfl,cond_true,e1,h.mvs p hp]
  ·rw[if_neg he,decide_eq_false he,cond_false,Int.add_zero]
   rw[List.length_set]at hq'
   exact h.mvs q hq' kk
 ·show _≤sumM kk q (j.1++ [((k,ls),j.2.1)])∧sumM kk q (j.1++ [((k,ls),j.2.1)])≤_
  rw[sumM_snoc]
  have h1:=h.bnd kk q
  have h2:=b2 kk
  cases inM q (((k,ls),j.2.1):Ps)with
  |true=>rw[cond_true];show _≤_+atK kk ls∧_+atK kk ls≤_;omega
  |false=>rw[cond_false];omega
 ·show kk∈keysB (addM j.2.2.1 ls)↔ ∃x∈j.1++ [((k,ls),j.2.1)],∃g∈x.1.2,g.1=kk
  rw[mem_addM ls _ h.nod,h.keys]
  constructor
  ·rintro(⟨x,h1,h2⟩|⟨g,h1,h2⟩)
   ·exact⟨x,List.mem_append_left _ h1,h2⟩
   ·exact⟨((k,ls),j.2.1),by simp,g,h1,h2⟩
  ·rintro⟨x,h1,h2⟩
   rcases List.mem_append.1 h1 with h1|h1
   ·exact .inl ⟨x,h1,h2⟩
   ·obtain rfl:=List.mem_singleton.1 h1
    exact .inr h2
 ·show(addM j.2.2.1 ls).length≤_
  have:=addM_len ls j.2.2.1
  have:=h.len
  omega
end Go.Proofs.YtfcgafnmlkiimaaGreatDoor.Pure
