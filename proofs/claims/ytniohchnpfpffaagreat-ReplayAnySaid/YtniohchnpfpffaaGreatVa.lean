/- Plain laws: what entries make of nodes,the program's and the document's. No statement of its own. -/
import Derived.Test.YtniohchnpfpffaaGreatTc
set_option linter.unusedSimpArgs false
set_option linter.unusedVariables false
namespace Go.Proofs.YtniohchnpfpffaaGreat.Pure
open Go.Vk Go.Am Go.Pg Go.Sort Go.Proofs.YtniohchnpfpffaaGreat.Y
abbrev Wx(n:Int):Int:=IntKind.i64.wrap n
abbrev SA:=Int×FA
abbrev Z0:SA:=(0,V0)
abbrev VS:Ty:= .pair (.int .i64) VA
abbrev GS:=Gp KI SA
theorem zpi: ∀(G:GS) (k:Int) (v:SA),zbq KI G k v=zb0 KI VS G k v
 | [],k,v=>rfl
 |none::l,k,v=>by simp only[zbq,zb0,zpi l]
 |some (k',v')::l,k,v=>by simp only[zbq,zb0,zpi l]
theorem zpj: ∀(G:GS) (k:Int),zc9 KI G k=zbf KI VS G k
 | [],k=>rfl
 |none::l,k=>by simp only[zc9,zbf,zpj l]
 |some (k',v')::l,k=>by simp only[zc9,zbf,zpj l]
theorem zon{K D:Type}(i:Nat)(x:D)(l:List (Option (K×D))):ziz (i+1) x (none::l)=none::ziz i x l:=by
 unfold ziz
 simp only[List.getElem?_cons_succ,List.set_cons_succ]
 split<;>rfl
theorem zom{K D:Type}(i:Nat)(x:D)(p:K×D)(l:List (Option (K×D))):ziz (i+1) x (some p::l)=some p::ziz i x l:=by
 unfold ziz
 simp only[List.getElem?_cons_succ,List.set_cons_succ]
 split<;>rfl
theorem zn2: ∀(G:GS) (k:Int) (v0 v:SA),ziz (zc8 KI G k) v (zbq KI G k v0)=zbq KI G k v
 | [],k,v0,v=>rfl
 |none::l,k,v0,v=>by simp only[zbq,zc8,zon,zn2 l]
 |some (k',v')::l,k,v0,v=>by
  simp only[zbq,zc8]
  cases h:eqT KI k k' with
  |true=>rfl
  |false=>simp only[cond_false,zom,zn2 l]
theorem zj3: ∀(G:GS) (k:Int) (v0 v:SA),zc9 KI G k=some v0→ziz (zc8 KI G k) v G=zbq KI G k v
 | [],k,v0,v,h=>by cases h
 |none::l,k,v0,v,h=>by simp only[zbq,zc8,zon];rw[zj3 l k v0 v h]
 |some (k',v')::l,k,v0,v,h=>by
  simp only[zc9]at h
  simp only[zbq,zc8]
  cases hk:eqT KI k k' with
  |true=>rfl
  |false=>
   rw[hk,cond_false]at h
   simp only[cond_false,zom]
   rw[zj3 l k v0 v h]
theorem zkj: ∀(G:GS) (k:Int) (v:SA),zc9 KI G k=some v→zbq KI G k v=G
 | [],k,v,h=>by cases h
 |none::l,k,v,h=>by simp only[zbq];rw[zkj l k v h]
 |some (k',v')::l,k,v,h=>by
  simp only[zc9]at h
  simp only[zbq]
  cases hk:eqT KI k k' with
  |true=>rw[hk,cond_true]at h;rw[cond_true,Option.some.inj h]
  |false=>rw[hk,cond_false]at h;rw[cond_false,zkj l k v h]
theorem zyz(G:GS)(k:Int)(v:SA)(q:Int):zc9 KI (zbq KI G k v) q=if q=k then some v else zc9 KI G q:=by
 rw[zpj,zpi,zkn (K:=KI) rfl,eqI,zpj]
 by_cases h:q=k
 ·rw[decide_eq_true h,cond_true,if_pos h]
 ·rw[decide_eq_false h,cond_false,if_neg h]
/-! ### one leg -/
def stpS(kd:Int)(now:Bool)(s:SA)(k a:Int):SA:=
 bif (k==2)then(Wx (s.1 - a),(bif (bif now then(kd==1)else false)then(Wx (s.2.1 - a),s.2.2)else s.2))
 else bif (k==3)then(s.1,(s.2.1,(s.2.2.1,(s.2.2.2.1,(s.2.2.2.2.1,Wx (s.2.2.2.2.2 - a))))))
 else bif (k==4)then(bif now then(s.1,(s.2.1,(s.2.2.1,(s.2.2.2.1,(Wx (s.2.2.2.2.1 - a),s.2.2.2.2.2)))))else s)
 else bif (k==5)then(bif now then(s.1,(s.2.1,(s.2.2.1,(Wx (s.2.2.2.1 - a),s.2.2.2.2))))else s)
 else s
def zo7(q kd:Int)(now:Bool)(s:SA)(g:Leg):SA:=if g.1.2.1=q then stpS kd now s g.1.1 g.2 else s
abbrev Pn:=(Int×List Leg)×Int
def zz4(q op:Int)(s:SA)(x:Pn):SA:=x.1.2.foldl (zo7 q x.1.1 (x.2==op)) s
def zlb(q op:Int)(l:List Pn):SA:=l.foldl (zz4 q op) Z0
def zdp(s:SA):FA:=(s.2.1,(Wx ((Wx ((Wx ((Wx (s.1+s.2.2.2.2.2))+s.2.2.2.2.1))+s.2.2.2.1)) - s.2.1),(s.2.2.2.1,(s.2.2.2.2.1,s.2.2.2.2.2))))
theorem leg_p(op:Int)(G:GS)(g:Leg)(kd at_:Int): ∃G',replay_replay_leg.f (op,G) g kd at_=some ((op,G'),())∧((g.1.2.1=0∧G'=G)∨(g.1.2.1≠0∧G'=zbq KI G g.1.2.1 (stpS kd (at_==op) ((zc9 KI G g.1.2.1).getD Z0) g.1.1 g.2))):=by
 unfold replay_replay_leg.f
 by_cases h0:g.1.2.1=0
 ·refine⟨G,?_,.inl ⟨h0,rfl⟩⟩
  rw[show(g.1.2.1==0)=true by simp[h0]]
  rfl
 ·rw[show(g.1.2.1==0)=false by simp[h0],cond_false]
  refine⟨zbq KI G g.1.2.1 (stpS kd (at_==op) ((zc9 KI G g.1.2.1).getD Z0) g.1.1 g.2),?_,.inr ⟨h0,rfl⟩⟩
  simp only
  cases hg:zc9 KI G g.1.2.1 with
  |none=>
   simp only[zlk,Option.getD_none]
   have key: ∀s:SA,(some ((op,ziz (zc8 KI G g.1.2.1) (s.1,(s.2.1,(s.2.2.1,(s.2.2.2.1,(s.2.2.2.2.1,s.2.2.2.2.2))))) (zbq KI G g.1.2.1 Z0)),()):Option ((Int×GS)×Unit))=some ((op,zbq KI G g.1.2.1 s),()):=fun s=>by
    rw[show(s.1,(s.2.1,(s.2.2.1,(s.2.2.2.1,(s.2.2.2.2.1,s.2.2.2.2.2)))))=s from rfl,zn2]
   unfold stpS
   generalize (at_==op)=now
   generalize (kd==1)=b1
   cases h2:(g.1.1==2)<;>cases h3:(g.1.1==3)<;>cases h4:(g.1.1==4)<;>cases h5:(g.1.1==5)<;>cases now<;>cases b1<;>exact key _
  |some s0=>
   simp only[zlk,Option.getD_some]
   have key: ∀s:SA,(some ((op,ziz (zc8 KI G g.1.2.1) (s.1,(s.2.1,(s.2.2.1,(s.2.2.2.1,(s.2.2.2.2.1,s.2.2.2.2.2))))) G),()):Option ((Int×GS)×Unit))=some ((op,zbq KI G g.1.2.1 s),()):=fun s=>by
    rw[show(s.1,(s.2.1,(s.2.2.1,(s.2.2.2.1,(s.2.2.2.2.1,s.2.2.2.2.2)))))=s from rfl,zj3 G _ s0 s hg]
   unfold stpS
   generalize (at_==op)=now
   generalize (kd==1)=b1
   cases h2:(g.1.1==2)<;>cases h3:(g.1.1==3)<;>cases h4:(g.1.1==4)<;>cases h5:(g.1.1==5)<;>cases now<;>cases b1<;>exact key _
/-! ### all legs: the program's -/
def zsj(q:Int)(ls:List Leg):Bool:=ls.any fun g=>decide (g.1.2.1=q)
def zle(q:Int)(l:List Pn):Bool:=l.any fun x=>zsj q x.1.2
structure GRel(op:Int)(l:List Pn)(kd:Int)(now:Bool)(ls:List Leg)(G:GS):Prop where
 nod:(zda (K:=KI) (V:=VS) G).Nodup
 get: ∀q:Int,zc9 KI G q=if q≠0∧(zle q l||zsj q ls)=true then some (ls.foldl (zo7 q kd now) (zlb q op l))else none
theorem zsi{q:Int}{ls:List Leg}{kd:Int}{now:Bool}{s:SA}(h:zsj q ls=false):ls.foldl (zo7 q kd now) s=s:=by
 induction ls generalizing s with
 |nil=>rfl
 |cons g ls ih=>
  simp only[zsj,List.any_cons,Bool.or_eq_false_iff]at h
  rw[List.foldl_cons,ih h.2]
  unfold zo7
  rw[if_neg (by simpa using h.1)]
theorem zsh{q op:Int}{l:List Pn}{s:SA}(h:zle q l=false):l.foldl (zz4 q op) s=s:=by
 induction l generalizing s with
 |nil=>rfl
 |cons x l ih=>
  simp only[zle,List.any_cons,Bool.or_eq_false_iff]at h
  rw[List.foldl_cons,ih h.2]
  exact zsi h.1
theorem leg_rel{op:Int}{l:List Pn}{kd at_:Int}{ls:List Leg}{G:GS}(h:GRel op l kd (at_==op) ls G)(g:Leg):
  ∃G',replay_replay_leg.f (op,G) g kd at_=some ((op,G'),())∧GRel op l kd (at_==op) (ls++ [g]) G':=by
 obtain⟨G',h1,h2⟩:=leg_p op G g kd at_
 refine⟨G',h1,?_⟩
 have hap: ∀q,zsj q (ls++ [g])=(zsj q ls||decide (g.1.2.1=q)):=fun q=>by simp[zsj]
 have hfo: ∀q (s:SA),(ls++ [g]).foldl (zo7 q kd (at_==op)) s=zo7 q kd (at_==op) (ls.foldl (zo7 q kd (at_==op)) s) g:=fun q s=>by rw[List.foldl_append];rfl
 rcases h2 with⟨h0,rfl⟩|⟨h0,rfl⟩
 ·refine⟨h.nod,fun q=> ?_⟩
  rw[h.get,hap,hfo]
  by_cases hq:q=0
  ·rw[if_neg (by simp[hq]),if_neg (by simp[hq])]
  ·have hgq: ¬g.1.2.1=q:=fun e=>hq (e.symm.trans h0)
   rw[decide_eq_false hgq,Bool.or_false,zo7,if_neg hgq]
 ·refine⟨by rw[zpi];exact zti flatI h.nod _ _,fun q=> ?_⟩
  rw[zyz,hap,hfo]
  by_cases hq:q=g.1.2.1
  ·subst hq
   rw[if_pos rfl,decide_eq_true rfl,Bool.or_true,Bool.or_true,if_pos ⟨h0,rfl⟩,zo7,if_pos rfl]
   have hg:=h.get g.1.2.1
   rw[hg]
   by_cases hh:(zle g.1.2.1 l||zsj g.1.2.1 ls)=true
   ·rw[if_pos ⟨h0,hh⟩];rfl
   ·rw[if_neg (fun hc=>hh hc.2)]
    have hf:(zle g.1.2.1 l||zsj g.1.2.1 ls)=false:=by simpa using hh
    rw[Bool.or_eq_false_iff]at hf
    rw[zsi hf.2]
    unfold zlb
    rw[zsh hf.1]
    rfl
  ·have hgq: ¬g.1.2.1=q:=fun e=>hq e.symm
   rw[if_neg hq,h.get,decide_eq_false hgq,Bool.or_false,zo7,if_neg hgq]
theorem GRel.next{op:Int}{l:List Pn}{x:Pn}{G:GS}(h:GRel op l x.1.1 (x.2==op) x.1.2 G)(kd:Int)(now:Bool):GRel op (l++ [x]) kd now [] G:=by
 refine⟨h.nod,fun q=> ?_⟩
 rw[h.get]
 have e1:zle q (l++ [x])=(zle q l||zsj q x.1.2):=by simp[zle]
 have e2:zlb q op (l++ [x])=x.1.2.foldl (zo7 q x.1.1 (x.2==op)) (zlb q op l):=by unfold zlb;rw[List.foldl_append];rfl
 rw[e1,e2,show zsj q []=false from rfl,Bool.or_false]
 rfl
theorem GRel.re{op:Int}{l:List Pn}{kd kd':Int}{now now':Bool}{G:GS}(h:GRel op l kd now [] G):GRel op l kd' now' [] G:=⟨h.nod,h.get⟩
theorem zsk(op kd:Int)(now:Bool):GRel op [] kd now [] []:=⟨List.nodup_nil,fun q=>by rw[if_neg (by simp[zle,zsj])];rfl⟩
end Go.Proofs.YtniohchnpfpffaaGreat.Pure
