/- Plain laws: loops over lists,machine words,bounds. No statement of its own. -/
import Derived.Test.YtniohchnpfpffaaGreatVkB
import Derived.IntWalk
set_option linter.unusedSimpArgs false
set_option linter.unusedVariables false
namespace Go.Pg
open Go.Vk Go.Am
theorem wr(n:Int)(h: -9223372036854775808≤n)(h':n≤9223372036854775807):IntKind.i64.wrap n=n:=IntWalk.i64_in n ⟨h,h'⟩
theorem wrS(i:Nat)(h:i<9223372036854775807):IntKind.i64.wrap ((i:Int)+1)=((i+1:Nat):Int):=by rw[wr _ (by omega) (by omega)];rfl
theorem ilt{i n:Nat}(h:i<n):decide ((i:Int)< (n:Int))=true:=by simp;omega
theorem ige(n:Nat):decide ((n:Int)< (n:Int))=false:=by simp
theorem nn(i:Nat):decide (0≤(i:Int))=true:=by simp
theorem at_{α:Type}(l:List α)(i:Nat)(h:i<l.length)(d:α):l.getD ((i:Int)).toNat d=l[i]:=by simp[h]
theorem at_n{α:Type}(l:List α)(i:Nat)(h:i<l.length)(d:α):l.getD i d=l[i]:=by simp[h]
theorem bt{α:Type}(c:Prop) [Decidable c](x y:α):(bif decide c then x else y)=if c then x else y:=by by_cases h:c<;>simp[h]
theorem orB(c x:Bool):(bif !c then some x else some true)=some (c||x):=by cases c<;>rfl
theorem zcc{α:Type}(l:List α)(i:Nat)(h:i<l.length):l.take (i+1)=l.take i++ [l[i]]:=by simp[h]
theorem zw2{S B:Type}{f:S→Option (S⊕B)}(st:Nat→S)(n:Nat){b:B}(hs: ∀i,i<n→f (st i)=some (.inl (st (i+1))))(hf:f (st n)=some (.inr b)):zac f (st 0)=some b:=by
 have: ∀k,k≤n→zac f (st (n - k))=some b:=by
  intro k
  induction k with
  |zero=>intro _;rw[zae];simp[hf]
  |succ k ih=>
   intro hk
   rw[zae,hs (n - (k+1)) (by omega)]
   simp only[Option.bind_some]
   rw[show n - (k+1)+1=n - k by omega]
   exact ih (by omega)
 have h:=this n (Nat.le_refl _)
 rwa[Nat.sub_self]at h
theorem zc5{S B:Type}{f:S→Option (S⊕B)}{s0:S}(st:Nat→S)(n:Nat){b:B}(h0:st 0=s0)(hs: ∀i,i<n→f (st i)=some (.inl (st (i+1))))(hf:f (st n)=some (.inr b)):zac f s0=some b:=by
 rw[←h0];exact zw2 st n hs hf
/-! ### maps -/
section
variable {K V : Ty}
theorem zkn(hk:zaj K=true): ∀(xs:Mp K V) (k:K.Den) (v:V.Den) (q:K.Den),zbf K V (zb0 K V xs k v) q=bif eqT K q k then some v else zbf K V xs q
 | [],k,v,q=>by simp only[zb0,zbf]
 |none::l,k,v,q=>by simp only[zb0,zbf,zkn hk l k v q]
 |some (k',v')::l,k,v,q=>by
  simp only[zb0]
  cases he:eqT K k k' with
  |true=>
   obtain rfl:=(zcp hk).1 he
   simp only[cond_true,zbf]
   cases eqT K q k<;>rfl
  |false=>
   simp only[cond_false,zbf,zkn hk l k v q]
   cases hq:eqT K q k' with
   |false=>rfl
   |true=>
    obtain rfl:=(zcp hk).1 hq
    cases hqk:eqT K q k with
    |false=>rfl
    |true=>
     obtain rfl:=(zcp hk).1 hqk
     rw[hq]at he;cases he
theorem zr3: ∀(xs:Mp K V) (k:K.Den) (v:V.Den),zaj K=true→zs0 K V (zb0 K V xs k v) (zgf K V xs k)=true
 | [],k,v,hk=>rfl
 |none::l,k,v,hk=>by simp only[zb0,zgf,zs0];exact zr3 l k v hk
 |some (k',v')::l,k,v,hk=>by
  simp only[zb0,zgf]
  cases he:eqT K k k' with
  |true=>rfl
  |false=>simp only[cond_false,zs0];exact zr3 l k v hk
theorem zqt: ∀(xs:Mp K V) (k:K.Den) (v u:V.Den),zaj K=true→zm9 K V (zb0 K V xs k v) (zgf K V xs k) u=zb0 K V xs k u
 | [],k,v,u,hk=>rfl
 |none::l,k,v,u,hk=>by simp only[zb0,zgf,zm9,zqt l k v u hk]
 |some (k',v')::l,k,v,u,hk=>by
  simp only[zb0,zgf]
  cases he:eqT K k k' with
  |true=>simp only[cond_true,zm9]
  |false=>simp only[cond_false,zm9,zqt l k v u hk]
end
end Go.Pg
/- Plain facts of maps as entries with places,for the plain laws of every seat. No statement of its own. -/
namespace Go.Pg
open Go.Vk Go.Am
section
variable {K V : Ty}
theorem zpq(hk:zaj K=true){q k:K.Den}(h:q≠k):eqT K q k=false:=by
 cases e:eqT K q k with
 |false=>rfl
 |true=>exact absurd ((zcp hk).1 e) h
theorem zjc(hk:zaj K=true)(k:K.Den):eqT K k k=true:=(zcp hk).2 rfl
def zwo(m:Mp K V):List (K.Den×V.Den):=m.filterMap id
def zda(m:Mp K V):List K.Den:=(zwo m).map (·.1)
@[simp] theorem entM_nil:zwo ([]:Mp K V)= []:=rfl
@[simp] theorem zwn(m:Mp K V):zwo (none::m)=zwo m:=rfl
@[simp] theorem zwm(p:K.Den×V.Den)(m:Mp K V):zwo (some p::m)=p::zwo m:=rfl
@[simp] theorem keysM_nil:zda ([]:Mp K V)= []:=rfl
@[simp] theorem zmd(m:Mp K V):zda (none::m)=zda m:=rfl
@[simp] theorem zi6(p:K.Den×V.Den)(m:Mp K V):zda (some p::m)=p.1::zda m:=rfl
theorem zk1(hk:zaj K=true): ∀{m:Mp K V} {k:K.Den},k∉zda m→zbf K V m k=none
 | [],k,_=>rfl
 |none::l,k,h=>by simp only[zbf];exact zk1 hk h
 |some (k',v')::l,k,h=>by
  simp only[zi6,List.mem_cons,not_or]at h
  simp only[zbf,zpq hk h.1,cond_false]
  exact zk1 hk h.2
theorem zgg(hk:zaj K=true): ∀{m:Mp K V} {k:K.Den},(zbf K V m k).isSome=true↔k∈zda m
 | [],k=>by simp[zbf]
 |none::l,k=>by simp only[zbf,zmd];exact zgg hk
 |some (k',v')::l,k=>by
  simp only[zbf,zi6,List.mem_cons]
  by_cases h:k=k'
  ·subst h;rw[zjc hk];simp
  ·rw[zpq hk h,cond_false];simp[h,zgg hk (m:=l)]
theorem zjy(hk:zaj K=true): ∀(m:Mp K V) (k:K.Den) (v:V.Den),(k∈zda m→zda (zb0 K V m k v)=zda m)∧(k∉zda m→zwo (zb0 K V m k v)=zwo m++ [(k,v)])
 | [],k,v=>⟨fun h=>by simp at h,fun _=>rfl⟩
 |none::l,k,v=>by simp only[zb0,zmd,zwn];exact zjy hk l k v
 |some (k',v')::l,k,v=>by
  simp only[zb0]
  by_cases e:k=k'
  ·subst e
   rw[zjc hk,cond_true]
   exact⟨fun _=>rfl,fun h=>absurd (by simp) h⟩
  ·rw[zpq hk e,cond_false]
   obtain⟨h1,h2⟩:=zjy hk l k v
   simp only[zi6,zwm,List.mem_cons,e,false_or]
   exact⟨fun h=>by rw[h1 h],fun h=>by rw[h2 h];rfl⟩
theorem zti(hk:zaj K=true){m:Mp K V}(h:(zda m).Nodup)(k:K.Den)(v:V.Den):(zda (zb0 K V m k v)).Nodup:=by
 obtain⟨h1,h2⟩:=zjy hk m k v
 by_cases hm:k∈zda m
 ·rw[h1 hm];exact h
 ·show((zwo (zb0 K V m k v)).map (·.1)).Nodup
  rw[h2 hm,List.map_append,List.nodup_append]
  refine⟨h,by simp,fun a ha b hb=> ?_⟩
  simp only[List.map_cons,List.map_nil,List.mem_singleton]at hb
  subst hb
  exact fun e=>hm (e▸ha)
end
end Go.Pg
