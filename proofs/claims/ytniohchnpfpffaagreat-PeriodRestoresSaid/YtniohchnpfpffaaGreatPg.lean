/- Plain laws: loops over lists,machine words,bounds. No statement of its own. -/
import Derived.Test.YtniohchnpfpffaaGreatVkB
import Derived.IntWalk
set_option linter.unusedSimpArgs false
set_option linter.unusedVariables false
namespace Go.Pg
open Go.Vk Go.Am
theorem wr(n:Int)(h: -9223372036854775808≤n)(h':n≤9223372036854775807):IntKind.i64.wrap n=n:=IntWalk.i64_in n ⟨h,h'⟩
theorem wrS(i:Nat)(h:i<9223372036854775807):IntKind.i64.wrap ((i:Int)+1)=((i+1:Nat):Int):=by rw[wr _ (by omega) (by omega)];rfl
theorem neg_neg(x:Int)(h: -9223372036854775808≤x)(h':x≤9223372036854775807):IntKind.i64.wrap (0 - IntKind.i64.wrap (0 - x))=x:=by
 rw[IntKind.wrap_i64,IntKind.wrap_i64];omega
theorem ilt{i n:Nat}(h:i<n):decide ((i:Int)< (n:Int))=true:=by simp;omega
theorem ige(n:Nat):decide ((n:Int)< (n:Int))=false:=by simp
theorem nn(i:Nat):decide (0≤(i:Int))=true:=by simp
theorem at_{α:Type}(l:List α)(i:Nat)(h:i<l.length)(d:α):l.getD ((i:Int)).toNat d=l[i]:=by simp[h]
theorem zl3{α:Type}(l:List α)(i:Nat)(h:i<l.length)(d:α):l.getD i d=l[i]:=by simp[h]
theorem bt{α:Type}(c:Prop) [Decidable c](x y:α):(bif decide c then x else y)=if c then x else y:=by by_cases h:c<;>simp[h]
theorem orB(c x:Bool):(bif !c then some x else some true)=some (c||x):=by cases c<;>rfl
theorem zad{α:Type}(l:List α)(i:Nat)(h:i<l.length):l.take (i+1)=l.take i++ [l[i]]:=by simp[h]
theorem zAq{S B:Type}{f:S→Option (S⊕B)}(st:Nat→S)(n:Nat){b:B}(hs: ∀i,i<n→f (st i)=some (.inl (st (i+1))))(hf:f (st n)=some (.inr b)):za2 f (st 0)=some b:=by
 have: ∀k,k≤n→za2 f (st (n - k))=some b:=by
  intro k
  induction k with
  |zero=>intro _;rw[zai];simp[hf]
  |succ k ih=>
   intro hk
   rw[zai,hs (n - (k+1)) (by omega)]
   simp only[Option.bind_some]
   rw[show n - (k+1)+1=n - k by omega]
   exact ih (by omega)
 have h:=this n (Nat.le_refl _)
 rwa[Nat.sub_self]at h
theorem zap{S B:Type}{f:S→Option (S⊕B)}{s0:S}(st:Nat→S)(n:Nat){b:B}(h0:st 0=s0)(hs: ∀i,i<n→f (st i)=some (.inl (st (i+1))))(hf:f (st n)=some (.inr b)):za2 f s0=some b:=by
 rw[←h0];exact zAq st n hs hf
theorem cut_ok{α:Type}(l:List α)(n:Nat):(decide ((0:Int)≤0) && (decide ((0:Int)≤(if(n:Int)< (l.length:Int)then(n:Int)else(l.length:Int))) && decide ((if(n:Int)< (l.length:Int)then(n:Int)else(l.length:Int))≤(l.length:Int))))=true:=by
 simp only[Bool.and_eq_true,decide_eq_true_eq]
 split<;>omega
theorem cut_eq{α:Type}(l:List α)(n:Nat):(l.take (if(n:Int)< (l.length:Int)then(n:Int)else(l.length:Int)).toNat).drop (0:Int).toNat=l.take n:=by
 split
 ·simp
 ·simp only[Int.toNat_natCast,Int.toNat_zero,List.drop_zero]
  rw[List.take_of_length_le (by omega),List.take_of_length_le (by omega)]
/-! ### maps -/
section
variable {K V : Ty}
theorem zic(hk:zav K=true): ∀(xs:Mp K V) (k:K.Den) (v:V.Den) (q:K.Den),zaj K V (zaw K V xs k v) q=bif eqT K q k then some v else zaj K V xs q
 | [],k,v,q=>by simp only[zaw,zaj]
 |none::l,k,v,q=>by simp only[zaw,zaj,zic hk l k v q]
 |some (k',v')::l,k,v,q=>by
  simp only[zaw]
  cases he:eqT K k k' with
  |true=>
   obtain rfl:=(zds hk).1 he
   simp only[cond_true,zaj]
   cases eqT K q k<;>rfl
  |false=>
   simp only[cond_false,zaj,zic hk l k v q]
   cases hq:eqT K q k' with
   |false=>rfl
   |true=>
    obtain rfl:=(zds hk).1 hq
    cases hqk:eqT K q k with
    |false=>rfl
    |true=>
     obtain rfl:=(zds hk).1 hqk
     rw[hq]at he;cases he
theorem zux: ∀(xs:Mp K V) (k:K.Den) (v:V.Den),zav K=true→zw0 K V (zaw K V xs k v) (zi5 K V xs k)=true
 | [],k,v,hk=>rfl
 |none::l,k,v,hk=>by simp only[zaw,zi5,zw0];exact zux l k v hk
 |some (k',v')::l,k,v,hk=>by
  simp only[zaw,zi5]
  cases he:eqT K k k' with
  |true=>rfl
  |false=>simp only[cond_false,zw0];exact zux l k v hk
theorem zuk: ∀(xs:Mp K V) (k:K.Den) (v u:V.Den),zav K=true→zp0 K V (zaw K V xs k v) (zi5 K V xs k) u=zaw K V xs k u
 | [],k,v,u,hk=>rfl
 |none::l,k,v,u,hk=>by simp only[zaw,zi5,zp0,zuk l k v u hk]
 |some (k',v')::l,k,v,u,hk=>by
  simp only[zaw,zi5]
  cases he:eqT K k k' with
  |true=>simp only[cond_true,zp0]
  |false=>simp only[cond_false,zp0,zuk l k v u hk]
end
end Go.Pg
/- Plain facts of maps as entries with places,for the plain laws of every seat. No statement of its own. -/
namespace Go.Pg
open Go.Vk Go.Am
section
variable {K V : Ty}
theorem zhs(hk:zav K=true){q k:K.Den}(h:q≠k):eqT K q k=false:=by
 cases e:eqT K q k with
 |false=>rfl
 |true=>exact absurd ((zds hk).1 e) h
theorem zew(hk:zav K=true)(k:K.Den):eqT K k k=true:=(zds hk).2 rfl
def zjo(m:Mp K V):List (K.Den×V.Den):=m.filterMap id
def zdr(m:Mp K V):List K.Den:=(zjo m).map (·.1)
@[simp] theorem entM_nil:zjo ([]:Mp K V)= []:=rfl
@[simp] theorem znj(m:Mp K V):zjo (none::m)=zjo m:=rfl
@[simp] theorem zt6(p:K.Den×V.Den)(m:Mp K V):zjo (some p::m)=p::zjo m:=rfl
@[simp] theorem keysM_nil:zdr ([]:Mp K V)= []:=rfl
@[simp] theorem zp6(m:Mp K V):zdr (none::m)=zdr m:=rfl
@[simp] theorem zfd(p:K.Den×V.Den)(m:Mp K V):zdr (some p::m)=p.1::zdr m:=rfl
theorem zit(hk:zav K=true): ∀{m:Mp K V} {k:K.Den},k∉zdr m→zaj K V m k=none
 | [],k,_=>rfl
 |none::l,k,h=>by simp only[zaj];exact zit hk h
 |some (k',v')::l,k,h=>by
  simp only[zfd,List.mem_cons,not_or]at h
  simp only[zaj,zhs hk h.1,cond_false]
  exact zit hk h.2
theorem zce(hk:zav K=true): ∀{m:Mp K V} {k:K.Den},(zaj K V m k).isSome=true↔k∈zdr m
 | [],k=>by simp[zaj]
 |none::l,k=>by simp only[zaj,zp6];exact zce hk
 |some (k',v')::l,k=>by
  simp only[zaj,zfd,List.mem_cons]
  by_cases h:k=k'
  ·subst h;rw[zew hk];simp
  ·rw[zhs hk h,cond_false];simp[h,zce hk (m:=l)]
theorem zle(hk:zav K=true): ∀{m:Mp K V} {k:K.Den} {v:V.Den},(zdr m).Nodup→(zaj K V m k=some v↔(k,v)∈zjo m)
 | [],k,v,_=>by simp[zaj]
 |none::l,k,v,h=>by simp only[zaj,znj];exact zle hk h
 |some (k',v')::l,k,v,h=>by
  simp only[zfd,List.nodup_cons]at h
  simp only[zaj,zt6,List.mem_cons,Prod.mk.injEq]
  by_cases e:k=k'
  ·subst e
   rw[zew hk,cond_true,Option.some.injEq]
   constructor
   ·rintro rfl;exact .inl ⟨rfl,rfl⟩
   ·rintro(⟨_,rfl⟩|h2)
    ·rfl
    ·exact absurd (List.mem_map.2 ⟨_,h2,rfl⟩) h.1
  ·rw[zhs hk e,cond_false,zle hk h.2]
   constructor
   ·exact fun h=> .inr h
   ·rintro(⟨h,_⟩|h)
    ·exact absurd h e
    ·exact h
theorem zmm(hk:zav K=true): ∀(m:Mp K V) (k:K.Den) (v:V.Den),(k∈zdr m→zdr (zaw K V m k v)=zdr m)∧(k∉zdr m→zjo (zaw K V m k v)=zjo m++ [(k,v)])
 | [],k,v=>⟨fun h=>by simp at h,fun _=>rfl⟩
 |none::l,k,v=>by simp only[zaw,zp6,znj];exact zmm hk l k v
 |some (k',v')::l,k,v=>by
  simp only[zaw]
  by_cases e:k=k'
  ·subst e
   rw[zew hk,cond_true]
   exact⟨fun _=>rfl,fun h=>absurd (by simp) h⟩
  ·rw[zhs hk e,cond_false]
   obtain⟨h1,h2⟩:=zmm hk l k v
   simp only[zfd,zt6,List.mem_cons,e,false_or]
   exact⟨fun h=>by rw[h1 h],fun h=>by rw[h2 h];rfl⟩
theorem zhc(hk:zav K=true){m:Mp K V}(h:(zdr m).Nodup)(k:K.Den)(v:V.Den):(zdr (zaw K V m k v)).Nodup:=by
 obtain⟨h1,h2⟩:=zmm hk m k v
 by_cases hm:k∈zdr m
 ·rw[h1 hm];exact h
 ·show((zjo (zaw K V m k v)).map (·.1)).Nodup
  rw[h2 hm,List.map_append,List.nodup_append]
  refine⟨h,by simp,fun a ha b hb=> ?_⟩
  simp only[List.map_cons,List.map_nil,List.mem_singleton]at hb
  subst hb
  exact fun e=>hm (e▸ha)
theorem zlf(hk:zav K=true): ∀{m:Mp K V} (k q:K.Den),(zdr m).Nodup→zaj K V (zi6 K V m k) q=bif eqT K q k then none else zaj K V m q
 | [],k,q,_=>by cases eqT K q k<;>rfl
 |none::l,k,q,h=>by simp only[zi6,zaj];exact zlf hk k q h
 |some (k',v')::l,k,q,h=>by
  simp only[zfd,List.nodup_cons]at h
  simp only[zi6]
  by_cases e:k=k'
  ·subst e
   rw[zew hk,cond_true]
   simp only[zaj]
   by_cases e2:q=k
   ·subst e2;rw[zew hk,cond_true];exact zit hk h.1
   ·rw[zhs hk e2];rfl
  ·rw[zhs hk e,cond_false]
   simp only[zaj]
   rw[zlf hk k q h.2]
   by_cases e2:q=k'
   ·subst e2
    rw[zew hk,zhs hk (fun h=>e h.symm)];rfl
   ·rw[zhs hk e2];rfl
theorem zqj(hk:zav K=true): ∀(m:Mp K V) (k:K.Den),(zjo (zi6 K V m k)).Sublist (zjo m)
 | [],k=> .slnil
 |none::l,k=>by simp only[zi6,znj];exact zqj hk l k
 |some (k',v')::l,k=>by
  simp only[zi6]
  cases eqT K k k' with
  |true=>exact List.sublist_cons_self _ _
  |false=>exact(zqj hk l k).cons_cons _
theorem zp1(hk:zav K=true){m:Mp K V}(h:(zdr m).Nodup)(k:K.Den):(zdr (zi6 K V m k)).Nodup:=h.sublist ((zqj hk m k).map _)
end
end Go.Pg
