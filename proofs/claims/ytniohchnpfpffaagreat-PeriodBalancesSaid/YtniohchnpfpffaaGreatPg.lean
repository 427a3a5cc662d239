/- Plain laws: loops over lists,machine words,bounds. No statement of its own. -/
import Derived.Test.YtniohchnpfpffaaGreatVkB
import Derived.IntWalk
set_option linter.unusedSimpArgs false
set_option linter.unusedVariables false
namespace Go.Pg
open Go.Vk Go.Am
theorem wr(n:Int)(h: -9223372036854775808≤n)(h':n≤9223372036854775807):IntKind.i64.wrap n=n:=IntWalk.i64_in n ⟨h,h'⟩
theorem wrS(i:Nat)(h:i<9223372036854775807):IntKind.i64.wrap ((i:Int)+1)=((i+1:Nat):Int):=by rw[wr _ (by omega) (by omega)];rfl
theorem ilt{i n:Nat}(h:i<n):decide ((i:Int)< (n:Int))=true:=by simp;omega
theorem ige(n:Nat):decide ((n:Int)< (n:Int))=false:=by simp
theorem nn(i:Nat):decide (0≤(i:Int))=true:=by simp
theorem at_{α:Type}(l:List α)(i:Nat)(h:i<l.length)(d:α):l.getD ((i:Int)).toNat d=l[i]:=by simp[h]
theorem zkp{α:Type}(l:List α)(i:Nat)(h:i<l.length)(d:α):l.getD i d=l[i]:=by simp[h]
theorem bt{α:Type}(c:Prop) [Decidable c](x y:α):(bif decide c then x else y)=if c then x else y:=by by_cases h:c<;>simp[h]
theorem orB(c x:Bool):(bif !c then some x else some true)=some (c||x):=by cases c<;>rfl
theorem zag{α:Type}(l:List α)(i:Nat)(h:i<l.length):l.take (i+1)=l.take i++ [l[i]]:=by simp[h]
theorem zzj{S B:Type}{f:S→Option (S⊕B)}(st:Nat→S)(n:Nat){b:B}(hs: ∀i,i<n→f (st i)=some (.inl (st (i+1))))(hf:f (st n)=some (.inr b)):za3 f (st 0)=some b:=by
 have: ∀k,k≤n→za3 f (st (n - k))=some b:=by
  intro k
  induction k with
  |zero=>intro _;rw[zau];simp[hf]
  |succ k ih=>
   intro hk
   rw[zau,hs (n - (k+1)) (by omega)]
   simp only[Option.bind_some]
   rw[show n - (k+1)+1=n - k by omega]
   exact ih (by omega)
 have h:=this n (Nat.le_refl _)
 rwa[Nat.sub_self]at h
theorem zaq{S B:Type}{f:S→Option (S⊕B)}{s0:S}(st:Nat→S)(n:Nat){b:B}(h0:st 0=s0)(hs: ∀i,i<n→f (st i)=some (.inl (st (i+1))))(hf:f (st n)=some (.inr b)):za3 f s0=some b:=by
 rw[←h0];exact zzj st n hs hf
theorem cut_ok{α:Type}(l:List α)(n:Nat):(decide ((0:Int)≤0) && (decide ((0:Int)≤(if(n:Int)< (l.length:Int)then(n:Int)else(l.length:Int))) && decide ((if(n:Int)< (l.length:Int)then(n:Int)else(l.length:Int))≤(l.length:Int))))=true:=by
 simp only[Bool.and_eq_true,decide_eq_true_eq]
 split<;>omega
theorem cut_eq{α:Type}(l:List α)(n:Nat):(l.take (if(n:Int)< (l.length:Int)then(n:Int)else(l.length:Int)).toNat).drop (0:Int).toNat=l.take n:=by
 split
 ·simp
 ·simp only[Int.toNat_natCast,Int.toNat_zero,List.drop_zero]
  rw[List.take_of_length_le (by omega),List.take_of_length_le (by omega)]
/-! ### maps -/
section
variable {K V : Ty}
theorem zk2(hk:zat K=true): ∀(xs:Mp K V) (k:K.Den) (v:V.Den) (q:K.Den),zay K V (zb3 K V xs k v) q=bif eqT K q k then some v else zay K V xs q
 | [],k,v,q=>by simp only[zb3,zay]
 |none::l,k,v,q=>by simp only[zb3,zay,zk2 hk l k v q]
 |some (k',v')::l,k,v,q=>by
  simp only[zb3]
  cases he:eqT K k k' with
  |true=>
   obtain rfl:=(zdj hk).1 he
   simp only[cond_true,zay]
   cases eqT K q k<;>rfl
  |false=>
   simp only[cond_false,zay,zk2 hk l k v q]
   cases hq:eqT K q k' with
   |false=>rfl
   |true=>
    obtain rfl:=(zdj hk).1 hq
    cases hqk:eqT K q k with
    |false=>rfl
    |true=>
     obtain rfl:=(zdj hk).1 hqk
     rw[hq]at he;cases he
theorem ztv: ∀(xs:Mp K V) (k:K.Den) (v:V.Den),zat K=true→zut K V (zb3 K V xs k v) (zhw K V xs k)=true
 | [],k,v,hk=>rfl
 |none::l,k,v,hk=>by simp only[zb3,zhw,zut];exact ztv l k v hk
 |some (k',v')::l,k,v,hk=>by
  simp only[zb3,zhw]
  cases he:eqT K k k' with
  |true=>rfl
  |false=>simp only[cond_false,zut];exact ztv l k v hk
theorem zti: ∀(xs:Mp K V) (k:K.Den) (v u:V.Den),zat K=true→zog K V (zb3 K V xs k v) (zhw K V xs k) u=zb3 K V xs k u
 | [],k,v,u,hk=>rfl
 |none::l,k,v,u,hk=>by simp only[zb3,zhw,zog,zti l k v u hk]
 |some (k',v')::l,k,v,u,hk=>by
  simp only[zb3,zhw]
  cases he:eqT K k k' with
  |true=>simp only[cond_true,zog]
  |false=>simp only[cond_false,zog,zti l k v u hk]
end
end Go.Pg
/- Plain facts of maps as entries with places,for the plain laws of every seat. No statement of its own. -/
namespace Go.Pg
open Go.Vk Go.Am
section
variable {K V : Ty}
theorem zhl(hk:zat K=true){q k:K.Den}(h:q≠k):eqT K q k=false:=by
 cases e:eqT K q k with
 |false=>rfl
 |true=>exact absurd ((zdj hk).1 e) h
theorem zer(hk:zat K=true)(k:K.Den):eqT K k k=true:=(zdj hk).2 rfl
def zk4(m:Mp K V):List (K.Den×V.Den):=m.filterMap id
def zdt(m:Mp K V):List K.Den:=(zk4 m).map (·.1)
@[simp] theorem entM_nil:zk4 ([]:Mp K V)= []:=rfl
@[simp] theorem zn0(m:Mp K V):zk4 (none::m)=zk4 m:=rfl
@[simp] theorem zs7(p:K.Den×V.Den)(m:Mp K V):zk4 (some p::m)=p::zk4 m:=rfl
@[simp] theorem keysM_nil:zdt ([]:Mp K V)= []:=rfl
@[simp] theorem zol(m:Mp K V):zdt (none::m)=zdt m:=rfl
@[simp] theorem zf8(p:K.Den×V.Den)(m:Mp K V):zdt (some p::m)=p.1::zdt m:=rfl
theorem zih(hk:zat K=true): ∀{m:Mp K V} {k:K.Den},k∉zdt m→zay K V m k=none
 | [],k,_=>rfl
 |none::l,k,h=>by simp only[zay];exact zih hk h
 |some (k',v')::l,k,h=>by
  simp only[zf8,List.mem_cons,not_or]at h
  simp only[zay,zhl hk h.1,cond_false]
  exact zih hk h.2
theorem zcl(hk:zat K=true): ∀{m:Mp K V} {k:K.Den},(zay K V m k).isSome=true↔k∈zdt m
 | [],k=>by simp[zay]
 |none::l,k=>by simp only[zay,zol];exact zcl hk
 |some (k',v')::l,k=>by
  simp only[zay,zf8,List.mem_cons]
  by_cases h:k=k'
  ·subst h;rw[zer hk];simp
  ·rw[zhl hk h,cond_false];simp[h,zcl hk (m:=l)]
theorem zl0(hk:zat K=true): ∀{m:Mp K V} {k:K.Den} {v:V.Den},(zdt m).Nodup→(zay K V m k=some v↔(k,v)∈zk4 m)
 | [],k,v,_=>by simp[zay]
 |none::l,k,v,h=>by simp only[zay,zn0];exact zl0 hk h
 |some (k',v')::l,k,v,h=>by
  simp only[zf8,List.nodup_cons]at h
  simp only[zay,zs7,List.mem_cons,Prod.mk.injEq]
  by_cases e:k=k'
  ·subst e
   rw[zer hk,cond_true,Option.some.injEq]
   constructor
   ·rintro rfl;exact .inl ⟨rfl,rfl⟩
   ·rintro(⟨_,rfl⟩|h2)
    ·rfl
    ·exact absurd (List.mem_map.2 ⟨_,h2,rfl⟩) h.1
  ·rw[zhl hk e,cond_false,zl0 hk h.2]
   constructor
   ·exact fun h=> .inr h
   ·rintro(⟨h,_⟩|h)
    ·exact absurd h e
    ·exact h
theorem zm3(hk:zat K=true): ∀(m:Mp K V) (k:K.Den) (v:V.Den),(k∈zdt m→zdt (zb3 K V m k v)=zdt m)∧(k∉zdt m→zk4 (zb3 K V m k v)=zk4 m++ [(k,v)])
 | [],k,v=>⟨fun h=>by simp at h,fun _=>rfl⟩
 |none::l,k,v=>by simp only[zb3,zol,zn0];exact zm3 hk l k v
 |some (k',v')::l,k,v=>by
  simp only[zb3]
  by_cases e:k=k'
  ·subst e
   rw[zer hk,cond_true]
   exact⟨fun _=>rfl,fun h=>absurd (by simp) h⟩
  ·rw[zhl hk e,cond_false]
   obtain⟨h1,h2⟩:=zm3 hk l k v
   simp only[zf8,zs7,List.mem_cons,e,false_or]
   exact⟨fun h=>by rw[h1 h],fun h=>by rw[h2 h];rfl⟩
theorem zof(hk:zat K=true){m:Mp K V}(h:(zdt m).Nodup)(k:K.Den)(v:V.Den):(zdt (zb3 K V m k v)).Nodup:=by
 obtain⟨h1,h2⟩:=zm3 hk m k v
 by_cases hm:k∈zdt m
 ·rw[h1 hm];exact h
 ·show((zk4 (zb3 K V m k v)).map (·.1)).Nodup
  rw[h2 hm,List.map_append,List.nodup_append]
  refine⟨h,by simp,fun a ha b hb=> ?_⟩
  simp only[List.map_cons,List.map_nil,List.mem_singleton]at hb
  subst hb
  exact fun e=>hm (e▸ha)
theorem zl1(hk:zat K=true): ∀{m:Mp K V} (k q:K.Den),(zdt m).Nodup→zay K V (zhx K V m k) q=bif eqT K q k then none else zay K V m q
 | [],k,q,_=>by cases eqT K q k<;>rfl
 |none::l,k,q,h=>by simp only[zhx,zay];exact zl1 hk k q h
 |some (k',v')::l,k,q,h=>by
  simp only[zf8,List.nodup_cons]at h
  simp only[zhx]
  by_cases e:k=k'
  ·subst e
   rw[zer hk,cond_true]
   simp only[zay]
   by_cases e2:q=k
   ·subst e2;rw[zer hk,cond_true];exact zih hk h.1
   ·rw[zhl hk e2];rfl
  ·rw[zhl hk e,cond_false]
   simp only[zay]
   rw[zl1 hk k q h.2]
   by_cases e2:q=k'
   ·subst e2
    rw[zer hk,zhl hk (fun h=>e h.symm)];rfl
   ·rw[zhl hk e2];rfl
theorem zpo(hk:zat K=true): ∀(m:Mp K V) (k:K.Den),(zk4 (zhx K V m k)).Sublist (zk4 m)
 | [],k=> .slnil
 |none::l,k=>by simp only[zhx,zn0];exact zpo hk l k
 |some (k',v')::l,k=>by
  simp only[zhx]
  cases eqT K k k' with
  |true=>exact List.sublist_cons_self _ _
  |false=>exact(zpo hk l k).cons_cons _
theorem zwj(hk:zat K=true){m:Mp K V}(h:(zdt m).Nodup)(k:K.Den):(zdt (zhx K V m k)).Nodup:=h.sublist ((zpo hk m k).map _)
end
end Go.Pg
