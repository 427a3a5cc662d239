/- Plain laws: loops over lists,machine words,bounds. No statement of its own. -/
import Derived.Test.YtfcgafnmlkiimaaGreatDoorVkB
import Derived.IntWalk
set_option linter.unusedSimpArgs false
set_option linter.unusedVariables false
namespace Go.Pg
open Go.Vk Go.Am
theorem wr(n:Int)(h: -9223372036854775808≤n)(h':n≤9223372036854775807):IntKind.i64.wrap n=n:=IntWalk.i64_in n ⟨h,h'⟩
theorem wrS(i:Nat)(h:i<9223372036854775807):IntKind.i64.wrap ((i:Int)+1)=((i+1:Nat):Int):=by rw[wr _ (by omega) (by omega)];rfl
theorem ilt{i n:Nat}(h:i<n):decide ((i:Int)< (n:Int))=true:=by simp;omega
theorem ige(n:Nat):decide ((n:Int)< (n:Int))=false:=by simp
theorem nn(i:Nat):decide (0≤(i:Int))=true:=by simp
theorem at_{α:Type}(l:List α)(i:Nat)(h:i<l.length)(d:α):l.getD ((i:Int)).toNat d=l[i]:=by simp[h]
theorem at_n{α:Type}(l:List α)(i:Nat)(h:i<l.length)(d:α):l.getD i d=l[i]:=by simp[h]
theorem bt{α:Type}(c:Prop) [Decidable c](x y:α):(bif decide c then x else y)=if c then x else y:=by by_cases h:c<;>simp[h]
theorem orB(c x:Bool):(bif !c then some x else some true)=some (c||x):=by cases c<;>rfl
theorem take_succ{α:Type}(l:List α)(i:Nat)(h:i<l.length):l.take (i+1)=l.take i++ [l[i]]:=by simp[h]
theorem loop_upto{S B:Type}{f:S→Option (S⊕B)}(st:Nat→S)(n:Nat){b:B}(hs: ∀i,i<n→f (st i)=some (.inl (st (i+1))))(hf:f (st n)=some (.inr b)):loopO f (st 0)=some b:=by
 have: ∀k,k≤n→loopO f (st (n - k))=some b:=by
  intro k
  induction k with
  |zero=>intro _;rw[loopO_eq];simp[hf]
  |succ k ih=>
   intro hk
   rw[loopO_eq,hs (n - (k+1)) (by omega)]
   simp only[Option.bind_some]
   rw[show n - (k+1)+1=n - k by omega]
   exact ih (by omega)
 have h:=this n (Nat.le_refl _)
 rwa[Nat.sub_self]at h
theorem loop_up{S B:Type}{f:S→Option (S⊕B)}{s0:S}(st:Nat→S)(n:Nat){b:B}(h0:st 0=s0)(hs: ∀i,i<n→f (st i)=some (.inl (st (i+1))))(hf:f (st n)=some (.inr b)):loopO f s0=some b:=by
 rw[←h0];exact loop_upto st n hs hf
/-! ### maps -/
section
variable {K V : Ty}
theorem get_set(hk:flatT K=true): ∀(xs:Mp K V) (k:K.Den) (v:V.Den) (q:K.Den),mget K V (mset K V xs k v) q=bif eqT K q k then some v else mget K V xs q
 | [],k,v,q=>by simp only[mset,mget]
 |none::l,k,v,q=>by simp only[mset,mget,get_set hk l k v q]
 |some (k',v')::l,k,v,q=>by
  simp only[mset]
  cases he:eqT K k k' with
  |true=>
   obtain rfl:=(eqT_iff hk).1 he
   simp only[cond_true,mget]
   cases eqT K q k<;>rfl
  |false=>
   simp only[cond_false,mget,get_set hk l k v q]
   cases hq:eqT K q k' with
   |false=>rfl
   |true=>
    obtain rfl:=(eqT_iff hk).1 hq
    cases hqk:eqT K q k with
    |false=>rfl
    |true=>
     obtain rfl:=(eqT_iff hk).1 hqk
     rw[hq]at he;cases he
theorem has_set: ∀(xs:Mp K V) (k:K.Den) (v:V.Den),flatT K=true→mhas K V (mset K V xs k v) (mpos K V xs k)=true
 | [],k,v,hk=>rfl
 |none::l,k,v,hk=>by simp only[mset,mpos,mhas];exact has_set l k v hk
 |some (k',v')::l,k,v,hk=>by
  simp only[mset,mpos]
  cases he:eqT K k k' with
  |true=>rfl
  |false=>simp only[cond_false,mhas];exact has_set l k v hk
theorem put_set: ∀(xs:Mp K V) (k:K.Den) (v u:V.Den),flatT K=true→mput K V (mset K V xs k v) (mpos K V xs k) u=mset K V xs k u
 | [],k,v,u,hk=>rfl
 |none::l,k,v,u,hk=>by simp only[mset,mpos,mput,put_set l k v u hk]
 |some (k',v')::l,k,v,u,hk=>by
  simp only[mset,mpos]
  cases he:eqT K k k' with
  |true=>simp only[cond_true,mput]
  |false=>simp only[cond_false,mput,put_set l k v u hk]
end
end Go.Pg
/- Plain facts of maps as entries with places,for the plain laws of every seat. No statement of its own. -/
namespace Go.Pg
open Go.Vk Go.Am
section
variable {K V : Ty}
def entM(m:Mp K V):List (K.Den×V.Den):=m.filterMap id
def keysM(m:Mp K V):List K.Den:=(entM m).map (·.1)
@[simp] theorem entM_nil:entM ([]:Mp K V)= []:=rfl
@[simp] theorem entM_none(m:Mp K V):entM (none::m)=entM m:=rfl
@[simp] theorem entM_some(p:K.Den×V.Den)(m:Mp K V):entM (some p::m)=p::entM m:=rfl
@[simp] theorem keysM_nil:keysM ([]:Mp K V)= []:=rfl
@[simp] theorem keysM_none(m:Mp K V):keysM (none::m)=keysM m:=rfl
@[simp] theorem keysM_some(p:K.Den×V.Den)(m:Mp K V):keysM (some p::m)=p.1::keysM m:=rfl
end
end Go.Pg
