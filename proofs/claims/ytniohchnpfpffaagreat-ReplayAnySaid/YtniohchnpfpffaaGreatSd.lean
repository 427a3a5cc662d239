/- Plain laws: a purse's operations,the program's and the document's. No statement of its own. -/
import Derived.Test.YtniohchnpfpffaaGreatSi
set_option linter.unusedSimpArgs false
set_option linter.unusedVariables false
namespace Go.Proofs.YtniohchnpfpffaaGreat.Pure
open Go.Vk Go.Am Go.Pg Go.Sort Go.Proofs.YtniohchnpfpffaaGreat.Y
/-! ### posts -/
theorem JRel.more{p m n c d:Nat}{j:Jn}{J:RJ}(h:JRel p m c j J)(hl:m≤n)(hc:c≤d):JRel p n d j J:=⟨⟨h.ji.per,h.ji.mov,h.ji.p31,Nat.le_trans h.ji.list hl⟩,h.lst,h.whn,h.per,h.ent,h.sum,h.rng,fun k=>by have:=h.bnd k;constructor<;>omega⟩
theorem JRel.legs{p m c:Nat}{j:Jn}{J:RJ}(h:JRel p m c j J): ∀x∈J.1,x.2.length≤1000000:=by
 intro x hx
 rw[h.lst]at hx
 obtain⟨y,hy,rfl⟩:=List.mem_map.1 hx
 have:=(zmt (h.ent y hy)).1
 simp only[List.length_map]
 omega
def zzf(B B':FB):Prop:=B.map (Option.map (·.1))=B'.map (Option.map (·.1))
theorem mset_same: ∀(B:FB) (n:Int) (a:FA),n∈zpd B→zzf (zb0 KI VA B n a) B
 | [],n,a,h=>by simp[zda,zwo]at h
 |none::B,n,a,h=>by
  have:=mset_same B n a h
  unfold zzf at this⊢
  simp only[zb0,List.map_cons,this]
 |some (k,v)::B,n,a,h=>by
  unfold zzf
  simp only[zb0]
  rw[eqI]
  by_cases hk:n=k
  ·rw[decide_eq_true hk,cond_true]
   simp[hk]
  ·rw[decide_eq_false hk,cond_false]
   have hm:n∈zpd B:=by
    unfold zpd zda zwo at h⊢
    simp at h⊢
    rcases h with h|h
    ·exact absurd h hk
    ·exact h
   have:=mset_same B n a hm
   unfold zzf at this
   simp only[List.map_cons,this]
theorem BRel.more{N M:Nat}{B:FB}{As:List FA}(h:BRel N B As)(hl:N≤M):BRel M B As:=⟨h.ok.mono hl,h.len,h.get⟩
/-! ### Hold -/
end Go.Proofs.YtniohchnpfpffaaGreat.Pure
