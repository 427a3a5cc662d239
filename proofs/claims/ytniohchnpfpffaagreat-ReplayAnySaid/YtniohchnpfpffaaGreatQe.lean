/- Plain laws of the journal: accounts,moves,a job's entry,and what every journal keeps. No statement of its own. -/
import Derived.Test.YtniohchnpfpffaaGreatQd
set_option linter.unusedSimpArgs false
set_option linter.unusedVariables false
namespace Go.Proofs.YtniohchnpfpffaaGreat.Pure
open Go.Vk Go.Am Go.Pg Go.Sort Go.Proofs.YtniohchnpfpffaaGreat.Y
theorem zuu{α:Type}(f:α→Int)(x:α): ∀(M:List α) (p:Nat) (h:p<M.length),zg2 ((M.set p x).map f)=zg2 (M.map f) - f M[p]+f x
 |y::M,0,h=>by simp[zg2];omega
 |y::M,p+1,h=>by
  have:=zuu f x M p (by simpa using h)
  simp only[List.set_cons_succ,List.map_cons,zg2,List.getElem_cons_succ]
  omega
structure Inv(m p:Nat)(j:Jn):Prop where
 per:j.2.1=(p:Int)
 p31:p≤31
 mov:j.2.2.2.length=p+1
 list:j.1.length≤m
 ent: ∀x∈j.1,chk x.1.1 x.1.2=0
 balB: ∀k,-((m:Int)*9007199254740992)≤bal j.2.2.1 k∧bal j.2.2.1 k≤(m:Int)*9007199254740992
 balM: ∀b∈j.2.2.2,∀k,-((m:Int)*9007199254740992)≤bal b k∧bal b k≤(m:Int)*9007199254740992
 sum: ∀k,zg2 (j.2.2.2.map (fun b=>bal b k))=bal j.2.2.1 k
 tot:zus j.2.2.1=0
 nod:(zet j.2.2.1).Nodup
 len:j.2.2.1.length≤m*1000
theorem Inv.le{m n p:Nat}{j:Jn}(h:Inv m p j)(hl:m≤n):Inv n p j:=by
 obtain⟨h1,h2,h3,h4,h5,h6,h7,h8,h9,h10,h11⟩:=h
 refine⟨h1,h2,h3,by omega,h5,fun k=> ?_,fun b hb k=> ?_,h8,h9,h10,Nat.le_trans h11 (Nat.mul_le_mul_right _ hl)⟩
 ·have:=h6 k;omega
 ·have:=h7 b hb k;omega
theorem inv_new:Inv 0 0 ([],(0,([],[[]]))):=by
 refine⟨rfl,by omega,rfl,by simp,by simp,fun k=> ?_,fun b hb k=> ?_,fun k=>rfl,rfl,List.nodup_nil,by simp⟩
 ·show _≤(0:Int)∧(0:Int)≤_;omega
 ·obtain rfl:b= []:=by simpa using hb
  show _≤(0:Int)∧(0:Int)≤_;omega
theorem zyt{m p:Nat}{j:Jn}(h:Inv m p j)(hm:m≤100)(e:Int×List Leg)(he:e.2.length≤1000): ∃r,journal_Journal_Post.f j e=some r∧Inv (m+1) p r.1:=by
 have hpm:p<j.2.2.2.length:=by rw[h.mov];omega
 rw[zqu j e p h.per hpm (by have:=h.list;omega) he]
 refine⟨_,rfl,?_⟩
 split
 ·exact h.le (by omega)
 ·rename_i hc
  have hc:chk e.1 e.2=0:=by omega
  split
  ·exact h.le (by omega)
  ·split
   ·exact h.le (by omega)
   ·obtain⟨c1,c2,c3,c4⟩:=zmt hc
    obtain⟨h1,h2,h3,h4,h5,h6,h7,h8,h9,h10,h11⟩:=h
    have hB: ∀k,-4611686018427387904≤bal j.2.2.1 k∧bal j.2.2.1 k≤4611686018427387904:=fun k=>by have:=h6 k;omega
    have hM: ∀k,-4611686018427387904≤bal j.2.2.2[p] k∧bal j.2.2.2[p] k≤4611686018427387904:=fun k=>by have:=h7 _ (List.getElem_mem hpm) k;omega
    obtain⟨b1,b2⟩:=zji e.2 j.2.2.1 c3 c2 hB
    obtain⟨m1,_⟩:=zji e.2 j.2.2.2[p] c3 c2 hM
    have hg:j.2.2.2.getD j.2.1.toNat []=j.2.2.2[p]:=by rw[h1,Int.toNat_natCast];simp[hpm]
    have ht:j.2.1.toNat=p:=by rw[h1,Int.toNat_natCast]
    refine⟨h1,h2,by simp[zcg,h3],by simp[zcg];omega,?_,fun k=> ?_,?_,fun k=> ?_,?_,zqc e.2 j.2.2.1 h10,?_⟩
    ·intro x hx
     rcases List.mem_append.1 hx with hx|hx
     ·exact h5 x hx
     ·obtain rfl:x=(e,j.2.1):=by simpa using hx
      exact hc
    ·have a:=h6 k
     have b:=b2 k
     show _≤bal (zdn j.2.2.1 e.2) k∧bal (zdn j.2.2.1 e.2) k≤_
     rw[b1 k];omega
    ·intro b hb k
     have hb':b∈j.2.2.2.set j.2.1.toNat (zdn (j.2.2.2.getD j.2.1.toNat []) e.2):=hb
     rw[hg,ht]at hb'
     rcases List.mem_or_eq_of_mem_set hb' with hb'|rfl
     ·have:=h7 b hb' k;omega
     ·have a:=h7 _ (List.getElem_mem hpm) k
      have b:=b2 k
      rw[m1 k];omega
    ·show zg2 ((j.2.2.2.set j.2.1.toNat (zdn (j.2.2.2.getD j.2.1.toNat []) e.2)).map _)=bal (zdn j.2.2.1 e.2) k
     rw[hg,ht,zuu _ _ _ p hpm,h8 k,b1 k,m1 k];omega
    ·show zus (zdn j.2.2.1 e.2)=0
     rw[zsy e.2 j.2.2.1 c2 c3 (fun x _=>hB x.1),h9,c4];rfl
    ·have:=zsz e.2 j.2.2.1
     show(zdn j.2.2.1 e.2).length≤_
     omega
end Go.Proofs.YtniohchnpfpffaaGreat.Pure
