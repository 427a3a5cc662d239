/- Plain laws of the journal: accounts,moves,a job's entry,and what every journal keeps. No statement of its own. -/
import Derived.Test.YtniohchnpfpffaaGreatJd
import Derived.Test.YtniohchnpfpffaaGreatEj
set_option linter.unusedSimpArgs false
set_option linter.unusedVariables false
namespace Go.Proofs.YtniohchnpfpffaaGreat.Pure
open Go.Vk Go.Am Go.Pg Go.Sort Go.Proofs.YtniohchnpfpffaaGreat.Y
theorem acc1_eq(a b:Acc):journal_Journal_Accounts_1.f a b=some (zqo a b):=by
 unfold journal_Journal_Accounts_1.f zqo
 simp only[zic,Option.bind_some,or_eq]
theorem swoA:SWO (Go.Proofs.ltOf zqo):=by
 refine⟨fun x=> ?_,fun x y z h1 h2=> ?_,fun x y z h1 h2=> ?_⟩
 ·simp only[Go.Proofs.ltOf,decide_eq_false_iff_not,zcl];exact zbq _
 ·simp only[Go.Proofs.ltOf,decide_eq_true_eq,zcl]at*;exact zd4 h1 h2
 ·simp only[Go.Proofs.ltOf,decide_eq_false_iff_not,zcl]at*
  unfold ltA at*
  omega
theorem sortA(xs:List Acc)(hl:xs.length<4611686018427387904):
  ∃ys,zji (T:=KA) journal_Journal_Accounts_1.f xs=some ys∧ys.Perm xs∧ys.Pairwise (fun a b=> ¬ltA b a):=by
 obtain⟨ys,h1,h2,h3⟩:=zhp (T:=KA) (f:=journal_Journal_Accounts_1.f) (xs:=xs) zqo acc1_eq swoA hl
 refine⟨ys,h1,h2,h3.imp fun{a b} h=> ?_⟩
 simpa only[Go.Proofs.ltOf,decide_eq_false_iff_not,zcl]using h
theorem zur{ys zs:List Acc}(hp:ys.Perm zs)(hs:ys.Pairwise (fun x y=> ¬ltA y x))(hz:zs.Pairwise (fun x y=> ¬ltA y x)):ys=zs:=by
 refine List.Perm.eq_of_pairwise (le:=fun x y:Acc=> ¬ltA y x) ?_ hs hz hp
 intro x y _ _ h1 h2
 rcases zn7 x y with h|h|h
 ·exact absurd h h2
 ·exact absurd h h1
 ·exact h
theorem zyj(B:Bk):(zbx B).length≤B.length:=by
 unfold zbx
 rw[List.length_map]
 exact List.length_filterMap_le _ _
theorem zyb(j:Jn)(a:Acc)(q:Nat)(hq:q<j.2.2.2.length):journal_Journal_Moved.f j a q=some (j,bal j.2.2.2[q] a):=by
 unfold journal_Journal_Moved.f
 have e1:decide ((q:Int)<0)=false:=by simp
 have e2:decide ((q:Int)≥(j.2.2.2.length:Int))=false:=by simp;omega
 have e3:j.2.2.2[((q:Nat):Int).toNat]? =some j.2.2.2[q]:=by rw[Int.toNat_natCast];exact List.getElem?_eq_getElem hq
 rw[e1,e2,e3,nn,ilt hq]
 simp only[Bool.not_false,cond_true,Option.bind_some,cond_false,Bool.and_self,zq5,Int.toNat_natCast,List.set_getElem_self]
 rfl
/-! ### a job's entry -/
structure Inv(m p:Nat)(j:Jn):Prop where
 per:j.2.1=(p:Int)
 p31:p≤31
 mov:j.2.2.2.length=p+1
 list:j.1.length≤m
 ent: ∀x∈j.1,chk x.1.1 x.1.2=0
 balB: ∀k,-((m:Int)*9007199254740992)≤bal j.2.2.1 k∧bal j.2.2.1 k≤(m:Int)*9007199254740992
 balM: ∀b∈j.2.2.2,∀k,-((m:Int)*9007199254740992)≤bal b k∧bal b k≤(m:Int)*9007199254740992
 sum: ∀k,zd9 (j.2.2.2.map (fun b=>bal b k))=bal j.2.2.1 k
 tot:totB j.2.2.1=0
 nod:(zbx j.2.2.1).Nodup
 len:j.2.2.1.length≤m*1000
theorem Inv.le{m n p:Nat}{j:Jn}(h:Inv m p j)(hl:m≤n):Inv n p j:=by
 obtain⟨h1,h2,h3,h4,h5,h6,h7,h8,h9,h10,h11⟩:=h
 refine⟨h1,h2,h3,by omega,h5,fun k=> ?_,fun b hb k=> ?_,h8,h9,h10,Nat.le_trans h11 (Nat.mul_le_mul_right _ hl)⟩
 ·have:=h6 k;omega
 ·have:=h7 b hb k;omega
end Go.Proofs.YtniohchnpfpffaaGreat.Pure
