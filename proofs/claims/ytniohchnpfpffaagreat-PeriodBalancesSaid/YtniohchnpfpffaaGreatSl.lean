/- Plain laws: what a look at all nodes' balances finds. No statement of its own. -/
import Derived.Test.YtniohchnpfpffaaGreatSg
set_option linter.unusedSimpArgs false
set_option linter.unusedVariables false
namespace Go.Proofs.YtniohchnpfpffaaGreat.Pure
open Go.Vk Go.Am Go.Pg Go.Sort Go.Proofs.YtniohchnpfpffaaGreat.Y
theorem zCa{p m:Nat}{j:Jn}(h:JI p m j)(a:Acc):journal_Journal_Moved.f (j.1,(j.2.1,(j.2.2.1,j.2.2.2))) a j.2.1=some (j,bal (zm4 j) a):=by
 have hp:=h.per
 have hm:=h.mov
 have hl:p<j.2.2.2.length:=by omega
 have hg:j.2.2.2[(j.2.1).toNat]? =some (zm4 j):=by
  unfold zm4
  rw[hp,Int.toNat_natCast,List.getD_eq_getElem?_getD,List.getElem?_eq_getElem hl]
  rfl
 have hset:j.2.2.2.set (j.2.1).toNat (zm4 j)=j.2.2.2:=by
  rw[hp,Int.toNat_natCast]at hg⊢
  obtain⟨h1,h2⟩:=List.getElem?_eq_some_iff.1 hg
  rw[←h2,List.set_getElem_self]
 unfold journal_Journal_Moved.f
 simp only
 rw[show decide (j.2.1<0)=false from decide_eq_false (by omega),Bool.not_false,cond_true,show decide (j.2.1≥(j.2.2.2.length:Int))=false from decide_eq_false (by omega),Option.bind_some,cond_false,show decide ((0:Int)≤j.2.1)=true from decide_eq_true (by omega),show decide (j.2.1< (j.2.2.2.length:Int))=true from decide_eq_true (by omega),Bool.and_self,cond_true,hg]
 simp only[znq]
 rw[hset]
 rfl
theorem zz6{c:Nat}{B:FB}{j:Jn}(h:BalI c B j)(n:Int): ∀k:Nat,-((k:Int)* ((c:Int)*9007199254740992))≤mvd (zm4 j) n k∧mvd (zm4 j) n k≤(k:Int)* ((c:Int)*9007199254740992)
 |0=>by simp[mvd]
 |k+1=>by
  have h1:=zz6 h n k
  have h2:=h.mb (4,n,(k:Int)+1)
  have e:(((k+1:Nat):Nat):Int)* ((c:Int)*9007199254740992)=(k:Int)* ((c:Int)*9007199254740992)+(c:Int)*9007199254740992:=by
   rw[Int.natCast_add,Int.add_mul];simp
  rw[e]
  simp only[mvd]
  omega
theorem zxr{p m c:Nat}{B:FB}{j:Jn}(hj:JI p m j)(h:BalI c B j)(hc:c≤100)(s6:Int×Unit×FB×Unit×Jn):
  za3 (purserlaw15_PeriodBalances.l7 s6) (0,1,(),j.1,j.2.1,j.2.2.1,j.2.2.2)=some (-(mvd (zm4 j) s6.1 8),(),j.1,j.2.1,j.2.2.1,j.2.2.2):=by
 refine zaq (fun i=>(-(mvd (zm4 j) s6.1 i),(((i+1:Nat):Nat):Int),(),j.1,j.2.1,j.2.2.1,j.2.2.2)) 8 (by simp[mvd]) (fun i hi=> ?_) ?_
 ·have h1:=zz6 h s6.1 (i+1)
  have h8:(((i+1:Nat):Nat):Int)* ((c:Int)*9007199254740992)≤8*900719925474099200:=Int.mul_le_mul (by omega) (by omega) (by omega) (by omega)
  unfold purserlaw15_PeriodBalances.l7
  simp only
  rw[show decide ((((i+1:Nat):Nat):Int)≤8)=true from decide_eq_true (by omega),cond_true]
  rw[show journal_Journal_Period.f (j.1,(j.2.1,(j.2.2.1,j.2.2.2)))=some (j,j.2.1)from rfl,Option.bind_some]
  simp only
  rw[zCa hj,Option.bind_some]
  simp only
  have e: -(mvd (zm4 j) s6.1 i) - bal (zm4 j) (4,(s6.1,(((i+1:Nat):Nat):Int)))= -(mvd (zm4 j) s6.1 (i+1)):=by
   simp only[mvd]
   rw[show(((i+1:Nat):Nat):Int)=(i:Int)+1 by omega]
   omega
  rw[e,wr _ (by omega) (by omega),wrS (i+1) (by omega)]
 ·unfold purserlaw15_PeriodBalances.l7
  simp only
  rw[show decide ((((8+1:Nat):Nat):Int)≤8)=false from rfl,cond_false]
theorem zwg{p m c N d:Nat}{B:FB}{j:Jn}{J:RJ}(hB:BOk B N)(hJ:JRel p m d j J)(h:BalI c B j)(hc:c≤100):
  za3 (purserlaw15_PeriodBalances.l6) (1,(),B,(),j.1,j.2.1,j.2.2.1,j.2.2.2)=some (.inr ((),B,(),j.1,j.2.1,j.2.2.1,j.2.2.2)):=by
 refine zaq (fun i=>((((i+1:Nat):Nat):Int),(),B,(),j.1,j.2.1,j.2.2.1,j.2.2.2)) 32 rfl (fun i hi=> ?_) ?_
 ·obtain⟨n,hn⟩: ∃n,n=(((i+1:Nat):Nat):Int):=⟨_,rfl⟩
  have hnr:1≤n∧n≤32:=by omega
  have hok:=hB.ok n
  have hle:=zem hok
  have hl0:=hok.left
  obtain⟨o1,o2,o3,o4,o5,o6,o7⟩:=hB.ok n
  have b2:=h.left n hnr
  have b3:=h.held n hnr
  have b4:=h.used n hnr
  unfold purserlaw15_PeriodBalances.l6
  simp only
  rw[←hn,decide_eq_true hnr.2,cond_true]
  rw[zxr hJ.ji h hc (n,(),B,(),j),Option.bind_some]
  simp only
  rw[show funds_Book_Get.f B n=some (B,geA B n)from rfl,Option.bind_some]
  simp only
  rw[zqn B n hok,Option.bind_some]
  rw[show journal_Journal_Balance.f (j.1,(j.2.1,(j.2.2.1,j.2.2.2))) (2,(n,0))=some (j,bal j.2.2.1 (2,n,0))from rfl,Option.bind_some]
  simp only
  rw[b2,show(0:Int) - -(zak (geA B n))=zak (geA B n)by omega,wr (zak (geA B n)) (by omega) (by omega),bne_self_eq_false,Bool.not_false,cond_true]
  rw[show journal_Journal_Balance.f (j.1,(j.2.1,(j.2.2.1,j.2.2.2))) (3,(n,0))=some (j,bal j.2.2.1 (3,n,0))from rfl,Option.bind_some]
  simp only
  rw[b3,b4,show(0:Int) - -((geA B n).2.2.2.2)=(geA B n).2.2.2.2 by omega,wr ((geA B n).2.2.2.2) (by omega) (by omega),bne_self_eq_false,Bool.not_false,cond_true,show -(-((geA B n).2.2.2.1))=(geA B n).2.2.2.1 by omega,bne_self_eq_false,Bool.not_false,cond_true]
  rw[show decide ((geA B n).2.2.2.2<0)=false from decide_eq_false (by omega),Bool.not_false,cond_true,zqn B n hok,Option.bind_some]
  simp only
  rw[show decide (zak (geA B n)<0)=false from decide_eq_false (by omega),Option.bind_some]
  simp only
  rw[cond_false,hn,wrS (i+1) (by omega)]
 ·unfold purserlaw15_PeriodBalances.l6
  simp only
  rw[show decide ((((32+1:Nat):Nat):Int)≤32)=false from rfl,cond_false]
end Go.Proofs.YtniohchnpfpffaaGreat.Pure
