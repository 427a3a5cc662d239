/- Plain laws of the journal: what a trial tells. No statement of its own. -/
import Derived.Test.YtniohchnpfpffaaGreatJb
set_option linter.unusedSimpArgs false
set_option linter.unusedVariables false
namespace Go.Proofs.YtniohchnpfpffaaGreat.Pure
open Go.Vk Go.Am Go.Pg Go.Sort Go.Proofs.YtniohchnpfpffaaGreat.Y
abbrev Ps:=(Int×List Leg)×Int
def zmf(l:Leg):Int:=if(0:Int)>l.2 then 0 else l.2
def zmi(l:Leg):Int:=if(0:Int)>(IntKind.i64.wrap (0 - l.2))then 0 else(IntKind.i64.wrap (0 - l.2))
def inP(q:Int)(x:Ps):Bool:=bif (q != -1)then !(x.2 !=q)else true
theorem zsv(j:Jn)(s2:List Int×List Int×Int)(x:Ps)(hx:j.1.getD s2.2.2.toNat ((0,[]),0)=x)(hl:x.1.2.length≤1000)(D C:List Int)(hd:D.length≤1000000)(hc:C.length≤1000000):
  zab (journal_Journal_Trial.l4 j s2) (D,C,0)=some (D++x.1.2.map zmf,C++x.1.2.map zmi):=by
 have hx':((j.1.getD s2.2.2.toNat ((0,[]),0)).1).2=x.1.2:=by rw[hx]
 refine zb9 (fun i=>(D++(x.1.2.take i).map zmf,C++(x.1.2.take i).map zmi,(i:Int))) x.1.2.length ?_ (fun i hi=> ?_) ?_
 ·simp
 ·unfold journal_Journal_Trial.l4
  simp only
  rw[hx',ilt hi,nn,cond_true,Bool.and_self,cond_true,at_ x.1.2 i hi,wrS i (by omega)]
  have hli:(x.1.2.take i).length=i:=by simp;omega
  have e1: ∀v:Int,decide ((D++(x.1.2.take i).map zmf).length+([v]:List Int).length≤1099511627776)=true:=fun v=>by
   rw[List.length_append,List.length_map,hli];simp;omega
  have e2: ∀v:Int,decide ((C++(x.1.2.take i).map zmi).length+([v]:List Int).length≤1099511627776)=true:=fun v=>by
   rw[List.length_append,List.length_map,hli];simp;omega
  rw[e1,e2,cond_true,cond_true]
  have ht:x.1.2.take (i+1)=x.1.2.take i++ [x.1.2[i]]:=by rw[List.take_add_one,List.getElem?_eq_getElem hi];rfl
  rw[ht,List.map_append,List.map_append,←List.append_assoc,←List.append_assoc]
  rfl
 ·unfold journal_Journal_Trial.l4
  simp only
  rw[hx',ige,cond_false,List.take_length]
def sel(q:Int)(L:List Ps):List Leg:=(L.filter (inP q)).flatMap (fun x=>x.1.2)
theorem zsu(j:Jn)(q:Int)(hL:j.1.length≤1000)(hl: ∀x∈j.1,x.1.2.length≤100):
  zab (journal_Journal_Trial.l2 j q) ([],[],0)=some ((sel q j.1).map zmf,(sel q j.1).map zmi):=by
 have hlen: ∀L:List Ps,(∀x∈L,x.1.2.length≤100)→(sel q L).length≤100*L.length:=by
  intro L
  induction L with
  |nil=>intro _;simp[sel]
  |cons x L ih=>
   intro h
   have h1:=h x (by simp)
   have h2:=ih fun y hy=>h y (by simp[hy])
   unfold sel at h2⊢
   rw[List.filter_cons]
   split
   ·rw[List.flatMap_cons,List.length_append,List.length_cons];omega
   ·rw[List.length_cons];omega
 refine zb9 (fun i=>((sel q (j.1.take i)).map zmf,(sel q (j.1.take i)).map zmi,(i:Int))) j.1.length ?_ (fun i hi=> ?_) ?_
 ·simp[sel]
 ·have hx:j.1.getD (i:Int).toNat ((0,[]),0)=j.1[i]:=at_ j.1 i hi _
  have hxl:=hl j.1[i] (List.getElem_mem hi)
  have hsl:=hlen (j.1.take i) (fun x hx=>hl x (List.mem_of_mem_take hx))
  have htl:(j.1.take i).length=i:=by simp;omega
  rw[htl]at hsl
  have hlp:=zsv j ((sel q (j.1.take i)).map zmf,(sel q (j.1.take i)).map zmi,(i:Int)) j.1[i] hx (by omega) ((sel q (j.1.take i)).map zmf) ((sel q (j.1.take i)).map zmi) (by rw[List.length_map];omega) (by rw[List.length_map];omega)
  have ht:sel q (j.1.take (i+1))=sel q (j.1.take i)++(bif inP q j.1[i]then j.1[i].1.2 else []):=by
   rw[List.take_add_one,List.getElem?_eq_getElem hi]
   unfold sel
   rw[List.filter_append,List.flatMap_append]
   congr 1
   simp only[Option.toList,List.filter_cons,List.filter_nil]
   cases inP q j.1[i]<;>simp
  unfold journal_Journal_Trial.l2
  simp only
  rw[ilt hi,nn,cond_true,Bool.and_self,cond_true,hx,wrS i (by omega),hlp,ht]
  unfold inP
  cases hq:(q != -1)with
  |false=>simp
  |true=>
   cases hp:(j.1[i].2 !=q)with
   |true=>simp
   |false=>simp
 ·unfold journal_Journal_Trial.l2
  simp only
  rw[ige,cond_false,List.take_length]
end Go.Proofs.YtniohchnpfpffaaGreat.Pure
