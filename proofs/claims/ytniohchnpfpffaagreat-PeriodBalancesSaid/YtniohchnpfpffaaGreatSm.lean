/- Plain laws: what a trial tells of a purse's journal. No statement of its own. -/
import Derived.Test.YtniohchnpfpffaaGreatSl
set_option linter.unusedSimpArgs false
set_option linter.unusedVariables false
namespace Go.Proofs.YtniohchnpfpffaaGreat.Pure
open Go.Vk Go.Am Go.Pg Go.Sort Go.Proofs.YtniohchnpfpffaaGreat.Y
theorem zw0(j:Jn)(s2:List Int×List Int×Int)(x:Ps)(hx:j.1.getD s2.2.2.toNat ((0,[]),0)=x)(hl:x.1.2.length≤1000)(D C:List Int)(hd:D.length≤1000000)(hc:C.length≤1000000):
  za3 (journal_Journal_Trial.l4 j s2) (D,C,0)=some (D++x.1.2.map zvh,C++x.1.2.map zu5):=by
 have hx':((j.1.getD s2.2.2.toNat ((0,[]),0)).1).2=x.1.2:=by rw[hx]
 refine zaq (fun i=>(D++(x.1.2.take i).map zvh,C++(x.1.2.take i).map zu5,(i:Int))) x.1.2.length ?_ (fun i hi=> ?_) ?_
 ·simp
 ·unfold journal_Journal_Trial.l4
  simp only
  rw[hx',ilt hi,nn,cond_true,Bool.and_self,cond_true,at_ x.1.2 i hi,wrS i (by omega)]
  have hli:(x.1.2.take i).length=i:=by simp;omega
  have e1: ∀v:Int,decide ((D++(x.1.2.take i).map zvh).length+([v]:List Int).length≤1099511627776)=true:=fun v=>by
   rw[List.length_append,List.length_map,hli];simp;omega
  have e2: ∀v:Int,decide ((C++(x.1.2.take i).map zu5).length+([v]:List Int).length≤1099511627776)=true:=fun v=>by
   rw[List.length_append,List.length_map,hli];simp;omega
  rw[e1,e2,cond_true,cond_true]
  have ht:x.1.2.take (i+1)=x.1.2.take i++ [x.1.2[i]]:=by rw[List.take_add_one,List.getElem?_eq_getElem hi];rfl
  rw[ht,List.map_append,List.map_append,←List.append_assoc,←List.append_assoc]
  rfl
 ·unfold journal_Journal_Trial.l4
  simp only
  rw[hx',ige,cond_false,List.take_length]
theorem zvz(j:Jn)(q:Int)(hL:j.1.length≤3000)(hl: ∀x∈j.1,x.1.2.length≤100):
  za3 (journal_Journal_Trial.l2 j q) ([],[],0)=some ((sel q j.1).map zvh,(sel q j.1).map zu5):=by
 have hlen: ∀L:List Ps,(∀x∈L,x.1.2.length≤100)→(sel q L).length≤100*L.length:=by
  intro L
  induction L with
  |nil=>intro _;simp[sel]
  |cons x L ih=>
   intro h
   have h1:=h x (by simp)
   have h2:=ih fun y hy=>h y (by simp[hy])
   unfold sel at h2⊢
   rw[List.filter_cons]
   split
   ·rw[List.flatMap_cons,List.length_append,List.length_cons];omega
   ·rw[List.length_cons];omega
 refine zaq (fun i=>((sel q (j.1.take i)).map zvh,(sel q (j.1.take i)).map zu5,(i:Int))) j.1.length ?_ (fun i hi=> ?_) ?_
 ·simp[sel]
 ·have hx:j.1.getD (i:Int).toNat ((0,[]),0)=j.1[i]:=at_ j.1 i hi _
  have hxl:=hl j.1[i] (List.getElem_mem hi)
  have hsl:=hlen (j.1.take i) (fun x hx=>hl x (List.mem_of_mem_take hx))
  have htl:(j.1.take i).length=i:=by simp;omega
  rw[htl]at hsl
  have hlp:=zw0 j ((sel q (j.1.take i)).map zvh,(sel q (j.1.take i)).map zu5,(i:Int)) j.1[i] hx (by omega) ((sel q (j.1.take i)).map zvh) ((sel q (j.1.take i)).map zu5) (by rw[List.length_map];omega) (by rw[List.length_map];omega)
  have ht:sel q (j.1.take (i+1))=sel q (j.1.take i)++(bif inP q j.1[i]then j.1[i].1.2 else []):=by
   rw[List.take_add_one,List.getElem?_eq_getElem hi]
   unfold sel
   rw[List.filter_append,List.flatMap_append]
   congr 1
   simp only[Option.toList,List.filter_cons,List.filter_nil]
   cases inP q j.1[i]<;>simp
  unfold journal_Journal_Trial.l2
  simp only
  rw[ilt hi,nn,cond_true,Bool.and_self,cond_true,hx,wrS i (by omega),hlp,ht]
  unfold inP
  cases hq:(q != -1)with
  |false=>simp
  |true=>
   cases hp:(j.1[i].2 !=q)with
   |true=>simp
   |false=>simp
 ·unfold journal_Journal_Trial.l2
  simp only
  rw[ige,cond_false,List.take_length]
theorem zBh(j:Jn)(q:Int)(hq: -1≤q)(hq2:q≤j.2.1)(hL:j.1.length≤3000)(hl: ∀x∈j.1,x.1.2.length≤100)(ha: ∀x∈j.1,∀l∈x.1.2,-9007199254740992≤l.2∧l.2≤9007199254740992)(hs:zbm ((sel q j.1).map zvh)=zbm ((sel q j.1).map zu5)):
  ∃a e,journal_Journal_Trial.f j q=some (j,(a,a,e))∧(e=0∨e=6):=by
 have hin: ∀l∈sel q j.1,-9007199254740992≤l.2∧l.2≤9007199254740992:=by
  intro l h
  unfold sel at h
  obtain⟨x,h1,h2⟩:=List.mem_flatMap.1 h
  exact ha x (List.mem_filter.1 h1).1 l h2
 have hlen:(sel q j.1).length≤1048576:=by
  have: ∀L:List Ps,(∀x∈L,x.1.2.length≤100)→(sel q L).length≤100*L.length:=by
   intro L
   induction L with
   |nil=>intro _;simp[sel]
   |cons x L ih=>
    intro h
    have h1:=h x (by simp)
    have h2:=ih fun y hy=>h y (by simp[hy])
    unfold sel at h2⊢
    rw[List.filter_cons]
    split
    ·rw[List.flatMap_cons,List.length_append,List.length_cons];omega
    ·rw[List.length_cons];omega
  have:=this j.1 hl
  omega
 have e1: ∀x∈(sel q j.1).map zvh,-9223372036854775808≤x∧x≤9223372036854775807:=by
  intro x h
  obtain⟨l,h1,rfl⟩:=List.mem_map.1 h
  have:=hin l h1
  unfold zvh
  split<;>omega
 have e2: ∀x∈(sel q j.1).map zu5,-9223372036854775808≤x∧x≤9223372036854775807:=by
  intro x h
  obtain⟨l,h1,rfl⟩:=List.mem_map.1 h
  have:=hin l h1
  unfold zu5
  rw[wr (0 - l.2) (by omega) (by omega)]
  split<;>omega
 unfold journal_Journal_Trial.f
 have d1:decide (q< -1)=false:=by simp;omega
 have d2:decide (q >j.2.1)=false:=by simp;omega
 rw[d1,d2,zvz j q hL hl]
 simp only[Bool.not_false,cond_true,Option.bind_some,cond_false]
 rw[sum_eq _ (by rw[List.length_map];exact hlen) e1,sum_eq _ (by rw[List.length_map];exact hlen) e2,hs]
 simp only[Option.bind_some]
 generalize FI (zbm ((sel q j.1).map zu5))=r
 obtain⟨a,b⟩:=r
 cases b with
 |true=>exact⟨a,0,rfl,.inl rfl⟩
 |false=>exact⟨0,6,rfl,.inr rfl⟩
theorem zxy{p m d:Nat}{j:Jn}{J:RJ}(h:JRel p m d j J)(hm:m≤3000): ∃a e,journal_Journal_Trial.f (j.1,(j.2.1,(j.2.2.1,j.2.2.2))) (-1)=some (j,(a,a,e))∧(e=0∨e=6):=by
 have hin: ∀x∈j.1,x.1.2.length≤100∧∀l∈x.1.2,-9007199254740992≤l.2∧l.2≤9007199254740992:=fun x hx=>by
  obtain⟨h1,h2,_,_⟩:=zkn (h.ent x hx)
  exact⟨by omega,h2⟩
 have hs:zbm ((sel (-1) j.1).map zvh)=zbm ((sel (-1) j.1).map zu5):=by
  have h1:=zyd (-1) j.1 h.ent
  have h2:=zAh (sel (-1) j.1) fun l hl=>by
   unfold sel at hl
   obtain⟨x,x1,x2⟩:=List.mem_flatMap.1 hl
   exact(hin x (List.mem_filter.1 x1).1).2 l x2
  omega
 have hp:=h.ji.per
 have hl:=h.ji.list
 exact zBh j (-1) (by omega) (by omega) (by omega) (fun x hx=>(hin x hx).1) (fun x hx=>(hin x hx).2) hs
end Go.Proofs.YtniohchnpfpffaaGreat.Pure
