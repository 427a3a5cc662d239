/- What the journal says of nodes' usage: the program's Net,in plain words. No statement of its own. -/
import Derived.Test.YtfcgafnmlkiimaaGreatDoorNe
import Derived.Test.YtfcgafnmlkiimaaGreatDoorRb
set_option linter.unusedSimpArgs false
set_option linter.unusedVariables false
namespace Go.Proofs.YtfcgafnmlkiimaaGreatDoor.Pure
open Go.Vk Go.Am Go.Pg Go.Sort Go.Proofs.YtfcgafnmlkiimaaGreatDoor.Y
theorem index_loop(l:List Int)(x:Int)(hl:l.length≤1000000): ∀(n i:Nat),i+n=l.length→
  (x∈l.drop i→∃k:Nat,loopO (slices_Index___int_int.l1 l x) (i:Int)=some (.inl (k:Int)))∧(x∉l.drop i→loopO (slices_Index___int_int.l1 l x) (i:Int)=some (.inr ()))
 |0,i,h=>by
  have e:loopO (slices_Index___int_int.l1 l x) (i:Int)=some (.inr ()):=by
   rw[loopO_eq]
   unfold slices_Index___int_int.l1
   rw[show l.length=i by omega,ige]
   rfl
  exact⟨fun hx=>by rw[List.drop_of_length_le (by omega)]at hx;simp at hx,fun _=>e⟩
 |n+1,i,h=>by
  have hi:i<l.length:=by omega
  obtain⟨h1,h2⟩:=index_loop l x hl n (i+1) (by omega)
  have hd:l.drop i=l[i]::l.drop (i+1):=List.drop_eq_getElem_cons hi
  have hs:slices_Index___int_int.l1 l x (i:Int)=if x=l[i]then some (.inr (.inl (i:Int)))else some (.inl (((i+1:Nat):Nat):Int)):=by
   unfold slices_Index___int_int.l1
   rw[ilt hi,nn,Bool.and_self,cond_true,cond_true,at_ l i hi,wrS i (by omega)]
   by_cases hx:x=l[i]
   ·rw[if_pos hx,show(x==l[i])=true by simp[hx]];rfl
   ·rw[if_neg hx,show(x==l[i])=false by simp[hx]];rfl
  rw[hd,loopO_eq,hs]
  by_cases hx:x=l[i]
  ·rw[if_pos hx]
   exact⟨fun _=>⟨i,rfl⟩,fun hn=>absurd (List.mem_cons.2 (.inl hx)) hn⟩
  ·rw[if_neg hx]
   simp only[Option.bind_some]
   exact⟨fun hm=>h1 (by rcases List.mem_cons.1 hm with h|h;exact absurd h hx;exact h),fun hm=>h2 (fun h=>hm (List.mem_cons.2 (.inr h)))⟩
theorem contains_eq(l:List Int)(x:Int)(hl:l.length≤1000000):slices_Contains___int_int.f l x=some (decide (x∈l)):=by
 obtain⟨h1,h2⟩:=index_loop l x hl l.length 0 (by omega)
 unfold slices_Contains___int_int.f slices_Index___int_int.f
 by_cases h:x∈l
 ·obtain⟨k,hk⟩:=h1 h
  rw[show((0:Nat):Int)=0 from rfl]at hk
  rw[hk,decide_eq_true h]
  simp
 ·have hk:=h2 h
  rw[show((0:Nat):Int)=0 from rfl]at hk
  rw[hk,decide_eq_false h]
  rfl
/-! ### the entries -/
def zCmN(n a g:Int):List Leg:= [((3,n,0),a),((4,n,g),-a)]
def zRfN(n a g:Int):List Leg:= [((2,n,0),-a),((4,n,g),a)]
theorem nodeR3(n:Int)(h:1≤n∧n≤32):rightB (3,n,0)=true:=by
 unfold rightB nodeB
 simp;omega
theorem path1(n:Int):pathB [n]=true:=by unfold pathB;simp
theorem cComN(n a g:Int)(hn:1≤n∧n≤32)(ha:1≤a∧a≤1000000)(hg:1≤g∧g≤8):chk 4 (zCmN n a g)=0:=chk2 (by omega) a ha (nodeR3 n hn) (grpR n g hn hg) (by simp[ltA]) rfl rfl
theorem mComN(n a g:Int)(hn:1≤n∧n≤32)(ha:1≤a∧a≤1000000)(hg:1≤g∧g≤8):entry_Make.f 4 a [n] g=some ((4,zCmN n a g),0):=by
 refine make_good (zCmN n a g) (by omega) ⟨by omega,by omega,path1 n⟩ ?_ ?_ (cComN n a g hn ha hg)
 ·have:legsOf 4 a g [n]=zCmN n a g:=by
   show [((3,n,0),a),((4,n,g),neg a)]=_
   rw[negI a (by omega)]
   rfl
  rw[this]
 ·simp[zCmN,ltA]
theorem chkR(n a g:Int)(hn:1≤n∧n≤32)(ha:1≤a∧a≤1000000)(hg:1≤g∧g≤8):chk 6 (zRfN n a g)=0:=by
 refine chk_of (by omega) (by simp[zRfN]) ?_ ?_
 ·simp only[zRfN,chkL]
  rw[leg_ok0 (nodeR n hn) (by simp;omega) (by simp;omega),leg_ok1 (grpR n g hn hg) (by simp;omega) (by simp;omega) (by simp[ltA])]
  simp
 ·simp only[zRfN,wsum]
  rw[wr (0+ -a) (by omega) (by omega),wr (0+ -a+a) (by omega) (by omega)]
  omega
theorem mRefN(n a g:Int)(hn:1≤n∧n≤32)(ha:1≤a∧a≤1000000)(hg:1≤g∧g≤8):entry_Make.f 6 a [n] g=some ((6,zRfN n a g),0):=by
 refine make_good (zRfN n a g) (by omega) ⟨by omega,by omega,path1 n⟩ ?_ ?_ (chkR n a g hn ha hg)
 ·have:legsOf 6 a g [n]= [((4,n,g),a),((2,n,0),-a)]:=by
   show [((4,n,g),a),((2,n,0),neg a)]=_
   rw[negI a (by omega)]
  rw[this]
  exact .swap _ _ _
 ·simp[zRfN,ltA]
theorem atK_com(n a g m h:Int):atK (4,m,h) (zCmN n a g)=if m=n∧h=g then -a else 0:=by
 unfold atK zCmN
 by_cases hm:m=n∧h=g
 ·obtain⟨rfl,rfl⟩:=hm
  simp[sumL]
 ·rw[if_neg hm]
  have: ¬(((4,n,g):Acc)=(4,m,h)):=fun e=>hm (by simp only[Prod.mk.injEq]at e;omega)
  simp[sumL,List.filter_cons,this]
theorem atK_ref(n a g m h:Int):atK (4,m,h) (zRfN n a g)=if m=n∧h=g then a else 0:=by
 unfold atK zRfN
 by_cases hm:m=n∧h=g
 ·obtain⟨rfl,rfl⟩:=hm
  simp[sumL]
 ·rw[if_neg hm]
  have: ¬(((4,n,g):Acc)=(4,m,h)):=fun e=>hm (by simp only[Prod.mk.injEq]at e;omega)
  simp[sumL,List.filter_cons,this]
/-! ### what is moved,within a period -/
def mvd(q:Int)(l:List Ps)(n g:Int):Int:=if 0≤q then sumM (4,n,g) q l else 0
theorem moved_any{p m:Nat}{j:Jn}(h:JJ p m j)(n g:Int)(q:Int):journal_Journal_Moved.f j (4,n,g) q=some (j,mvd q j.1 n g):=by
 unfold mvd
 by_cases hq:0≤q
 ·rw[if_pos hq];exact own_moved_j h _ q hq
 ·rw[if_neg hq]
  unfold journal_Journal_Moved.f
  have:decide (q<0)=true:=decide_eq_true (by omega)
  simp[this]
theorem mvd_bnd{p m:Nat}{j:Jn}(h:JJ p m j)(q n g:Int): -((m:Int)*9007199254740992)≤mvd q j.1 n g∧mvd q j.1 n g≤(m:Int)*9007199254740992:=by
 unfold mvd
 split
 ·exact h.bnd _ _
 ·omega
def rowN(q:Int)(l:List Ps)(n:Int):List Int:=(List.range 8).map fun g:Nat=> -(mvd q l n ((g:Int)+1))
def uniq(ns:List Int):Nat→List Int
 |0=> []
 |i+1=>uniq ns i++(if ns.getD i 0∈ns.take i then []else [ns.getD i 0])
def allN(q:Int)(l:List Ps)(ns:List Int)(i:Nat):List Int:=(uniq ns i).flatMap (rowN q l)
theorem uniq_len(ns:List Int): ∀i,(uniq ns i).length≤i
 |0=>by simp[uniq]
 |i+1=>by
  have:=uniq_len ns i
  simp only[uniq,List.length_append]
  split<;>simp<;>omega
theorem rowN_len(q:Int)(l:List Ps)(n:Int):(rowN q l n).length=8:=by simp[rowN]
theorem allN_len(q:Int)(l:List Ps)(ns:List Int)(i:Nat):(allN q l ns i).length≤8*i:=by
 have:=flatL (rowN q l) 8 (fun x=>by rw[rowN_len];omega) (uniq ns i)
 have h2:=uniq_len ns i
 unfold allN
 omega
theorem mem_take{ns:List Int}{x:Int}: ∀i,i≤ns.length→(x∈uniq ns i↔x∈ns.take i)
 |0,_=>by simp[uniq]
 |i+1,h=>by
  have ih:=mem_take (ns:=ns) (x:=x) i (by omega)
  have hi:i<ns.length:=by omega
  have e:ns.getD i 0=ns[i]:=by simp[hi]
  rw[List.take_succ_eq_append_getElem hi,List.mem_append,List.mem_singleton,uniq,List.mem_append,ih,e]
  split
  ·rename_i hm
   constructor
   ·rintro(h|h)
    ·exact .inl h
    ·simp at h
   ·rintro(h|rfl)
    ·exact .inl h
    ·exact .inl hm
  ·simp
theorem uniq_nodup(ns:List Int): ∀i,i≤ns.length→(uniq ns i).Nodup
 |0,_=>by simp[uniq]
 |i+1,h=>by
  have ih:=uniq_nodup ns i (by omega)
  rw[uniq]
  split
  ·simpa using ih
  ·rename_i hm
   rw[List.nodup_append]
   refine⟨ih,by simp,fun a ha b hb=> ?_⟩
   rw[List.mem_singleton]at hb
   subst hb
   intro e
   subst e
   exact hm ((mem_take i (by omega)).1 ha)
theorem net_row{p m:Nat}{j:Jn}(h:JJ p m j)(hm:m≤100)(ns:List Int)(q:Int)(s1:List Int×Int×Unit×List Ps×Int×Bk×List Bk)(i:Nat)(hi:i<ns.length)(hs:s1.2.1=(i:Int))(A:List Int)(hA:A.length≤100000):
  loopO (invoice_Net.l3 ns q s1) (A,0,(),j.1,j.2.1,j.2.2.1,j.2.2.2)=some (A++rowN q j.1 ns[i],(),j.1,j.2.1,j.2.2.1,j.2.2.2):=by
 refine loop_up (fun g:Nat=>(A++((List.range g).map fun g:Nat=> -(mvd q j.1 ns[i] ((g:Int)+1))),(g:Int),(),j.1,j.2.1,j.2.2.1,j.2.2.2)) 8 (by simp) (fun g hg=> ?_) ?_
 ·unfold invoice_Net.l3
  have h8:decide ((g:Int)<8)=true:=decide_eq_true (by omega)
  have hb:=mvd_bnd h q ns[i] ((g:Int)+1)
  simp only[h8,cond_true,hs,at_ ns i hi,wrS g (by omega)]
  rw[show((g+1:Nat):Int)=(g:Int)+1 from rfl]
  rw[show((j.1,(j.2.1,(j.2.2.1,j.2.2.2))):Jn)=j from rfl,moved_any h]
  simp only[Option.bind_some]
  rw[wr (0 - mvd q j.1 ns[i] ((g:Int)+1)) (by omega) (by omega)]
  have hlen:decide ((A++((List.range g).map fun g:Nat=> -(mvd q j.1 ns[i] ((g:Int)+1)))).length+([0 - mvd q j.1 ns[i] ((g:Int)+1)]:List Int).length≤1099511627776)=true:=decide_eq_true (by simp;omega)
  rw[hlen,cond_true,List.range_succ,List.map_append,List.append_assoc]
  simp
 ·unfold invoice_Net.l3
  rw[show decide (((8:Nat):Int)<8)=false by decide,cond_false]
  rfl
theorem own_net{p m:Nat}{j:Jn}(h:JJ p m j)(hm:m≤100)(ns:List Int)(hn:ns.length≤100)(q:Int):
  invoice_Net.f j ns q=some (j,FI (sumL (allN q j.1 ns ns.length))):=by
 unfold invoice_Net.f
 rw[loop_up (f:=invoice_Net.l1 ns q) (s0:=([],0,(),j.1,j.2.1,j.2.2.1,j.2.2.2)) (fun i:Nat=>(allN q j.1 ns i,(i:Int),(),j.1,j.2.1,j.2.2.1,j.2.2.2)) ns.length (b:=(allN q j.1 ns ns.length,(),j.1,j.2.1,j.2.2.1,j.2.2.2)) rfl (fun i hi=> ?_) ?_]
 ·simp only[Option.bind_some]
  have hl:=allN_len q j.1 ns ns.length
  rw[sum_eq _ (by omega) (fun x hx=> ?_)]
  ·rfl
  ·unfold allN at hx
   obtain⟨n,_,hx⟩:=List.mem_flatMap.1 hx
   unfold rowN at hx
   obtain⟨g,_,rfl⟩:=List.mem_map.1 hx
   have:=mvd_bnd h q n ((g:Int)+1)
   omega
 ·unfold invoice_Net.l1
  rw[ige,cond_false]
 ·unfold invoice_Net.l1
  simp only[ilt hi,nn,Bool.and_self,cond_true]
  have hil:decide ((i:Int)≤(ns.length:Int))=true:=decide_eq_true (by omega)
  have h00:decide ((0:Int)≤0)=true:=rfl
  rw[hil,h00]
  simp only[Bool.and_self,cond_true]
  have ht:(ns.take ((i:Int)).toNat).drop (0:Int).toNat=ns.take i:=rfl
  rw[ht,at_ ns i hi,contains_eq _ _ (by simp;omega)]
  simp only[Option.bind_some,wrS i (by omega)]
  have e:ns.getD i 0=ns[i]:=by simp[hi]
  by_cases hc:ns[i]∈ns.take i
  ·rw[decide_eq_true hc,cond_true]
   simp only[Option.bind_some]
   have:allN q j.1 ns (i+1)=allN q j.1 ns i:=by unfold allN;rw[uniq,e,if_pos hc,List.append_nil]
   rw[this]
  ·rw[decide_eq_false hc,cond_false]
   have hr:=net_row h hm ns q (allN q j.1 ns i,(i:Int),(),j.1,j.2.1,j.2.2.1,j.2.2.2) i hi rfl (allN q j.1 ns i) (by have:=allN_len q j.1 ns i;omega)
   rw[hr]
   simp only[Option.bind_some]
   have:allN q j.1 ns (i+1)=allN q j.1 ns i++rowN q j.1 ns[i]:=by unfold allN;rw[uniq,e,if_neg hc,List.flatMap_append];simp
   rw[this]
end Go.Proofs.YtfcgafnmlkiimaaGreatDoor.Pure
