/- The law InvoiceNets,in plain words: whatever the posts,the nodes and the period. No statement of its own. -/
import Derived.Test.YtfcgafnmlkiimaaGreatDoorYb
import Derived.Test.YtfcgafnmlkiimaaGreatDoorBc
set_option linter.unusedSimpArgs false
set_option linter.unusedVariables false
namespace Go.Proofs.YtfcgafnmlkiimaaGreatDoor.Pure
open Go.Vk Go.Am Go.Pg Go.Sort Go.Proofs.YtfcgafnmlkiimaaGreatDoor.Y
def nsE(a1:List Int):List Int:=([]:List Int)++((a1.take (if(8:Int)< (a1.length:Int)then 8 else(a1.length:Int)).toNat).drop (0:Int).toNat)
theorem nsE_len(a1:List Int):(nsE a1).length≤8:=by
 unfold nsE
 simp only[List.nil_append,List.length_drop,List.length_take]
 split<;>omega
def valV(x m:Int):Int:=IntKind.i64.wrap (1+IntKind.i64.wrap (Int.tmod (IntKind.u64.wrap x) m))
theorem in_loop(a0:List (Int×Int×Int×Bool))(a1:List Int)(s3:Int×Int×Unit×List Ps×Int×Bk×List Bk)(i:Nat)(hi:i<a0.length)(hs:s3.2.1=(i:Int)):
  loopO (purserlaw21_InvoiceNets.l10 a0 a1 s3) (false,0)=some (decide (valV a0[i].1 5∈nsE a1)):=by
 have e: ∀s10,purserlaw21_InvoiceNets.l10 a0 a1 s3 s10=bif decide (s10.2< ((nsE a1).length:Int))then(((bif !s10.1 then(bif (decide (0≤s10.2) && decide (s10.2< ((nsE a1).length:Int)))then(some (((nsE a1).getD s10.2.toNat 0)==valV ((a0.getD s3.2.1.toNat (0,(0,(0,false)))).1) 5))else none)else(some true)):Option (Bool)).bind fun e11=>some (.inl (e11,(IntKind.i64.wrap (s10.2+1)))))else(some (.inr s10.1)):=fun _=>rfl
 have hl:=nsE_len a1
 refine loop_up (fun k:Nat=>(decide (valV a0[i].1 5∈(nsE a1).take k),(k:Int))) (nsE a1).length (by simp) (fun k hk=> ?_) ?_
 ·rw[e]
  simp only[ilt hk,nn,Bool.and_self,cond_true,hs,at_ a0 i hi,at_ (nsE a1) k hk,wrS k (by omega)]
  have ht:(nsE a1).take (k+1)=(nsE a1).take k++ [(nsE a1)[k]]:=List.take_succ_eq_append_getElem hk
  by_cases hm:valV a0[i].1 5∈(nsE a1).take k
  ·have h2:valV a0[i].1 5∈(nsE a1).take (k+1):=by rw[ht];exact List.mem_append_left _ hm
   rw[decide_eq_true hm,decide_eq_true h2]
   rfl
  ·rw[decide_eq_false hm]
   simp only[Bool.not_false,cond_true,Option.bind_some]
   by_cases h3:(nsE a1)[k]=valV a0[i].1 5
   ·have h2:valV a0[i].1 5∈(nsE a1).take (k+1):=by rw[ht];exact List.mem_append_right _ (by simp[h3])
    rw[decide_eq_true h2,beq_iff_eq.2 h3]
   ·have h2: ¬valV a0[i].1 5∈(nsE a1).take (k+1):=by
     rw[ht,List.mem_append,List.mem_singleton]
     rintro(h|h)
     ·exact hm h
     ·exact h3 h.symm
    rw[decide_eq_false h2,beq_eq_false_iff_ne.2 h3]
 ·rw[e]
  simp only[ige,cond_false,List.take_length]
theorem sumL_zero: ∀l:List Int,(∀x∈l,x=0)→sumL l=0
 | [],_=>rfl
 |x::l,h=>by
  have h1:=h x (by simp)
  have h2:=sumL_zero l fun y hy=>h y (by simp[hy])
  simp only[sumL,h1,h2]
  rfl
def zeros(ns:List Int)(k:Nat):List Int:=(uniq ns k).flatMap fun _=>List.replicate 8 0
theorem zeros_len(ns:List Int)(k:Nat):(zeros ns k).length≤8*k:=by
 have:=flatL (fun _:Int=>List.replicate 8 (0:Int)) 8 (fun x=>by simp) (uniq ns k)
 have h2:=uniq_len ns k
 unfold zeros
 omega
theorem nil_row(A:List Int)(hA:A.length≤100000):loopO purserlaw21_InvoiceNets.l26 (A,0)=some (A++List.replicate 8 0):=by
 refine loop_up (fun g:Nat=>(A++List.replicate g 0,(g:Int))) 8 (by simp) (fun g hg=> ?_) ?_
 ·unfold purserlaw21_InvoiceNets.l26
  have h8:decide ((g:Int)<8)=true:=decide_eq_true (by omega)
  have hlen:decide ((A++List.replicate g 0).length+([0]:List Int).length≤1099511627776)=true:=decide_eq_true (by simp;omega)
  simp only[h8,hlen,cond_true,wrS g (by omega),List.append_assoc]
  rw[show List.replicate g (0:Int)++ [0]=List.replicate (g+1) 0 from(List.replicate_succ').symm]
 ·unfold purserlaw21_InvoiceNets.l26
  rw[show decide (((8:Nat):Int)<8)=false by decide,cond_false]
theorem nil_net(a1:List Int):loopO (purserlaw21_InvoiceNets.l24 a1) ([],0)=some (zeros (nsE a1) (nsE a1).length):=by
 have e: ∀s24,purserlaw21_InvoiceNets.l24 a1 s24=bif decide (s24.2< ((nsE a1).length:Int))then(bif (decide (0≤s24.2) && decide (s24.2< ((nsE a1).length:Int)))then(bif (decide ((0:Int)≤0) && (decide (0≤s24.2) && decide (s24.2≤((nsE a1).length:Int))))then((slices_Contains___int_int.f (((nsE a1).take s24.2.toNat).drop (0:Int).toNat) ((nsE a1).getD s24.2.toNat 0)).bind fun r25=>bif r25 then(some (.inl (s24.1,(IntKind.i64.wrap (s24.2+1)))))else((loopO (purserlaw21_InvoiceNets.l26) (s24.1,0)).bind fun e27=>some (.inl (e27,(IntKind.i64.wrap (s24.2+1))))))else none)else none)else(some (.inr s24.1)):=fun _=>rfl
 have hl:=nsE_len a1
 refine loop_up (fun k:Nat=>(zeros (nsE a1) k,(k:Int))) (nsE a1).length rfl (fun k hk=> ?_) ?_
 ·rw[e]
  have hil:decide ((k:Int)≤((nsE a1).length:Int))=true:=decide_eq_true (by omega)
  have h00:decide ((0:Int)≤0)=true:=rfl
  have ht:((nsE a1).take ((k:Int)).toNat).drop (0:Int).toNat=(nsE a1).take k:=rfl
  simp only[ilt hk,nn,hil,h00,Bool.and_self,cond_true]
  rw[ht,at_ (nsE a1) k hk,contains_eq _ _ (by simp;omega)]
  simp only[Option.bind_some,wrS k (by omega)]
  have eg:(nsE a1).getD k 0=(nsE a1)[k]:=by simp[hk]
  by_cases hc:(nsE a1)[k]∈(nsE a1).take k
  ·rw[decide_eq_true hc,cond_true]
   have:zeros (nsE a1) (k+1)=zeros (nsE a1) k:=by unfold zeros;rw[uniq,eg,if_pos hc,List.append_nil]
   rw[this]
  ·rw[decide_eq_false hc,cond_false,nil_row _ (by have:=zeros_len (nsE a1) k;omega)]
   have:zeros (nsE a1) (k+1)=zeros (nsE a1) k++List.replicate 8 0:=by unfold zeros;rw[uniq,eg,if_neg hc,List.flatMap_append];simp
   rw[this]
   rfl
 ·rw[e]
  simp only[ige,cond_false]
theorem step_eq(a0:List (Int×Int×Int×Bool))(a1:List Int)(q:Int)(i p:Nat)(w:Int)(j:Jn)(hi:i<a0.length)(h20:i<20)(hp:p≤i)(hJ:JJ p i j)(hw:w=tot q (nsE a1) j.1)(hb: -(1000* (i:Int))≤w∧w≤1000* (i:Int)):
  ∃(w':Int) (p':Nat) (j':Jn),purserlaw21_InvoiceNets.l3 a0 a1 q (w,(i:Int),(),j.1,j.2.1,j.2.2.1,j.2.2.2)=some (.inl (w',((i+1:Nat):Int),(),j'.1,j'.2.1,j'.2.2.1,j'.2.2.2))∧
   p'≤i+1∧JJ p' (i+1) j'∧w'=tot q (nsE a1) j'.1∧(-(1000* ((i+1:Nat):Int))≤w'∧w'≤1000* ((i+1:Nat):Int)):=by
 unfold purserlaw21_InvoiceNets.l3
 have h20d:decide ((i:Int)<20)=true:=decide_eq_true (by omega)
 simp only[ilt hi,h20d,nn,Bool.and_self,cond_true,Option.bind_some,at_ a0 i hi,wrS i (by omega),show∀j:Jn,((j.1,(j.2.1,(j.2.2.1,j.2.2.2))):Jn)=j from fun _=>rfl]
 cases hc:a0[i].2.2.2 with
 |true=>
  rw[cond_true,close_ok j (by rw[hJ.per];omega) (by rw[hJ.per];omega) (by rw[hJ.mov];omega)]
  simp only[Option.bind_some]
  exact⟨w,p+1,(j.1,(j.2.1+1,(j.2.2.1,j.2.2.2++ [[]]))),rfl,by omega,(jj_close hJ (by omega)).more (by omega),hw,by omega⟩
 |false=>
  rw[cond_false]
  have hn:=modV a0[i].1 5 (by omega)
  have hg:=modV a0[i].2.1 3 (by omega)
  have ha:=modV a0[i].2.2.1 1000 (by omega)
  have hin:=in_loop a0 a1 (w,(i:Int),(),j.1,j.2.1,j.2.2.1,j.2.2.2) i hi rfl
  rw[hin]
  unfold valV
  generalize IntKind.i64.wrap (1+IntKind.i64.wrap (Int.tmod (IntKind.u64.wrap a0[i].1) 5))=n at*
  generalize IntKind.i64.wrap (1+IntKind.i64.wrap (Int.tmod (IntKind.u64.wrap a0[i].2.1) 3))=g at*
  generalize IntKind.i64.wrap (1+IntKind.i64.wrap (Int.tmod (IntKind.u64.wrap a0[i].2.2.1) 1000))=a at*
  have hpq: ∀j':Jn,j'.2.1=(p:Int)→(j'.2.1==q)=decide ((p:Int)=q):=fun j' h=>by rw[h];by_cases h':(p:Int)=q<;>simp[h']
  have hper:=hJ.per
  by_cases hk:Int.tmod a0[i].2.2.1 3=0
  ·rw[beq_iff_eq.2 hk,cond_true]
   simp only[Option.bind_some]
   rw[mRefN n a g (by omega) (by omega) (by omega)]
   simp only[Option.bind_some]
   rw[show zRfN n a g= [((2,n,0),-a),((4,n,g),a)]from rfl,post_two hJ (by omega) 6 _ _ (by simp;omega) (by simp;omega) (chkR n a g (by omega) (by omega) (by omega))]
   simp only[Option.bind_some,show((0:Int) !=0)=false from rfl,Bool.not_false,cond_true,cond_false]
   have hJ':=jj_post hJ (by omega) (chkR n a g (by omega) (by omega) (by omega))
   have ht:=tot_ref (q:=q) (ns:=nsE a1) (l:=j.1) (p:=(p:Int)) (n:=n) (a:=a) (g:=g) (by omega) (by omega)
   have hlog:(postJ j (6,zRfN n a g)).1=j.1++ [((6,zRfN n a g),(p:Int))]:=by show j.1++ [((6,zRfN n a g),j.2.1)]=_;rw[hper]
   by_cases hm:n∈nsE a1
   ·rw[decide_eq_true hm,cond_true,period_eq]
    simp only[Option.bind_some,hpq (postJ j (6,[((2,n,0),-a),((4,n,g),a)])) hper]
    by_cases hq:(p:Int)=q
    ·rw[decide_eq_true hq,cond_true]
     rw[if_pos ⟨hq,hm⟩]at ht
     simp only[show((6:Int)==6)=true from rfl,cond_true,Option.bind_some]
     rw[wr (0 - a) (by omega) (by omega),wr (w+(0 - a)) (by omega) (by omega)]
     exact⟨_,p,postJ j (6,zRfN n a g),rfl,by omega,hJ',by rw[hlog,ht,hw];omega,by omega⟩
    ·rw[decide_eq_false hq,cond_false]
     rw[if_neg (fun e=>hq e.1)]at ht
     exact⟨_,p,postJ j (6,zRfN n a g),rfl,by omega,hJ',by rw[hlog,ht,hw];omega,by omega⟩
   ·rw[decide_eq_false hm,cond_false]
    simp only[Option.bind_some,cond_false]
    rw[if_neg (fun e=>hm e.2)]at ht
    exact⟨_,p,postJ j (6,zRfN n a g),rfl,by omega,hJ',by rw[hlog,ht,hw];omega,by omega⟩
  ·rw[beq_eq_false_iff_ne.2 hk,cond_false]
   simp only[Option.bind_some]
   rw[mComN n a g (by omega) (by omega) (by omega)]
   simp only[Option.bind_some]
   rw[show zCmN n a g= [((3,n,0),a),((4,n,g),-a)]from rfl,post_two hJ (by omega) 4 _ _ (by simp;omega) (by simp;omega) (cComN n a g (by omega) (by omega) (by omega))]
   simp only[Option.bind_some,show((0:Int) !=0)=false from rfl,Bool.not_false,cond_true,cond_false]
   have hJ':=jj_post hJ (by omega) (cComN n a g (by omega) (by omega) (by omega))
   have ht:=tot_com (q:=q) (ns:=nsE a1) (l:=j.1) (p:=(p:Int)) (n:=n) (a:=a) (g:=g) (by omega) (by omega)
   have hlog:(postJ j (4,zCmN n a g)).1=j.1++ [((4,zCmN n a g),(p:Int))]:=by show j.1++ [((4,zCmN n a g),j.2.1)]=_;rw[hper]
   by_cases hm:n∈nsE a1
   ·rw[decide_eq_true hm,cond_true,period_eq]
    simp only[Option.bind_some,hpq (postJ j (4,[((3,n,0),a),((4,n,g),-a)])) hper]
    by_cases hq:(p:Int)=q
    ·rw[decide_eq_true hq,cond_true]
     rw[if_pos ⟨hq,hm⟩]at ht
     simp only[show((4:Int)==6)=false from rfl,cond_false,Option.bind_some]
     rw[wr (w+a) (by omega) (by omega)]
     exact⟨_,p,postJ j (4,zCmN n a g),rfl,by omega,hJ',by rw[hlog,ht,hw],by omega⟩
    ·rw[decide_eq_false hq,cond_false]
     rw[if_neg (fun e=>hq e.1)]at ht
     exact⟨_,p,postJ j (4,zCmN n a g),rfl,by omega,hJ',by rw[hlog,ht,hw];omega,by omega⟩
   ·rw[decide_eq_false hm,cond_false]
    simp only[Option.bind_some,cond_false]
    rw[if_neg (fun e=>hm e.2)]at ht
    exact⟨_,p,postJ j (4,zCmN n a g),rfl,by omega,hJ',by rw[hlog,ht,hw];omega,by omega⟩
theorem main_loop(a0:List (Int×Int×Int×Bool))(a1:List Int)(q:Int): ∀(d i p:Nat) (w:Int) (j:Jn),i+d=min a0.length 20→p≤i→JJ p i j→w=tot q (nsE a1) j.1→ -(1000* (i:Int))≤w∧w≤1000* (i:Int)→
  ∃(w':Int) (p' m:Nat) (j':Jn),loopO (purserlaw21_InvoiceNets.l3 a0 a1 q) (w,(i:Int),(),j.1,j.2.1,j.2.2.1,j.2.2.2)=some (.inr (w',(),j'.1,j'.2.1,j'.2.2.1,j'.2.2.2))∧JJ p' m j'∧m≤20∧w'=tot q (nsE a1) j'.1∧ -20000≤w'∧w'≤20000
 |0,i,p,w,j,hd,hp,hJ,hw,hb=>by
  have hf:purserlaw21_InvoiceNets.l3 a0 a1 q (w,(i:Int),(),j.1,j.2.1,j.2.2.1,j.2.2.2)=some (.inr (.inr (w,(),j.1,j.2.1,j.2.2.1,j.2.2.2))):=by
   unfold purserlaw21_InvoiceNets.l3
   by_cases h:i<a0.length
   ·have h20:decide ((i:Int)<20)=false:=decide_eq_false (by omega)
    simp only[ilt h,h20,cond_true,cond_false,Option.bind_some]
   ·have h1:decide ((i:Int)< (a0.length:Int))=false:=decide_eq_false (by omega)
    simp only[h1,cond_false,Option.bind_some]
  refine⟨w,p,i,j,?_,hJ,by omega,hw,by omega,by omega⟩
  rw[loopO_eq,hf]
  rfl
 |d+1,i,p,w,j,hd,hp,hJ,hw,hb=>by
  obtain⟨w1,p1,j1,e1,k1,k2,k3,k4⟩:=step_eq a0 a1 q i p w j (by omega) (by omega) hp hJ hw hb
  obtain⟨w',p',m,j',g1,g2,g3,g4,g5,g6⟩:=main_loop a0 a1 q d (i+1) p1 w1 j1 (by omega) k1 k2 k3 k4
  refine⟨w',p',m,j',?_,g2,g3,g4,g5,g6⟩
  rw[loopO_eq,e1]
  exact g1
theorem InvoiceNets(a0:Ty.Den (.slice (.pair (.int .i64) (.pair (.int .i64) (.pair (.int .i64) .bool)))))(a1:Ty.Den (.slice (.int .i64)))(a2:Ty.Den (.int .i64))(w0:wfTy (.slice (.pair (.int .i64) (.pair (.int .i64) (.pair (.int .i64) .bool)))) a0)(w1:wfTy (.slice (.int .i64)) a1)(w2:wfTy (.int .i64) a2):purserlaw21_InvoiceNets.f a0 a1 a2=some true:=by
 have hl:=nsE_len a1
 have e:purserlaw21_InvoiceNets.f a0 a1 a2=(journal_New.f).bind fun r1=>(purserlaw21_bills.f).bind fun r2=>bif (!r2)then(some false)else(bif (decide ((0:Int)≤0) && (decide (0≤(if(8:Int)< (List.length a1:Int)then 8 else(List.length a1:Int))) && decide ((if(8:Int)< (List.length a1:Int)then 8 else(List.length a1:Int))≤(List.length a1:Int))))then(bif decide (([]:List Int).length+((List.take (if(8:Int)< (List.length a1:Int)then 8 else(List.length a1:Int)).toNat a1).drop (0:Int).toNat).length≤1099511627776)then((loopO (purserlaw21_InvoiceNets.l3 a0 a1 a2) (0,0,(),r1.1,r1.2.1,r1.2.2.1,r1.2.2.2)).bind fun b22=>(match b22 with| .inl e20=>some e20.1| .inr e21=>(invoice_Net.f (e21.2.2.1,(e21.2.2.2.1,(e21.2.2.2.2.1,e21.2.2.2.2.2))) (nsE a1) a2).bind fun r23=>(loopO (purserlaw21_InvoiceNets.l24 a1) ([],0)).bind fun e28=>(arith_Sum.f e28).bind fun r29=>((bif r23.2.2 then(bif (r23.2.1==e21.1)then(bif r29.2 then(some (r29.1==0))else(some false))else(some false))else(some false)):Option (Bool)).bind fun e30=>some e30))else none)else none):=rfl
 rw[e,new_eq,bills_eq]
 simp only[Option.bind_some,Bool.not_true,cond_false]
 have c1:(decide ((0:Int)≤0) && (decide (0≤(if(8:Int)< (List.length a1:Int)then 8 else(List.length a1:Int))) && decide ((if(8:Int)< (List.length a1:Int)then 8 else(List.length a1:Int))≤(List.length a1:Int))))=true:=by
  simp only[Bool.and_eq_true,decide_eq_true_eq]
  split<;>omega
 have c2:decide (([]:List Int).length+((List.take (if(8:Int)< (List.length a1:Int)then 8 else(List.length a1:Int)).toNat a1).drop (0:Int).toNat).length≤1099511627776)=true:=decide_eq_true (by
  simp only[List.length_drop,List.length_take,List.length_nil]
  split<;>omega)
 rw[c1,c2,cond_true,cond_true]
 obtain⟨w',p',m,j',g1,g2,g3,g4,g5,g6⟩:=main_loop a0 a1 a2 (min (List.length a0) 20) 0 0 0 ([],(0,([],[[]]))) (by omega) (Nat.le_refl _) jj_new (by
  show(0:Int)=sumL (allN a2 [] (nsE a1) (nsE a1).length)
  refine(sumL_zero _ fun x hx=> ?_).symm
  unfold allN at hx
  obtain⟨n,_,hx⟩:=List.mem_flatMap.1 hx
  unfold rowN at hx
  obtain⟨g,_,rfl⟩:=List.mem_map.1 hx
  unfold mvd
  split<;>rfl) (by omega)
 rw[show((0:Nat):Int)=0 from rfl]at g1
 rw[g1]
 simp only[Option.bind_some]
 rw[show((j'.1,(j'.2.1,(j'.2.2.1,j'.2.2.2))):Jn)=j' from rfl,own_net g2 (by omega) (nsE a1) (by omega) a2,nil_net a1]
 simp only[Option.bind_some]
 have hz:=zeros_len (nsE a1) (nsE a1).length
 rw[sum_eq _ (by omega) (fun x hx=>by
  unfold zeros at hx
  obtain⟨n,_,hx⟩:=List.mem_flatMap.1 hx
  have:=(List.mem_replicate.1 hx).2
  omega),sumL_zero _ (fun x hx=>by
  unfold zeros at hx
  obtain⟨n,_,hx⟩:=List.mem_flatMap.1 hx
  exact(List.mem_replicate.1 hx).2)]
 have hF:FI (sumL (allN a2 j'.1 (nsE a1) (nsE a1).length))=(w',true):=by
  have:sumL (allN a2 j'.1 (nsE a1) (nsE a1).length)=w':=g4.symm
  rw[this]
  unfold FI
  rw[if_pos (by omega)]
 rw[hF]
 simp[FI]
end Go.Proofs.YtfcgafnmlkiimaaGreatDoor.Pure
