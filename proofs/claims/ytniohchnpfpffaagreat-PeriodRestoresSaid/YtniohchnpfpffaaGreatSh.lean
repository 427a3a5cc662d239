/- Plain laws: a purse and the document's have the same to tell. No statement of its own. -/
import Derived.Test.YtniohchnpfpffaaGreatSg
set_option linter.unusedSimpArgs false
set_option linter.unusedVariables false
namespace Go.Proofs.YtniohchnpfpffaaGreat.Pure
open Go.Vk Go.Am Go.Pg Go.Sort Go.Proofs.YtniohchnpfpffaaGreat.Y
theorem gDe{E:Type}(l:List E)(d:E){i:Nat}(h:i<l.length):l.getD i d=l[i]:=by
 rw[List.getD_eq_getElem?_getD,List.getElem?_eq_getElem h];rfl
theorem zzk(l:List Int)(hl:l.length≤1000000):purserref01_Same.f l l=some true:=by
 have hloop:za2 (purserref01_Same.l1 l l) 0=some (.inr ()):=by
  refine zap (fun i=>(i:Int)) l.length rfl (fun i hi=> ?_) ?_
  ·unfold purserref01_Same.l1
   rw[show decide ((i:Int)< (l.length:Int))=true by simp;omega,cond_true,show decide ((0:Int)≤(i:Int))=true by simp,Bool.true_and,cond_true,cond_true,bne_self_eq_false,cond_false,wrS i (by omega)]
  ·unfold purserref01_Same.l1
   rw[show decide ((l.length:Int)< (l.length:Int))=false by simp,cond_false]
 unfold purserref01_Same.f
 rw[bne_self_eq_false,cond_false,hloop]
 rfl
theorem zvb(a:FA):((a.1==0) && ((a.2.1==0) && ((a.2.2.1==0) && ((a.2.2.2.1==0) && ((a.2.2.2.2==0) && true)))))=decide (a=V0):=by
 obtain⟨a,b,c,d,e⟩:=a
 rw[Bool.eq_iff_iff]
 simp[V0]
theorem zD4(a:FA):((a.1==a.1) && ((a.2.1==a.2.1) && ((a.2.2.1==a.2.2.1) && ((a.2.2.2.1==a.2.2.2.1) && ((a.2.2.2.2==a.2.2.2.2) && true)))))=true:=by simp
def ksT(B:FB)(i:Nat):List Int:=(nodes32.take i).filter fun n=>decide (geA B n≠V0)
theorem ksT_len(B:FB)(i:Nat):(ksT B i).length≤32:=by
 unfold ksT
 refine Nat.le_trans (List.length_filter_le _ _) ?_
 rw[List.length_take,zbr];omega
theorem zAt{p N m c:Nat}{B:FB}{j:Jn}{As:List FA}{J:RJ}(h:PRel p N m c (B,j) (As,J)):za2 (purserlaw15_like.l1 (As,J)) ([],1,(),B)=some (.inr (zb9 B,(),B)):=by
 have hA:As.length=33:=h.b.len
 have hB:BOk B N:=h.b.ok
 refine zap (fun i=>(ksT B i,(((i+1:Nat):Nat):Int),(),B)) 32 (by simp[ksT]) (fun i hi=> ?_) ?_
 ·have hil:i<nodes32.length:=by rw[zbr];omega
  obtain⟨n,hn⟩: ∃n,n=(((i+1:Nat):Nat):Int):=⟨_,rfl⟩
  have hnr:1≤n∧n≤32:=by omega
  have hni:nodes32[i]'hil=n:=by rw[zqc i hi];omega
  have hok:=hB.ok n
  have hkl:=ksT_len B i
  unfold purserlaw15_like.l1
  simp only
  rw[←hn,decide_eq_true hnr.2,cond_true,zm8 hnr,cond_true]
  simp only[za6 hA]
  have hat:As.getD n.toNat V0=geA B n:=h.b.at hnr
  rw[hat,show funds_Book_Get.f B n=some (B,geA B n)from rfl,Option.bind_some]
  simp only
  rw[zD4,Bool.not_true,Bool.not_false,cond_true,zwu B n hok,Option.bind_some,zzv hok,Option.bind_some]
  simp only
  rw[bne_self_eq_false,Option.bind_some]
  simp only
  rw[cond_false,zvb]
  have hst:ksT B (i+1)=if geA B n=V0 then ksT B i else ksT B i++ [n]:=by
   unfold ksT
   rw[zad nodes32 i hil,List.filter_append,hni]
   by_cases hz:geA B n=V0
   ·rw[if_pos hz];simp[hz]
   ·rw[if_neg hz];simp[hz]
  have hw:IntKind.i64.wrap (n+1)=((((i+1)+1:Nat):Nat):Int):=by rw[hn];exact wrS (i+1) (by omega)
  by_cases hz:geA B n=V0
  ·rw[decide_eq_true hz,Bool.not_true,cond_false,Option.bind_some,hst,if_pos hz,hw]
  ·rw[decide_eq_false hz,Bool.not_false,cond_true,show decide ((ksT B i).length+([n]:List Int).length≤1099511627776)=true by simp;omega,cond_true,Option.bind_some,hst,if_neg hz,hw]
 ·unfold purserlaw15_like.l1
  simp only
  rw[show decide ((((32+1:Nat):Nat):Int)≤32)=false from rfl,cond_false]
  unfold ksT zb9
  rw[List.take_of_length_le (by rw[zbr];omega)]
theorem lkLegs(a1:List FA×RJ)(i:Nat)(ls:List Leg)(hls:ls.length≤1000000)(k:Int)(he:(a1.2.1.getD i (0,[]))=(k,ls.map frL))(s15:Int×Unit×Jn)(hs:s15.1=(i:Int))(r17:Jn×((Int×List Leg)×Int×Int))(hr:r17.2.1.2=ls):
  za2 (purserlaw15_like.l19 a1 s15 r17) 0=some (.inr ()):=by
 have he2:(a1.2.1.getD s15.1.toNat (0,[]))=(k,ls.map frL):=by rw[hs];exact he
 refine zap (fun i=>(i:Int)) ls.length rfl (fun t ht=> ?_) ?_
 ·unfold purserlaw15_like.l19
  simp only[he2,hr]
  rw[show decide ((t:Int)< (ls.length:Int))=true by simp;omega,cond_true,List.length_map,show decide ((0:Int)≤(t:Int))=true by simp,show decide ((t:Int)< (ls.length:Int))=true by simp;omega,Bool.true_and,cond_true,cond_true]
  have hg:((ls.map frL).getD ((t:Int).toNat) ((0,(0,(0,0))):zd8))=frL (ls.getD ((t:Int).toNat) ((0,(0,0)),0)):=by
   rw[Int.toNat_natCast,gDe _ _ (by rw[List.length_map];omega),List.getElem_map,gDe _ _ ht]
  rw[hg]
  simp only[frL,beq_self_eq_true,Bool.and_true,Bool.not_true,cond_false]
  rw[wrS t (by omega)]
 ·unfold purserlaw15_like.l19
  simp only[hr]
  rw[show decide ((ls.length:Int)< (ls.length:Int))=false by simp,cond_false]
theorem lkEnts{p N m c:Nat}{B:FB}{j:Jn}{As:List FA}{J:RJ}(h:PRel p N m c (B,j) (As,J))(hm:m≤16384):za2 (purserlaw15_like.l15 (As,J)) (0,(),j.1,j.2.1,j.2.2.1,j.2.2.2)=some (.inr ((),j.1,j.2.1,j.2.2.1,j.2.2.2)):=by
 have hji:=h.j.ji
 have hjl:j.1.length≤m:=hji.list
 have hl:J.1.length=j.1.length:=by rw[h.j.lst,List.length_map]
 have hw:J.2.1.length=j.1.length:=by rw[h.j.whn,List.length_map]
 refine zap (fun i=>((i:Int),(),j.1,j.2.1,j.2.2.1,j.2.2.2)) j.1.length rfl (fun i hi=> ?_) ?_
 ·have hx:j.1.getD i ((0,[]),0)=j.1[i]:=gDe _ _ hi
  have hce:=h.j.ent _ (List.getElem_mem hi)
  have hll:(j.1[i]).1.2.length≤1000000:=by have:=(zht hce).1;omega
  have he:(J.1.getD i ((0,[]):Int×List zd8))=((j.1[i]).1.1,(j.1[i]).1.2.map frL):=by
   rw[h.j.lst,gDe _ _ (by rw[List.length_map];exact hi),List.getElem_map]
  have hwh:J.2.1.getD i 0=(j.1[i]).2:=by
   rw[h.j.whn,gDe _ _ (by rw[List.length_map];exact hi),List.getElem_map]
  have hat:journal_Journal_At.f (j.1,j.2.1,j.2.2.1,j.2.2.2) (i:Int)=some (j,(((j.1[i]).1.1,(j.1[i]).1.2),(j.1[i]).2,0)):=by
   unfold journal_Journal_At.f
   simp only
   rw[show decide ((i:Int)<0)=false by simp,Bool.not_false,cond_true,show decide ((i:Int)≥(j.1.length:Int))=false by simp;omega,Option.bind_some,cond_false,show decide ((0:Int)≤(i:Int))=true by simp,show decide ((i:Int)< (j.1.length:Int))=true by simp;omega,Bool.true_and,cond_true,cond_true,Int.toNat_natCast,hx,zrf _ (by omega),Option.bind_some]
  unfold purserlaw15_like.l15
  simp only
  rw[show journal_Journal_Len.f (j.1,j.2.1,j.2.2.1,j.2.2.2)=some (j,(j.1.length:Int))from rfl,Option.bind_some]
  simp only
  rw[show decide ((i:Int)< (j.1.length:Int))=true by simp;omega,cond_true,hat,Option.bind_some]
  simp only
  rw[show decide ((0:Int)≤(i:Int))=true by simp,show decide ((i:Int)< (J.1.length:Int))=true by simp;omega,show decide ((i:Int)< (J.2.1.length:Int))=true by simp;omega,Bool.true_and,cond_true,show((0:Int) !=0)=false from rfl,Bool.not_false,cond_true,cond_true,Int.toNat_natCast,hwh,he]
  simp only
  rw[bne_self_eq_false,Bool.not_false,cond_true,bne_self_eq_false,Bool.not_false,cond_true,List.length_map,bne_self_eq_false,Option.bind_some,cond_false]
  rw[lkLegs (As,J) i (j.1[i]).1.2 hll (j.1[i]).1.1 he _ rfl _ rfl,Option.bind_some]
  simp only
  rw[wrS i (by omega)]
 ·unfold purserlaw15_like.l15
  simp only
  rw[show journal_Journal_Len.f (j.1,j.2.1,j.2.2.1,j.2.2.2)=some (j,(j.1.length:Int))from rfl,Option.bind_some]
  simp only
  rw[show decide ((j.1.length:Int)< (j.1.length:Int))=false by simp,cond_false]
theorem like_eq{p N m c:Nat}{P:FB×Jn}{W:List FA×RJ}(h:PRel p N m c P W)(hN:N≤900000)(hm:m≤16384): ∃Q,purserlaw15_like.f P W=some (Q,true):=by
 obtain⟨B,j⟩:=P
 obtain⟨As,J⟩:=W
 have hB:BOk B N:=h.b.ok
 have hA:As.length=33:=h.b.len
 have hJl:J.1.length=j.1.length:=by rw[h.j.lst,List.length_map]
 have hP:J.2.2=j.2.1:=by rw[h.j.per,h.j.ji.per]
 have hble:Nat.ble B.length 1099511627776=true:=Nat.ble_eq_true_of_le (by have:=hB.len;omega)
 have hkl: ∀l1:List Int,l1.Perm (zbx B)→Nat.ble (List.length l1) 1099511627776=true:=fun l1 h=>Nat.ble_eq_true_of_le (by
  rw[h.length_eq]
  have:(zbx B).length≤B.length:=by unfold zbx zdr zjo;rw[List.length_map];exact List.length_filterMap_le _ _
  have:=hB.len
  omega)
 have hk32:=(zB0 hB).len
 have hl1:=zAt h
 refine⟨((B,j),((As,J),())),?_⟩
 unfold purserlaw15_like.f
 simp only
 rw[hl1,Option.bind_some]
 simp only
 rw[hble,cond_true,zcy (x:=(false,(),j.1,j.2.1,j.2.2.1,j.2.2.2)) (fun l1 hl1=> ?_),Option.bind_some]
 ·simp only
  rw[cond_false,lkEnts h hm,Option.bind_some]
  simp only
  rw[za6 hA]
 ·have hl1:l1.Perm (zbx B):=hl1
  rw[hkl l1 hl1,cond_true,zuw hB hl1,zzk _ (by omega),Option.bind_some,Bool.not_true,Bool.not_false,cond_true]
  rw[show journal_Journal_Len.f (j.1,(j.2.1,(j.2.2.1,j.2.2.2)))=some (j,(j.1.length:Int))from rfl,Option.bind_some]
  simp only
  rw[hJl,bne_self_eq_false,Bool.not_false,cond_true]
  rw[show journal_Journal_Period.f (j.1,(j.2.1,(j.2.2.1,j.2.2.2)))=some (j,j.2.1)from rfl,Option.bind_some]
  simp only
  rw[hP,bne_self_eq_false]
end Go.Proofs.YtniohchnpfpffaaGreat.Pure
