/- Plain laws: a journal and the document's have the same to tell. No statement of its own. -/
import Derived.Test.YtniohchnpfpffaaGreatNd
set_option linter.unusedSimpArgs false
set_option linter.unusedVariables false
namespace Go.Proofs.YtniohchnpfpffaaGreat.Pure
open Go.Vk Go.Am Go.Pg Go.Sort Go.Proofs.YtniohchnpfpffaaGreat.Y
theorem JJ.legs{p m:Nat}{j:Jn}(h:JJ p m j): ∀x∈j.1,x.1.2.length≤64:=fun x hx=>(zww (h.ent x hx)).1
theorem JJ.amts{p m:Nat}{j:Jn}(h:JJ p m j): ∀x∈j.1,∀g∈x.1.2,-9007199254740992≤g.2∧g.2≤9007199254740992:=fun x hx=>(zww (h.ent x hx)).2.1
theorem JJ.wid{p m:Nat}{j:Jn}(h:JJ p m j)(hm:m≤100)(a:Acc)(q:Int):IntKind.i64.wrap (zho a q j.1)=zho a q j.1:=by
 have:=h.bnd a q
 exact wr _ (by omega) (by omega)
theorem zgm{p m:Nat}{j:Jn}(h:JJ p m j)(hm:m≤100)(a:Acc)(z q:Int):purserref08_Journal_Moved.f (zc6 j.1,(zco j.1,(p:Int))) (a.1,(a.2.1,(a.2.2,z))) q=some ((zc6 j.1,(zco j.1,(p:Int))),zho a q j.1):=by
 have h1:=zwg j.1 (p:Int) a z q (fun x hx=>by have:=h.legs x hx;omega) (by have:=h.list;omega)
 rw[h.wid hm]at h1
 exact h1
theorem zqm{p m:Nat}{j:Jn}(h:JJ p m j)(a:Acc)(q:Int)(hq:0≤q):journal_Journal_Moved.f j a q=some (j,zho a q j.1):=by
 have hm:=h.mov
 by_cases hlt:q.toNat<j.2.2.2.length
 ·have h1:=zyb j a q.toNat hlt
  rw[show((q.toNat:Nat):Int)=q by omega,h.mvs q.toNat hlt,show((q.toNat:Nat):Int)=q by omega]at h1
  exact h1
 ·rw[zo7 (fun x hx=> ?_)]
  ·unfold journal_Journal_Moved.f
   rw[decide_eq_false (show¬q<0 by omega),Bool.not_false,cond_true,show decide (q≥(j.2.2.2.length:Int))=true from decide_eq_true (by omega),Option.bind_some,cond_true]
  ·have:=h.tim x hx
   unfold inM
   rw[decide_eq_true (show q≥0 from hq),cond_true]
   simp;omega
theorem zvu{p m:Nat}{j:Jn}(h:JJ p m j)(hm:m≤100)(q:Int):
  zab (purserlaw08_like.l8 q (j,acK j.1) ((zc6 j.1,(zco j.1,(p:Int))),(acK j.1).map rA)) (0,(),j.1,j.2.1,j.2.2.1,j.2.2.2,(),zc6 j.1,zco j.1,(p:Int))=some (.inr ((),j.1,j.2.1,j.2.2.1,j.2.2.2,(),zc6 j.1,zco j.1,(p:Int))):=by
 have hlen:(acK j.1).length≤1485:=by
  have:=zw8 (fun i=>acN j.1 (i+1)) 297 (fun n=>zxb j.1 (n+1)) (List.range 5)
  rw[List.length_range]at this
  exact this
 obtain⟨qq,hqq⟩: ∃qq:Int,qq=if(0:Int)>q then 0 else q:=⟨_,rfl⟩
 have hq0:0≤qq:=by rw[hqq];split<;>omega
 refine zb9 (fun i=>((i:Int),(),j.1,j.2.1,j.2.2.1,j.2.2.2,(),zc6 j.1,zco j.1,(p:Int))) (acK j.1).length rfl (fun i hi=> ?_) ?_
 ·obtain⟨a,ha⟩: ∃a,a=(acK j.1)[i]:=⟨_,rfl⟩
  have g1:(acK j.1).getD ((i:Int)).toNat ((0,(0,0)):Acc)=a:=by rw[at_ _ i hi,ha]
  have g2:((acK j.1).map rA).getD ((i:Int)).toNat ((0,(0,(0,0))):zc3)=(a.1,(a.2.1,(a.2.2,0))):=by
   rw[at_ _ i (by rw[List.length_map];exact hi),List.getElem_map,←ha];rfl
  unfold purserlaw08_like.l8
  simp only
  rw[List.length_map,ilt hi,cond_true,nn,Bool.and_self,cond_true,cond_true]
  simp only[g1,g2,beq_self_eq_true,Bool.and_self,Bool.not_true,Bool.not_false,cond_true]
  rw[show journal_Journal_Balance.f (j.1,(j.2.1,(j.2.2.1,j.2.2.2))) (a.1,(a.2.1,a.2.2))=some (j,bal j.2.2.1 a)from rfl,Option.bind_some]
  rw[zgm h hm a 0 (-1),Option.bind_some]
  simp only
  rw[h.sum,bne_self_eq_false,Bool.not_false,cond_true,←hqq]
  rw[show journal_Journal_Moved.f (j.1,(j.2.1,(j.2.2.1,j.2.2.2))) (a.1,(a.2.1,a.2.2)) qq=_ from zqm h a qq hq0,Option.bind_some]
  rw[zgm h hm a 0 qq,Option.bind_some]
  simp only
  rw[bne_self_eq_false,Option.bind_some]
  simp only
  rw[cond_false,wrS i (by omega)]
 ·unfold purserlaw08_like.l8
  simp only
  rw[ige,cond_false]
theorem zvv{p m:Nat}{j:Jn}(h:JJ p m j)(hm:m≤100)(q:Int):purserlaw08_like.f j (zc6 j.1,(zco j.1,(p:Int))) q=some ((j,((zc6 j.1,(zco j.1,(p:Int))),())),true):=by
 have hL:j.1.length≤1000:=by have:=h.list;omega
 have hls: ∀x∈j.1,x.1.2.length≤100:=fun x hx=>by have:=h.legs x hx;omega
 have t1:=zvf j q hL hls h.amts
 have t2:=zwf j.1 (p:Int) q hL hls h.amts
 rw[h.per]at t1
 have hlp:=zvu h hm q
 unfold purserlaw08_like.f
 rw[show journal_Journal_Trial.f (j.1,(j.2.1,(j.2.2.1,j.2.2.2))) q=_ from t1,Option.bind_some,t2,Option.bind_some]
 simp only
 rw[bne_self_eq_false,Bool.not_false,cond_true,bne_self_eq_false,Bool.not_false,cond_true,bne_self_eq_false,Bool.not_false,cond_true]
 rw[show journal_Journal_Len.f (j.1,(j.2.1,(j.2.2.1,j.2.2.2)))=some (j,(j.1.length:Int))from rfl,Option.bind_some]
 simp only
 rw[zba,bne_self_eq_false,Bool.not_false,cond_true]
 rw[show journal_Journal_Period.f (j.1,(j.2.1,(j.2.2.1,j.2.2.2)))=some (j,j.2.1)from rfl,Option.bind_some]
 simp only
 rw[h.per,bne_self_eq_false,Option.bind_some]
 simp only
 rw[cond_false]
 have hac:=zon h hm
 rw[←h.per]
 rw[show journal_Journal_Accounts.f (j.1,(j.2.1,(j.2.2.1,j.2.2.2)))=_ from hac,Option.bind_some]
 have hda:=zpk j.1 (p:Int) (fun x hx=>by have:=h.legs x hx;omega) (by omega)
 rw[←h.per]at hda hlp
 rw[hda,Option.bind_some]
 simp only
 rw[List.length_map,bne_self_eq_false,cond_false,hlp,Option.bind_some]
/-! ### a job -/
theorem zt2{p m:Nat}{j:Jn}(h:JJ p m j)(hm:m≤100)(e:Int×List Leg)(he:e.2.length≤1000):
  journal_Journal_Post.f j e=some (if chk e.1 e.2≠0 then(j,(0,chk e.1 e.2))else if e.2.any (far j.2.2.1)=true then(j,(0,6))else(zfx j e,((j.1.length:Int),0))):=by
 have hmv:=h.mov
 have hl:=h.list
 rw[zvb j e p h.per (by omega) (by omega) he]
 congr 1
 by_cases h1:chk e.1 e.2≠0
 ·rw[if_pos h1,if_pos h1]
 ·rw[if_neg h1,if_neg h1,if_neg (by omega)]
theorem zpj{p m:Nat}{j:Jn}(h:JJ p m j)(hm:m≤100)(k:Int)(Ls:List zc3)(hl:Ls.length≤1000): ∀(d i:Nat),i+d=Ls.length→
  zab (purserlaw08_JournalJobs.l15 (k,Ls)) ((i:Int),(),zc6 j.1,zco j.1,(p:Int))=some (bif ((Ls.drop i).map toL).any (far j.2.2.1)then .inl (0,6,(),zc6 j.1,zco j.1,(p:Int))else .inr ((),zc6 j.1,zco j.1,(p:Int)))
 |0,i,hi=>by
  have he:purserlaw08_JournalJobs.l15 (k,Ls) ((Ls.length:Int),(),zc6 j.1,zco j.1,(p:Int))=some (.inr (.inr ((),zc6 j.1,zco j.1,(p:Int)))):=by
   unfold purserlaw08_JournalJobs.l15
   simp only
   rw[ige,cond_false]
  rw[show i=Ls.length by omega,zaf,he,List.drop_length]
  rfl
 |d+1,i,hi=>by
  have hlt:i<Ls.length:=by omega
  obtain⟨x,hx⟩: ∃x,x=Ls[i]:=⟨_,rfl⟩
  have g:=at_ Ls i hlt ((0,(0,(0,0))):zc3)
  rw[←hx]at g
  have hmo:=zgm h hm (toL x).1 x.2.2.2 (-1)
  have hst:purserlaw08_JournalJobs.l15 (k,Ls) ((i:Int),(),zc6 j.1,zco j.1,(p:Int))=bif far j.2.2.1 (toL x)then some (.inr (.inl (0,6,(),zc6 j.1,zco j.1,(p:Int))))else some (.inl ((((i+1:Nat):Nat):Int),(),zc6 j.1,zco j.1,(p:Int))):=by
   unfold purserlaw08_JournalJobs.l15
   simp only
   rw[ilt hlt,nn,Bool.and_self,cond_true,cond_true,cond_true]
   simp only[g]
   rw[show purserref08_Journal_Moved.f (zc6 j.1,(zco j.1,(p:Int))) (x.1,(x.2.1,(x.2.2.1,x.2.2.2))) (-1)=_ from hmo,Option.bind_some]
   simp only
   rw[wrS i (by omega)]
   unfold far
   rw[h.sum,show(toL x).2=x.2.2.2 from rfl]
   cases decide (IntKind.i64.wrap (zho (toL x).1 (-1) j.1+x.2.2.2)>1152921504606846976)<;>cases decide (IntKind.i64.wrap (zho (toL x).1 (-1) j.1+x.2.2.2)< -1152921504606846976)<;>rfl
  rw[zaf,hst,List.drop_eq_getElem_cons hlt,←hx,List.map_cons,List.any_cons]
  cases far j.2.2.1 (toL x)with
  |true=>rfl
  |false=>
   rw[Bool.false_or,cond_false]
   exact zpj h hm k Ls hl d (i+1) (by omega)
theorem zym(e:Int×List zc3)(hl:e.2.length≤1000):zab (purserlaw08_JournalJobs.l11 e) (0,(),e.1,[])=some ((),e.1,e.2.map toL):=by
 refine zb9 (fun i=>((i:Int),(),e.1,(e.2.take i).map toL)) e.2.length (by simp) (fun i hi=> ?_) ?_
 ·unfold purserlaw08_JournalJobs.l11
  simp only
  rw[ilt hi,nn,cond_true,Bool.and_self,cond_true,at_ e.2 i hi,wrS i (by omega)]
  have e1: ∀v:Leg,decide (((e.2.take i).map toL).length+([v]:List Leg).length≤1099511627776)=true:=fun v=>by
   rw[List.length_map];simp;omega
  rw[e1,cond_true,zcp _ _ hi,List.map_append]
  rfl
 ·unfold purserlaw08_JournalJobs.l11
  simp only
  rw[ige,cond_false,List.take_length]
theorem zpa: ∀(d i:Nat) (ls:List Leg),i+d=ls.length→ls.length≤1000000→∃r,zab purserlaw08_JournalJobs.l23 ((i:Int),ls)=some r
 |0,i,ls,h,hl=>by
  have he:purserlaw08_JournalJobs.l23 ((ls.length:Int),ls)=some (.inr ls):=by
   unfold purserlaw08_JournalJobs.l23
   simp only
   rw[ige,cond_false]
  exact⟨ls,by rw[show i=ls.length by omega,zaf,he];rfl⟩
 |d+1,i,ls,h,hl=>by
  have hi:i<ls.length:=by omega
  have hst: ∃y,purserlaw08_JournalJobs.l23 ((i:Int),ls)=some (.inl ((((i+1:Nat):Nat):Int),ls.set i y)):=by
   unfold purserlaw08_JournalJobs.l23
   simp only
   rw[ilt hi,nn,Bool.and_self,cond_true,cond_true,cond_true,wrS i (by omega),Int.toNat_natCast]
   exact⟨_,rfl⟩
  obtain⟨y,hy⟩:=hst
  obtain⟨r,hr⟩:=zpa d (i+1) (ls.set i y) (by rw[List.length_set];omega) (by rw[List.length_set];exact hl)
  exact⟨r,by rw[zaf,hy];exact hr⟩
theorem At_j{j:Jn}{i:Nat}(hi:i<j.1.length)(hl:(j.1[i]).1.2.length≤1000000):journal_Journal_At.f (j.1,(j.2.1,(j.2.2.1,j.2.2.2))) (i:Int)=some (j,(((j.1[i]).1.1,(j.1[i]).1.2),(j.1[i]).2,0)):=by
 unfold journal_Journal_At.f
 simp only
 rw[show decide ((i:Int)<0)=false by simp,Bool.not_false,cond_true,show decide ((i:Int)≥(j.1.length:Int))=false by simp;omega,Option.bind_some,cond_false,nn,ilt hi,Bool.true_and,cond_true,cond_true,at_ j.1 i hi,zsc _ (by omega),Option.bind_some]
theorem At_no{j:Jn}(i:Int)(hi:i<0∨(j.1.length:Int)≤i):journal_Journal_At.f (j.1,(j.2.1,(j.2.2.1,j.2.2.2))) i=some (j,((0,[]),0,7)):=by
 unfold journal_Journal_At.f
 simp only
 by_cases h:i<0
 ·rw[decide_eq_true h];rfl
 ·rw[decide_eq_false h,Bool.not_false,cond_true,show decide (i≥(j.1.length:Int))=true from decide_eq_true (by omega)]
  rfl
end Go.Proofs.YtniohchnpfpffaaGreat.Pure
