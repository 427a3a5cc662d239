/- The law JournalJobs,in plain Lean. No statement of its own. -/
import Derived.Test.YtniohchnpfpffaaGreatNe
set_option linter.unusedSimpArgs false
set_option linter.unusedVariables false
namespace Go.Proofs.YtniohchnpfpffaaGreat.Pure
open Go.Vk Go.Am Go.Pg Go.Sort Go.Proofs.YtniohchnpfpffaaGreat.Y
abbrev PJob:=Int×Int×Int×List Int×Int×Int×List (Int×Int×Int×Int)
theorem zwj(l:List Ps)(k:Int)(ls:List Leg)(t:Int):zc6 (l++ [((k,ls),t)])=zc6 l++ [(k,ls.map frL)]:=by unfold zc6;rw[List.map_append];rfl
theorem zwh(l:List Ps)(e:Int×List Leg)(t:Int):zco (l++ [(e,t)])=zco l++ [t]:=by unfold zco;rw[List.map_append];rfl
/-- a job's entry: made,or raw -/
theorem ent_eq(x:PJob): ∃(K:Int) (Ls:List zc3),Ls.length≤1000∧∀{β:Type} (F:(Int×List zc3)→Option β),
  (bif (decide ((0:Int)≤0) && (decide (0≤(if(5:Int)< (x.2.2.2.1.length:Int)then 5 else(x.2.2.2.1.length:Int))) && decide ((if(5:Int)< (x.2.2.2.1.length:Int)then 5 else(x.2.2.2.1.length:Int))≤(x.2.2.2.1.length:Int))))then((purserref07_Make.f x.2.1 x.2.2.1 ((x.2.2.2.1.take (if(5:Int)< (x.2.2.2.1.length:Int)then 5 else(x.2.2.2.1.length:Int)).toNat).drop (0:Int).toNat) x.2.2.2.2.1).bind fun r9=>((bif ((IntKind.i64.wrap (Int.tmod (IntKind.u64.wrap x.1) 3))==1)then(bif (decide ((0:Int)≤0) && (decide (0≤(if(70:Int)< (x.2.2.2.2.2.2.length:Int)then 70 else(x.2.2.2.2.2.2.length:Int))) && decide ((if(70:Int)< (x.2.2.2.2.2.2.length:Int)then 70 else(x.2.2.2.2.2.2.length:Int))≤(x.2.2.2.2.2.2.length:Int))))then(bif decide (([]:List (Int×Int×Int×Int)).length+((x.2.2.2.2.2.2.take (if(70:Int)< (x.2.2.2.2.2.2.length:Int)then 70 else(x.2.2.2.2.2.2.length:Int)).toNat).drop (0:Int).toNat).length≤1099511627776)then(some (x.2.2.2.2.2.1,(([]:List (Int×Int×Int×Int))++((x.2.2.2.2.2.2.take (if(70:Int)< (x.2.2.2.2.2.2.length:Int)then 70 else(x.2.2.2.2.2.2.length:Int)).toNat).drop (0:Int).toNat))))else none)else none)else(some (r9.1.1,r9.1.2))):Option ((Int×List (Int×Int×Int×Int)))).bind F)else none)=F (K,Ls):=by
 have c1:=cut_ok x.2.2.2.1 5
 have c2:=cut_eq x.2.2.2.1 5
 have c3:=cut_ok x.2.2.2.2.2.2 70
 have c4:=cut_eq x.2.2.2.2.2.2 70
 rw[show((5:Nat):Int)=5 from rfl]at c1 c2
 rw[show((70:Nat):Int)=70 from rfl]at c3 c4
 obtain⟨L,f,kk,_,h2,h3,_⟩:=zut x.2.1 x.2.2.1 (x.2.2.2.1.take 5) x.2.2.2.2.1 (by simp;omega)
 cases hb:IntKind.i64.wrap (Int.tmod (IntKind.u64.wrap x.1) 3)==1 with
 |true=>
  refine⟨x.2.2.2.2.2.1,x.2.2.2.2.2.2.take 70,by simp;omega,fun F=> ?_⟩
  rw[c1,cond_true,c2,h2,Option.bind_some,cond_true,c3,cond_true,c4]
  rw[show decide (([]:List (Int×Int×Int×Int)).length+(x.2.2.2.2.2.2.take 70).length≤1099511627776)=true from decide_eq_true (by simp;omega),cond_true,Option.bind_some,List.nil_append]
 |false=>
  refine⟨kk,L,by omega,fun F=> ?_⟩
  rw[c1,cond_true,c2,h2,Option.bind_some,cond_false,Option.bind_some]
theorem zyl{p m:Nat}{j:Jn}(h:JJ p m j)(hm:m<100)(a0:List PJob)(i:Nat)(hi:i<a0.length)(hi40:i<40): ∃p' j',JJ p' (m+1) j'∧
    purserlaw08_JournalJobs.l4 a0 ((i:Int),(),j.1,j.2.1,j.2.2.1,j.2.2.2,(),zc6 j.1,zco j.1,(p:Int))=some (.inl ((((i+1:Nat):Nat):Int),(),j'.1,j'.2.1,j'.2.2.1,j'.2.2.2,(),zc6 j'.1,zco j'.1,(p':Int))):=by
  obtain⟨x,hx⟩: ∃x,x=a0[i]:=⟨_,rfl⟩
  have hg:=at_ a0 i hi ((0,(0,(0,([],(0,(0,[])))))):PJob)
  rw[←hx]at hg
  have hper:=h.per
  have hmov:=h.mov
  have hp31:=h.p31
  have hlist:=h.list
  cases hc:IntKind.i64.wrap (Int.tmod (IntKind.u64.wrap x.1) 3)==2 with
  |true=>
    by_cases hp:p=31
    · refine⟨p,j,h.more (by omega),?_⟩
      have h1:=ztv j (by rw[hper,hp];rfl)
      have h2:purserref08_Journal_DocClose.f (zc6 j.1,(zco j.1,(p:Int)))=some ((zc6 j.1,(zco j.1,(p:Int))),(0,10)):=by
        unfold purserref08_Journal_DocClose.f
        rw[hp]
        rfl
      unfold purserlaw08_JournalJobs.l4
      simp only
      rw[ilt hi,cond_true,decide_eq_true (show(i:Int)<40 by omega),Option.bind_some,cond_true,nn,Bool.and_self,cond_true]
      simp only[hg]
      rw[hc,cond_true,show journal_Journal_Close.f (j.1,(j.2.1,(j.2.2.1,j.2.2.2)))=_ from h1,Option.bind_some,h2,Option.bind_some]
      simp only
      rw[bne_self_eq_false,Bool.not_false,cond_true,bne_self_eq_false,Option.bind_some,cond_false,Option.bind_some]
      simp only
      rw[wrS i (by omega)]
    · refine⟨p+1,_,(zyn h (by omega)).more (by omega),?_⟩
      have h1:=zz1 j (by omega) (by omega) (by omega)
      have h2:purserref08_Journal_DocClose.f (zc6 j.1,(zco j.1,(p:Int)))=some ((zc6 j.1,(zco j.1,j.2.1+1)),(j.2.1+1,0)):=by
        unfold purserref08_Journal_DocClose.f
        simp only
        rw[hper,wr _ (by omega) (by omega),decide_eq_false (show¬(p:Int)+1≥32 by omega),cond_false]
      have hpp:(((p+1:Nat):Nat):Int)=j.2.1+1:=by omega
      rw[hpp]
      unfold purserlaw08_JournalJobs.l4
      simp only
      rw[ilt hi,cond_true,decide_eq_true (show(i:Int)<40 by omega),Option.bind_some,cond_true,nn,Bool.and_self,cond_true]
      simp only[hg]
      rw[hc,cond_true,show journal_Journal_Close.f (j.1,(j.2.1,(j.2.2.1,j.2.2.2)))=_ from h1,Option.bind_some,h2,Option.bind_some]
      simp only
      rw[bne_self_eq_false,Bool.not_false,cond_true,bne_self_eq_false,Option.bind_some,cond_false,Option.bind_some]
      simp only
      rw[wrS i (by omega)]
  |false=>
    obtain⟨K,Ls,hLs,hent⟩:=ent_eq x
    have hlegs:=zym (K,Ls) hLs
    have hpost:=zt2 h (by omega) (K,Ls.map toL) (by rw[List.length_map];exact hLs)
    have hchk:purserref07_Check.f (K,Ls)=some (chk K (Ls.map toL)):=zoi K Ls (by omega)
    have hbnd:=zpj h (by omega) K Ls hLs Ls.length 0 (by omega)
    rw[List.drop_zero,show((0:Nat):Int)=0 from rfl]at hbnd
    obtain⟨rf,hrf⟩:=zpa (Ls.map toL).length 0 (Ls.map toL) (by omega) (by rw[List.length_map];omega)
    rw[show((0:Nat):Int)=0 from rfl]at hrf
    have hdl:decide (((zc6 j.1).length:Int)≥16384)=false:=decide_eq_false (by rw[zba];omega)
    by_cases h0:chk K (Ls.map toL)≠0
    · refine⟨p,j,h.more (by omega),?_⟩
      rw[if_pos h0]at hpost
      unfold purserlaw08_JournalJobs.l4
      simp only
      rw[ilt hi,cond_true,decide_eq_true (show(i:Int)<40 by omega),Option.bind_some,cond_true,nn,Bool.and_self,cond_true]
      simp only[hg]
      rw[hc,cond_false,cond_true,hent,hlegs,Option.bind_some]
      simp only
      rw[show journal_Journal_Post.f (j.1,(j.2.1,(j.2.2.1,j.2.2.2))) (K,Ls.map toL)=_ from hpost,Option.bind_some,hchk,Option.bind_some]
      rw[show(chk K (Ls.map toL) !=0)=true by simp[h0],cond_true,Option.bind_some]
      simp only
      rw[bne_self_eq_false,Bool.not_false,cond_true,bne_self_eq_false,Option.bind_some,cond_false,hrf,Option.bind_some]
      rw[show(chk K (Ls.map toL)==0)=false by simp[h0],cond_false,Option.bind_some,Option.bind_some]
      simp only
      rw[wrS i (by omega)]
    · have h0:chk K (Ls.map toL)=0:=by omega
      rw[if_neg (by omega)]at hpost
      cases hf:(Ls.map toL).any (far j.2.2.1)with
      |true=>
        refine⟨p,j,h.more (by omega),?_⟩
        rw[hf,if_pos rfl]at hpost
        rw[hf,cond_true]at hbnd
        unfold purserlaw08_JournalJobs.l4
        simp only
        rw[ilt hi,cond_true,decide_eq_true (show(i:Int)<40 by omega),Option.bind_some,cond_true,nn,Bool.and_self,cond_true]
        simp only[hg]
        rw[hc,cond_false,cond_true,hent,hlegs,Option.bind_some]
        simp only
        rw[show journal_Journal_Post.f (j.1,(j.2.1,(j.2.2.1,j.2.2.2))) (K,Ls.map toL)=_ from hpost,Option.bind_some,hchk,Option.bind_some]
        rw[h0,bne_self_eq_false,cond_false,hdl,cond_false,hbnd,Option.bind_some]
        simp only
        rw[Option.bind_some]
        simp only
        rw[bne_self_eq_false,Bool.not_false,cond_true,bne_self_eq_false,Option.bind_some,cond_false,hrf,Option.bind_some]
        rw[show((6:Int)==0)=false from rfl,cond_false,Option.bind_some,Option.bind_some]
        simp only
        rw[wrS i (by omega)]
      |false=>
        have hJ:=jj_post h (by omega) h0
        refine⟨p,zfx j (K,Ls.map toL),hJ,?_⟩
        rw[hf,if_neg (by simp)]at hpost
        rw[hf,cond_false]at hbnd
        have h2l:=(zpr h0).2
        have e1:(zfx j (K,Ls.map toL)).1=j.1++ [((K,Ls.map toL),j.2.1)]:=rfl
        have hfr:(Ls.map toL).map frL=Ls:=by rw[List.map_map];exact List.map_id Ls
        have hdL:zc6 (zfx j (K,Ls.map toL)).1=zc6 j.1++ [(K,Ls)]:=by rw[e1,zwj,hfr]
        have hdW:zco (zfx j (K,Ls.map toL)).1=zco j.1++ [(p:Int)]:=by rw[e1,zwh,hper]
        have hjl:j.1.length< (zfx j (K,Ls.map toL)).1.length:=by rw[e1,List.length_append,List.length_singleton];omega
        have hgl:(zfx j (K,Ls.map toL)).1[j.1.length]'hjl=((K,Ls.map toL),j.2.1):=by
          simp only[e1]
          rw[List.getElem_append_right (Nat.le_refl _)]
          simp
        have hat:=At_j hjl (by rw[hgl];show(Ls.map toL).length≤_;rw[List.length_map];omega)
        rw[hgl]at hat
        obtain⟨j1,hj1⟩: ∃j1,j1=zfx j (K,Ls.map toL):=⟨_,rfl⟩
        rw[←hj1]at hpost hat hdL hdW⊢
        rw[hdL,hdW]
        rw[List.length_map]at h2l
        have hz:((Ls.map toL).getD 0 ((0,(0,0)),0)).2=(Ls.getD 0 ((0,(0,(0,0))):zc3)).2.2.2:=by
          rw[at_n _ 0 (by rw[List.length_map];omega),at_n Ls 0 (by omega),List.getElem_map]
          rfl
        unfold purserlaw08_JournalJobs.l4
        simp only
        rw[ilt hi,cond_true,decide_eq_true (show(i:Int)<40 by omega),Option.bind_some,cond_true,nn,Bool.and_self,cond_true]
        simp only[hg]
        rw[hc,cond_false,cond_true,hent,hlegs,Option.bind_some]
        simp only
        rw[show journal_Journal_Post.f (j.1,(j.2.1,(j.2.2.1,j.2.2.2))) (K,Ls.map toL)=_ from hpost,Option.bind_some,hchk,Option.bind_some]
        rw[h0,bne_self_eq_false,cond_false,hdl,cond_false,hbnd,Option.bind_some]
        simp only
        rw[decide_eq_true (show(zc6 j.1).length+([(K,Ls)]:List (Int×List (Int×Int×Int×Int))).length≤1099511627776 by rw[zba];simp;omega),cond_true,decide_eq_true (show(zco j.1).length+([(p:Int)]:List Int).length≤1099511627776 by rw[znq];simp;omega),cond_true,Option.bind_some]
        simp only
        have hw:IntKind.i64.wrap (((zc6 j.1++ [(K,Ls)]).length:Int) - 1)=(j.1.length:Int):=by
          rw[List.length_append,zba,List.length_singleton,wr _ (by omega) (by omega)];omega
        rw[hw,bne_self_eq_false,Bool.not_false,cond_true,bne_self_eq_false,Option.bind_some,cond_false,hrf,Option.bind_some]
        rw[show((0:Int)==0)=true from rfl,cond_true,hat,Option.bind_some]
        simp only
        rw[hper,bne_self_eq_false,bne_self_eq_false,List.length_map,bne_self_eq_false,bne_self_eq_false,Bool.not_false,cond_true,cond_true,cond_true,cond_true]
        rw[show decide ((0:Nat)≤0)=true from rfl,decide_eq_true (show(0:Int)< (Ls.length:Int)by omega),Bool.and_self,cond_true,cond_true,cond_true,cond_true,hz,bne_self_eq_false,Option.bind_some,cond_false,Option.bind_some]
        simp only
        rw[Option.bind_some]
        simp only
        rw[wrS i (by omega)]
theorem zp4(a0:List PJob)(n:Nat)(hn:n=min a0.length 40): ∀(d i p:Nat) (j:Jn),i+d=n→JJ p i j→
  ∃p' j',JJ p' n j'∧zab (purserlaw08_JournalJobs.l4 a0) ((i:Int),(),j.1,j.2.1,j.2.2.1,j.2.2.2,(),zc6 j.1,zco j.1,(p:Int))=some (.inr ((),j'.1,j'.2.1,j'.2.2.1,j'.2.2.2,(),zc6 j'.1,zco j'.1,(p':Int)))
 |0,i,p,j,hi,h=>by
  refine⟨p,j,by rw[show n=i by omega];exact h,?_⟩
  have he:purserlaw08_JournalJobs.l4 a0 ((i:Int),(),j.1,j.2.1,j.2.2.1,j.2.2.2,(),zc6 j.1,zco j.1,(p:Int))=some (.inr (.inr ((),j.1,j.2.1,j.2.2.1,j.2.2.2,(),zc6 j.1,zco j.1,(p:Int)))):=by
   unfold purserlaw08_JournalJobs.l4
   simp only
   by_cases hl:i<a0.length
   ·rw[ilt hl,cond_true,decide_eq_false (show¬(i:Int)<40 by omega),Option.bind_some,cond_false]
   ·rw[decide_eq_false (show¬(i:Int)< (a0.length:Int)by omega),cond_false,Option.bind_some,cond_false]
  rw[zaf,he]
  rfl
 |d+1,i,p,j,hi,h=>by
  obtain⟨p',j',h1,h2⟩:=zyl h (by omega) a0 i (by omega) (by omega)
  obtain⟨p2,j2,g1,g2⟩:=zp4 a0 n hn d (i+1) p' j' (by omega) h1
  exact⟨p2,j2,g1,by rw[zaf,h2];exact g2⟩
theorem JournalJobs(x0:List PJob)(x1:Int)(wf0:zo3 (.slice (.pair (.int .i64) (.pair (.int .i64) (.pair (.int .i64) (.pair (.slice (.int .i64)) (.pair (.int .i64) (.pair (.int .i64) (.slice (.pair (.int .i64) (.pair (.int .i64) (.pair (.int .i64) (.int .i64)))))))))))) x0)(wf1:zo3 (.int .i64) x1):purserlaw08_JournalJobs.f x0 x1=some true:=by
 obtain⟨p,j,h,h1⟩:=zp4 x0 (min x0.length 40) rfl (min x0.length 40) 0 0 (([],(0,([],[[]]))):Jn) (by omega) jj_new
 have hm:min x0.length 40≤100:=by omega
 unfold purserlaw08_JournalJobs.f
 rw[zqw,Option.bind_some,Bool.not_true,Bool.not_false,cond_true,Option.bind_some,cond_false,show journal_New.f=some (([],(0,([],[[]]))):Jn)from rfl,Option.bind_some]
 simp only
 have h1':zab (purserlaw08_JournalJobs.l4 x0) (0,(),[],0,[],[[]],(),[],[],0)=_:=h1
 rw[h1',Option.bind_some]
 simp only
 rw[show journal_Journal_Len.f (j.1,(j.2.1,(j.2.2.1,j.2.2.2)))=some (j,(j.1.length:Int))from rfl,Option.bind_some]
 simp only
 rw[At_no (j:=j) (j.1.length:Int) (.inr (Int.le_refl _)),Option.bind_some]
 simp only
 rw[At_no (j:=j) (-1) (.inl (by omega)),Option.bind_some]
 simp only
 rw[show((7:Int)==7)=true from rfl,cond_true,cond_true]
 rw[show purserlaw08_like.f (j.1,(j.2.1,(j.2.2.1,j.2.2.2))) (zc6 j.1,(zco j.1,(p:Int))) x1=_ from zvv h hm x1,Option.bind_some]
 simp only
 rw[cond_true,show purserlaw08_like.f (j.1,(j.2.1,(j.2.2.1,j.2.2.2))) (zc6 j.1,(zco j.1,(p:Int))) (-1)=_ from zvv h hm (-1),Option.bind_some]
 simp only
 rw[cond_true,show purserlaw08_like.f (j.1,(j.2.1,(j.2.2.1,j.2.2.2))) (zc6 j.1,(zco j.1,(p:Int))) 0=_ from zvv h hm 0,Option.bind_some]
 rfl
end Go.Proofs.YtniohchnpfpffaaGreat.Pure
