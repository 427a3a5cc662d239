/- The law PeriodRestores,in plain Lean. No statement of its own. -/
import Derived.Test.YtniohchnpfpffaaGreatTb
set_option linter.unusedSimpArgs false
set_option linter.unusedVariables false
namespace Go.Proofs.YtniohchnpfpffaaGreat.Pure
open Go.Vk Go.Am Go.Pg Go.Sort Go.Proofs.YtniohchnpfpffaaGreat.Y
abbrev PAct:=Int×Int×List Int×List Int×Int×Int×List Int
theorem zDh:PRel 0 0 0 0 (([]:FB),(([],(0,([],[[]]))):Jn)) (List.replicate 33 V0,([],([],0))):=by
 have hz: ∀k,bal ([]:Bk) k=0:=fun k=>rfl
 refine⟨⟨zCc,List.length_replicate,fun n hn=> ?_⟩,⟨⟨rfl,rfl,by omega,Nat.le_refl _⟩,rfl,rfl,rfl,fun x hx=>by simp at hx,fun k=>by rw[show bal _ k=0 from hz k];rfl,fun k=>by rw[show bal _ k=0 from hz k];omega,fun k=>by rw[show bal _ k=0 from hz k];omega⟩⟩
 rw[gDe _ _ (by rw[List.length_replicate];omega),List.getElem_replicate]
 rfl
theorem bal_new:BalI 0 (([]:FB)) (([],(0,([],[[]]))):Jn):=by
 refine⟨fun n hn=>rfl,fun n hn=>rfl,fun n hn=>rfl,fun k=> ?_⟩
 rw[show bal (zld (([],(0,([],[[]]))):Jn)) k=0 from rfl]
 omega
theorem zpx(a0:List PAct)(n:Nat)(hn:n=min a0.length 40): ∀(d i p:Nat) (P:FB×Jn) (W:List FA×RJ),i+d=n→PRel p (64*i) (32*i) i P W→BalI i P.1 P.2→Rch P.2→
  ∃P' W' p',za2 (purserlaw15_PeriodRestores.l2 a0) ((i:Int),(),P.1,P.2,(),W.1,W.2.1,W.2.2.1,W.2.2.2)=some (.inr ((),P'.1,P'.2,(),W'.1,W'.2.1,W'.2.2.1,W'.2.2.2))∧PRel p' (64*n) (32*n) n P' W'∧BalI n P'.1 P'.2∧Rch P'.2
 |0,i,p,P,W,hi,h,hb,hR=>by
  refine⟨P,W,p,?_,by rw[show n=i by omega];exact h,by rw[show n=i by omega];exact hb,hR⟩
  have hA:W.1.length=33:=h.b.len
  rw[zai]
  unfold purserlaw15_PeriodRestores.l2
  simp only
  by_cases hl:i<a0.length
  ·rw[show decide ((i:Int)< (a0.length:Int))=true from decide_eq_true (by omega),cond_true,show decide ((i:Int)<40)=false from decide_eq_false (by omega),Option.bind_some,cond_false,za6 hA]
   rfl
  ·rw[show decide ((i:Int)< (a0.length:Int))=false from decide_eq_false (by omega),cond_false,Option.bind_some,cond_false,za6 hA]
   rfl
 |d+1,i,p,P,W,hi,h,hb,hR=>by
  have hA:W.1.length=33:=h.b.len
  have hl:i<a0.length:=by omega
  obtain⟨P',W',p',h1,h2,h3,h4⟩:=act_eq h (by omega) (by omega) (by omega) (a0.getD i (0,(0,([],([],(0,(0,[]))))))) 
  obtain⟨P2,W2,p2,g1,g2⟩:=zpx a0 n hn d (i+1) p' P' W' (by omega) (by rw[show 64* (i+1)=64*i+64 by omega,show 32* (i+1)=32*i+32 by omega];exact h2) (h3 i (by omega) hb) (h4 hR)
  refine⟨P2,W2,p2,?_,g2⟩
  have hA':W'.1.length=33:=h2.b.len
  have hst:purserlaw15_PeriodRestores.l2 a0 ((i:Int),(),P.1,P.2,(),W.1,W.2.1,W.2.2.1,W.2.2.2)=some (.inl (((i+1:Nat):Int),(),P'.1,P'.2,(),W'.1,W'.2.1,W'.2.2.1,W'.2.2.2)):=by
   unfold purserlaw15_PeriodRestores.l2
   simp only
   rw[show decide ((i:Int)< (a0.length:Int))=true from decide_eq_true (by omega),cond_true,show decide ((i:Int)<40)=true from decide_eq_true (by omega),Option.bind_some,cond_true,show decide ((0:Int)≤(i:Int))=true from decide_eq_true (by omega),Bool.true_and,cond_true,za6 hA,Int.toNat_natCast]
   rw[show purserlaw15_Act_do.f ((a0.getD i (0,(0,([],([],(0,(0,[]))))))).1,(((a0.getD i (0,(0,([],([],(0,(0,[]))))))).2).1,((((a0.getD i (0,(0,([],([],(0,(0,[]))))))).2).2).1,(((((a0.getD i (0,(0,([],([],(0,(0,[]))))))).2).2).2).1,((((((a0.getD i (0,(0,([],([],(0,(0,[]))))))).2).2).2).2).1,(((((((a0.getD i (0,(0,([],([],(0,(0,[]))))))).2).2).2).2).2).1,((((((a0.getD i (0,(0,([],([],(0,(0,[]))))))).2).2).2).2).2).2)))))) (P.1,(P.2.1,(P.2.2.1,(P.2.2.2.1,P.2.2.2.2)))) (W.1,(W.2.1,(W.2.2.1,W.2.2.2)))=some ((P',(W',())),true)from h1,Option.bind_some]
   simp only
   rw[Bool.not_true,cond_false,za6 hA',wrS i (by omega)]
  rw[zai,hst]
  exact g1
theorem at_loop{p N m c:Nat}{B:FB}{j:Jn}{As:List FA}{J:RJ}(h:PRel p N m c (B,j) (As,J))(hm:m≤16384)(e6:Unit×FB×Jn×Unit×(List FA)×(List (Int×List zd8))×(List Int)×Int)(he:e6.2.2.2.2.2.1.length=j.1.length):
  za2 (purserlaw15_PeriodRestores.l12 e6) ([],[],0,(),j)=some (.inr (j.1.map (·.1),j.1.map (·.2),(),j)):=by
 have hjl:j.1.length≤m:=h.j.ji.list
 refine zap (fun i=>((j.1.take i).map (·.1),(j.1.take i).map (·.2),(i:Int),(),j)) j.1.length rfl (fun i hi=> ?_) ?_
 ·have hce:=h.j.ent _ (List.getElem_mem hi)
  have hll:(j.1[i]).1.2.length≤1000000:=by have:=(zht hce).1;omega
  have hat:journal_Journal_At.f (j.1,j.2.1,j.2.2.1,j.2.2.2) (i:Int)=some (j,(((j.1[i]).1.1,(j.1[i]).1.2),(j.1[i]).2,0)):=by
   unfold journal_Journal_At.f
   simp only
   rw[show decide ((i:Int)<0)=false by simp,Bool.not_false,cond_true,show decide ((i:Int)≥(j.1.length:Int))=false by simp;omega,Option.bind_some,cond_false,nn,ilt hi,Bool.true_and,cond_true,cond_true,at_ j.1 i hi,zrf _ (by omega),Option.bind_some]
  unfold purserlaw15_PeriodRestores.l12
  simp only
  rw[he,ilt hi,cond_true,hat,Option.bind_some]
  simp only
  rw[bne_self_eq_false,cond_false,decide_eq_true (show((j.1.take i).map (·.1)).length+([((j.1[i]).1.1,(j.1[i]).1.2)]:List (Int×List ((Int×Int×Int)×Int))).length≤1099511627776 by rw[List.length_map,List.length_take];simp;omega),cond_true,decide_eq_true (show((j.1.take i).map (·.2)).length+([(j.1[i]).2]:List Int).length≤1099511627776 by rw[List.length_map,List.length_take];simp;omega),cond_true,wrS i (by omega),zad j.1 i hi,List.map_append,List.map_append]
  rfl
 ·rw[List.take_length]
  unfold purserlaw15_PeriodRestores.l12
  simp only
  rw[he,ige,cond_false]
theorem zwj(B:FB): ∀(l:List Int) (M:FB),(l.foldl (fun M n=>if geA B n=V0 then M else zaw KI VA M n (geA B n)) M).length≤M.length+l.length
 | [],M=>by simp
 |n::l,M=>by
  rw[List.foldl_cons]
  have h1:=zwj B l (if geA B n=V0 then M else zaw KI VA M n (geA B n))
  have h2:=zmn M n (geA B n)
  have h3:(if geA B n=V0 then M else zaw KI VA M n (geA B n)).length≤M.length+1:=by split<;>omega
  simp only[List.length_cons]
  omega
theorem zx2(B:FB):(zjp B).length≤32:=by
 have:=zwj B nodes32 []
 rw[zbr]at this
 simpa[zjp,zv1]using this
theorem zqq(p:Int→Bool):(nodes32.filter p).length≤32:=by
 have:=List.length_filter_le p nodes32
 rw[zbr]at this
 exact this
theorem zE8: ∃r,purserref07_Make.f 1 1 [1] 0=some r∧r.1.2.length=2:=by
 obtain⟨L,f,kk,h1,h2,_⟩:=zm5 1 1 [1] 0 (by simp)
 have h3:=mTop 1 1 (by omega) (by omega)
 rw[h3]at h1
 have h4:=Option.some.inj h1
 have h5:zvc 1 1=L.map toL:=congrArg (fun x=>x.1.2) h4
 refine⟨_,h2,?_⟩
 have h6:=congrArg List.length h5
 rw[List.length_map]at h6
 exact h6.symm
/-- set,posted,looked at: made again of accounts that are right -/
theorem zCb{B:FB}{N:Nat}(hB:BOk B N):BOk (zb0 (geA (zjp B)) [] (zb9 B)) 32∧∀q,geA (zb0 (geA (zjp B)) [] (zb9 B)) q=geA B q:=by
 have hr: ∀n∈zb9 B,1≤n∧n≤32:=fun n hn=>(ks_mem.1 hn).1
 obtain⟨k1,k2⟩:=zde (geA (zjp B)) (zb9 B) [] 0 zCc hr (fun n hn=>by rw[zkn B n (hr n hn)];exact hB.ok n)
 refine⟨k1.mono (by have:=zqq (fun n=>decide (geA B n≠V0));unfold zb9;omega),fun q=> ?_⟩
 rw[k2]
 by_cases h:q∈zb9 B
 ·rw[if_pos h,zkn B q (hr q h)]
 ·rw[if_neg h]
  have h0:geA ([]:FB) q=V0:=rfl
  rw[h0]
  by_cases hq:1≤q∧q≤32
  ·exact(Classical.byContradiction fun hn=>h (ks_mem.2 ⟨hq,fun e=>hn e.symm⟩))
  ·exact(zwi (fun hk=>hq (hB.rng q hk))).symm
theorem set_top{g:FA}(h:OkA g):IntKind.i64.wrap (g.1+1)=g.1+1:=by
 have:=h.t;exact wr _ (by omega) (by omega)
theorem zDv{g:FA}(h:OkA g):funds_Account_left.f (g.1+1,(g.2.1,(g.2.2.1,(g.2.2.2.1,g.2.2.2.2))))=some (zag g+1):=by
 obtain⟨h1,h2,h3,h4,h5,h6,h7⟩:=h
 unfold funds_Account_left.f
 simp only
 unfold zag at h7⊢
 rw[wr (g.1+1+g.2.1) (by omega) (by omega),wr (g.1+1+g.2.1 - g.2.2.1) (by omega) (by omega),wr (g.1+1+g.2.1 - g.2.2.1 - g.2.2.2.1) (by omega) (by omega),wr (g.1+1+g.2.1 - g.2.2.1 - g.2.2.2.1 - g.2.2.2.2) (by omega) (by omega)]
 congr 1
 omega
theorem PeriodRestores(x0:List PAct)(x1:Int)(wf0:zrt (.slice (.pair (.int .i64) (.pair (.int .i64) (.pair (.slice (.int .i64)) (.pair (.slice (.int .i64)) (.pair (.int .i64) (.pair (.int .i64) (.slice (.int .i64))))))))) x0)(wf1:zrt (.int .i64) x1):purserlaw15_PeriodRestores.f x0 x1=some true:=by
 obtain⟨⟨B,j⟩,⟨As,J⟩,p,h1,h2,hb,hR⟩:=zpx x0 (min x0.length 40) rfl (min x0.length 40) 0 0 (([]:FB),(([],(0,([],[[]]))):Jn)) (List.replicate 33 V0,([],([],0))) (by omega) zDh bal_new .new
 have hm:32*min x0.length 40≤16384:=by omega
 have hc:min x0.length 40≤100:=by omega
 have hB:BOk B _:=h2.b.ok
 have hrest:=zDe hR
 have hJl:J.1.length=j.1.length:=by rw[h2.j.lst,List.length_map]
 have hj31:j.1.length≤16384:=hrest.jb.len
 obtain⟨k,hk,hkm⟩:=modK x1 32 (by omega) (by omega)
 rw[show(((32:Nat):Nat):Int)=32 from rfl]at hkm
 obtain⟨n,hnk⟩: ∃n:Int,n=(((k+1:Nat):Nat):Int):=⟨_,rfl⟩
 have hn:1≤n∧n≤32:=by omega
 have hn1:IntKind.i64.wrap (1+(k:Int))=n:=by rw[wr _ (by omega) (by omega)];omega
 have hgn:=zkn B n hn
 have hOn:=hB.ok n
 obtain⟨a',ha'⟩: ∃a':FA,a'=(IntKind.i64.wrap ((geA (zjp B) n).1+1),((geA (zjp B) n).2.1,((geA (zjp B) n).2.2.1,((geA (zjp B) n).2.2.2.1,(geA (zjp B) n).2.2.2.2)))):=⟨_,rfl⟩
 have ha2:a'=((geA B n).1+1,((geA B n).2.1,((geA B n).2.2.1,((geA B n).2.2.2.1,(geA B n).2.2.2.2)))):=by rw[ha',hgn,set_top hOn]
 obtain⟨b,hbr⟩:=zs6 a'
 obtain⟨v,hv⟩: ∃v:Int,v=if b=true then 20 else 1:=⟨_,rfl⟩
 obtain⟨rm,hrm1,hrm2⟩:=zE8
 obtain⟨hQ1,hQ2⟩:=zCb hB
 have hn00:period_New.f=some (([]:FB),j00):=rfl
 unfold purserlaw15_PeriodRestores.f
 rw[show period_New.f=some (([]:FB),(([],(0,([],[[]]))):Jn))from rfl,Option.bind_some]
 simp only
 have h1':za2 (purserlaw15_PeriodRestores.l2 x0) (0,(),([]:FB),(([],(0,([],[[]]))):Jn),(),(List.replicate 33 V0),[],[],0)=_:=h1
 rw[h1',Option.bind_some]
 simp only
 rw[zEn hB,Option.bind_some]
 have hat:za2 (purserlaw15_PeriodRestores.l12 ((),B,j,(),As,J.1,J.2.1,J.2.2)) ([],[],0,(),j.1,j.2.1,j.2.2.1,j.2.2.2)=some (.inr (j.1.map (·.1),j.1.map (·.2),(),j)):=at_loop h2 hm _ hJl
 rw[hat,Option.bind_some]
 simp only
 rw[zot j,Option.bind_some]
 simp only
 rw[Option.bind_some,Nat.ble_eq_true_of_le (show(zjp B).length≤1099511627776 by have:=zx2 B;omega),cond_true]
 refine zcy (x:=true) fun l19 hl19=> ?_
 have hl19:l19.Perm (zbx (zjp B)):=hl19
 have hs:=(zrm B).sort hl19
 have hkl:(zb9 B).length≤32:=zqq _
 rw[Nat.ble_eq_true_of_le (show l19.length≤1099511627776 by have:=hl19.length_eq;have:=(zrm B).len;omega),cond_true]
 have hset:=zq0 (M:=zjp B) (ks:=zb9 B) (zrm B).rng (by omega) (f:=purserlaw15_PeriodRestores.l20 ((),B,zjp B) l19) (fun i hi B' r hr=>by
  unfold purserlaw15_PeriodRestores.l20
  simp only
  rw[hs,ilt hi,nn,Bool.and_self,cond_true,cond_true,at_ (zb9 B) i hi]
  erw[hr]
  rfl) (fun B'=>by
  unfold purserlaw15_PeriodRestores.l20
  simp only
  rw[hs,ige,cond_false]) (zb9 B).length 0 [] (by omega)
 rw[show((0:Nat):Int)=0 from rfl,List.drop_zero]at hset
 rcases hset with⟨B',_,k',hk',hk2⟩|⟨hset,_⟩
 ·rw[zkn B k' ((zrm B).rng k' hk'),zq5 (hB.ok k')]at hk2
  cases hk2
 rw[hset,Option.bind_some]
 simp only
 obtain⟨Q,hQ⟩: ∃Q,Q=zb0 (geA (zjp B)) [] (zb9 B):=⟨_,rfl⟩
 rw[←hQ]at hQ1 hQ2⊢
 rw[show period_Purse_entries.f (Q,(([],(0,([],[[]]))):Jn)) (j.1.map (·.1)) (j.1.map (·.2)) j.2.1=some ((Q,j),0)from zpj hrest Q,Option.bind_some]
 simp only
 rw[bne_self_eq_false,cond_false]
 have hr1:=zjv (Q:=Q) (j:=j) (rp:=fun q=>decide (zag (geA Q q)=zag (geA B q)) && (decide ((geA Q q).2.2.2.2=(geA B q).2.2.2.2) && decide ((geA Q q).2.2.2.1=(geA B q).2.2.2.1))) (fun q hq=>zs7 h2.j.ji hb hc hq (hB.ok q) (zkb (hQ1.ok q))) 32 0 rfl
 rw[ztt (fun q _ _=>by simp[hQ2]),cond_true]at hr1
 rw[show za2 purserlaw15_PeriodRestores.l28 (0,(),Q,(j.1,(j.2.1,(j.2.2.1,j.2.2.2))))=_ from hr1,Option.bind_some]
 simp only
 rw[zA1,Option.bind_some,Bool.not_true,Bool.not_false,cond_true,za6 h2.b.len]
 have hP:PRel p (64*min x0.length 40+32) (32*min x0.length 40) (min x0.length 40) (Q,j) (As,J):=⟨⟨hQ1.mono (by omega),h2.b.len,fun q hq=>by rw[h2.b.get q hq,hQ2]⟩,h2.j⟩
 obtain⟨Qx,hq⟩:=like_eq hP (by omega) (by omega)
 rw[show purserlaw15_like.f (Q,(j.1,(j.2.1,(j.2.2.1,j.2.2.2)))) (As,(J.1,(J.2.1,J.2.2)))=some (Qx,true)from hq,Option.bind_some]
 simp only
 rw[Bool.not_true,cond_false,hkm,hn1,Option.bind_some]
 rw[show∀a:FA,Nat.ble (zaw KI VA (zjp B) n a).length 1099511627776=true from fun a=>Nat.ble_eq_true_of_le (by have:=zmn (zjp B) n a;have:=zx2 B;omega),cond_true]
 rw[zcy (x:=v) (fun l37 hl37=> ?_),Option.bind_some]
 ·rw[decide_eq_true (show(j.1.map (·.2)).length+([0]:List Int).length≤1099511627776 by rw[List.length_map];simp;omega),cond_true,Option.bind_some,show Nat.ble (List.length ([]:List Int)) 1099511627776=true from rfl,cond_true]
  have hl51:za2 purserlaw15_PeriodRestores.l51 (0,(),([]:FB))=some (.inr ((),[])):=by
   rw[zai]
   unfold purserlaw15_PeriodRestores.l51
   simp
  have hl64:za2 purserlaw15_PeriodRestores.l64 (0,(),([]:FB))=some (.inr ((),[])):=by
   rw[zai]
   unfold purserlaw15_PeriodRestores.l64
   simp
  simp only
  rw[hl51,Option.bind_some]
  simp only
  rw[show period_Purse_entries.f (([]:FB),(([],(0,([],[[]]))):Jn)) (j.1.map (·.1)) (j.1.map (·.2)++ [0]) j.2.1=some ((([]:FB),j00),1)from zv5 _ _ _ _ _ (by simp),Option.bind_some]
  simp only
  rw[show((1:Int) !=0)=true from rfl,cond_true,Option.bind_some,Option.bind_some,cond_true,hl64,Option.bind_some]
  simp only
  rw[show period_Purse_entries.f (([]:FB),(([],(0,([],[[]]))):Jn)) [] [] 32=some ((([]:FB),j00),1)from zya _ _,Option.bind_some]
  simp only
  rw[show((1:Int) !=0)=true from rfl,cond_true,Option.bind_some,hrm1,Option.bind_some]
  rw[hrm2,hv]
  cases b<;>rfl
 ·have hM2:=acc2_ok B hn a'
  obtain⟨M2,hM⟩: ∃M2,M2=zaw KI VA (zjp B) n a':=⟨_,rfl⟩
  have hl37:l37.Perm (zbx M2):=by rw[hM,ha'];exact hl37
  rw[←hM]at hM2
  have hgM: ∀q,geA M2 q=if q=n then a' else geA (zjp B) q:=fun q=>by rw[hM];exact zkh _ _ _ _
  have hs2:=hM2.sort hl37
  have hkl2:(ks2 B n).length≤32:=zqq _
  rw[Nat.ble_eq_true_of_le (show l37.length≤1099511627776 by have:=hl37.length_eq;have:=hM2.len;omega),cond_true]
  have hset:=zq0 (M:=M2) (ks:=ks2 B n) hM2.rng (by omega) (f:=purserlaw15_PeriodRestores.l38 x1 ((),B,zjp B) l37) (fun i hi B' r hr=>by
   unfold purserlaw15_PeriodRestores.l38
   simp only
   rw[hs2,hkm,hn1,ilt hi,nn,Bool.and_self,cond_true,cond_true,at_ (ks2 B n) i hi]
   rw[hM,ha']at hr
   erw[hr]
   rfl) (fun B'=>by
   unfold purserlaw15_PeriodRestores.l38
   simp only
   rw[hs2,ige,cond_false]) (ks2 B n).length 0 [] (by omega)
  rw[show((0:Nat):Int)=0 from rfl,List.drop_zero]at hset
  rcases hset with⟨B',e,q,hq,hq2⟩|⟨e,hall⟩
  ·have hbf:b=false:=by
    rw[hgM]at hq2
    by_cases hqn:q=n
    ·rw[if_pos hqn,hbr]at hq2;exact Option.some.inj hq2
    ·rw[if_neg hqn,zkn B q (hM2.rng q hq),zq5 (hB.ok q)]at hq2
     cases hq2
   rw[e,Option.bind_some,hv,hbf]
   rfl
  ·have hnk2:n∈ks2 B n:=List.mem_filter.2 ⟨(zch n).2 hn,by simp⟩
   have hbt:b=true:=by
    have:=hall n hnk2
    rw[hgM,if_pos rfl,hbr]at this
    exact Option.some.inj this
   rw[e,Option.bind_some]
   simp only
   obtain⟨Q2,hQ2'⟩: ∃Q2,Q2=zb0 (geA M2) [] (ks2 B n):=⟨_,rfl⟩
   have hg2: ∀q,1≤q∧q≤32→geA Q2 q=if q=n then a' else geA B q:=fun q hq=>by
    rw[hQ2',zvh _ _ ([]:FB) List.nodup_nil]
    by_cases hm:q∈ks2 B n
    ·rw[if_pos hm,hgM,zkn B q hq]
    ·rw[if_neg hm]
     have hqn:q≠n:=fun e=>hm (e▸hnk2)
     rw[if_neg hqn]
     have:geA B q=V0:=Classical.byContradiction fun hz=>hm (List.mem_filter.2 ⟨(zch q).2 hq,by simp[hz]⟩)
     rw[this]
     rfl
   rw[←hQ2']
   rw[show period_Purse_entries.f (Q2,(([],(0,([],[[]]))):Jn)) (j.1.map (·.1)) (j.1.map (·.2)) j.2.1=some ((Q2,j),0)from zpj hrest Q2,Option.bind_some]
   simp only
   rw[bne_self_eq_false,cond_false]
   have hr2:=zjv (Q:=Q2) (j:=j) (rp:=fun q=>decide ((if q=n then zag (geA B n)+1 else zag (geA B q))=zag (geA B q)) && (decide ((geA Q2 q).2.2.2.2=(geA B q).2.2.2.2) && decide ((geA Q2 q).2.2.2.1=(geA B q).2.2.2.1))) (fun q hq=>zs7 h2.j.ji hb hc hq (hB.ok q) (by
    rw[hg2 q hq]
    by_cases hqn:q=n
    ·rw[if_pos hqn,if_pos hqn,ha2];exact zDv hOn
    ·rw[if_neg hqn,if_neg hqn];exact zkb (hB.ok q))) 32 0 rfl
   rw[zpw k (by omega) (by omega) (by
    rw[show((k:Int)+1)=n by omega,if_pos rfl,decide_eq_false (by omega),Bool.false_and]),cond_false]at hr2
   rw[show za2 purserlaw15_PeriodRestores.l44 (0,(),Q2,(j.1,(j.2.1,(j.2.2.1,j.2.2.2))))=_ from hr2,Option.bind_some,hv,hbt]
   rfl
end Go.Proofs.YtniohchnpfpffaaGreat.Pure
