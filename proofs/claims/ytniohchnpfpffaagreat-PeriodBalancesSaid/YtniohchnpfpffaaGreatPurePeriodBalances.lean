/- The law PeriodBalances,in plain Lean. No statement of its own. -/
import Derived.Test.YtniohchnpfpffaaGreatSm
set_option linter.unusedSimpArgs false
set_option linter.unusedVariables false
namespace Go.Proofs.YtniohchnpfpffaaGreat.Pure
open Go.Vk Go.Am Go.Pg Go.Sort Go.Proofs.YtniohchnpfpffaaGreat.Y
abbrev PActB:=Int×Int×List Int×List Int×Int×Int×List Int
theorem getR(l:List FA)(d:FA){i:Nat}(h:i<l.length):l.getD i d=l[i]:=by
 rw[List.getD_eq_getElem?_getD,List.getElem?_eq_getElem h];rfl
theorem zyv:PRel 0 0 0 0 (([]:FB),(([],(0,([],[[]]))):Jn)) (List.replicate 33 V0,([],([],0))):=by
 have hz: ∀k,bal ([]:Bk) k=0:=fun k=>rfl
 refine⟨⟨bok_new,List.length_replicate,fun n hn=> ?_⟩,⟨⟨rfl,rfl,by omega,Nat.le_refl _⟩,rfl,rfl,rfl,fun x hx=>by simp at hx,fun k=>by rw[show bal _ k=0 from hz k];rfl,fun k=>by rw[show bal _ k=0 from hz k];omega,fun k=>by rw[show bal _ k=0 from hz k];omega⟩⟩
 rw[getR _ _ (by rw[List.length_replicate];omega),List.getElem_replicate]
 rfl
theorem bal_new:BalI 0 (([]:FB)) (([],(0,([],[[]]))):Jn):=by
 have hz: ∀k,bal ([]:Bk) k=0:=fun k=>rfl
 refine⟨fun n hn=>rfl,fun n hn=>rfl,fun n hn=>rfl,fun k=> ?_⟩
 rw[show bal (zm4 (([],(0,([],[[]]))):Jn)) k=0 from rfl]
 omega
theorem zsp(a0:List PActB)(n:Nat)(hn:n=min a0.length 60): ∀(d i p:Nat) (P:FB×Jn) (W:List FA×RJ),i+d=n→PRel p (64*i) (32*i) i P W→BalI i P.1 P.2→
  ∃y,za3 (purserlaw15_PeriodBalances.l3 a0) ((i:Int),(),P.1,P.2,(),W.1,W.2.1,W.2.2.1,W.2.2.2)=some (.inr y)
 |0,i,p,P,W,hi,h,hb=>by
  have hA:W.1.length=33:=h.b.len
  refine⟨((),P.1,P.2,(),W.1,W.2.1,W.2.2.1,W.2.2.2),?_⟩
  rw[zau]
  unfold purserlaw15_PeriodBalances.l3
  simp only
  by_cases hl:i<a0.length
  ·rw[show decide ((i:Int)< (a0.length:Int))=true from decide_eq_true (by omega),cond_true,show decide ((i:Int)<60)=false from decide_eq_false (by omega),Option.bind_some,cond_false,za7 hA]
   rfl
  ·rw[show decide ((i:Int)< (a0.length:Int))=false from decide_eq_false (by omega),cond_false,Option.bind_some,cond_false,za7 hA]
   rfl
 |d+1,i,p,P,W,hi,h,hb=>by
  have hA:W.1.length=33:=h.b.len
  have hl:i<a0.length:=by omega
  obtain⟨P',W',p',h1,h2,h3⟩:=act_eq h (by omega) (by omega) (by omega) (a0.getD i (0,(0,([],([],(0,(0,[]))))))) 
  have hb':BalI (i+1) P'.1 P'.2:=h3 i (by omega) hb
  obtain⟨y,g1⟩:=zsp a0 n hn d (i+1) p' P' W' (by omega) (by rw[show 64* (i+1)=64*i+64 by omega,show 32* (i+1)=32*i+32 by omega];exact h2) hb'
  refine⟨y,?_⟩
  have hA':W'.1.length=33:=h2.b.len
  have hnl:=zwg h2.b.ok h2.j hb' (by omega)
  obtain⟨a,e,t1,t2⟩:=zxy h2.j (by omega)
  have hst:purserlaw15_PeriodBalances.l3 a0 ((i:Int),(),P.1,P.2,(),W.1,W.2.1,W.2.2.1,W.2.2.2)=some (.inl (((i+1:Nat):Int),(),P'.1,P'.2,(),W'.1,W'.2.1,W'.2.2.1,W'.2.2.2)):=by
   unfold purserlaw15_PeriodBalances.l3
   simp only
   rw[show decide ((i:Int)< (a0.length:Int))=true from decide_eq_true (by omega),cond_true,show decide ((i:Int)<60)=true from decide_eq_true (by omega),Option.bind_some,cond_true,show decide ((0:Int)≤(i:Int))=true from decide_eq_true (by omega),Bool.true_and,cond_true,za7 hA,Int.toNat_natCast]
   rw[show purserlaw15_Act_do.f ((a0.getD i (0,(0,([],([],(0,(0,[]))))))).1,(((a0.getD i (0,(0,([],([],(0,(0,[]))))))).2).1,((((a0.getD i (0,(0,([],([],(0,(0,[]))))))).2).2).1,(((((a0.getD i (0,(0,([],([],(0,(0,[]))))))).2).2).2).1,((((((a0.getD i (0,(0,([],([],(0,(0,[]))))))).2).2).2).2).1,(((((((a0.getD i (0,(0,([],([],(0,(0,[]))))))).2).2).2).2).2).1,((((((a0.getD i (0,(0,([],([],(0,(0,[]))))))).2).2).2).2).2).2)))))) (P.1,(P.2.1,(P.2.2.1,(P.2.2.2.1,P.2.2.2.2)))) (W.1,(W.2.1,(W.2.2.1,W.2.2.2)))=some ((P',(W',())),true)from h1,Option.bind_some]
   simp only
   rw[Bool.not_true,cond_false,hnl,Option.bind_some]
   simp only
   rw[t1,Option.bind_some]
   simp only
   have he:(((bif (e !=0)then(bif !(e !=6)then(some (a !=a))else(some true))else(some (a !=a))):Option (Bool)))=some false:=by
    rcases t2 with rfl|rfl<;>simp
   rw[he,Option.bind_some,cond_false,za7 hA',wrS i (by omega)]
  rw[zau,hst]
  exact g1
theorem PeriodBalances(x0:List PActB)(wf0:zt4 (.slice (.pair (.int .i64) (.pair (.int .i64) (.pair (.slice (.int .i64)) (.pair (.slice (.int .i64)) (.pair (.int .i64) (.pair (.int .i64) (.slice (.int .i64))))))))) x0):purserlaw15_PeriodBalances.f x0=some true:=by
 obtain⟨y,h1⟩:=zsp x0 (min x0.length 60) rfl (min x0.length 60) 0 0 (([]:FB),(([],(0,([],[[]]))):Jn)) (List.replicate 33 V0,([],([],0))) (by omega) zyv bal_new
 unfold purserlaw15_PeriodBalances.f
 rw[show period_New.f=some (([]:FB),(([],(0,([],[[]]))):Jn))from rfl,Option.bind_some,zyt,Option.bind_some,Bool.not_true,cond_false]
 simp only
 have h1':za3 (purserlaw15_PeriodBalances.l3 x0) (0,(),([]:FB),(([],(0,([],[[]]))):Jn),(),(List.replicate 33 V0),[],[],0)=_:=h1
 rw[h1']
 rfl
end Go.Proofs.YtniohchnpfpffaaGreat.Pure
