/- Plain laws of the journal: the first line of its laws,and what a row of top-ups makes. No statement of its own. -/
import Derived.Test.YtniohchnpfpffaaGreatJa
set_option linter.unusedSimpArgs false
set_option linter.unusedVariables false
namespace Go.Proofs.YtniohchnpfpffaaGreat.Pure
open Go.Vk Go.Am Go.Pg Go.Sort Go.Proofs.YtniohchnpfpffaaGreat.Y
def legs1:List Leg:= [((1,0,0),5),((2,1,0),-5)]
theorem make_1:entry_Make.f 1 5 [1] 0=some ((1,legs1),0):=by
 obtain⟨ys,hp,hs,hm⟩:=zvp 1 5 [1] 0 (by decide) (by decide)
 have hys:ys=legs1:=by
  refine zra (hp.trans ?_) hs ?_
  ·decide
  ·simp[ltA,legs1]
 subst hys
 have hc:chk 1 legs1=0:=by decide
 rw[hc]at hm
 simpa using hm
def J1:Jn:=([((1,legs1),0)],(0,([some ((1,0,0),5),some ((2,1,0),-5)],[[some ((1,0,0),5),some ((2,1,0),-5)]])))
theorem post_1:journal_Journal_Post.f ([],(0,([],[[]]))) (1,legs1)=some (J1,(0,0)):=by
 rw[zvb ([],(0,([],[[]]))) (1,legs1) 0 rfl (by decide) (by decide) (by decide)]
 have hc:chk 1 legs1=0:=by decide
 have hf:legs1.any (far [])=false:=by decide
 simp only[hc,hf]
 rfl
theorem trial_1:journal_Journal_Trial.f J1 0=some (J1,(5,5,0)):=by
 have h4:zab (journal_Journal_Trial.l4 J1 ([],[],0)) ([],[],0)=some ([5,0],[0,5]):=zfm (n:=3) rfl
 have h2:zab (journal_Journal_Trial.l2 J1 0) ([],[],0)=some ([5,0],[0,5]):=by
  rw[zaf]
  have e:journal_Journal_Trial.l2 J1 0 ([],[],0)=some (.inl ([5,0],[0,5],1)):=by
   unfold journal_Journal_Trial.l2
   simp only
   rw[h4]
   rfl
  rw[e]
  simp only[Option.bind_some]
  rw[zaf]
  rfl
 have s1:arith_Sum.f [5,0]=some (5,true):=by
  unfold arith_Sum.f
  rw[zfm (n:=3) (f:=arith_Sum.l1 [5,0]) (s:=(0,0,0)) (b:=(0,5)) rfl]
  rfl
 have s2:arith_Sum.f [0,5]=some (5,true):=by
  unfold arith_Sum.f
  rw[zfm (n:=3) (f:=arith_Sum.l1 [0,5]) (s:=(0,0,0)) (b:=(0,5)) rfl]
  rfl
 unfold journal_Journal_Trial.f
 rw[h2]
 simp only[Option.bind_some,s1,s2]
 rfl
theorem zqw:purserlaw08_journals.f=some true:=by
 unfold purserlaw08_journals.f
 rw[new_eq,Option.bind_some,make_1,Option.bind_some]
 simp only
 rw[post_1,Option.bind_some]
 simp only
 rw[show(J1.1,J1.2.1,J1.2.2.1,J1.2.2.2)=J1 from rfl,trial_1,Option.bind_some]
 rfl
/-! ### a row of top-ups -/
theorem eqA(a b:Acc):eqT KA a b=decide (a=b):=by
 obtain⟨x,y,z⟩:=a
 obtain⟨u,v,w⟩:=b
 simp[eqT,Bool.decide_and]
 rfl
theorem zkx(B:Bk)(l:Leg)(q:Acc):bal (upd B l) q=if q=l.1 then IntKind.i64.wrap (bal B l.1+l.2)else bal B q:=by
 unfold upd
 unfold bal
 rw[zr1 flatK]
 rw[eqA]
 by_cases h:q=l.1
 ·simp[h]
 ·simp[h]
end Go.Proofs.YtniohchnpfpffaaGreat.Pure
