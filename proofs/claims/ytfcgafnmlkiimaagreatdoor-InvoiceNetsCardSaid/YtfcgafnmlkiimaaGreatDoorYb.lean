/- What the journal says of nodes' usage,post by post. No statement of its own. -/
import Derived.Test.YtfcgafnmlkiimaaGreatDoorYa
set_option linter.unusedSimpArgs false
set_option linter.unusedVariables false
namespace Go.Proofs.YtfcgafnmlkiimaaGreatDoor.Pure
open Go.Vk Go.Am Go.Pg Go.Sort Go.Proofs.YtfcgafnmlkiimaaGreatDoor.Y
def tot(q:Int)(ns:List Int)(l:List Ps):Int:=sumL (allN q l ns ns.length)
theorem mvd_snoc(q:Int)(l:List Ps)(x:Ps)(n g:Int):mvd q (l++ [x]) n g=mvd q l n g+(if 0≤q∧x.2=q then atK (4,n,g) x.1.2 else 0):=by
 unfold mvd
 by_cases hq:0≤q
 ·rw[if_pos hq,if_pos hq,sumM_snoc]
  have hi:inM q x=decide (x.2=q):=by
   unfold inM
   rw[show decide (q≥0)=true from decide_eq_true hq,cond_true]
   by_cases h:x.2=q<;>simp[h]
  rw[hi]
  by_cases h:x.2=q
  ·rw[decide_eq_true h,cond_true,if_pos ⟨hq,h⟩]
  ·rw[decide_eq_false h,cond_false,if_neg (fun e=>h e.2)]
 ·rw[if_neg hq,if_neg hq,if_neg (fun e=>hq e.1)];rfl
theorem row_snoc{q:Int}{l:List Ps}{x:Ps}{C:Prop} [Decidable C]{n0 g0 b:Int}(hg:1≤g0∧g0≤8)(hx: ∀n g,mvd q (l++ [x]) n g=mvd q l n g - (if C∧n=n0∧g=g0 then b else 0))(n:Int):
  sumL (rowN q (l++ [x]) n)=sumL (rowN q l n)+(if C∧n=n0 then b else 0):=by
 have e: ∀l,sumL (rowN q l n)= -(mvd q l n 1)+(-(mvd q l n 2)+(-(mvd q l n 3)+(-(mvd q l n 4)+(-(mvd q l n 5)+(-(mvd q l n 6)+(-(mvd q l n 7)+(-(mvd q l n 8)+0))))))):=fun l=>rfl
 rw[e,e,hx n 1,hx n 2,hx n 3,hx n 4,hx n 5,hx n 6,hx n 7,hx n 8]
 by_cases hc:C∧n=n0
 ·obtain⟨hc,rfl⟩:=hc
  rcases(show g0=1∨g0=2∨g0=3∨g0=4∨g0=5∨g0=6∨g0=7∨g0=8 by omega)with rfl|rfl|rfl|rfl|rfl|rfl|rfl|rfl<;>simp[hc]<;>omega
 ·have h0: ∀g,¬(C∧n=n0∧g=g0):=fun g h=>hc ⟨h.1,h.2.1⟩
  simp only[h0,hc,if_false]
  omega
theorem all_snoc{q:Int}{l:List Ps}{x:Ps}{C:Prop} [Decidable C]{n0 g0 b:Int}(hg:1≤g0∧g0≤8)(hx: ∀n g,mvd q (l++ [x]) n g=mvd q l n g - (if C∧n=n0∧g=g0 then b else 0)): ∀U:List Int,U.Nodup→
  sumL (U.flatMap (rowN q (l++ [x])))=sumL (U.flatMap (rowN q l))+(if C∧n0∈U then b else 0)
 | [],_=>by simp[sumL]
 |n::U,hU=>by
  have ih:=all_snoc hg hx U (List.nodup_cons.1 hU).2
  have hn:=(List.nodup_cons.1 hU).1
  rw[List.flatMap_cons,List.flatMap_cons,sumL_app,sumL_app,ih,row_snoc hg hx n]
  by_cases hc:C
  ·by_cases h:n=n0
   ·subst h
    simp[hc,hn];omega
   ·have h': ¬n0=n:=fun e=>h e.symm
    simp[hc,h,h'];omega
  ·simp[hc]
theorem tot_snoc{q:Int}{ns:List Int}{l:List Ps}{x:Ps}{C:Prop} [Decidable C]{n0 g0 b:Int}(hg:1≤g0∧g0≤8)(hx: ∀n g,mvd q (l++ [x]) n g=mvd q l n g - (if C∧n=n0∧g=g0 then b else 0)):
  tot q ns (l++ [x])=tot q ns l+(if C∧n0∈ns then b else 0):=by
 unfold tot allN
 rw[all_snoc hg hx _ (uniq_nodup ns _ (Nat.le_refl _))]
 have:n0∈uniq ns ns.length↔n0∈ns:=by rw[mem_take _ (Nat.le_refl _),List.take_length]
 simp only[this]
theorem tot_com{q:Int}{ns:List Int}{l:List Ps}{p n a g:Int}(hg:1≤g∧g≤8)(hp:0≤p):tot q ns (l++ [((4,zCmN n a g),p)])=tot q ns l+(if p=q∧n∈ns then a else 0):=by
 refine tot_snoc (C:=p=q) hg fun m h=> ?_
 rw[mvd_snoc,atK_com]
 by_cases hq:p=q
 ·by_cases hm:m=n∧h=g
  ·obtain⟨rfl,rfl⟩:=hm
   simp[hq,show 0≤q by omega];omega
  ·simp[hq,hm]
 ·simp[hq]
theorem tot_ref{q:Int}{ns:List Int}{l:List Ps}{p n a g:Int}(hg:1≤g∧g≤8)(hp:0≤p):tot q ns (l++ [((6,zRfN n a g),p)])=tot q ns l+(if p=q∧n∈ns then -a else 0):=by
 refine tot_snoc (C:=p=q) hg fun m h=> ?_
 rw[mvd_snoc,atK_ref]
 by_cases hq:p=q
 ·by_cases hm:m=n∧h=g
  ·obtain⟨rfl,rfl⟩:=hm
   simp[hq,show 0≤q by omega]
  ·simp[hq,hm]
 ·simp[hq]
theorem far_no{p m:Nat}{j:Jn}(h:JJ p m j)(hm:m≤100)(g:Leg)(hg: -1000000≤g.2∧g.2≤1000000):far j.2.2.1 g=false:=by
 unfold far
 rw[h.sum]
 have:=h.bnd g.1 (-1)
 rw[wr _ (by omega) (by omega)]
 simp only[Bool.or_eq_false_iff,decide_eq_false_iff_not]
 omega
theorem post_two{p m:Nat}{j:Jn}(h:JJ p m j)(hm:m≤100)(k:Int)(x y:Leg)(hx: -1000000≤x.2∧x.2≤1000000)(hy: -1000000≤y.2∧y.2≤1000000)(hc:chk k [x,y]=0):
  journal_Journal_Post.f j (k,[x,y])=some (postJ j (k,[x,y]),((j.1.length:Int),0)):=by
 rw[own_post_j h hm (k,[x,y]) (by simp)]
 have h1: ¬chk k [x,y]≠0:=by rw[hc];simp
 have h2: [x,y].any (far j.2.2.1)=false:=by simp[far_no h hm x hx,far_no h hm y hy]
 rw[if_neg h1,h2]
 rfl
theorem modV(x:Int)(m:Int)(hm:2≤m∧m≤1000):1≤IntKind.i64.wrap (1+IntKind.i64.wrap (Int.tmod (IntKind.u64.wrap x) m))∧IntKind.i64.wrap (1+IntKind.i64.wrap (Int.tmod (IntKind.u64.wrap x) m))≤m:=by
 have h0:0≤IntKind.u64.wrap x:=by rw[IntKind.wrap_u64];omega
 rw[Int.tmod_eq_emod_of_nonneg h0]
 have h1:=Int.emod_nonneg (IntKind.u64.wrap x) (show m≠0 by omega)
 have h2:=Int.emod_lt_of_pos (IntKind.u64.wrap x) (show 0<m by omega)
 rw[wr (IntKind.u64.wrap x % m) (by omega) (by omega),wr _ (by omega) (by omega)]
 omega
end Go.Proofs.YtfcgafnmlkiimaaGreatDoor.Pure
