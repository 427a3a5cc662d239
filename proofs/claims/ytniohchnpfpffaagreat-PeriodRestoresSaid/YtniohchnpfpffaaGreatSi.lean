/- Plain laws: what an entry that is made does to the accounts of one node. No statement of its own. -/
import Derived.Test.YtniohchnpfpffaaGreatSc
set_option linter.unusedSimpArgs false
set_option linter.unusedVariables false
namespace Go.Proofs.YtniohchnpfpffaaGreat.Pure
open Go.Vk Go.Am Go.Pg Go.Sort Go.Proofs.YtniohchnpfpffaaGreat.Y
theorem zDq{k a g:Int}{l:List Int}{kk:Int}{ys:List Leg}(h:entry_Make.f k a l g=some ((kk,ys),0)):
  kk=k∧(1≤k∧k≤6)∧(1≤a∧a≤9007199254740992∧pathB l=true)∧ys.Perm (zcb k a g l)∧chk k ys=0:=by
 by_cases hk:1≤k∧k≤6
 ·by_cases ha:1≤a∧a≤9007199254740992∧pathB l=true
  ·obtain⟨zs,h1,h2,h3⟩:=zuq k a l g hk ha
   rw[h3]at h
   by_cases hc:chk k zs=0
   ·rw[if_neg (by simp[hc])]at h
    injection h with h
    injection h with h h0
    injection h with h4 h5
    subst h4 h5
    exact⟨rfl,hk,ha,h1,hc⟩
   ·rw[if_pos hc]at h
    injection h with h
    injection h with h h0
    exact absurd h0 hc
  ·rw[zw2 k a l g hk ha]at h
   injection h with h
   injection h with h h0
   exact absurd h0 (by decide)
 ·rw[zsn k a l g hk]at h
  injection h with h
  injection h with h h0
  exact absurd h0 (by decide)
theorem zCf(q:Acc)(xs ys:List Leg):atK q (xs++ys)=atK q xs+atK q ys:=by
 unfold atK
 rw[List.filter_append,List.map_append,zeo]
theorem atK_pm(q:Acc){xs ys:List Leg}(h:xs.Perm ys):atK q xs=atK q ys:=by
 unfold atK
 exact zz8 ((h.filter _).map _)
theorem atK_1(q x:Acc)(a:Int):atK q [(x,a)]=if x=q then a else 0:=by
 unfold atK
 by_cases h:x=q
 ·rw[if_pos h];simp[h,zcj]
 ·rw[if_neg h];simp[h,zcj]
def zi3(k a g:Int)(q:Acc)(n:Int):Int:=(if(za4 k).1=1 then 0 else if onA (za4 k).1 n g=q then a else 0)+(if onA (za4 k).2 n g=q then neg a else 0)
theorem atK_at(k a g:Int)(q:Acc)(n:Int):atK q (zc7 k a g n)=zi3 k a g q n:=by
 unfold zc7 zi3
 rw[zCf,atK_1]
 by_cases h:(za4 k).1=1
 ·rw[if_pos h,if_pos h];rfl
 ·rw[if_neg h,if_neg h,atK_1]
theorem onA_at{s n g:Int}{q:Acc}(hs:s≠1)(h:onA s n g=q):q.2.1=n:=by
 subst h
 unfold onA
 rw[if_neg hs]
 split<;>rfl
theorem sides_2(k:Int):(za4 k).2≠1:=by
 unfold za4
 repeat' split
 all_goals simp
theorem zAd(k a g:Int)(q:Acc)(n:Int)(h:q.2.1≠n):zi3 k a g q n=0:=by
 unfold zi3
 rw[if_neg (fun e=>h (onA_at (sides_2 k) e))]
 by_cases h1:(za4 k).1=1
 ·rw[if_pos h1];rfl
 ·rw[if_neg h1,if_neg (fun e=>h (onA_at h1 e))];rfl
theorem zwv(k a g:Int)(q:Acc): ∀(l:List Int),l.Nodup→atK q (l.flatMap (zc7 k a g))=if q.2.1∈l then zi3 k a g q q.2.1 else 0
 | [],_=>rfl
 |n::l,h=>by
  obtain⟨h1,h2⟩:=List.nodup_cons.1 h
  rw[List.flatMap_cons,zCf,atK_at,zwv k a g q l h2]
  by_cases hn:q.2.1=n
  ·subst hn
   rw[if_neg h1,if_pos (by simp)];omega
  ·rw[zAd k a g q n hn]
   by_cases hm:q.2.1∈l
   ·rw[if_pos hm,if_pos (by simp[hm])];omega
   ·rw[if_neg hm,if_neg (by simp[hm,hn])];rfl
theorem zrj{k a g:Int}{l:List Int}{ys:List Leg}(hp:ys.Perm (zcb k a g l))(hl:l.Nodup)(q:Acc)(hq:q.1≠1):atK q ys=if q.2.1∈l then zi3 k a g q q.2.1 else 0:=by
 rw[atK_pm q hp]
 unfold zcb
 rw[zCf,zwv k a g q l hl]
 have:atK q (if(za4 k).1=1 then [((1,0,0),IntKind.i64.wrap (a* (l.length:Int)))]else [])=0:=by
  split
  ·rw[atK_1,if_neg (fun e=>hq (by rw[←e]))]
  ·rfl
 rw[this];omega
theorem neg_r{a:Int}(h:1≤a∧a≤9007199254740992):neg a= -a:=by
 unfold neg
 rw[wr _ (by omega) (by omega)];omega
theorem zml(k a g n:Int)(hk:1≤k∧k≤6)(ha:1≤a∧a≤9007199254740992):zi3 k a g (2,n,0) n=if k=1∨k=3∨k=6 then -a else if k=2∨k=5 then a else 0:=by
 have hn:=neg_r ha
 unfold zi3
 rw[hn]
 have:k=1∨k=2∨k=3∨k=4∨k=5∨k=6:=by omega
 rcases this with rfl|rfl|rfl|rfl|rfl|rfl<;>simp[za4,onA]
theorem zmk(k a g n:Int)(hk:1≤k∧k≤6)(ha:1≤a∧a≤9007199254740992):zi3 k a g (3,n,0) n=if k=2 then -a else if k=3∨k=4 then a else 0:=by
 have hn:=neg_r ha
 unfold zi3
 rw[hn]
 have:k=1∨k=2∨k=3∨k=4∨k=5∨k=6:=by omega
 rcases this with rfl|rfl|rfl|rfl|rfl|rfl<;>simp[za4,onA]
theorem nodeK_4(k a g n f:Int)(hk:1≤k∧k≤6)(ha:1≤a∧a≤9007199254740992):zi3 k a g (4,n,f) n=if g=f then(if k=4 then -a else if k=6 then a else 0)else 0:=by
 have hn:=neg_r ha
 unfold zi3
 rw[hn]
 have:k=1∨k=2∨k=3∨k=4∨k=5∨k=6:=by omega
 rcases this with rfl|rfl|rfl|rfl|rfl|rfl<;>simp[za4,onA]
def Stp(k a g:Int)(l:List Int)(G:Int→FA)(P P':FB×Jn):Prop:=
 ((∀n,1≤n∧n≤32→geA P'.1 n=geA P.1 n)∧P'.2=P.2)∨
 ((∀n,1≤n∧n≤32→geA P'.1 n=if n∈l then G n else geA P.1 n)∧l.Nodup∧(∀n∈l,OkA (G n))∧(1≤k∧k≤6)∧(1≤a∧a≤9007199254740992)∧∃ys,ys.Perm (zcb k a g l)∧chk k ys=0∧P'.2=zb6 P.2 (k,ys))
theorem zlx {k a g:Int} {l:List Int} {G:Int→FA} {B:FB} {N:Nat} {j j':Jn} (hB:BOk B N) (hr: ∀n∈l,1≤n∧n≤32) (hl:l.Nodup) (ho: ∀n∈l,OkA (G n))
  (h:(1≤k∧k≤6)∧(1≤a∧a≤9007199254740992)∧∃ys,ys.Perm (zcb k a g l)∧chk k ys=0∧j'=zb6 j (k,ys)):Stp k a g l G (B,j) (zb0 G B l,j'):=
 .inr ⟨fun n _=>(zde G l B N hB hr ho).2 n,hl,ho,h.1,h.2.1,h.2.2⟩
theorem zrx{k a g:Int}{l:List Int}{G:Int→FA}{B B2:FB}{N M:Nat}{j j':Jn}{As:List FA}(h1:BRel N B As)(h2:BRel M B2 As)(hj:j'=j):Stp k a g l G (B,j) (B2,j'):=
 .inl ⟨fun n hn=>(h2.at hn).symm.trans (h1.at hn),hj⟩
end Go.Proofs.YtniohchnpfpffaaGreat.Pure
