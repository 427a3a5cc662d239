/- Plain laws: every operation keeps the accounts and the balances together. No statement of its own. -/
import Derived.Test.YtniohchnpfpffaaGreatSj
import Derived.Test.YtniohchnpfpffaaGreatSe
set_option linter.unusedSimpArgs false
set_option linter.unusedVariables false
namespace Go.Proofs.YtniohchnpfpffaaGreat.Pure
open Go.Vk Go.Am Go.Pg Go.Sort Go.Proofs.YtniohchnpfpffaaGreat.Y
theorem zC3: ∀(l:List Leg) (prev:Option Acc),zps prev l=0→∀x∈l,zcg x.1=true
 | [],prev,h,x,hx=>by simp at hx
 |y::l,prev,h,x,hx=>by
  unfold zps at h
  split at h
  ·rename_i hne;exact absurd h hne
  ·rename_i hne
   have h0:zp5 prev y=0:=by omega
   rcases List.mem_cons.1 hx with rfl|hx
   ·unfold zp5 at h0
    cases hr:zcg x.1 with
    |true=>rfl
    |false=>rw[if_pos hr]at h0;exact absurd h0 (by decide)
   ·exact zC3 l (some y.1) h x hx
theorem chk_rt{k:Int}{l:List Leg}(h:chk k l=0): ∀x∈l,zcg x.1=true:=by
 unfold chk at h
 split at h
 ·cases h
 ·split at h
  ·cases h
  ·split at h
   ·rename_i h3;exact absurd h h3
   ·rename_i h3
    exact zC3 l none (by omega)
theorem right4{n g:Int}(h:zcg (4,n,g)=true):1≤g∧g≤8:=by
 unfold zcg at h
 simp at h
 omega
theorem made_g{k a g:Int}{l:List Int}{ys:List Leg}(hp:ys.Perm (zcb k a g l))(hc:chk k ys=0)(hk:k=4∨k=6):1≤g∧g≤8:=by
 have hr:=chk_rt hc
 cases l with
 |nil=>
  have h0:zcb k a g []= []:=by rcases hk with rfl|rfl<;>rfl
  rw[h0]at hp
  have:ys= []:=hp.eq_nil
  subst this
  rcases hk with rfl|rfl<;>exact absurd hc (by decide)
 |cons n l=>
  rcases hk with rfl|rfl
  ·exact right4 (hr ((4,n,g),neg a) (hp.mem_iff.2 (by simp[zcb,zc7,za4,onA])))
  ·exact right4 (hr ((4,n,g),a) (hp.mem_iff.2 (by simp[zcb,zc7,za4,onA])))
theorem fitHold{a:Int}{l:List Int}{F:Int→FA}(ha:1≤a∧a≤9007199254740992):Fit 2 a 0 l F (fun n=>zb1 0 a (F n)):=by
 refine⟨fun h=>by omega,fun n _=> ?_⟩
 rw[zml 2 a 0 n (by omega) ha,zmk 2 a 0 n (by omega) ha]
 simp[zb1,zag]
 omega
theorem zy9{a:Int}{l:List Int}{F:Int→FA}(ha:1≤a∧a≤9007199254740992):Fit 3 a 0 l F (fun n=>zb1 0 (-a) (F n)):=by
 refine⟨fun h=>by omega,fun n _=> ?_⟩
 rw[zml 3 a 0 n (by omega) ha,zmk 3 a 0 n (by omega) ha]
 simp[zb1,zag]
 omega
theorem zBf{a g:Int}{l:List Int}{F:Int→FA}(ha:1≤a∧a≤9007199254740992)(hg:1≤g∧g≤8):Fit 4 a g l F (fun n=>zb1 a (-a) (F n)):=by
 refine⟨fun _=>hg,fun n _=> ?_⟩
 rw[zml 4 a g n (by omega) ha,zmk 4 a g n (by omega) ha]
 simp[zb1,zag]
 omega
theorem zBe{a g:Int}{l:List Int}{F:Int→FA}(ha:1≤a∧a≤9007199254740992)(hg:1≤g∧g≤8):Fit 6 a g l F (fun n=>zb1 (-a) 0 (F n)):=by
 refine⟨fun _=>hg,fun n _=> ?_⟩
 rw[zml 6 a g n (by omega) ha,zmk 6 a g n (by omega) ha]
 simp[zb1,zag]
 omega
theorem fitTop{a:Int}{l:List Int}{F:Int→FA}(ha:1≤a∧a≤9007199254740992):Fit 1 a 0 l F (fun n=>zrq a (F n)):=by
 refine⟨fun h=>by omega,fun n _=> ?_⟩
 rw[zml 1 a 0 n (by omega) ha,zmk 1 a 0 n (by omega) ha]
 simp[zrq,zag]
 omega
/-! ### Roll -/
theorem zBi(c:List Int)(B:FB)(n:Int): ∀(ks:List Int),ks.Nodup→n∈ks→zjn (2,n,0) (zaa c B ks)=zbb c B n
 | [],_,h=>by simp at h
 |m::ks,hd,h=>by
  obtain⟨d1,d2⟩:=List.nodup_cons.1 hd
  rw[show m::ks= [m]++ks from rfl,zdi,zlm]
  have h1:zjn (2,n,0) (zaa c B [m])=if m=n then zbb c B n else 0:=by
   unfold zaa
   by_cases hx:zag (geA B m)=0∨m∈c
   ·have e0:zbb c B m=0:=by
     unfold zbb
     rcases hx with hx|hx
     ·rw[hx];split<;>rfl
     ·rw[if_pos hx]
    simp only[List.filterMap_cons,List.filterMap_nil,if_pos hx]
    by_cases hm:m=n
    ·subst hm;rw[if_pos rfl,e0];rfl
    ·rw[if_neg hm];rfl
   ·have e1:zbb c B m=zag (geA B m):=by unfold zbb;rw[if_neg (fun h=>hx (.inr h))]
    simp only[List.filterMap_cons,List.filterMap_nil,if_neg hx]
    unfold zjn
    simp only[List.map_cons,List.map_nil,zcj,zri]
    by_cases hm:m=n
    ·subst hm;rw[if_pos rfl,if_pos rfl,e1];omega
    ·rw[if_neg (by intro e;injection e with _ e;injection e with e _;exact hm e.symm),if_neg (by intro e;injection e with e _;omega),if_neg hm];rfl
  rw[h1]
  by_cases hm:m=n
  ·subst hm
   rw[if_pos rfl,zev c B ks _ (fun q hq=>⟨fun e=>d1 (by injection e with _ e;injection e with e _;rw[e];exact hq),fun e=>by injection e with e _;omega⟩)]
   omega
  ·rw[if_neg hm,zBi c B n ks d2 (by rcases List.mem_cons.1 h with e|e;exact absurd e.symm hm;exact e)]
   omega
theorem zEh{p N m q c:Nat}{B:FB}{j:Jn}{J:RJ}(hB:BOk B N)(h:JRel p m q j J)(hm:m+32≤16384)(hq:q≤100)(cs:List Int)(hb:BalI c B j):
  BalI 0 (zfl cs B (zb9 B)) (zc4 (zae j (zaa cs B (zb9 B)))):=by
 obtain⟨g1,g2⟩:=zpc cs B
 obtain⟨k1,k2⟩:=zvi cs hB
 obtain⟨r1,r2⟩:=zr5 (c:=cs) hB h hm hq nodes32 nodes_nodup (fun n hn=>(zch n).1 hn) (by simp[nodes32]) 32 (by simp[nodes32])
 rw[List.take_of_length_le (show nodes32.length≤32 by simp[nodes32]),g1]at r1 r2
 have hji:=r1.ji
 have hmp:zld (zc4 (zae j (zaa cs B (zb9 B))))= []:=by
  have h1:=hji.per
  have h2:=hji.mov
  unfold zld zc4
  simp only
  rw[h1,List.getD_eq_getElem?_getD,List.getElem?_append_right (by omega),show((p:Int)+1).toNat - (zae j (zaa cs B (zb9 B))).2.2.2.length=0 by omega]
  rfl
 have hz: ∀k,bal ([]:Bk) k=0:=fun k=>rfl
 have hgone: ∀n,1≤n∧n≤32→zjn (2,n,0) (zaa cs B (zb9 B))=zbb cs B n:=fun n hn=>by
  rw[←g1];exact zBi cs B n nodes32 nodes_nodup ((zch n).2 hn)
 refine⟨fun n hn=> ?_,fun n hn=> ?_,fun n hn=> ?_,fun k=> ?_⟩
 ·show bal (zae j (zaa cs B (zb9 B))).2.2.1 (2,n,0)=_
  rw[r2,hb.left n hn,hgone n hn,k2 n]
  by_cases hv:geA B n=V0
  ·rw[if_pos hv]
   unfold zbb
   rw[hv]
   split<;>rfl
  ·rw[if_neg hv]
   unfold zbb zjm zag
   by_cases hc:n∈cs
   ·simp[hc]
   ·simp[hc];omega
 ·show bal (zae j (zaa cs B (zb9 B))).2.2.1 (3,n,0)=_
  rw[r2,hb.held n hn,k2 n,zev cs B (zb9 B) (3,n,0) (fun q _=>⟨fun e=>by injection e with e _;omega,fun e=>by injection e with e _;omega⟩)]
  by_cases hv:geA B n=V0
  ·rw[if_pos hv,hv];rfl
  ·rw[if_neg hv];unfold zjm;simp
 ·rw[hmp,k2 n]
  have:mvd ([]:Bk) n 8=0:=rfl
  rw[this]
  by_cases hv:geA B n=V0
  ·rw[if_pos hv];rfl
  ·rw[if_neg hv];unfold zjm;rfl
 ·rw[hmp,hz];omega
end Go.Proofs.YtniohchnpfpffaaGreat.Pure
