/- The law ReplayAny,in plain Lean. No statement of its own. -/
import Derived.Test.YtniohchnpfpffaaGreatVc
import Derived.Test.YtniohchnpfpffaaGreatEj
set_option linter.unusedSimpArgs false
set_option linter.unusedVariables false
namespace Go.Proofs.YtniohchnpfpffaaGreat.Pure
open Go.Vk Go.Am Go.Pg Go.Sort Go.Proofs.YtniohchnpfpffaaGreat.Y
theorem zvd:resL 0 [((1,zod 1 9),0),((2,zew 4),0)]=([(1,(9,(0,(0,(0,4)))))],0):=by rfl
theorem ztb:purserlaw28_replays.f=some true:=by
 obtain⟨t1,i1⟩:=top_p ([]:FB) ([],(0,([],[[]]))) 1 9 0 (by omega) (by omega) rfl (by omega) inv_new
 obtain⟨B2,t2,i2,a2⟩:=hold_p (path1 1 (by omega)) (l:= [1]) (lim:= [-1]) rfl (by simp) (zew 4) (zb0 KI VA ([]:FB) 1 (9,0,0,0,0)) _ 9 0 0 4 1 (by omega) (by omega) (by omega) (by omega) (by intro n hn;obtain rfl:n=1:=(by simpa using hn);rw[zno,if_pos rfl]) ⟨_,zft (n:=2) rfl⟩ (mHold1 4 (by omega)) (cHold1 4 (by omega)) (by omega) i1
 obtain⟨j2,hj2⟩: ∃j2,j2=zcg (zcg ([],(0,([],[[]]))) (1,zod 1 9)) (2,zew 4):=⟨_,rfl⟩
 have e1:j2.1= [((1,zod 1 9),0),((2,zew 4),0)]:=by rw[hj2];rfl
 have e2:j2.2.1=0:=by rw[hj2];rfl
 have hok:JOk j2:=by
  refine⟨by rw[e1];simp,fun x hx=> ?_,fun x hx g hg=> ?_⟩
  ·rw[e1]at hx
   simp only[List.mem_cons,List.not_mem_nil,or_false]at hx
   rcases hx with rfl|rfl<;>simp[zod,zew]
  ·rw[e1]at hx
   simp only[List.mem_cons,List.not_mem_nil,or_false]at hx
   rcases hx with rfl|rfl
   ·simp only[zod,List.mem_cons,List.not_mem_nil,or_false]at hg
    rcases hg with rfl|rfl<;>decide
   ·simp only[zew,List.mem_cons,List.not_mem_nil,or_false]at hg
    rcases hg with rfl|rfl<;>decide
 have hr:=Rows_f hok
 rw[e1,e2,zvd]at hr
 unfold purserlaw28_replays.f
 rw[newP,Option.bind_some]
 simp only
 rw[t1,Option.bind_some]
 simp only
 rw[show period_Purse_Hold.f (zb0 KI VA ([]:FB) 1 (9,0,0,0,0),((zcg ([],(0,([],[[]]))) (1,zod 1 9)).1,((zcg ([],(0,([],[[]]))) (1,zod 1 9)).2.1,((zcg ([],(0,([],[[]]))) (1,zod 1 9)).2.2.1,(zcg ([],(0,([],[[]]))) (1,zod 1 9)).2.2.2)))) [1] [-1] 4=_ from t2,Option.bind_some]
 simp only
 rw[←hj2,show replay_Rows.f (j2.1,(j2.2.1,(j2.2.2.1,j2.2.2.2)))=_ from hr,Option.bind_some]
 rfl
/-! ### entries of one node -/
theorem zu6{k:Int}{x y:Leg}(hk:1≤k∧k≤6)(a:Int)(ha:a≠0∧ -1000000≤a∧a≤1000000)(r1:zbw x.1=true)(r2:zbw y.1=true)(l1:ltA x.1 y.1)(a1:x.2=a)(a2:y.2= -a):chk k [x,y]=0:=by
 refine chk_of hk (by simp) ?_ ?_
 ·simp only[zoa]
  rw[zw5 r1 (by omega) (by omega),zw4 r2 (by omega) (by omega) l1]
  simp
 ·simp only[zo6]
  rw[a1,a2,wr (0+a) (by omega) (by omega),wr (0+a+ -a) (by omega) (by omega)]
  omega
def zsK(k n a g:Int):List Leg:=
 if k=1 then [((1,0,0),a),((2,n,0),-a)]else if k=2 then [((2,n,0),a),((3,n,0),-a)]else if k=3 then [((2,n,0),-a),((3,n,0),a)]
 else if k=4 then [((3,n,0),a),((4,n,g),-a)]else if k=5 then [((2,n,0),a),((5,n,0),-a)]else [((2,n,0),-a),((4,n,g),a)]
theorem zvs(n:Int)(h:1≤n∧n≤32):zbw (3,n,0)=true:=by
 unfold zbw zer
 simp;omega
theorem nodeR5(n:Int)(h:1≤n∧n≤32):zbw (5,n,0)=true:=by
 unfold zbw zer
 simp;omega
theorem mk_all{k n a g:Int}(hk:1≤k∧k≤6)(hn:1≤n∧n≤4)(ha:1≤a∧a≤1000)(hg:1≤g∧g≤8):entry_Make.f k a [n] g=some ((k,zsK k n a g),0)∧chk k (zsK k n a g)=0∧∀x∈zsK k n a g,0≤x.1.2.1∧x.1.2.1≤4:=by
 have hk6:k=1∨k=2∨k=3∨k=4∨k=5∨k=6:=by omega
 have hp:1≤a∧a≤9007199254740992∧pathB [n]=true:=⟨by omega,by omega,by simp[pathB]⟩
 have hneg:=negI a (by omega)
 have hn32:1≤n∧n≤32:=by omega
 have fin: ∀{k:Int} {x y:Leg},(1≤k∧k≤6)→(zcl k a g [n]).Perm [x,y]→ltA x.1 y.1→chk k [x,y]=0→(0≤x.1.2.1∧x.1.2.1≤4)→(0≤y.1.2.1∧y.1.2.1≤4)→zsK k n a g= [x,y]→entry_Make.f k a [n] g=some ((k,zsK k n a g),0)∧chk k (zsK k n a g)=0∧∀x∈zsK k n a g,0≤x.1.2.1∧x.1.2.1≤4:=by
  intro k x y hk hpm hlt hc h1 h2 hz
  rw[hz]
  refine⟨zk4 [x,y] hk hp hpm (by simpa using hlt) hc,hc,fun z hz=> ?_⟩
  simp only[List.mem_cons,List.not_mem_nil,or_false]at hz
  rcases hz with rfl|rfl
  ·exact h1
  ·exact h2
 rcases hk6 with rfl|rfl|rfl|rfl|rfl|rfl
 ·refine fin (x:=((1,0,0),a)) (y:=((2,n,0),-a)) hk ?_ (by simp[ltA]) (zu6 hk a (by omega) rfl (ztf n hn32) (by simp[ltA]) rfl rfl) (show(0:Int)≤0∧(0:Int)≤4 by omega) (show(0:Int)≤n∧n≤4 by omega) rfl
  have:zcl 1 a g [n]= [((1,0,0),a),((2,n,0),-a)]:=by
   show [((1,0,0),IntKind.i64.wrap (a*1)),((2,n,0),neg a)]=_
   rw[hneg,Int.mul_one,wr a (by omega) (by omega)]
  rw[this]
 ·refine fin (x:=((2,n,0),a)) (y:=((3,n,0),-a)) hk ?_ (by simp[ltA]) (zu6 hk a (by omega) (ztf n hn32) (zvs n hn32) (by simp[ltA]) rfl rfl) (show(0:Int)≤n∧n≤4 by omega) (show(0:Int)≤n∧n≤4 by omega) rfl
  have:zcl 2 a g [n]= [((2,n,0),a),((3,n,0),-a)]:=by
   show [((2,n,0),a),((3,n,0),neg a)]=_
   rw[hneg]
  rw[this]
 ·refine fin (x:=((2,n,0),-a)) (y:=((3,n,0),a)) hk ?_ (by simp[ltA]) (zu6 hk (-a) (by omega) (ztf n hn32) (zvs n hn32) (by simp[ltA]) rfl (by simp)) (show(0:Int)≤n∧n≤4 by omega) (show(0:Int)≤n∧n≤4 by omega) rfl
  have:zcl 3 a g [n]= [((3,n,0),a),((2,n,0),-a)]:=by
   show [((3,n,0),a),((2,n,0),neg a)]=_
   rw[hneg]
  rw[this]
  exact .swap _ _ _
 ·refine fin (x:=((3,n,0),a)) (y:=((4,n,g),-a)) hk ?_ (by simp[ltA]) (zu6 hk a (by omega) (zvs n hn32) (grpR n g hn32 hg) (by simp[ltA]) rfl rfl) (show(0:Int)≤n∧n≤4 by omega) (show(0:Int)≤n∧n≤4 by omega) rfl
  have:zcl 4 a g [n]= [((3,n,0),a),((4,n,g),-a)]:=by
   show [((3,n,0),a),((4,n,g),neg a)]=_
   rw[hneg]
  rw[this]
 ·refine fin (x:=((2,n,0),a)) (y:=((5,n,0),-a)) hk ?_ (by simp[ltA]) (zu6 hk a (by omega) (ztf n hn32) (nodeR5 n hn32) (by simp[ltA]) rfl rfl) (show(0:Int)≤n∧n≤4 by omega) (show(0:Int)≤n∧n≤4 by omega) rfl
  have:zcl 5 a g [n]= [((2,n,0),a),((5,n,0),-a)]:=by
   show [((2,n,0),a),((5,n,0),neg a)]=_
   rw[hneg]
  rw[this]
 ·refine fin (x:=((2,n,0),-a)) (y:=((4,n,g),a)) hk ?_ (by simp[ltA]) (zu6 hk (-a) (by omega) (ztf n hn32) (grpR n g hn32 hg) (by simp[ltA]) rfl (by simp)) (show(0:Int)≤n∧n≤4 by omega) (show(0:Int)≤n∧n≤4 by omega) rfl
  have:zcl 6 a g [n]= [((4,n,g),a),((2,n,0),-a)]:=by
   show [((4,n,g),a),((2,n,0),neg a)]=_
   rw[hneg]
  rw[this]
  exact .swap _ _ _
theorem rmk_all{k n a g:Int}(hk:1≤k∧k≤6)(hn:1≤n∧n≤4)(ha:1≤a∧a≤1000)(hg:1≤g∧g≤8):purserref07_Make.f k a [n] g=some ((k,(zsK k n a g).map frL),0):=by
 obtain⟨L,f,kk,h1,h2,_⟩:=zv4 k a [n] g (by simp)
 rw[(mk_all hk hn ha hg).1]at h1
 simp only[Option.some.injEq,Prod.mk.injEq]at h1
 obtain⟨⟨rfl,h3⟩,rfl⟩:=h1
 rw[h2,h3,zr0]
theorem modQ(a:Int)(k:Nat)(hk:0<k)(hk2:k≤1000): ∃n:Nat,n<k∧IntKind.i64.wrap (Int.tmod (IntKind.u64.wrap a) (k:Int))=(n:Int):=by
 have h0:0≤IntKind.u64.wrap a∧IntKind.u64.wrap a<18446744073709551616:=by
  rw[IntKind.wrap_u64];omega
 rw[Int.tmod_eq_emod_of_nonneg h0.1]
 have h1:=Int.emod_nonneg (IntKind.u64.wrap a) (show(k:Int)≠0 by omega)
 have h2:=Int.emod_lt_of_pos (IntKind.u64.wrap a) (show(0:Int)< (k:Int)by omega)
 refine⟨(IntKind.u64.wrap a % (k:Int)).toNat,by omega,?_⟩
 rw[wr _ (by omega) (by omega)]
 omega
theorem modR(a:Int)(k:Nat)(hk:0<k)(hk2:k≤1000): ∃n:Int,(1≤n∧n≤k)∧IntKind.i64.wrap (1+IntKind.i64.wrap (Int.tmod (IntKind.u64.wrap a) (k:Int)))=n:=by
 obtain⟨n,h1,h2⟩:=modQ a k hk hk2
 exact⟨(n:Int)+1,by omega,by rw[h2,wr _ (by omega) (by omega)];omega⟩
theorem zx3{p m c:Nat}{j:Jn}{J:RJ}(h:JRel p m c j J)(hp:p<31):JRel (p+1) m c (ziv j) (J.1,J.2.1,J.2.2+1):=by
 refine⟨⟨by show j.2.1+1=_;rw[h.ji.per];omega,by show(j.2.2.2++ [[]]).length=_;rw[List.length_append,h.ji.mov];rfl,by omega,h.ji.list⟩,h.lst,h.whn,by show J.2.2+1=_;rw[h.per];omega,h.ent,h.sum,h.rng,h.bnd⟩
abbrev PPost:=Bool×Int×Int×Int×Int
theorem zif(a0:List PPost)(n:Nat)(hn:n=min a0.length 25): ∀(d i p:Nat) (j:Jn) (J:RJ),i+d=n→p≤i→JRel p i i j J→(∀x∈j.1,∀g∈x.1.2,0≤g.1.2.1∧g.1.2.1≤4)→
  ∃p' j' J',zac (purserlaw28_ReplayAny.l3 a0) (J.1,J.2.1,(i:Int),(),j.1,j.2.1,j.2.2.1,j.2.2.2)=some (.inr (J'.1,J'.2.1,(),j'.1,j'.2.1,j'.2.2.1,j'.2.2.2))∧JRel p' n n j' J'∧(∀x∈j'.1,∀g∈x.1.2,0≤g.1.2.1∧g.1.2.1≤4)
 |0,i,p,j,J,hi,hp,h,hN=>by
  refine⟨p,j,J,?_,by rw[show n=i by omega];exact h,hN⟩
  have he:purserlaw28_ReplayAny.l3 a0 (J.1,J.2.1,(i:Int),(),j.1,j.2.1,j.2.2.1,j.2.2.2)=some (.inr (.inr (J.1,J.2.1,(),j.1,j.2.1,j.2.2.1,j.2.2.2))):=by
   unfold purserlaw28_ReplayAny.l3
   simp only
   by_cases hl:i<a0.length
   ·rw[ilt hl,cond_true,decide_eq_false (show¬(i:Int)<25 by omega),Option.bind_some,cond_false]
   ·rw[decide_eq_false (show¬(i:Int)< (a0.length:Int)by omega),cond_false,Option.bind_some,cond_false]
  rw[zae,he]
  rfl
 |d+1,i,p,j,J,hi,hp,h,hN=>by
  have hl:i<a0.length:=by omega
  have hjl:=h.ji.list
  have hLl:J.1.length=j.1.length:=by rw[h.lst,List.length_map]
  have hWl:J.2.1.length=j.1.length:=by rw[h.whn,List.length_map]
  obtain⟨x,hx⟩: ∃x,x=a0[i]:=⟨_,rfl⟩
  have hg:=at_ a0 i hl ((false,(0,(0,(0,0)))):PPost)
  rw[←hx]at hg
  cases hc:x.1 with
  |true=>
   have hcl:journal_Journal_Close.f (j.1,(j.2.1,(j.2.2.1,j.2.2.2)))=some (ziv j,(j.2.1+1,0)):=zza j (by rw[h.ji.per];omega) (by rw[h.ji.per];omega) (by rw[h.ji.mov];omega)
   have h2:JRel (p+1) (i+1) (i+1) (ziv j) (J.1,J.2.1,J.2.2+1):=(zx3 h (by omega)).more (by omega) (by omega)
   obtain⟨p',j',J',g1,g2⟩:=zif a0 n hn d (i+1) (p+1) (ziv j) (J.1,J.2.1,J.2.2+1) (by omega) (by omega) h2 hN
   refine⟨p',j',J',?_,g2⟩
   have hst:purserlaw28_ReplayAny.l3 a0 (J.1,J.2.1,(i:Int),(),j.1,j.2.1,j.2.2.1,j.2.2.2)=some (.inl (J.1,J.2.1,(((i+1:Nat):Nat):Int),(),(ziv j).1,(ziv j).2.1,(ziv j).2.2.1,(ziv j).2.2.2)):=by
    unfold purserlaw28_ReplayAny.l3
    simp only
    rw[ilt hl,cond_true,decide_eq_true (show(i:Int)<25 by omega),Option.bind_some,cond_true,nn,Bool.and_self,cond_true]
    simp only[hg]
    rw[hc,cond_true,hcl,Option.bind_some,Option.bind_some]
    simp only
    rw[wrS i (by omega)]
   rw[zae,hst]
   exact g1
  |false=>
   obtain⟨k,hk,hk2⟩:=modR x.2.1 6 (by omega) (by omega)
   obtain⟨a,ha,ha2⟩:=modR x.2.2.2.1 99 (by omega) (by omega)
   obtain⟨nd,hnd,hnd2⟩:=modR x.2.2.1 4 (by omega) (by omega)
   obtain⟨g,hgr,hgr2⟩:=modR x.2.2.2.2 8 (by omega) (by omega)
   rw[show((6:Nat):Int)=6 from rfl]at hk2 hk
   rw[show((99:Nat):Int)=99 from rfl]at ha2 ha
   rw[show((4:Nat):Int)=4 from rfl]at hnd2 hnd
   rw[show((8:Nat):Int)=8 from rfl]at hgr2 hgr
   obtain⟨m1,m2,m3⟩:=mk_all hk hnd (show 1≤a∧a≤1000 by omega) hgr
   have r1:=rmk_all hk hnd (show 1≤a∧a≤1000 by omega) hgr
   obtain⟨zs,hzs⟩: ∃zs,zs=zsK k nd a g:=⟨_,rfl⟩
   rw[←hzs]at m1 m2 m3 r1
   obtain⟨c1,c2,c3,c4⟩:=zmt m2
   have hfar:zs.any (far j.2.2.1)=false:=by
    rw[List.any_eq_false]
    intro y hy
    have h1:=h.bnd y.1
    have h2:=c2 y hy
    unfold far
    rw[wr _ (by omega) (by omega),decide_eq_false (by omega),decide_eq_false (by omega)]
    simp
   have hpost:journal_Journal_Post.f j (k,zs)=some (zcg j (k,zs),((j.1.length:Int),0)):=by
    have hper:=h.ji.per
    have hmv:=h.ji.mov
    rw[zqu j (k,zs) p hper (by omega) (by omega) (by show zs.length≤1000;omega),if_neg (by show¬chk k zs≠0;omega),if_neg (by omega),if_neg (by show¬zs.any (far j.2.2.1)=true;simp[hfar])]
   have h2:=zyc h (by omega) k zs m2 (by omega) hfar
   have hN2: ∀x∈(zcg j (k,zs)).1,∀g∈x.1.2,0≤g.1.2.1∧g.1.2.1≤4:=fun x hx=>by
    rw[show(zcg j (k,zs)).1=j.1++ [((k,zs),j.2.1)]from rfl,List.mem_append,List.mem_singleton]at hx
    rcases hx with hx|rfl
    ·exact hN x hx
    ·exact m3
   obtain⟨p',j',J',g1,g2⟩:=zif a0 n hn d (i+1) p (zcg j (k,zs)) _ (by omega) (by omega) h2 hN2
   refine⟨p',j',J',?_,g2⟩
   obtain⟨j1,hj1⟩: ∃j1,j1=zcg j (k,zs):=⟨_,rfl⟩
   have hj1p:j1.2.1=J.2.2:=by rw[hj1,h.per,←h.ji.per];rfl
   rw[←hj1]at hpost g1
   have hst:purserlaw28_ReplayAny.l3 a0 (J.1,J.2.1,(i:Int),(),j.1,j.2.1,j.2.2.1,j.2.2.2)=some (.inl (J.1++ [(k,zs.map frL)],J.2.1++ [J.2.2],(((i+1:Nat):Nat):Int),(),j1.1,j1.2.1,j1.2.2.1,j1.2.2.2)):=by
    unfold purserlaw28_ReplayAny.l3
    simp only
    rw[ilt hl,cond_true,decide_eq_true (show(i:Int)<25 by omega),Option.bind_some,cond_true,nn,Bool.and_self,cond_true]
    simp only[hg]
    rw[hc,cond_false,hk2,ha2,hnd2,hgr2,m1,Option.bind_some,r1,Option.bind_some]
    simp only
    rw[show journal_Journal_Post.f (j.1,(j.2.1,(j.2.2.1,j.2.2.2))) (k,zs)=_ from hpost,Option.bind_some]
    simp only[bne_self_eq_false,Bool.not_false,cond_true,Option.bind_some,cond_false]
    rw[decide_eq_true (show J.1.length+([(k,zs.map frL)]:List (Int×List (Int×Int×Int×Int))).length≤1099511627776 by simp;omega),cond_true]
    rw[show journal_Journal_Period.f (j1.1,(j1.2.1,(j1.2.2.1,j1.2.2.2)))=some (j1,j1.2.1)from rfl,Option.bind_some]
    simp only
    rw[decide_eq_true (show J.2.1.length+([j1.2.1]:List Int).length≤1099511627776 by simp;omega),cond_true,Option.bind_some]
    simp only
    rw[wrS i (by omega),hj1p]
   rw[zae,hst]
   exact g1
theorem zys:JRel 0 0 0 (([],(0,([],[[]]))):Jn) ([],([],0)):=by
 have hz: ∀k,bal ([]:Bk) k=0:=fun k=>rfl
 exact⟨⟨rfl,rfl,by omega,Nat.le_refl _⟩,rfl,rfl,rfl,fun x hx=>by simp at hx,fun k=>by rw[show bal _ k=0 from hz k];rfl,fun k=>by rw[show bal _ k=0 from hz k];omega,fun k=>by rw[show bal _ k=0 from hz k];omega⟩
theorem ReplayAny(x0:List PPost)(x1:Int)(wf0:zoe (.slice (.pair .bool (.pair (.int .i64) (.pair (.int .i64) (.pair (.int .i64) (.int .i64)))))) x0)(wf1:zoe (.int .i64) x1):purserlaw28_ReplayAny.f x0 x1=some true:=by
 obtain⟨p,j,J,h1,h2,hN⟩:=zif x0 (min x0.length 25) rfl (min x0.length 25) 0 0 (([],(0,([],[[]]))):Jn) ([],([],0)) (by omega) (by omega) zys (fun x hx=>by simp at hx)
 have hjl:=h2.ji.list
 have hok:JOk j:=⟨by omega,fun x hx=>by have:=(zmt (h2.ent x hx)).1;omega,hN⟩
 have hL:J.1=zky j.1:=h2.lst
 have hW:J.2.1=zje j.1:=h2.whn
 have hl1:(zky j.1).length=j.1.length:=by unfold zky;rw[List.length_map]
 have hl2:(zje j.1).length=j.1.length:=by unfold zje;rw[List.length_map]
 obtain⟨n,hn1,hn2⟩:=modQ x1 (j.1.length+1) (by omega) (by omega)
 have hu:IntKind.u64.wrap (IntKind.i64.wrap ((j.1.length:Int)+1))=((j.1.length+1:Nat):Int):=by
  rw[wrS _ (by omega),IntKind.wrap_u64];omega
 unfold purserlaw28_ReplayAny.f
 rw[show journal_New.f=some (([],(0,([],[[]]))):Jn)from rfl,Option.bind_some,ztb,Option.bind_some,Bool.not_true,cond_false]
 simp only
 have h1':zac (purserlaw28_ReplayAny.l3 x0) ([],[],0,(),[],0,[],[[]])=_:=h1
 rw[h1',Option.bind_some]
 simp only
 rw[hL,hW,hl1,hu]
 rw[show((((j.1.length+1:Nat):Nat):Int) !=0)=true by simp;omega,cond_true,hn2]
 have he17:((bif decide ((n:Int)>0)then(bif (decide (0≤IntKind.i64.wrap ((n:Int) - 1)) && decide (IntKind.i64.wrap ((n:Int) - 1)< ((zje j.1).length:Int)))then(some ((zje j.1).getD (IntKind.i64.wrap ((n:Int) - 1)).toNat 0))else none)else(some 0)):Option Int)=some (zn8 j n):=by
  unfold zn8
  by_cases h0:n=0
  ·rw[if_pos h0,decide_eq_false (by omega),cond_false]
  ·have hi:n - 1<j.1.length:=by omega
   rw[if_neg h0,decide_eq_true (by omega),cond_true,wr _ (by omega) (by omega),show(n:Int) - 1=((n - 1:Nat):Int)by omega,nn,hl2,ilt hi,Bool.and_self,cond_true,at_n j.1 _ hi]
   unfold zje
   rw[at_ _ (n - 1) (by rw[List.length_map];exact hi),List.getElem_map]
 rw[he17,Option.bind_some]
 rw[show journal_Journal_Period.f (j.1,(j.2.1,(j.2.2.1,j.2.2.2)))=some (j,j.2.1)from rfl,Option.bind_some]
 simp only
 have hh1:=zwd hok (Nat.le_refl _) j.2.1 false (fun _=>⟨rfl,rfl⟩) (fun h=>by cases h)
 have hh2:=zwd hok (show n≤j.1.length by omega) (zn8 j n) true (fun h=>by cases h) (fun _=>rfl)
 rw[show purserlaw28_held.f (j.1,(j.2.1,(j.2.2.1,j.2.2.2))) (zky j.1) (zje j.1) (j.1.length:Int) j.2.1 false=_ from hh1,Option.bind_some]
 simp only
 rw[cond_true,show purserlaw28_held.f (j.1,(j.2.1,(j.2.2.1,j.2.2.2))) (zky j.1) (zje j.1) (n:Int) (zn8 j n) true=_ from hh2,Option.bind_some]
 rfl
end Go.Proofs.YtniohchnpfpffaaGreat.Pure
