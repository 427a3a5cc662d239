/- Plain laws: a purse's operations,the program's and the document's. No statement of its own. -/
import Derived.Test.YtniohchnpfpffaaGreatSi
set_option linter.unusedSimpArgs false
set_option linter.unusedVariables false
namespace Go.Proofs.YtniohchnpfpffaaGreat.Pure
open Go.Vk Go.Am Go.Pg Go.Sort Go.Proofs.YtniohchnpfpffaaGreat.Y
/-! ### posts -/
theorem JRel.more{p m n c d:Nat}{j:Jn}{J:RJ}(h:JRel p m c j J)(hl:m≤n)(hc:c≤d):JRel p n d j J:=⟨⟨h.ji.per,h.ji.mov,h.ji.p31,Nat.le_trans h.ji.list hl⟩,h.lst,h.whn,h.per,h.ent,h.sum,h.rng,fun k=>by have:=h.bnd k;constructor<;>omega⟩
theorem JRel.legs{p m c:Nat}{j:Jn}{J:RJ}(h:JRel p m c j J): ∀x∈J.1,x.2.length≤1000000:=by
 intro x hx
 rw[h.lst]at hx
 obtain⟨y,hy,rfl⟩:=List.mem_map.1 hx
 have:=(zht (h.ent y hy)).1
 simp only[List.length_map]
 omega
theorem zgi(A' As:List FA)(J:RJ)(e k a:Int)(l:List Int)(g:Int)(he:e≠0)(h1:A'.length=33)(h2:As.length=33):purserref15_Purse_post.f (A',J) As e k a l g=some ((As,J),e):=by
 unfold purserref15_Purse_post.f
 simp only
 rw[show(e==0)=false by simp[he],cond_false,Option.bind_some]
 simp only
 rw[show(e !=0)=true by simp[he],cond_true,Option.bind_some]
 simp only
 rw[za6 h2,za6 h2]
theorem zgk{p m c:Nat}{j:Jn}{J:RJ}(h:JRel p m c j J)(hm:m≤16384)(k a:Int)(l:List Int)(g:Int)(hl:l.length≤64):
  ∃r j' J',(∀B1,period_Purse_post.f (B1,j) k a l g=some ((B1,j'),r))∧(∀A' As,A'.length=33→As.length=33→purserref15_Purse_post.f (A',J) As 0 k a l g=some ((if r=0 then A' else As,J'),r))∧JRel p (m+1) (c+1) j' J'∧(r≠0→j'=j∧J'=J)∧(r=0→(1≤k∧k≤6)∧(1≤a∧a≤9007199254740992)∧∃ys,ys.Perm (zcb k a g l)∧chk k ys=0∧j'=zb6 j (k,ys)):=by
 obtain⟨L,f,kk,q1,q2,q3,q4⟩:=zm5 k a l g hl
 by_cases hf:f=0
 ·have hk:=q4 hf
  have hjl:=h.ji.list
  have hJl:J.1.length=j.1.length:=by rw[h.lst,List.length_map]
  have hWl:J.2.1.length=j.1.length:=by rw[h.whn,List.length_map]
  have hLl:(L.map toL).length≤1000:=by rw[List.length_map];omega
  have hpost:=zme j (kk,L.map toL) p h.ji.per (by have:=h.ji.mov;omega) (by omega) hLl
  have hfind:=fun As=>zyj h (by omega) As ((kk,L),f) (by simp only;omega) h.legs
  have pr: ∀(B1:FB) (j':Jn) (n r:Int),journal_Journal_Post.f j (kk,L.map toL)=some (j',(n,r))→period_Purse_post.f (B1,j) k a l g=some ((B1,j'),r):=by
   intro B1 j' n r hp
   unfold period_Purse_post.f
   rw[q1,Option.bind_some]
   simp only
   rw[show(f !=0)=false by simp[hf],cond_false,show(j.1,(j.2.1,(j.2.2.1,j.2.2.2)))=j from rfl,hp]
   rfl
  have hck:purserref07_Check.f (kk,L)=some 0:=by rw[zma kk L (by omega),hk]
  by_cases hfull:j.1.length=16384
  ·refine⟨10,j,J,fun B1=>pr B1 j 0 10 ?_,fun A' As hA hB=> ?_,h.more (by omega) (by omega),fun _=>⟨rfl,rfl⟩,fun h=>absurd h (by decide)⟩
   ·rw[hpost]
    simp only
    rw[if_neg (by simp[hk]),if_pos hfull]
   ·unfold purserref15_Purse_post.f
    simp only
    rw[show((0:Int)==0)=true from rfl,cond_true,q2,Option.bind_some]
    simp only
    rw[show(f==0)=true by simp[hf],cond_true,hck,Option.bind_some,show((0:Int) !=0)=false from rfl,cond_false,show decide ((J.1.length:Int)≥16384)=true by rw[hJl,hfull];rfl,cond_true]
    simp only[Option.bind_some,za6 hA]
    rw[show((10:Int) !=0)=true from rfl,cond_true,if_neg (show¬(10:Int)=0 by decide)]
    simp only[Option.bind_some,za6 hB]
  ·by_cases hfar:(L.map toL).any (far j.2.2.1)=true
   ·refine⟨6,j,J,fun B1=>pr B1 j 0 6 ?_,fun A' As hA hB=> ?_,h.more (by omega) (by omega),fun _=>⟨rfl,rfl⟩,fun h=>absurd h (by decide)⟩
    ·rw[hpost]
     simp only
     rw[if_neg (by simp[hk]),if_neg hfull,if_pos hfar]
    ·unfold purserref15_Purse_post.f
     simp only
     rw[show((0:Int)==0)=true from rfl,cond_true,q2,Option.bind_some]
     simp only
     rw[show(f==0)=true by simp[hf],cond_true,hck,Option.bind_some,show((0:Int) !=0)=false from rfl,cond_false,show decide ((J.1.length:Int)≥16384)=false by rw[hJl];simp;omega,cond_false]
     rw[show za2 (purserref15_Purse_post.l3 (A',J) ((kk,L),f)) 0=_ from hfind A',if_pos hfar]
     simp only[Option.bind_some,za6 hA]
     rw[show((6:Int) !=0)=true from rfl,cond_true,if_neg (show¬(6:Int)=0 by decide)]
     simp only[Option.bind_some,za6 hB]
   ·have hmade:(1≤k∧k≤6)∧(1≤a∧a≤9007199254740992)∧∃ys,ys.Perm (zcb k a g l)∧chk k ys=0∧zb6 j (kk,L.map toL)=zb6 j (k,ys):=by
     obtain⟨e1,e2,e3,e4,e5⟩:=zDq (q1.trans (by rw[hf]))
     exact⟨e2,⟨e3.1,e3.2.1⟩,L.map toL,e4,e5,by rw[e1]⟩
    have hrel:=zvr h (by omega) kk (L.map toL) hk hfull (by simpa using hfar)
    rw[zms]at hrel
    refine⟨0,zb6 j (kk,L.map toL),(J.1++ [(kk,L)],(J.2.1++ [J.2.2],J.2.2)),fun B1=>pr B1 _ (j.1.length:Int) 0 ?_,fun A' As hA hB=> ?_,hrel,fun h=>absurd rfl h,fun _=>hmade⟩
    ·rw[hpost]
     simp only
     rw[if_neg (by simp[hk]),if_neg hfull,if_neg hfar]
    ·unfold purserref15_Purse_post.f
     simp only
     rw[show((0:Int)==0)=true from rfl,cond_true,q2,Option.bind_some]
     simp only
     rw[show(f==0)=true by simp[hf],cond_true,hck,Option.bind_some,show((0:Int) !=0)=false from rfl,cond_false,show decide ((J.1.length:Int)≥16384)=false by rw[hJl];simp;omega,cond_false]
     rw[show za2 (purserref15_Purse_post.l3 (A',J) ((kk,L),f)) 0=_ from hfind A',if_neg hfar]
     simp only[Option.bind_some,za6 hA]
     rw[show decide (J.1.length+([(kk,L)]:List (Int×List (Int×Int×Int×Int))).length≤1099511627776)=true by simp;omega,cond_true,show decide (J.2.1.length+([J.2.2]:List Int).length≤1099511627776)=true by simp;omega,cond_true]
     simp only[Option.bind_some,za6 hA]
     rw[show((0:Int) !=0)=false from rfl,cond_false]
     simp only[Option.bind_some,za6 hA,if_true]
 ·refine⟨f,j,J,fun B1=> ?_,fun A' As hA hB=> ?_,h.more (by omega) (by omega),fun _=>⟨rfl,rfl⟩,fun h=>absurd h hf⟩
  ·unfold period_Purse_post.f
   rw[q1,Option.bind_some]
   simp only
   rw[show(f !=0)=true by simp[hf],cond_true]
  ·unfold purserref15_Purse_post.f
   simp only
   rw[show((0:Int)==0)=true from rfl,cond_true,q2,Option.bind_some]
   simp only
   rw[show(f==0)=false by simp[hf],cond_false,Option.bind_some]
   simp only
   rw[za6 hA,Option.bind_some]
   simp only
   rw[show(f !=0)=true by simp[hf],cond_true,Option.bind_some,if_neg hf]
   simp only
   rw[za6 hB,za6 hB]
/-! ### accounts that are made what they were -/
theorem zq5{a:FA}(h:OkA a):funds_Account_right.f a=some true:=by
 obtain⟨h1,h2,h3,h4,h5,h6,h7⟩:=h
 have hw: ∀n:Int,0≤n∧n≤9007199254740992→funds_within.f n=some true:=by
  intro n hn
  unfold funds_within.f
  rw[decide_eq_true (show n≥0 from hn.1),cond_true,decide_eq_true hn.2]
  rfl
 have hl:za2 (funds_Account_right.l1 a) 0=some (.inr ()):=by
  refine zap (fun i=>(i:Int)) 5 rfl (fun i hi=> ?_) ?_
  ·unfold funds_Account_right.l1
   rw[show(([a.1,a.2.1,a.2.2.1,a.2.2.2.1,a.2.2.2.2]:List Int).length:Int)=((5:Nat):Int)from rfl,ilt hi,nn,Bool.and_self,cond_true,cond_true]
   have:funds_within.f (([a.1,a.2.1,a.2.2.1,a.2.2.2.1,a.2.2.2.2]:List Int).getD ((i:Int)).toNat 0)=some true:=by
    rw[Int.toNat_natCast]
    rcases i with _|_|_|_|_|i
    ·exact hw _ h1
    ·exact hw _ h2
    ·exact hw _ h3
    ·exact hw _ h4
    ·exact hw _ h5
    ·omega
   rw[this,Option.bind_some,Bool.not_true,cond_false,wrS i (by omega)]
  ·rfl
 unfold funds_Account_right.f
 rw[hl,Option.bind_some]
 simp only
 rw[wr (a.1+a.2.1) (by omega) (by omega),hw _ (by omega),Option.bind_some,cond_true,left5 ⟨h1,h2,h3,h4,h5,h6,h7⟩,Option.bind_some]
 rw[decide_eq_true (show zag a≥0 from h7)]
 rfl
theorem ztx(B:FB){n:Int}(hn:1≤n∧n≤32){a:FA}(h:OkA a):funds_Book_Set.f B n a=some (setA B n a,0):=by
 unfold funds_Book_Set.f
 rw[zqd,(zdp n).2 hn,Option.bind_some,Bool.not_true,Bool.not_false,cond_true]
 rw[show funds_Account_right.f (a.1,(a.2.1,(a.2.2.1,(a.2.2.2.1,a.2.2.2.2))))=some true from zq5 h,Option.bind_some,Option.bind_some,Bool.not_true,cond_false]
 rw[show funds_Book_set.f B n (a.1,(a.2.1,(a.2.2.1,(a.2.2.2.1,a.2.2.2.2))))=_ from zol B n a,Option.bind_some]
def zar(B:FB)(l:List Int):FB:=l.foldl (fun M n=>zaw KI VA M n (geA B n)) []
theorem zh9(B:FB): ∀(l:List Int) (M:FB),(zbx M).Nodup→(zbx (l.foldl (fun M n=>zaw KI VA M n (geA B n)) M)).Nodup∧∀q,zaj KI VA (l.foldl (fun M n=>zaw KI VA M n (geA B n)) M) q=if q∈l then some (geA B q)else zaj KI VA M q
 | [],M,h=>⟨h,fun q=>by simp⟩
 |n::l,M,h=>by
  obtain⟨k1,k2⟩:=zh9 B l (zaw KI VA M n (geA B n)) (zhc zgb h n _)
  refine⟨k1,fun q=> ?_⟩
  rw[List.foldl_cons,k2,zic (K:=KI) rfl,eqI]
  by_cases hq:q∈l
  ·rw[if_pos hq,if_pos (by simp[hq])]
  ·rw[if_neg hq]
   by_cases hqn:q=n
   ·subst hqn;rw[decide_eq_true rfl,cond_true,if_pos (by simp)]
   ·rw[decide_eq_false hqn,cond_false,if_neg (by simp[hq,hqn])]
theorem zcv{B:FB}{l:List Int}{x:Int×FA}(h:x∈zjo (K:=KI) (V:=VA) (zar B l)):x.1∈l∧x.2=geA B x.1:=by
 obtain⟨k1,k2⟩:=zh9 B l [] List.nodup_nil
 have h1:=(zle (V:=VA) zgb (m:=zar B l) (k:=x.1) (v:=x.2) k1).2 h
 have h2:=k2 x.1
 have h2:zaj KI VA (zar B l) x.1=if x.1∈l then some (geA B x.1)else zaj KI VA [] x.1:=h2
 rw[show zaj KI VA (zar B l) x.1=some x.2 from h1]at h2
 by_cases hx:x.1∈l
 ·rw[if_pos hx]at h2
  exact⟨hx,Option.some.inj h2⟩
 ·rw[if_neg hx]at h2
  cases h2
theorem zgg{B:FB}{l:List Int}{n:Int}(h:n∈l):(n,geA B n)∈zjo (K:=KI) (V:=VA) (zar B l):=by
 obtain⟨k1,k2⟩:=zh9 B l [] List.nodup_nil
 have h2:=k2 n
 rw[if_pos h]at h2
 exact(zle (V:=VA) zgb k1).1 h2
def SameK(B B':FB):Prop:=B.map (Option.map (·.1))=B'.map (Option.map (·.1))
theorem mset_same: ∀(B:FB) (n:Int) (a:FA),n∈zbx B→SameK (zaw KI VA B n a) B
 | [],n,a,h=>by simp[zdr,zjo]at h
 |none::B,n,a,h=>by
  have:=mset_same B n a h
  unfold SameK at this⊢
  simp only[zaw,List.map_cons,this]
 |some (k,v)::B,n,a,h=>by
  unfold SameK
  simp only[zaw]
  rw[eqI]
  by_cases hk:n=k
  ·rw[decide_eq_true hk,cond_true]
   simp[hk]
  ·rw[decide_eq_false hk,cond_false]
   have hm:n∈zbx B:=by
    unfold zbx zdr zjo at h⊢
    simp at h⊢
    rcases h with h|h
    ·exact absurd h hk
    ·exact h
   have:=mset_same B n a hm
   unfold SameK at this
   simp only[List.map_cons,this]
theorem SameK.keys{B B':FB}(h:SameK B B'):zbx B=zbx B':=by
 have: ∀X:FB,zbx X=(X.map (Option.map (·.1))).filterMap id:=by
  intro X
  induction X with
  |nil=>rfl
  |cons x X ih=>
   cases x with
   |none=>simpa[zdr,zjo]using ih
   |some p=>simpa[zdr,zjo]using ih
 rw[this,this,h]
theorem zq2: ∀(B B':FB),SameK B B'→(zbx B).Nodup→(∀k∈zbx B,zaj KI VA B k=zaj KI VA B' k)→B=B'
 | [],[],_,_,_=>rfl
 | [],_::_,h,_,_=>by simp[SameK]at h
 |_::_,[],h,_,_=>by simp[SameK]at h
 |none::B,none::B',h,hn,hg=>by
  unfold SameK at h
  simp only[List.map_cons,List.cons.injEq]at h
  rw[zq2 B B' h.2 hn hg]
 |none::B,some p::B',h,hn,hg=>by simp[SameK]at h
 |some p::B,none::B',h,hn,hg=>by simp[SameK]at h
 |some (k,v)::B,some (k',v')::B',h,hn,hg=>by
  unfold SameK at h
  simp only[List.map_cons,List.cons.injEq,Option.map_some,Option.some.injEq]at h
  obtain⟨rfl,h2⟩:=h
  have hkn:zbx (some (k,v)::B)=k::zbx B:=rfl
  rw[hkn]at hn hg
  obtain⟨n1,n2⟩:=List.nodup_cons.1 hn
  have e1:=hg k (by simp)
  simp only[zaj]at e1
  rw[eqI,decide_eq_true rfl,cond_true,cond_true]at e1
  obtain rfl:=Option.some.inj e1
  rw[zq2 B B' h2 n2 fun q hq=>by
   have e2:=hg q (by simp[hq])
   simp only[zaj]at e2
   rw[eqI,decide_eq_false (fun e:q=k=>n1 (e▸hq)),cond_false,cond_false]at e2
   exact e2]
theorem zm4(F:Int→FA): ∀(l:List Int) (B:FB),(∀n∈l,n∈zbx B∧F n≠V0)→SameK (zb0 F B l) B
 | [],B,_=>rfl
 |n::l,B,h=>by
  obtain⟨h1,h2⟩:=h n (by simp)
  have hs:setA B n (F n)=zaw KI VA B n (F n):=if_neg h2
  have k:=mset_same B n (F n) h1
  have ih:=zm4 F l (zaw KI VA B n (F n)) (fun m hm=>⟨by rw[k.keys];exact(h m (by simp[hm])).1,(h m (by simp[hm])).2⟩)
  show SameK (zb0 F (setA B n (F n)) l) B
  rw[hs]
  exact ih.trans k
theorem zwh{B:FB}{q:Int}{x:FA}(h:zaj KI VA B q=some x):geA B q=x:=by
 unfold geA
 rw[h]
 rfl
theorem zrg{B:FB}{N:Nat}(hB:BOk B N){l:List Int}(hl:PathP l){G:Int→FA}(hG: ∀n∈l,OkA (G n))(hnz: ∀n∈l,geA B n≠V0∧G n≠V0){ks:List Int}(hk: ∀n,n∈ks↔n∈l):
  zb0 (geA B) (zb0 G B l) ks=B:=by
 obtain⟨k1,k2⟩:=zde G l B N hB hl.rng hG
 obtain⟨k3,k4⟩:=zde (geA B) ks (zb0 G B l) (N+l.length) k1 (fun n hn=>hl.rng n ((hk n).1 hn)) (fun n _=>hB.ok n)
 have s1:=zm4 G l B (fun n hn=>⟨(hB.key n).2 (hnz n hn).1,(hnz n hn).2⟩)
 have s2:=zm4 (geA B) ks (zb0 G B l) (fun n hn=>⟨by rw[s1.keys];exact(hB.key n).2 (hnz n ((hk n).1 hn)).1,(hnz n ((hk n).1 hn)).1⟩)
 have hg: ∀q,geA (zb0 (geA B) (zb0 G B l) ks) q=geA B q:=by
  intro q
  rw[k4,k2]
  by_cases hq:q∈ks
  ·rw[if_pos hq]
  ·rw[if_neg hq,if_neg (fun h=>hq ((hk q).2 h))]
 refine zq2 _ _ (s2.trans s1) k3.nod fun q hq=> ?_
 have h1:q∈zbx B:=by rw[←(show SameK _ _ from s2.trans s1).keys];exact hq
 obtain⟨x,hx⟩:=Option.isSome_iff_exists.1 ((zce (V:=VA) zgb).2 hq)
 obtain⟨y,hy⟩:=Option.isSome_iff_exists.1 ((zce (V:=VA) zgb).2 h1)
 have e1:geA (zb0 (geA B) (zb0 G B l) ks) q=x:=zwh hx
 have e2:geA B q=y:=zwh hy
 rw[hx,hy,←e1,←e2,hg q]
structure PRel(p N m c:Nat)(P:FB×Jn)(W:List FA×RJ):Prop where
 b:BRel N P.1 W.1
 j:JRel p m c P.2 W.2
theorem BRel.more{N M:Nat}{B:FB}{As:List FA}(h:BRel N B As)(hl:N≤M):BRel M B As:=⟨h.ok.mono hl,h.len,h.get⟩
/-! ### Hold -/
theorem zD5(l:List Int)(hl:l.length≤1000000)(B:FB):za2 (period_Purse_Hold.l1 l) (0,(),B,([]:FB))=some ((),B,zar B l):=by
 refine zap (fun i=>((i:Int),(),B,zar B (l.take i))) l.length (by simp[zar]) (fun i hi=> ?_) ?_
 ·unfold period_Purse_Hold.l1
  simp only
  rw[ilt hi,nn,Bool.and_self,cond_true,cond_true,at_ l i hi]
  rw[show funds_Book_Get.f B l[i]=some (B,geA B l[i])from rfl,Option.bind_some]
  have hs:zar B (l.take (i+1))=zaw KI VA (zar B (l.take i)) l[i] (geA B l[i]):=by
   rw[zad l i hi]
   unfold zar
   rw[List.foldl_append]
   rfl
  rw[hs,wrS i (by omega)]
 ·unfold period_Purse_Hold.l1
  simp only[List.take_length]
  rw[ige]
  rfl
theorem zA9(B:FB): ∀(L:List (Int×FA)) (B1:FB),(∀x∈L,(1≤x.1∧x.1≤32)∧OkA x.2∧x.2=geA B x.1)→zmg (period_Purse_Hold.l6) L ((),B1)=some ((),zb0 (geA B) B1 (L.map (·.1)))
 | [],B1,_=>rfl
 |x::L,B1,h=>by
  obtain⟨h1,h2,h3⟩:=h x (by simp)
  have hs:period_Purse_Hold.l6 (some x) ((),B1)=some (.inl ((),setA B1 x.1 (geA B x.1))):=by
   unfold period_Purse_Hold.l6
   show(funds_Book_Set.f B1 x.1 x.2).bind _=_
   rw[ztx B1 h1 h2,Option.bind_some,h3]
  simp only[zmg]
  rw[hs]
  exact zA9 B L _ (fun y hy=>h y (by simp[hy]))
theorem qHold{p N m c:Nat}{B:FB}{j:Jn}{As:List FA}{J:RJ}(h:PRel p N m c (B,j) (As,J))(hm:m≤16384)(l lim:List Int)(a:Int)(hl:l.length≤64):
  ∃P' W' r,period_Purse_Hold.f (B,j) l lim a=some (P',r)∧purserref15_Purse_Hold.f (As,J) l lim a=some (W',r)∧PRel p (N+64) (m+1) (c+1) P' W'∧Stp 2 a 0 l (fun n=>zb1 0 a (geA B n)) (B,j) P':=by
 have hB:BOk B N:=h.b.ok
 have hA:As.length=33:=h.b.len
 have hpb:=zB8 hB l lim a
 have hsv:=zD5 l (by omega) B
 by_cases he:zf4 (geA B) l lim a=0
 ·rw[if_pos he]at hpb
  obtain⟨r,j',J',p1,p2,p3,p4,p5⟩:=zgk h.j hm 2 a l 0 hl
  obtain⟨hP,hxx1,hxx2,hxx3,hok⟩:=zqs hB he
  have hrng:=hP.rng
  have hlen:=hP.len
  have hSR:=h.b.sets (F:=(fun n=>zb1 0 a (geA B n))) hrng hok
  have hd:=p2 (zam (fun n=>zb1 0 a (geA B n)) As l) As (by rw[zaq];exact hA) hA
  by_cases hr:r=0
  ·refine⟨(zb0 (fun n=>zb1 0 a (geA B n)) B l,j'),(zam (fun n=>zb1 0 a (geA B n)) As l,J'),0,?_,?_,⟨hSR.more (by have:=hlen;omega),p3⟩,zlx hB hrng hP.nod hok (p5 hr)⟩
   ·unfold period_Purse_Hold.f
    simp only
    rw[hsv,Option.bind_some]
    simp only
    rw[hpb,Option.bind_some]
    simp only
    rw[he,show((0:Int) !=0)=false from rfl,cond_false,show(j.1,(j.2.1,(j.2.2.1,j.2.2.2)))=j from rfl,p1,Option.bind_some]
    simp only
    rw[hr,show((0:Int) !=0)=false from rfl,cond_false]
    rfl
   ·refine zqt h.b J l lim a (by rw[zaq];exact hA) ?_
    rw[he,if_pos rfl,hd,hr,if_pos rfl]
  ·have hnz: ∀n∈l,geA B n≠V0∧(fun n=>zb1 0 a (geA B n)) n≠V0:=by
    intro n hn
    obtain⟨k,hk,rfl⟩:=List.getElem_of_mem hn
    have h1:=zb7 hxx3 k (by omega) (by omega)
    have ha:=(zb2 a).1 hxx2
    have hok2:=hB.ok l[k]
    obtain⟨o1,o2,o3,o4,o5,o6,o7⟩:=hok2
    unfold zag at o7
    unfold zj2 at h1
    rw[zl3 l k hk]at h1
    split at h1
    ·cases h1
    ·rename_i hlt
     unfold zag at hlt
     constructor
     ·intro e
      have e1:(geA B l[k]).1=0:=congrArg (·.1) e
      have e2:(geA B l[k]).2.1=0:=congrArg (·.2.1) e
      omega
     ·intro e
      have e1:(geA B l[k]).1=0:=congrArg (·.1) e
      have e2:(geA B l[k]).2.1=0:=congrArg (·.2.1) e
      omega
   have hb2:BRel (N+64) B As:=h.b.more (by omega)
   have hback: ∀ks:List Int,(∀n,n∈ks↔n∈l)→zb0 (geA B) (zb0 (fun n=>zb1 0 a (geA B n)) B l) ks=B:=fun ks hks=>zrg hB hP hok hnz hks
   obtain⟨B2,hB2⟩: ∃B2,B2=B:=⟨B,rfl⟩
   rw[←hB2]at hb2
   refine⟨(B2,j'),(As,J'),r,?_,?_,⟨hb2,p3⟩,zrx h.b hb2 (p4 hr).1⟩
   ·unfold period_Purse_Hold.f
    simp only
    rw[hsv,Option.bind_some]
    simp only
    rw[hpb,Option.bind_some]
    simp only
    rw[he,show((0:Int) !=0)=false from rfl,cond_false,show(j.1,(j.2.1,(j.2.2.1,j.2.2.2)))=j from rfl,p1,Option.bind_some]
    simp only
    rw[show(r !=0)=true by simp[hr],cond_true,show Nat.beq (List.length (zar B l)) (zar B l).length=true from Nat.beq_refl _,cond_true]
    rw[zcy (x:=(r,(),B2,(j'.1,(j'.2.1,(j'.2.2.1,j'.2.2.2))))) (fun L hL=> ?_)]
    ·rfl
    ·have hL:L.Perm (zjo (K:=KI) (V:=VA) (zar B l)):=hL
     rw[zA9 B L _ (fun x hx=>by
      obtain⟨h1,h2⟩:=zcv (hL.mem_iff.1 hx)
      exact⟨hrng _ h1,by rw[h2];exact hB.ok _,h2⟩),Option.bind_some]
     have hks: ∀q,q∈L.map (·.1)↔q∈l:=fun q=>by
      constructor
      ·intro hn
       obtain⟨x,hx,rfl⟩:=List.mem_map.1 hn
       exact(zcv (hL.mem_iff.1 hx)).1
      ·intro hn
       exact List.mem_map.2 ⟨_,hL.mem_iff.2 (zgg hn),rfl⟩
     rw[hback _ hks,hB2]
   ·refine zqt h.b J l lim a hA ?_
    rw[he,if_pos rfl,hd,if_neg hr]
 ·rw[if_neg he]at hpb
  refine⟨(B,j),(As,J),zf4 (geA B) l lim a,?_,?_,⟨h.b.more (by omega),h.j.more (by omega) (by omega)⟩,.inl ⟨fun _ _=>rfl,rfl⟩⟩
  ·unfold period_Purse_Hold.f
   simp only
   rw[hsv,Option.bind_some]
   simp only
   rw[hpb,Option.bind_some]
   simp only
   rw[show(zf4 (geA B) l lim a !=0)=true by simp[he],cond_true]
   rfl
  ·refine zqt h.b J l lim a hA ?_
   rw[if_neg he]
   exact zgi As As J _ 2 a l 0 he hA hA
/-! ### Release -/
theorem zud(l:List Int)(hl:l.length≤1000000)(B:FB):za2 (period_Purse_Release.l1 l) (0,(),B,([]:FB))=some ((),B,zar B l):=by
 refine zap (fun i=>((i:Int),(),B,zar B (l.take i))) l.length (by simp[zar]) (fun i hi=> ?_) ?_
 ·unfold period_Purse_Release.l1
  simp only
  rw[ilt hi,nn,Bool.and_self,cond_true,cond_true,at_ l i hi]
  rw[show funds_Book_Get.f B l[i]=some (B,geA B l[i])from rfl,Option.bind_some]
  have hs:zar B (l.take (i+1))=zaw KI VA (zar B (l.take i)) l[i] (geA B l[i]):=by
   rw[zad l i hi]
   unfold zar
   rw[List.foldl_append]
   rfl
  rw[hs,wrS i (by omega)]
 ·unfold period_Purse_Release.l1
  simp only[List.take_length]
  rw[ige]
  rfl
theorem zou(B:FB): ∀(L:List (Int×FA)) (B1:FB),(∀x∈L,(1≤x.1∧x.1≤32)∧OkA x.2∧x.2=geA B x.1)→zmg (period_Purse_Release.l6) L ((),B1)=some ((),zb0 (geA B) B1 (L.map (·.1)))
 | [],B1,_=>rfl
 |x::L,B1,h=>by
  obtain⟨h1,h2,h3⟩:=h x (by simp)
  have hs:period_Purse_Release.l6 (some x) ((),B1)=some (.inl ((),setA B1 x.1 (geA B x.1))):=by
   unfold period_Purse_Release.l6
   show(funds_Book_Set.f B1 x.1 x.2).bind _=_
   rw[ztx B1 h1 h2,Option.bind_some,h3]
  simp only[zmg]
  rw[hs]
  exact zou B L _ (fun y hy=>h y (by simp[hy]))
theorem zDf{p N m c:Nat}{B:FB}{j:Jn}{As:List FA}{J:RJ}(h:PRel p N m c (B,j) (As,J))(hm:m≤16384)(l:List Int)(a:Int)(hl:l.length≤64):
  ∃P' W' r,period_Purse_Release.f (B,j) l a=some (P',r)∧purserref15_Purse_Release.f (As,J) l a=some (W',r)∧PRel p (N+64) (m+1) (c+1) P' W'∧Stp 3 a 0 l (fun n=>zb1 0 (-a) (geA B n)) (B,j) P':=by
 have hB:BOk B N:=h.b.ok
 have hA:As.length=33:=h.b.len
 have hpb:=zDk hB l a
 have hsv:=zud l (by omega) B
 by_cases he:zbc (geA B) l a=0
 ·rw[if_pos he]at hpb
  obtain⟨r,j',J',p1,p2,p3,p4,p5⟩:=zgk h.j hm 3 a l 0 hl
  obtain⟨hP,hxx1,hxx2,hxx3,hok⟩:=zqm hB he
  have hrng:=hP.rng
  have hlen:=hP.len
  have hSR:=h.b.sets (F:=(fun n=>zb1 0 (-a) (geA B n))) hrng hok
  have hd:=p2 (zam (fun n=>zb1 0 (-a) (geA B n)) As l) As (by rw[zaq];exact hA) hA
  by_cases hr:r=0
  ·refine⟨(zb0 (fun n=>zb1 0 (-a) (geA B n)) B l,j'),(zam (fun n=>zb1 0 (-a) (geA B n)) As l,J'),0,?_,?_,⟨hSR.more (by have:=hlen;omega),p3⟩,zlx hB hrng hP.nod hok (p5 hr)⟩
   ·unfold period_Purse_Release.f
    simp only
    rw[hsv,Option.bind_some]
    simp only
    rw[hpb,Option.bind_some]
    simp only
    rw[he,show((0:Int) !=0)=false from rfl,cond_false,show(j.1,(j.2.1,(j.2.2.1,j.2.2.2)))=j from rfl,p1,Option.bind_some]
    simp only
    rw[hr,show((0:Int) !=0)=false from rfl,cond_false]
    rfl
   ·refine zrc h.b J l a (by rw[zaq];exact hA) ?_
    rw[he,if_pos rfl,hd,hr,if_pos rfl]
  ·have hnz: ∀n∈l,geA B n≠V0∧(fun n=>zb1 0 (-a) (geA B n)) n≠V0:=by
    intro n hn
    obtain⟨k,hk,rfl⟩:=List.getElem_of_mem hn
    have h1:=zb7 hxx3 k (by omega) (by omega)
    have ha:=(zb2 a).1 hxx2
    have hok2:=hB.ok l[k]
    obtain⟨o1,o2,o3,o4,o5,o6,o7⟩:=hok2
    unfold zag at o7
    unfold zcn at h1
    rw[zl3 l k hk]at h1
    split at h1
    ·cases h1
    ·rename_i hlt
     skip
     constructor
     ·intro e
      have e1:(geA B l[k]).1=0:=congrArg (·.1) e
      have e2:(geA B l[k]).2.1=0:=congrArg (·.2.1) e
      omega
     ·intro e
      have e1:(geA B l[k]).1=0:=congrArg (·.1) e
      have e2:(geA B l[k]).2.1=0:=congrArg (·.2.1) e
      omega
   have hb2:BRel (N+64) B As:=h.b.more (by omega)
   have hback: ∀ks:List Int,(∀n,n∈ks↔n∈l)→zb0 (geA B) (zb0 (fun n=>zb1 0 (-a) (geA B n)) B l) ks=B:=fun ks hks=>zrg hB hP hok hnz hks
   obtain⟨B2,hB2⟩: ∃B2,B2=B:=⟨B,rfl⟩
   rw[←hB2]at hb2
   refine⟨(B2,j'),(As,J'),r,?_,?_,⟨hb2,p3⟩,zrx h.b hb2 (p4 hr).1⟩
   ·unfold period_Purse_Release.f
    simp only
    rw[hsv,Option.bind_some]
    simp only
    rw[hpb,Option.bind_some]
    simp only
    rw[he,show((0:Int) !=0)=false from rfl,cond_false,show(j.1,(j.2.1,(j.2.2.1,j.2.2.2)))=j from rfl,p1,Option.bind_some]
    simp only
    rw[show(r !=0)=true by simp[hr],cond_true,show Nat.beq (List.length (zar B l)) (zar B l).length=true from Nat.beq_refl _,cond_true]
    rw[zcy (x:=(r,(),B2,(j'.1,(j'.2.1,(j'.2.2.1,j'.2.2.2))))) (fun L hL=> ?_)]
    ·rfl
    ·have hL:L.Perm (zjo (K:=KI) (V:=VA) (zar B l)):=hL
     rw[zou B L _ (fun x hx=>by
      obtain⟨h1,h2⟩:=zcv (hL.mem_iff.1 hx)
      exact⟨hrng _ h1,by rw[h2];exact hB.ok _,h2⟩),Option.bind_some]
     have hks: ∀q,q∈L.map (·.1)↔q∈l:=fun q=>by
      constructor
      ·intro hn
       obtain⟨x,hx,rfl⟩:=List.mem_map.1 hn
       exact(zcv (hL.mem_iff.1 hx)).1
      ·intro hn
       exact List.mem_map.2 ⟨_,hL.mem_iff.2 (zgg hn),rfl⟩
     rw[hback _ hks,hB2]
   ·refine zrc h.b J l a hA ?_
    rw[he,if_pos rfl,hd,if_neg hr]
 ·rw[if_neg he]at hpb
  refine⟨(B,j),(As,J),zbc (geA B) l a,?_,?_,⟨h.b.more (by omega),h.j.more (by omega) (by omega)⟩,.inl ⟨fun _ _=>rfl,rfl⟩⟩
  ·unfold period_Purse_Release.f
   simp only
   rw[hsv,Option.bind_some]
   simp only
   rw[hpb,Option.bind_some]
   simp only
   rw[show(zbc (geA B) l a !=0)=true by simp[he],cond_true]
   rfl
  ·refine zrc h.b J l a hA ?_
   rw[if_neg he]
   exact zgi As As J _ 3 a l 0 he hA hA
/-! ### Commit -/
theorem zxb(l:List Int)(hl:l.length≤1000000)(B:FB):za2 (period_Purse_Commit.l1 l) (0,(),B,([]:FB))=some ((),B,zar B l):=by
 refine zap (fun i=>((i:Int),(),B,zar B (l.take i))) l.length (by simp[zar]) (fun i hi=> ?_) ?_
 ·unfold period_Purse_Commit.l1
  simp only
  rw[ilt hi,nn,Bool.and_self,cond_true,cond_true,at_ l i hi]
  rw[show funds_Book_Get.f B l[i]=some (B,geA B l[i])from rfl,Option.bind_some]
  have hs:zar B (l.take (i+1))=zaw KI VA (zar B (l.take i)) l[i] (geA B l[i]):=by
   rw[zad l i hi]
   unfold zar
   rw[List.foldl_append]
   rfl
  rw[hs,wrS i (by omega)]
 ·unfold period_Purse_Commit.l1
  simp only[List.take_length]
  rw[ige]
  rfl
theorem zsg(B:FB): ∀(L:List (Int×FA)) (B1:FB),(∀x∈L,(1≤x.1∧x.1≤32)∧OkA x.2∧x.2=geA B x.1)→zmg (period_Purse_Commit.l6) L ((),B1)=some ((),zb0 (geA B) B1 (L.map (·.1)))
 | [],B1,_=>rfl
 |x::L,B1,h=>by
  obtain⟨h1,h2,h3⟩:=h x (by simp)
  have hs:period_Purse_Commit.l6 (some x) ((),B1)=some (.inl ((),setA B1 x.1 (geA B x.1))):=by
   unfold period_Purse_Commit.l6
   show(funds_Book_Set.f B1 x.1 x.2).bind _=_
   rw[ztx B1 h1 h2,Option.bind_some,h3]
  simp only[zmg]
  rw[hs]
  exact zsg B L _ (fun y hy=>h y (by simp[hy]))
theorem qCommit{p N m c:Nat}{B:FB}{j:Jn}{As:List FA}{J:RJ}(h:PRel p N m c (B,j) (As,J))(hm:m≤16384)(l:List Int)(a g:Int)(hl:l.length≤64):
  ∃P' W' r,period_Purse_Commit.f (B,j) l a g=some (P',r)∧purserref15_Purse_Commit.f (As,J) l a g=some (W',r)∧PRel p (N+64) (m+1) (c+1) P' W'∧Stp 4 a g l (fun n=>zb1 a (-a) (geA B n)) (B,j) P':=by
 have hB:BOk B N:=h.b.ok
 have hA:As.length=33:=h.b.len
 have hpb:=pCommit hB l a
 have hsv:=zxb l (by omega) B
 by_cases he:zc3 (geA B) l a=0
 ·rw[if_pos he]at hpb
  obtain⟨r,j',J',p1,p2,p3,p4,p5⟩:=zgk h.j hm 4 a l g hl
  obtain⟨hP,hxx1,hxx2,hxx3,hok⟩:=zus hB he
  have hrng:=hP.rng
  have hlen:=hP.len
  have hSR:=h.b.sets (F:=(fun n=>zb1 a (-a) (geA B n))) hrng hok
  have hd:=p2 (zam (fun n=>zb1 a (-a) (geA B n)) As l) As (by rw[zaq];exact hA) hA
  by_cases hr:r=0
  ·refine⟨(zb0 (fun n=>zb1 a (-a) (geA B n)) B l,j'),(zam (fun n=>zb1 a (-a) (geA B n)) As l,J'),0,?_,?_,⟨hSR.more (by have:=hlen;omega),p3⟩,zlx hB hrng hP.nod hok (p5 hr)⟩
   ·unfold period_Purse_Commit.f
    simp only
    rw[hsv,Option.bind_some]
    simp only
    rw[hpb,Option.bind_some]
    simp only
    rw[he,show((0:Int) !=0)=false from rfl,cond_false,show(j.1,(j.2.1,(j.2.2.1,j.2.2.2)))=j from rfl,p1,Option.bind_some]
    simp only
    rw[hr,show((0:Int) !=0)=false from rfl,cond_false]
    rfl
   ·refine zv8 h.b J l a g (by rw[zaq];exact hA) ?_
    rw[he,if_pos rfl,hd,hr,if_pos rfl]
  ·have hnz: ∀n∈l,geA B n≠V0∧(fun n=>zb1 a (-a) (geA B n)) n≠V0:=by
    intro n hn
    obtain⟨k,hk,rfl⟩:=List.getElem_of_mem hn
    have h1:=zb7 hxx3 k (by omega) (by omega)
    have ha:=(zb2 a).1 hxx2
    have hok2:=hB.ok l[k]
    obtain⟨o1,o2,o3,o4,o5,o6,o7⟩:=hok2
    unfold zag at o7
    unfold zdc at h1
    rw[zl3 l k hk]at h1
    split at h1
    ·cases h1
    ·rename_i hlt
     skip
     constructor
     ·intro e
      have e1:(geA B l[k]).1=0:=congrArg (·.1) e
      have e2:(geA B l[k]).2.1=0:=congrArg (·.2.1) e
      omega
     ·intro e
      have e1:(geA B l[k]).1=0:=congrArg (·.1) e
      have e2:(geA B l[k]).2.1=0:=congrArg (·.2.1) e
      omega
   have hb2:BRel (N+64) B As:=h.b.more (by omega)
   have hback: ∀ks:List Int,(∀n,n∈ks↔n∈l)→zb0 (geA B) (zb0 (fun n=>zb1 a (-a) (geA B n)) B l) ks=B:=fun ks hks=>zrg hB hP hok hnz hks
   obtain⟨B2,hB2⟩: ∃B2,B2=B:=⟨B,rfl⟩
   rw[←hB2]at hb2
   refine⟨(B2,j'),(As,J'),r,?_,?_,⟨hb2,p3⟩,zrx h.b hb2 (p4 hr).1⟩
   ·unfold period_Purse_Commit.f
    simp only
    rw[hsv,Option.bind_some]
    simp only
    rw[hpb,Option.bind_some]
    simp only
    rw[he,show((0:Int) !=0)=false from rfl,cond_false,show(j.1,(j.2.1,(j.2.2.1,j.2.2.2)))=j from rfl,p1,Option.bind_some]
    simp only
    rw[show(r !=0)=true by simp[hr],cond_true,show Nat.beq (List.length (zar B l)) (zar B l).length=true from Nat.beq_refl _,cond_true]
    rw[zcy (x:=(r,(),B2,(j'.1,(j'.2.1,(j'.2.2.1,j'.2.2.2))))) (fun L hL=> ?_)]
    ·rfl
    ·have hL:L.Perm (zjo (K:=KI) (V:=VA) (zar B l)):=hL
     rw[zsg B L _ (fun x hx=>by
      obtain⟨h1,h2⟩:=zcv (hL.mem_iff.1 hx)
      exact⟨hrng _ h1,by rw[h2];exact hB.ok _,h2⟩),Option.bind_some]
     have hks: ∀q,q∈L.map (·.1)↔q∈l:=fun q=>by
      constructor
      ·intro hn
       obtain⟨x,hx,rfl⟩:=List.mem_map.1 hn
       exact(zcv (hL.mem_iff.1 hx)).1
      ·intro hn
       exact List.mem_map.2 ⟨_,hL.mem_iff.2 (zgg hn),rfl⟩
     rw[hback _ hks,hB2]
   ·refine zv8 h.b J l a g hA ?_
    rw[he,if_pos rfl,hd,if_neg hr]
 ·rw[if_neg he]at hpb
  refine⟨(B,j),(As,J),zc3 (geA B) l a,?_,?_,⟨h.b.more (by omega),h.j.more (by omega) (by omega)⟩,.inl ⟨fun _ _=>rfl,rfl⟩⟩
  ·unfold period_Purse_Commit.f
   simp only
   rw[hsv,Option.bind_some]
   simp only
   rw[hpb,Option.bind_some]
   simp only
   rw[show(zc3 (geA B) l a !=0)=true by simp[he],cond_true]
   rfl
  ·refine zv8 h.b J l a g hA ?_
   rw[if_neg he]
   exact zgi As As J _ 4 a l g he hA hA
/-! ### Refund -/
theorem zxa(l:List Int)(hl:l.length≤1000000)(B:FB):za2 (period_Purse_Refund.l1 l) (0,(),B,([]:FB))=some ((),B,zar B l):=by
 refine zap (fun i=>((i:Int),(),B,zar B (l.take i))) l.length (by simp[zar]) (fun i hi=> ?_) ?_
 ·unfold period_Purse_Refund.l1
  simp only
  rw[ilt hi,nn,Bool.and_self,cond_true,cond_true,at_ l i hi]
  rw[show funds_Book_Get.f B l[i]=some (B,geA B l[i])from rfl,Option.bind_some]
  have hs:zar B (l.take (i+1))=zaw KI VA (zar B (l.take i)) l[i] (geA B l[i]):=by
   rw[zad l i hi]
   unfold zar
   rw[List.foldl_append]
   rfl
  rw[hs,wrS i (by omega)]
 ·unfold period_Purse_Refund.l1
  simp only[List.take_length]
  rw[ige]
  rfl
theorem zsf(B:FB): ∀(L:List (Int×FA)) (B1:FB),(∀x∈L,(1≤x.1∧x.1≤32)∧OkA x.2∧x.2=geA B x.1)→zmg (period_Purse_Refund.l6) L ((),B1)=some ((),zb0 (geA B) B1 (L.map (·.1)))
 | [],B1,_=>rfl
 |x::L,B1,h=>by
  obtain⟨h1,h2,h3⟩:=h x (by simp)
  have hs:period_Purse_Refund.l6 (some x) ((),B1)=some (.inl ((),setA B1 x.1 (geA B x.1))):=by
   unfold period_Purse_Refund.l6
   show(funds_Book_Set.f B1 x.1 x.2).bind _=_
   rw[ztx B1 h1 h2,Option.bind_some,h3]
  simp only[zmg]
  rw[hs]
  exact zsf B L _ (fun y hy=>h y (by simp[hy]))
theorem qRefund{p N m c:Nat}{B:FB}{j:Jn}{As:List FA}{J:RJ}(h:PRel p N m c (B,j) (As,J))(hm:m≤16384)(l:List Int)(a g:Int)(hl:l.length≤64):
  ∃P' W' r,period_Purse_Refund.f (B,j) l a g=some (P',r)∧purserref15_Purse_Refund.f (As,J) l a g=some (W',r)∧PRel p (N+64) (m+1) (c+1) P' W'∧Stp 6 a g l (fun n=>zb1 (-a) 0 (geA B n)) (B,j) P':=by
 have hB:BOk B N:=h.b.ok
 have hA:As.length=33:=h.b.len
 have hpb:=pRefund hB l a
 have hsv:=zxa l (by omega) B
 by_cases he:zc2 (geA B) l a=0
 ·rw[if_pos he]at hpb
  obtain⟨r,j',J',p1,p2,p3,p4,p5⟩:=zgk h.j hm 6 a l g hl
  obtain⟨hP,hxx1,hxx2,hxx3,hok⟩:=zur hB he
  have hrng:=hP.rng
  have hlen:=hP.len
  have hSR:=h.b.sets (F:=(fun n=>zb1 (-a) 0 (geA B n))) hrng hok
  have hd:=p2 (zam (fun n=>zb1 (-a) 0 (geA B n)) As l) As (by rw[zaq];exact hA) hA
  by_cases hr:r=0
  ·refine⟨(zb0 (fun n=>zb1 (-a) 0 (geA B n)) B l,j'),(zam (fun n=>zb1 (-a) 0 (geA B n)) As l,J'),0,?_,?_,⟨hSR.more (by have:=hlen;omega),p3⟩,zlx hB hrng hP.nod hok (p5 hr)⟩
   ·unfold period_Purse_Refund.f
    simp only
    rw[hsv,Option.bind_some]
    simp only
    rw[hpb,Option.bind_some]
    simp only
    rw[he,show((0:Int) !=0)=false from rfl,cond_false,show(j.1,(j.2.1,(j.2.2.1,j.2.2.2)))=j from rfl,p1,Option.bind_some]
    simp only
    rw[hr,show((0:Int) !=0)=false from rfl,cond_false]
    rfl
   ·refine zv7 h.b J l a g (by rw[zaq];exact hA) ?_
    rw[he,if_pos rfl,hd,hr,if_pos rfl]
  ·have hnz: ∀n∈l,geA B n≠V0∧(fun n=>zb1 (-a) 0 (geA B n)) n≠V0:=by
    intro n hn
    obtain⟨k,hk,rfl⟩:=List.getElem_of_mem hn
    have h1:=zb7 hxx3 k (by omega) (by omega)
    have ha:=(zb2 a).1 hxx2
    have hok2:=hB.ok l[k]
    obtain⟨o1,o2,o3,o4,o5,o6,o7⟩:=hok2
    unfold zag at o7
    unfold zdb at h1
    rw[zl3 l k hk]at h1
    split at h1
    ·cases h1
    ·rename_i hlt
     skip
     constructor
     ·intro e
      have e1:(geA B l[k]).1=0:=congrArg (·.1) e
      have e2:(geA B l[k]).2.1=0:=congrArg (·.2.1) e
      omega
     ·intro e
      have e1:(geA B l[k]).1=0:=congrArg (·.1) e
      have e2:(geA B l[k]).2.1=0:=congrArg (·.2.1) e
      omega
   have hb2:BRel (N+64) B As:=h.b.more (by omega)
   have hback: ∀ks:List Int,(∀n,n∈ks↔n∈l)→zb0 (geA B) (zb0 (fun n=>zb1 (-a) 0 (geA B n)) B l) ks=B:=fun ks hks=>zrg hB hP hok hnz hks
   obtain⟨B2,hB2⟩: ∃B2,B2=B:=⟨B,rfl⟩
   rw[←hB2]at hb2
   refine⟨(B2,j'),(As,J'),r,?_,?_,⟨hb2,p3⟩,zrx h.b hb2 (p4 hr).1⟩
   ·unfold period_Purse_Refund.f
    simp only
    rw[hsv,Option.bind_some]
    simp only
    rw[hpb,Option.bind_some]
    simp only
    rw[he,show((0:Int) !=0)=false from rfl,cond_false,show(j.1,(j.2.1,(j.2.2.1,j.2.2.2)))=j from rfl,p1,Option.bind_some]
    simp only
    rw[show(r !=0)=true by simp[hr],cond_true,show Nat.beq (List.length (zar B l)) (zar B l).length=true from Nat.beq_refl _,cond_true]
    rw[zcy (x:=(r,(),B2,(j'.1,(j'.2.1,(j'.2.2.1,j'.2.2.2))))) (fun L hL=> ?_)]
    ·rfl
    ·have hL:L.Perm (zjo (K:=KI) (V:=VA) (zar B l)):=hL
     rw[zsf B L _ (fun x hx=>by
      obtain⟨h1,h2⟩:=zcv (hL.mem_iff.1 hx)
      exact⟨hrng _ h1,by rw[h2];exact hB.ok _,h2⟩),Option.bind_some]
     have hks: ∀q,q∈L.map (·.1)↔q∈l:=fun q=>by
      constructor
      ·intro hn
       obtain⟨x,hx,rfl⟩:=List.mem_map.1 hn
       exact(zcv (hL.mem_iff.1 hx)).1
      ·intro hn
       exact List.mem_map.2 ⟨_,hL.mem_iff.2 (zgg hn),rfl⟩
     rw[hback _ hks,hB2]
   ·refine zv7 h.b J l a g hA ?_
    rw[he,if_pos rfl,hd,if_neg hr]
 ·rw[if_neg he]at hpb
  refine⟨(B,j),(As,J),zc2 (geA B) l a,?_,?_,⟨h.b.more (by omega),h.j.more (by omega) (by omega)⟩,.inl ⟨fun _ _=>rfl,rfl⟩⟩
  ·unfold period_Purse_Refund.f
   simp only
   rw[hsv,Option.bind_some]
   simp only
   rw[hpb,Option.bind_some]
   simp only
   rw[show(zc2 (geA B) l a !=0)=true by simp[he],cond_true]
   rfl
  ·refine zv7 h.b J l a g hA ?_
   rw[if_neg he]
   exact zgi As As J _ 6 a l g he hA hA
/-! ### TopUp -/
theorem zzj(n:Int)(B:FB):za2 (period_Purse_TopUp.l1 n) (0,(),B,([]:FB))=some ((),B,zar B [n]):=by
 generalize hl: [n]=l
 have hlen:l.length=1:=by rw[←hl];rfl
 refine zap (fun i=>((i:Int),(),B,zar B (l.take i))) l.length (by simp[zar]) (fun i hi=> ?_) ?_
 ·unfold period_Purse_TopUp.l1
  simp only[hl]
  rw[ilt hi,nn,Bool.and_self,cond_true,cond_true,at_ l i hi]
  rw[show funds_Book_Get.f B l[i]=some (B,geA B l[i])from rfl,Option.bind_some]
  have hs:zar B (l.take (i+1))=zaw KI VA (zar B (l.take i)) l[i] (geA B l[i]):=by
   rw[zad l i hi]
   unfold zar
   rw[List.foldl_append]
   rfl
  rw[hs,wrS i (by omega)]
 ·unfold period_Purse_TopUp.l1
  simp only[List.take_length,hl]
  rw[ige]
  rfl
theorem zvu(B:FB): ∀(L:List (Int×FA)) (B1:FB),(∀x∈L,(1≤x.1∧x.1≤32)∧OkA x.2∧x.2=geA B x.1)→zmg (period_Purse_TopUp.l6) L ((),B1)=some ((),zb0 (geA B) B1 (L.map (·.1)))
 | [],B1,_=>rfl
 |x::L,B1,h=>by
  obtain⟨h1,h2,h3⟩:=h x (by simp)
  have hs:period_Purse_TopUp.l6 (some x) ((),B1)=some (.inl ((),setA B1 x.1 (geA B x.1))):=by
   unfold period_Purse_TopUp.l6
   show(funds_Book_Set.f B1 x.1 x.2).bind _=_
   rw[ztx B1 h1 h2,Option.bind_some,h3]
  simp only[zmg]
  rw[hs]
  exact zvu B L _ (fun y hy=>h y (by simp[hy]))
theorem qTopUp{p N m c:Nat}{B:FB}{j:Jn}{As:List FA}{J:RJ}(h:PRel p N m c (B,j) (As,J))(hm:m≤16384)(n a:Int):
  ∃P' W' r,period_Purse_TopUp.f (B,j) n a=some (P',r)∧purserref15_Purse_Top.f (As,J) n a=some (W',r)∧PRel p (N+64) (m+1) (c+1) P' W'∧Stp 1 a 0 [n] (fun n=>zrq a (geA B n)) (B,j) P':=by
 have hB:BOk B N:=h.b.ok
 have hA:As.length=33:=h.b.len
 have hpb:=pTopUp hB n a
 have hsv:=zzj n B
 by_cases he:zv6 (geA B) n a=0
 ·rw[if_pos he]at hpb
  obtain⟨r,j',J',p1,p2,p3,p4,p5⟩:=zgk h.j hm 1 a [n] 0 (by simp)
  obtain⟨hn,ha,hok0⟩:=mTopUp hB he
  have hrng: ∀q∈[n],1≤q∧q≤32:=fun q hq=>by rw[List.mem_singleton.1 hq];exact hn
  have hok: ∀q∈[n],OkA ((fun n=>zrq a (geA B n)) q):=fun q hq=>by rw[List.mem_singleton.1 hq];exact hok0
  have hlen: [n].length≤3:=by simp
  have hSR:=h.b.sets (F:=(fun n=>zrq a (geA B n))) hrng hok
  have hd:=p2 (zam (fun n=>zrq a (geA B n)) As [n]) As (by rw[zaq];exact hA) hA
  by_cases hr:r=0
  ·refine⟨(zb0 (fun n=>zrq a (geA B n)) B [n],j'),(zam (fun n=>zrq a (geA B n)) As [n],J'),0,?_,?_,⟨hSR.more (by have:=hlen;omega),p3⟩,zlx hB hrng (by simp) hok (p5 hr)⟩
   ·unfold period_Purse_TopUp.f
    simp only
    rw[hsv,Option.bind_some]
    simp only
    rw[hpb,Option.bind_some]
    simp only
    rw[he,show((0:Int) !=0)=false from rfl,cond_false,show(j.1,(j.2.1,(j.2.2.1,j.2.2.2)))=j from rfl,p1,Option.bind_some]
    simp only
    rw[hr,show((0:Int) !=0)=false from rfl,cond_false]
    rfl
   ·refine dTop h.b J n a (by rw[zaq];exact hA) ?_
    rw[he,if_pos rfl,hd,hr,if_pos rfl]
  ·obtain⟨k1,k2⟩:=zde (fun n=>zrq a (geA B n)) [n] B N hB hrng hok
   obtain⟨k3,k4⟩:=zde (geA B) [n] (zb0 (fun n=>zrq a (geA B n)) B [n]) (N+1) k1 hrng (fun q _=>hB.ok q)
   obtain⟨B2,hB2⟩: ∃B2,B2=zb0 (geA B) (zb0 (fun n=>zrq a (geA B n)) B [n]) [n]:=⟨_,rfl⟩
   have hb2:BRel (N+64) B2 As:=by
    rw[hB2]
    refine⟨k3.mono (by simp),hA,fun q hq=> ?_⟩
    rw[h.b.get q hq,k4,k2]
    by_cases hq:(q:Int)∈[n]
    ·rw[if_pos hq]
    ·rw[if_neg hq,if_neg hq]
   refine⟨(B2,j'),(As,J'),r,?_,?_,⟨hb2,p3⟩,zrx h.b hb2 (p4 hr).1⟩
   ·unfold period_Purse_TopUp.f
    simp only
    rw[hsv,Option.bind_some]
    simp only
    rw[hpb,Option.bind_some]
    simp only
    rw[he,show((0:Int) !=0)=false from rfl,cond_false,show(j.1,(j.2.1,(j.2.2.1,j.2.2.2)))=j from rfl,p1,Option.bind_some]
    simp only
    rw[show(r !=0)=true by simp[hr],cond_true,show Nat.beq (List.length (zar B [n])) (zar B [n]).length=true from Nat.beq_refl _,cond_true]
    rw[zcy (x:=(r,(),B2,(j'.1,(j'.2.1,(j'.2.2.1,j'.2.2.2))))) (fun L hL=> ?_)]
    ·rfl
    ·have hL:L.Perm (zjo (K:=KI) (V:=VA) (zar B [n])):=hL
     rw[zvu B L _ (fun x hx=>by
      obtain⟨h1,h2⟩:=zcv (hL.mem_iff.1 hx)
      exact⟨hrng _ h1,by rw[h2];exact hB.ok _,h2⟩),Option.bind_some]
     have hks: ∀q,q∈L.map (·.1)↔q∈[n]:=fun q=>by
      constructor
      ·intro hn
       obtain⟨x,hx,rfl⟩:=List.mem_map.1 hn
       exact(zcv (hL.mem_iff.1 hx)).1
      ·intro hn
       exact List.mem_map.2 ⟨_,hL.mem_iff.2 (zgg hn),rfl⟩
     have hone:L.map (·.1)= [n]:=by
      have hp:=(hL.map (fun x:Int×FA=>x.1))
      rw[show(zjo (K:=KI) (V:=VA) (zar B [n])).map (fun x:Int×FA=>x.1)= [n]from rfl]at hp
      exact List.perm_singleton.1 hp
     rw[hone,hB2]
   ·refine dTop h.b J n a hA ?_
    rw[he,if_pos rfl,hd,if_neg hr]
 ·rw[if_neg he]at hpb
  refine⟨(B,j),(As,J),zv6 (geA B) n a,?_,?_,⟨h.b.more (by omega),h.j.more (by omega) (by omega)⟩,.inl ⟨fun _ _=>rfl,rfl⟩⟩
  ·unfold period_Purse_TopUp.f
   simp only
   rw[hsv,Option.bind_some]
   simp only
   rw[hpb,Option.bind_some]
   simp only
   rw[show(zv6 (geA B) n a !=0)=true by simp[he],cond_true]
   rfl
  ·refine dTop h.b J n a hA ?_
   rw[if_neg he]
   exact zgi As As J _ 1 a [n] 0 he hA hA
end Go.Proofs.YtniohchnpfpffaaGreat.Pure
