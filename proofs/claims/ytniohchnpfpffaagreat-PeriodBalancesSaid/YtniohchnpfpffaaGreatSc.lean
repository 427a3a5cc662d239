/- Plain laws: what Hold,Release,Commit,Refund,TopUp do to the accounts,the program's and the document's. No statement of its own. -/
import Derived.Test.YtniohchnpfpffaaGreatSb
set_option linter.unusedSimpArgs false
set_option linter.unusedVariables false
namespace Go.Proofs.YtniohchnpfpffaaGreat.Pure
open Go.Vk Go.Am Go.Pg Go.Sort Go.Proofs.YtniohchnpfpffaaGreat.Y
/-! ### accounts that are set -/
def zbj(F:Int→FA)(B:FB)(l:List Int):FB:=l.foldl (fun B' n=>setA B' n (F n)) B
theorem zdp(F:Int→FA): ∀(l:List Int) (B:FB) (N:Nat),BOk B N→(∀n∈l,1≤n∧n≤32)→(∀n∈l,OkA (F n))→
  BOk (zbj F B l) (N+l.length)∧∀q,geA (zbj F B l) q=if q∈l then F q else geA B q
 | [],B,N,h,_,_=>⟨h,fun q=>by simp[zbj]⟩
 |n::l,B,N,h,hr,ho=>by
  obtain⟨k1,k2⟩:=zdp F l (setA B n (F n)) (N+1) (zyc h (hr n (by simp)) (ho n (by simp))) (fun m hm=>hr m (by simp[hm])) (fun m hm=>ho m (by simp[hm]))
  refine⟨by rw[show N+(n::l).length=N+1+l.length by simp;omega];exact k1,fun q=> ?_⟩
  show geA (zbj F (setA B n (F n)) l) q=_
  rw[k2,zq4 h.nod]
  by_cases hq:q∈l
  ·rw[if_pos hq,if_pos (by simp[hq])]
  ·rw[if_neg hq]
   by_cases hqn:q=n
   ·subst hqn;rw[if_pos rfl,if_pos (by simp)]
   ·rw[if_neg hqn,if_neg (by simp[hq,hqn])]
def zai(F:Int→FA)(As:List FA)(l:List Int):List FA:=l.foldl (fun A n=>A.set n.toNat (F n)) As
theorem zam(F:Int→FA): ∀(l:List Int) (As:List FA),(zai F As l).length=As.length
 | [],As=>rfl
 |n::l,As=>by
  show(zai F (As.set n.toNat (F n)) l).length=_
  rw[zam F l,List.length_set]
theorem zdo(F:Int→FA): ∀(l:List Int) (As:List FA),As.length=33→(∀n∈l,1≤n∧n≤32)→∀q:Nat,q<33→(zai F As l).getD q V0=if(q:Int)∈l then F (q:Int)else As.getD q V0
 | [],As,h,_,q,hq=>by simp[zai]
 |n::l,As,h,hr,q,hq=>by
  show(zai F (As.set n.toNat (F n)) l).getD q V0=_
  obtain⟨hn1,hn2⟩:=hr n (by simp)
  rw[zdo F l (As.set n.toNat (F n)) (by rw[List.length_set];exact h) (fun m hm=>hr m (by simp[hm])) q hq]
  by_cases hm:(q:Int)∈l
  ·rw[if_pos hm,if_pos (by simp[hm])]
  ·rw[if_neg hm]
   rw[List.getD_eq_getElem?_getD,List.getElem?_set]
   by_cases hqn:(q:Int)=n
   ·subst hqn
    rw[Int.toNat_natCast,if_pos rfl,if_pos (by omega),if_pos (by simp)]
    rfl
   ·rw[if_neg (by omega),if_neg (by simp[hm,hqn]),←List.getD_eq_getElem?_getD]
def zaz(du dh:Int)(a:FA):FA:=(a.1,a.2.1,a.2.2.1,a.2.2.2.1+du,a.2.2.2.2+dh)
structure BRel(N:Nat)(B:FB)(As:List FA):Prop where
 ok:BOk B N
 len:As.length=33
 get: ∀n:Nat,n<33→As.getD n V0=geA B n
theorem BRel.at{N:Nat}{B:FB}{As:List FA}(h:BRel N B As){n:Int}(hn:1≤n∧n≤32):As.getD n.toNat V0=geA B n:=by
 rw[h.get n.toNat (by omega),show((n.toNat:Nat):Int)=n by omega]
theorem BRel.arr{N:Nat}{B:FB}{As:List FA}(h:BRel N B As):zac V0 33 As=As:=za7 h.len
theorem BRel.sets{N:Nat}{B:FB}{As:List FA}(h:BRel N B As){F:Int→FA}{l:List Int}(hr: ∀n∈l,1≤n∧n≤32)(ho: ∀n∈l,OkA (F n)):BRel (N+l.length) (zbj F B l) (zai F As l):=by
 obtain⟨k1,k2⟩:=zdp F l B N h.ok hr ho
 refine⟨k1,by rw[zam];exact h.len,fun n hn=> ?_⟩
 rw[zdo F l As h.len hr n hn,k2,h.get n hn]
theorem zdh{l:List Int}(h:l.Nodup)(i:Nat)(hi:i<l.length):l[i]∉l.take i:=by
 rw[←List.take_append_drop i l,List.drop_eq_getElem_cons hi,List.nodup_append]at h
 exact fun hin=>h.2.2 _ hin _ (List.mem_cons.2 (.inl rfl)) rfl
theorem zpn{B:FB}{N:Nat}(hB:BOk B N){l:List Int}(hl:PathP l)(du dh:Int)(ho: ∀n∈l,OkA (zaz du dh (geA B n))):
  funds_Book_move.f B l (0,(0,(0,(du,dh))))=some (zbj (fun n=>zaz du dh (geA B n)) B l,()):=by
 unfold funds_Book_move.f
 have hloop:za3 (funds_Book_move.l1 l (0,(0,(0,(du,dh))))) (0,(),B)=some ((),zbj (fun n=>zaz du dh (geA B n)) B l):=by
  refine zaq (fun i=>((i:Int),(),zbj (fun n=>zaz du dh (geA B n)) B (l.take i))) l.length (by simp[zbj]) (fun i hi=> ?_) ?_
  ·have hm:l[i]∈l:=List.getElem_mem hi
   have hlen:=hl.len
   obtain⟨k1,k2⟩:=zdp (fun n=>zaz du dh (geA B n)) (l.take i) B N hB (fun n hn=>hl.rng n (List.mem_of_mem_take hn)) (fun n hn=>ho n (List.mem_of_mem_take hn))
   have hg:=k2 l[i]
   rw[if_neg (zdh hl.nod i hi)]at hg
   obtain⟨o1,o2,o3,o4,o5,o6,o7⟩:=ho _ hm
   simp only[zaz]at o4 o5
   unfold funds_Book_move.l1
   simp only[zaf]
   rw[ilt hi,nn,Bool.and_self,cond_true,cond_true,at_ l i hi]
   rw[show(((zay (.int .i64) (.pair (.int .i64) (.pair (.int .i64) (.pair (.int .i64) (.pair (.int .i64) (.int .i64))))) (zbj (fun n=>zaz du dh (geA B n)) B (l.take i)) l[i]).getD ((0,(0,(0,(0,0)))):Int×Int×Int×Int×Int)))=geA (zbj (fun n=>zaz du dh (geA B n)) B (l.take i)) l[i]from rfl,hg]
   rw[wr _ (by omega) (by omega),wr _ (by omega) (by omega),zr5,Option.bind_some,wrS i (by omega)]
   have hs:zbj (fun n=>zaz du dh (geA B n)) B (l.take (i+1))=setA (zbj (fun n=>zaz du dh (geA B n)) B (l.take i)) l[i] (zaz du dh (geA B l[i])):=by
    rw[zag l i hi]
    unfold zbj
    rw[List.foldl_append]
    rfl
   rw[hs]
   rfl
  ·unfold funds_Book_move.l1
   simp only[List.take_length]
   rw[ige]
   rfl
 rw[hloop]
 rfl
theorem left5{a:FA}(h:OkA a):funds_Account_left.f (a.1,(a.2.1,(a.2.2.1,(a.2.2.2.1,a.2.2.2.2))))=some (zak a):=zpu h
theorem rleft5{a:FA}(h:OkA a):purserref14_Account_Left.f (a.1,(a.2.1,(a.2.2.1,(a.2.2.2.1,a.2.2.2.2))))=some (zak a):=zpu h
/-! ### Hold -/
def ziq(g:Int→FA)(l lim:List Int)(a:Int)(i:Nat):Option Int:=
 if zak (g (l.getD i 0))<a then some 9 else if lim.getD i 0≥0∧(g (l.getD i 0)).2.2.2.1+(g (l.getD i 0)).2.2.2.2+a >lim.getD i 0 then some 18 else none
def zez(g:Int→FA)(l lim:List Int)(a:Int):Int:=if zjt l lim=true∧zbw a=true then(zax (ziq g l lim a) 0 l.length).getD 0 else 1
theorem zb0(a:Int):zbw a=true↔1≤a∧a≤9007199254740992:=by simp[zbw]
theorem ztu{l lim:List Int}(h:zjt l lim=true):PathP l∧lim.length=l.length∧∀i,i<l.length→ -1≤lim.getD i 0∧lim.getD i 0≤9007199254740992:=by
 unfold zjt at h
 simp only[Bool.and_eq_true,decide_eq_true_eq,Option.isNone_iff_eq_none]at h
 refine⟨zcv h.1,h.2.1,fun i hi=> ?_⟩
 have:=zb5 h.2.2 i (by omega) (by omega)
 unfold zzl at this
 split at this
 ·cases this
 ·omega
theorem zpz{g:Int→FA}{l lim:List Int}{a:Int}{d i:Nat}{b:Int}(h:zax (ziq g l lim a) i d=some b):b≠0:=by
 obtain⟨k,_,_,h3⟩:=zcf h
 unfold ziq at h3
 split at h3
 ·rw[←Option.some.inj h3];decide
 ·split at h3
  ·rw[←Option.some.inj h3];decide
  ·cases h3
theorem zpx{B:FB}{N:Nat}(hB:BOk B N){l lim:List Int}{a:Int}(h:zez (geA B) l lim a=0):PathP l∧zjt l lim=true∧zbw a=true∧zax (ziq (geA B) l lim a) 0 l.length=none∧∀n∈l,OkA (zaz 0 a (geA B n)):=by
 unfold zez at h
 split at h
 ·rename_i hc
  obtain⟨hP,hll,_⟩:=ztu hc.1
  have ha:=(zb0 a).1 hc.2
  have hn:zax (ziq (geA B) l lim a) 0 l.length=none:=by
   cases hf:zax (ziq (geA B) l lim a) 0 l.length with
   |none=>rfl
   |some b=>rw[hf]at h;exact absurd h (zpz hf)
  refine⟨hP,hc.1,hc.2,hn,fun n hn2=> ?_⟩
  obtain⟨k,hk,rfl⟩:=List.getElem_of_mem hn2
  have h1:=zb5 hn k (by omega) (by omega)
  unfold ziq at h1
  rw[zkp l k hk]at h1
  split at h1
  ·cases h1
  ·rename_i hlt
   obtain⟨o1,o2,o3,o4,o5,o6,o7⟩:=hB.ok l[k]
   unfold zak at hlt o7
   refine⟨o1,o2,o3,?_,?_,o6,?_⟩
   ·simp only[zaz];omega
   ·simp only[zaz];omega
   ·simp only[zaz,zak];omega
 ·cases h
theorem zzx{B:FB}{N:Nat}(hB:BOk B N)(l lim:List Int)(a:Int):
  funds_Book_Hold.f B l lim a=some (if zez (geA B) l lim a=0 then zbj (fun n=>zaz 0 a (geA B n)) B l else B,zez (geA B) l lim a):=by
 unfold funds_Book_Hold.f
 rw[zwu,Option.bind_some]
 simp only[zaf]
 by_cases hc:zjt l lim=true∧zbw a=true
 ·obtain⟨hP,hll,hlr⟩:=ztu hc.1
  have ha:=(zb0 a).1 hc.2
  have hlen:=hP.len
  rw[hc.1,Bool.not_true,Bool.not_false,cond_true,zct,Option.bind_some,hc.2,Option.bind_some]
  simp only[zaf]
  rw[Bool.not_true,cond_false]
  have h1:za3 (funds_Book_Hold.l4 l lim a (false,(),B)) 0=some (zaf (zax (ziq (geA B) l lim a) 0 l.length)):=by
   refine zbp l.length _ (fun i hi=> ?_) ?_
   ·have hok:=hB.ok l[i]
    obtain⟨o1,o2,o3,o4,o5,o6,o7⟩:=hok
    unfold funds_Book_Hold.l4
    simp only[zaf]
    rw[ilt hi,nn,Bool.and_self,cond_true,cond_true,at_ l i hi]
    rw[show(((zay (.int .i64) (.pair (.int .i64) (.pair (.int .i64) (.pair (.int .i64) (.pair (.int .i64) (.int .i64))))) B l[i]).getD ((0,(0,(0,(0,0)))):Int×Int×Int×Int×Int)))=geA B l[i]from rfl]
    rw[left5 (hB.ok l[i]),Option.bind_some]
    unfold ziq
    rw[zkp l i hi]
    by_cases h9:zak (geA B l[i])<a
    ·rw[decide_eq_true h9,if_pos h9];rfl
    ·rw[decide_eq_false h9,if_neg h9,cond_false,ilt (show i<lim.length by omega),Bool.and_self,cond_true,Int.toNat_natCast]
     have hli:=hlr i hi
     generalize lim.getD i 0=q at hli⊢
     by_cases hm:q= -1
     ·rw[show(q != -1)=false by simp[hm],cond_false,Option.bind_some,cond_false,if_neg (by omega),wrS i (by omega)]
     ·rw[show(q != -1)=true by simp[hm],cond_true,cond_true,Option.bind_some]
      rw[wr ((geA B l[i]).2.2.2.1+(geA B l[i]).2.2.2.2) (by omega) (by omega),wr _ (by omega) (by omega)]
      by_cases h18:(geA B l[i]).2.2.2.1+(geA B l[i]).2.2.2.2+a >q
      ·rw[decide_eq_true h18,if_pos ⟨by omega,h18⟩];rfl
      ·rw[decide_eq_false h18,if_neg (fun h=>h18 h.2),cond_false,wrS i (by omega)]
   ·unfold funds_Book_Hold.l4
    rw[ige];rfl
  rw[h1,Option.bind_some]
  cases hf:zax (ziq (geA B) l lim a) 0 l.length with
  |some b=>
   have he:zez (geA B) l lim a=b:=by unfold zez;rw[if_pos hc,hf];rfl
   rw[he,if_neg (zpz hf)]
   rfl
  |none=>
   have he:zez (geA B) l lim a=0:=by unfold zez;rw[if_pos hc,hf];rfl
   rw[he,if_pos rfl]
   simp only[zaf]
   rw[zpn hB hP 0 a (zpx hB he).2.2.2.2]
   rfl
 ·have he:zez (geA B) l lim a=1:=by unfold zez;rw[if_neg hc]
  rw[he,if_neg (by decide)]
  cases h1:zjt l lim with
  |false=>rfl
  |true=>
   have h2:zbw a=false:=by
    cases h2:zbw a with
    |false=>rfl
    |true=>exact absurd ⟨h1,h2⟩ hc
   rw[Bool.not_true,Bool.not_false,cond_true,zct,Option.bind_some,h2]
   rfl
theorem znn{n:Int}(h:1≤n∧n≤32):(decide (0≤n) && decide (n< (33:Int)))=true:=by simp;omega
theorem zpy {N:Nat} {B:FB} {As:List FA} (hR:BRel N B As) (J:RJ) (l lim:List Int) (a:Int) {A2:List FA} {J2:RJ} {r:Int} (hA2:A2.length=33)
  (hp:purserref15_Purse_post.f (if zez (geA B) l lim a=0 then zai (fun n=>zaz 0 a (geA B n)) As l else As,J) As (zez (geA B) l lim a) 2 a l 0=some ((A2,J2),r)):
  purserref15_Purse_Hold.f (As,J) l lim a=some ((A2,J2),r):=by
 have hA:zac V0 33 As=As:=hR.arr
 have hA2':zac V0 33 A2=A2:=za7 hA2
 unfold purserref15_Purse_Hold.f
 simp only[zaf]
 rw[ztd,Option.bind_some,hA]
 by_cases hc:zjt l lim=true∧zbw a=true
 ·obtain⟨hP,hll,hlr⟩:=ztu hc.1
  have ha:=(zb0 a).1 hc.2
  have hlen:=hP.len
  rw[hc.1,Bool.not_true,Bool.not_false,cond_true,zey,hc.2,Option.bind_some,Bool.not_true,cond_false]
  have h1:za3 (purserref15_Purse_Hold.l4 (As,J) l lim a) 0=some (zaf (zax (ziq (geA B) l lim a) 0 l.length)):=by
   refine zbp l.length _ (fun i hi=> ?_) ?_
   ·have hok:=hR.ok.ok l[i]
    have hr:=hP.rng _ (List.getElem_mem hi)
    obtain⟨o1,o2,o3,o4,o5,o6,o7⟩:=hok
    unfold purserref15_Purse_Hold.l4
    simp only[zaf]
    rw[ilt hi,nn,Bool.and_self,cond_true,cond_true,at_ l i hi,znn hr,cond_true,hA,hR.at hr]
    rw[rleft5 (hR.ok.ok l[i]),Option.bind_some]
    unfold ziq
    rw[zkp l i hi]
    by_cases h9:zak (geA B l[i])<a
    ·rw[decide_eq_true h9,if_pos h9];rfl
    ·rw[decide_eq_false h9,if_neg h9,cond_false,ilt (show i<lim.length by omega),Bool.and_self,cond_true,Int.toNat_natCast]
     have hli:=hlr i hi
     generalize lim.getD i 0=q at hli⊢
     by_cases hm:q= -1
     ·rw[show decide (q≥0)=false by simp;omega,cond_false,Option.bind_some,cond_false,Option.bind_some,if_neg (by omega)]
      simp only[zaf]
      rw[wrS i (by omega)]
     ·rw[show decide (q≥0)=true by simp;omega,cond_true,cond_true,Option.bind_some]
      rw[wr ((geA B l[i]).2.2.2.1+(geA B l[i]).2.2.2.2) (by omega) (by omega),wr _ (by omega) (by omega)]
      by_cases h18:(geA B l[i]).2.2.2.1+(geA B l[i]).2.2.2.2+a >q
      ·rw[decide_eq_true h18,if_pos ⟨by omega,h18⟩];rfl
      ·rw[decide_eq_false h18,if_neg (fun h=>h18 h.2),cond_false,Option.bind_some]
       simp only[zaf]
       rw[wrS i (by omega)]
   ·unfold purserref15_Purse_Hold.l4
    rw[ige];rfl
  rw[h1,Option.bind_some]
  cases hf:zax (ziq (geA B) l lim a) 0 l.length with
  |some b=>
   have he:zez (geA B) l lim a=b:=by unfold zez;rw[if_pos hc,hf];rfl
   rw[he,if_neg (zpz hf)]at hp
   simp only[zaf]
   rw[show((As,(J.1,(J.2.1,J.2.2))):List FA×RJ)=(As,J)from rfl,hp,Option.bind_some,Option.bind_some]
   simp only[zaf]
   rw[hA2',hA2']
  |none=>
   have he:zez (geA B) l lim a=0:=by unfold zez;rw[if_pos hc,hf];rfl
   rw[he,if_pos rfl]at hp
   simp only[zaf]
   have hok:=(zpx hR.ok he).2.2.2.2
   have hset:(zai (fun n=>zaz 0 a (geA B n)) As l).length=33:=by rw[zam];exact hR.len
   have hloop:za3 (purserref15_Purse_Hold.l14 l a) (0,(),As,J.1,J.2.1,J.2.2)=some ((),zai (fun n=>zaz 0 a (geA B n)) As l,J.1,J.2.1,J.2.2):=by
    refine zaq (fun i=>((i:Int),(),zai (fun n=>zaz 0 a (geA B n)) As (l.take i),J.1,J.2.1,J.2.2)) l.length (by simp[zai]) (fun i hi=> ?_) ?_
    ·have hr:=hP.rng _ (List.getElem_mem hi)
     have hsl:(zai (fun n=>zaz 0 a (geA B n)) As (l.take i)).length=33:=by rw[zam];exact hR.len
     have hg:=zdo (fun n=>zaz 0 a (geA B n)) (l.take i) As hR.len (fun n hn=>hP.rng n (List.mem_of_mem_take hn)) l[i].toNat (by omega)
     rw[show((l[i].toNat:Nat):Int)=l[i]by omega,if_neg (zdh hP.nod i hi),hR.at hr]at hg
     obtain⟨o1,o2,o3,o4,o5,o6,o7⟩:=hok _ (List.getElem_mem hi)
     simp only[zaz]at o5
     unfold purserref15_Purse_Hold.l14
     simp only[zaf]
     rw[ilt hi,nn,Bool.and_self,cond_true,cond_true,cond_true,at_ l i hi,znn hr,cond_true,cond_true,za7 hsl,hg]
     rw[za7 (show(List.set _ _ _).length=33 by rw[List.length_set];exact hsl),wrS i (by omega),wr _ (by omega) (by omega)]
     have hs:zai (fun n=>zaz 0 a (geA B n)) As (l.take (i+1))=(zai (fun n=>zaz 0 a (geA B n)) As (l.take i)).set l[i].toNat (zaz 0 a (geA B l[i])):=by
      rw[zag l i hi]
      unfold zai
      rw[List.foldl_append]
      rfl
     rw[hs]
     simp only[zaz,Int.add_zero]
    ·unfold purserref15_Purse_Hold.l14
     simp only[List.take_length]
     rw[ige,za7 hset]
     rfl
   rw[hloop,Option.bind_some]
   simp only[zaf]
   rw[za7 hset,show((zai (fun n=>zaz 0 a (geA B n)) As l,(J.1,(J.2.1,J.2.2))):List FA×RJ)=(zai (fun n=>zaz 0 a (geA B n)) As l,J)from rfl,hp,Option.bind_some,Option.bind_some]
   simp only[zaf]
   rw[hA2',hA2']
 ·have he:zez (geA B) l lim a=1:=by unfold zez;rw[if_neg hc]
  rw[he,if_neg (by decide)]at hp
  have hx:(((bif !(!zjt l lim)then(bif !(decide (a<1))then(some (decide (a >9007199254740992)))else(some true))else(some true)):Option Bool))=some true:=by
   cases h1:zjt l lim with
   |false=>rfl
   |true=>
    have h2:zbw a=false:=by
     cases h2:zbw a with
     |false=>rfl
     |true=>exact absurd ⟨h1,h2⟩ hc
    rw[Bool.not_true,Bool.not_false,cond_true,zey,h2]
    rfl
  rw[hx,Option.bind_some,cond_true,show((As,(J.1,(J.2.1,J.2.2))):List FA×RJ)=(As,J)from rfl,hp,Option.bind_some,Option.bind_some]
  simp only[zaf]
  rw[hA2',hA2']
/-! ### Release -/
def zch(g:Int→FA)(l:List Int)(a:Int)(i:Nat):Option Int:=if(g (l.getD i 0)).2.2.2.2<a then some 20 else none
def zb9(g:Int→FA)(l:List Int)(a:Int):Int:=if zbu l=true∧zbw a=true then(zax (zch g l a) 0 l.length).getD 0 else 1
theorem zhp{g:Int→FA}{l:List Int}{a:Int}{d i:Nat}{b:Int}(h:zax (zch g l a) i d=some b):b≠0:=by
 obtain⟨k,_,_,h3⟩:=zcf h
 unfold zch at h3
 split at h3
 ·rw[←Option.some.inj h3];decide
 ·cases h3
theorem zpr{B:FB}{N:Nat}(hB:BOk B N){l:List Int}{a:Int}(h:zb9 (geA B) l a=0):PathP l∧zbu l=true∧zbw a=true∧zax (zch (geA B) l a) 0 l.length=none∧∀n∈l,OkA (zaz 0 (-a) (geA B n)):=by
 unfold zb9 at h
 split at h
 ·rename_i hc
  have hP:=zcv hc.1
  have ha:=(zb0 a).1 hc.2
  have hn:zax (zch (geA B) l a) 0 l.length=none:=by
   cases hf:zax (zch (geA B) l a) 0 l.length with
   |none=>rfl
   |some b=>rw[hf]at h;exact absurd h (zhp hf)
  refine⟨hP,hc.1,hc.2,hn,fun n hn2=> ?_⟩
  obtain⟨k,hk,rfl⟩:=List.getElem_of_mem hn2
  have h1:=zb5 hn k (by omega) (by omega)
  unfold zch at h1
  rw[zkp l k hk]at h1
  split at h1
  ·cases h1
  ·rename_i hlt
   obtain⟨o1,o2,o3,o4,o5,o6,o7⟩:=hB.ok l[k]
   unfold zak at o7
   refine⟨o1,o2,o3,?_,?_,o6,?_⟩
   ·simp only[zaz];omega
   ·simp only[zaz];omega
   ·simp only[zaz,zak];omega
 ·cases h
theorem zC5{B:FB}{N:Nat}(hB:BOk B N)(l:List Int)(a:Int):
  funds_Book_Release.f B l a=some (if zb9 (geA B) l a=0 then zbj (fun n=>zaz 0 (-a) (geA B n)) B l else B,zb9 (geA B) l a):=by
 unfold funds_Book_Release.f
 rw[zle,Option.bind_some]
 simp only[zaf]
 by_cases hc:zbu l=true∧zbw a=true
 ·have hP:=zcv hc.1
  have ha:=(zb0 a).1 hc.2
  have hlen:=hP.len
  rw[hc.1,Bool.not_true,Bool.not_false,cond_true,zct,Option.bind_some,hc.2,Option.bind_some]
  simp only[zaf]
  rw[Bool.not_true,cond_false]
  have h1:za3 (funds_Book_Release.l4 l a (false,(),B)) 0=some (zaf (zax (zch (geA B) l a) 0 l.length)):=by
   refine zbp l.length _ (fun i hi=> ?_) ?_
   ·unfold funds_Book_Release.l4
    simp only[zaf]
    rw[ilt hi,nn,Bool.and_self,cond_true,cond_true,at_ l i hi]
    rw[show(((zay (.int .i64) (.pair (.int .i64) (.pair (.int .i64) (.pair (.int .i64) (.pair (.int .i64) (.int .i64))))) B l[i]).getD ((0,(0,(0,(0,0)))):Int×Int×Int×Int×Int)))=geA B l[i]from rfl]
    unfold zch
    rw[zkp l i hi]
    by_cases h9:(geA B l[i]).2.2.2.2<a
    ·rw[decide_eq_true h9,if_pos h9];rfl
    ·rw[decide_eq_false h9,if_neg h9,cond_false,wrS i (by omega)]
   ·unfold funds_Book_Release.l4
    rw[ige];rfl
  rw[h1,Option.bind_some]
  cases hf:zax (zch (geA B) l a) 0 l.length with
  |some b=>
   have he:zb9 (geA B) l a=b:=by unfold zb9;rw[if_pos hc,hf];rfl
   rw[he,if_neg (zhp hf)]
   rfl
  |none=>
   have he:zb9 (geA B) l a=0:=by unfold zb9;rw[if_pos hc,hf];rfl
   rw[he,if_pos rfl]
   simp only[zaf]
   rw[wr (0 - a) (by omega) (by omega),show 0 - a= -a by omega]
   rw[zpn hB hP 0 (-a) (zpr hB he).2.2.2.2]
   rfl
 ·have he:zb9 (geA B) l a=1:=by unfold zb9;rw[if_neg hc]
  rw[he,if_neg (by decide)]
  cases h1:zbu l with
  |false=>rfl
  |true=>
   have h2:zbw a=false:=by
    cases h2:zbw a with
    |false=>rfl
    |true=>exact absurd ⟨h1,h2⟩ hc
   rw[Bool.not_true,Bool.not_false,cond_true,zct,Option.bind_some,h2]
   rfl
theorem zqj {N:Nat} {B:FB} {As:List FA} (hR:BRel N B As) (J:RJ) (l:List Int) (a:Int) {A2:List FA} {J2:RJ} {r:Int} (hA2:A2.length=33)
  (hp:purserref15_Purse_post.f (if zb9 (geA B) l a=0 then zai (fun n=>zaz 0 (-a) (geA B n)) As l else As,J) As (zb9 (geA B) l a) 3 a l 0=some ((A2,J2),r)):
  purserref15_Purse_Release.f (As,J) l a=some ((A2,J2),r):=by
 have hA:zac V0 33 As=As:=hR.arr
 have hA2':zac V0 33 A2=A2:=za7 hA2
 unfold purserref15_Purse_Release.f
 simp only[zaf]
 rw[zky,Option.bind_some,hA]
 by_cases hc:zbu l=true∧zbw a=true
 ·have hP:=zcv hc.1
  have ha:=(zb0 a).1 hc.2
  have hlen:=hP.len
  rw[hc.1,Bool.not_true,Bool.not_false,cond_true,zey,hc.2,Option.bind_some,Bool.not_true,cond_false]
  have h1:za3 (purserref15_Purse_Release.l4 (As,J) l a) 0=some (zaf (zax (zch (geA B) l a) 0 l.length)):=by
   refine zbp l.length _ (fun i hi=> ?_) ?_
   ·have hr:=hP.rng _ (List.getElem_mem hi)
    unfold purserref15_Purse_Release.l4
    simp only[zaf]
    rw[ilt hi,nn,Bool.and_self,cond_true,cond_true,at_ l i hi,znn hr,cond_true,hA,hR.at hr]
    unfold zch
    rw[zkp l i hi]
    by_cases h9:(geA B l[i]).2.2.2.2<a
    ·rw[decide_eq_true h9,if_pos h9];rfl
    ·rw[decide_eq_false h9,if_neg h9,Bool.not_false,cond_true,wrS i (by omega)]
   ·unfold purserref15_Purse_Release.l4
    rw[ige];rfl
  rw[h1,Option.bind_some]
  cases hf:zax (zch (geA B) l a) 0 l.length with
  |some b=>
   have he:zb9 (geA B) l a=b:=by unfold zb9;rw[if_pos hc,hf];rfl
   rw[he,if_neg (zhp hf)]at hp
   simp only[zaf]
   rw[show((As,(J.1,(J.2.1,J.2.2))):List FA×RJ)=(As,J)from rfl,hp,Option.bind_some,Option.bind_some]
   simp only[zaf]
   rw[hA2',hA2']
  |none=>
   have he:zb9 (geA B) l a=0:=by unfold zb9;rw[if_pos hc,hf];rfl
   rw[he,if_pos rfl]at hp
   simp only[zaf]
   have hok:=(zpr hR.ok he).2.2.2.2
   have hset:(zai (fun n=>zaz 0 (-a) (geA B n)) As l).length=33:=by rw[zam];exact hR.len
   have hloop:za3 (purserref15_Purse_Release.l9 l a) (0,(),As,J.1,J.2.1,J.2.2)=some ((),zai (fun n=>zaz 0 (-a) (geA B n)) As l,J.1,J.2.1,J.2.2):=by
    refine zaq (fun i=>((i:Int),(),zai (fun n=>zaz 0 (-a) (geA B n)) As (l.take i),J.1,J.2.1,J.2.2)) l.length (by simp[zai]) (fun i hi=> ?_) ?_
    ·have hr:=hP.rng _ (List.getElem_mem hi)
     have hsl:(zai (fun n=>zaz 0 (-a) (geA B n)) As (l.take i)).length=33:=by rw[zam];exact hR.len
     have hg:=zdo (fun n=>zaz 0 (-a) (geA B n)) (l.take i) As hR.len (fun n hn=>hP.rng n (List.mem_of_mem_take hn)) l[i].toNat (by omega)
     rw[show((l[i].toNat:Nat):Int)=l[i]by omega,if_neg (zdh hP.nod i hi),hR.at hr]at hg
     obtain⟨o1,o2,o3,o4,o5,o6,o7⟩:=hok _ (List.getElem_mem hi)
     simp only[zaz]at o4 o5
     unfold purserref15_Purse_Release.l9
     simp only[zaf]
     rw[ilt hi,nn,Bool.and_self,cond_true,cond_true,cond_true,at_ l i hi,znn hr,cond_true,cond_true,za7 hsl,hg]
     rw[za7 (show(List.set _ _ _).length=33 by rw[List.length_set];exact hsl),wrS i (by omega),wr _ (by omega) (by omega)]
     have hs:zai (fun n=>zaz 0 (-a) (geA B n)) As (l.take (i+1))=(zai (fun n=>zaz 0 (-a) (geA B n)) As (l.take i)).set l[i].toNat (zaz 0 (-a) (geA B l[i])):=by
      rw[zag l i hi]
      unfold zai
      rw[List.foldl_append]
      rfl
     rw[hs]
     simp only[zaz,Int.add_zero,Int.sub_eq_add_neg]
    ·unfold purserref15_Purse_Release.l9
     simp only[List.take_length]
     rw[ige,za7 hset]
     rfl
   rw[hloop,Option.bind_some]
   simp only[zaf]
   rw[za7 hset,show((zai (fun n=>zaz 0 (-a) (geA B n)) As l,(J.1,(J.2.1,J.2.2))):List FA×RJ)=(zai (fun n=>zaz 0 (-a) (geA B n)) As l,J)from rfl,hp,Option.bind_some,Option.bind_some]
   simp only[zaf]
   rw[hA2',hA2']
 ·have he:zb9 (geA B) l a=1:=by unfold zb9;rw[if_neg hc]
  rw[he,if_neg (by decide)]at hp
  have hx:(((bif !(!zbu l)then(bif !(decide (a<1))then(some (decide (a >9007199254740992)))else(some true))else(some true)):Option Bool))=some true:=by
   cases h1:zbu l with
   |false=>rfl
   |true=>
    have h2:zbw a=false:=by
     cases h2:zbw a with
     |false=>rfl
     |true=>exact absurd ⟨h1,h2⟩ hc
    rw[Bool.not_true,Bool.not_false,cond_true,zey,h2]
    rfl
  rw[hx,Option.bind_some,cond_true,show((As,(J.1,(J.2.1,J.2.2))):List FA×RJ)=(As,J)from rfl,hp,Option.bind_some,Option.bind_some]
  simp only[zaf]
  rw[hA2',hA2']
/-! ### Commit -/
def zd4(g:Int→FA)(l:List Int)(a:Int)(i:Nat):Option Int:=if(g (l.getD i 0)).2.2.2.2<a then some 20 else none
def zc1(g:Int→FA)(l:List Int)(a:Int):Int:=if zbu l=true∧zbw a=true then(zax (zd4 g l a) 0 l.length).getD 0 else 1
theorem zjf{g:Int→FA}{l:List Int}{a:Int}{d i:Nat}{b:Int}(h:zax (zd4 g l a) i d=some b):b≠0:=by
 obtain⟨k,_,_,h3⟩:=zcf h
 unfold zd4 at h3
 split at h3
 ·rw[←Option.some.inj h3];decide
 ·cases h3
theorem ztr{B:FB}{N:Nat}(hB:BOk B N){l:List Int}{a:Int}(h:zc1 (geA B) l a=0):PathP l∧zbu l=true∧zbw a=true∧zax (zd4 (geA B) l a) 0 l.length=none∧∀n∈l,OkA (zaz a (-a) (geA B n)):=by
 unfold zc1 at h
 split at h
 ·rename_i hc
  have hP:=zcv hc.1
  have ha:=(zb0 a).1 hc.2
  have hn:zax (zd4 (geA B) l a) 0 l.length=none:=by
   cases hf:zax (zd4 (geA B) l a) 0 l.length with
   |none=>rfl
   |some b=>rw[hf]at h;exact absurd h (zjf hf)
  refine⟨hP,hc.1,hc.2,hn,fun n hn2=> ?_⟩
  obtain⟨k,hk,rfl⟩:=List.getElem_of_mem hn2
  have h1:=zb5 hn k (by omega) (by omega)
  unfold zd4 at h1
  rw[zkp l k hk]at h1
  split at h1
  ·cases h1
  ·rename_i hlt
   obtain⟨o1,o2,o3,o4,o5,o6,o7⟩:=hB.ok l[k]
   unfold zak at o7
   refine⟨o1,o2,o3,?_,?_,o6,?_⟩
   ·simp only[zaz];omega
   ·simp only[zaz];omega
   ·simp only[zaz,zak];omega
 ·cases h
theorem pCommit{B:FB}{N:Nat}(hB:BOk B N)(l:List Int)(a:Int):
  funds_Book_Commit.f B l a=some (if zc1 (geA B) l a=0 then zbj (fun n=>zaz a (-a) (geA B n)) B l else B,zc1 (geA B) l a):=by
 unfold funds_Book_Commit.f
 rw[zle,Option.bind_some]
 simp only[zaf]
 by_cases hc:zbu l=true∧zbw a=true
 ·have hP:=zcv hc.1
  have ha:=(zb0 a).1 hc.2
  have hlen:=hP.len
  rw[hc.1,Bool.not_true,Bool.not_false,cond_true,zct,Option.bind_some,hc.2,Option.bind_some]
  simp only[zaf]
  rw[Bool.not_true,cond_false]
  have h1:za3 (funds_Book_Commit.l4 l a (false,(),B)) 0=some (zaf (zax (zd4 (geA B) l a) 0 l.length)):=by
   refine zbp l.length _ (fun i hi=> ?_) ?_
   ·unfold funds_Book_Commit.l4
    simp only[zaf]
    rw[ilt hi,nn,Bool.and_self,cond_true,cond_true,at_ l i hi]
    rw[show(((zay (.int .i64) (.pair (.int .i64) (.pair (.int .i64) (.pair (.int .i64) (.pair (.int .i64) (.int .i64))))) B l[i]).getD ((0,(0,(0,(0,0)))):Int×Int×Int×Int×Int)))=geA B l[i]from rfl]
    unfold zd4
    rw[zkp l i hi]
    by_cases h9:(geA B l[i]).2.2.2.2<a
    ·rw[decide_eq_true h9,if_pos h9];rfl
    ·rw[decide_eq_false h9,if_neg h9,cond_false,wrS i (by omega)]
   ·unfold funds_Book_Commit.l4
    rw[ige];rfl
  rw[h1,Option.bind_some]
  cases hf:zax (zd4 (geA B) l a) 0 l.length with
  |some b=>
   have he:zc1 (geA B) l a=b:=by unfold zc1;rw[if_pos hc,hf];rfl
   rw[he,if_neg (zjf hf)]
   rfl
  |none=>
   have he:zc1 (geA B) l a=0:=by unfold zc1;rw[if_pos hc,hf];rfl
   rw[he,if_pos rfl]
   simp only[zaf]
   rw[wr (0 - a) (by omega) (by omega),show 0 - a= -a by omega]
   rw[zpn hB hP a (-a) (ztr hB he).2.2.2.2]
   rfl
 ·have he:zc1 (geA B) l a=1:=by unfold zc1;rw[if_neg hc]
  rw[he,if_neg (by decide)]
  cases h1:zbu l with
  |false=>rfl
  |true=>
   have h2:zbw a=false:=by
    cases h2:zbw a with
    |false=>rfl
    |true=>exact absurd ⟨h1,h2⟩ hc
   rw[Bool.not_true,Bool.not_false,cond_true,zct,Option.bind_some,h2]
   rfl
theorem zu4 {N:Nat} {B:FB} {As:List FA} (hR:BRel N B As) (J:RJ) (l:List Int) (a g:Int) {A2:List FA} {J2:RJ} {r:Int} (hA2:A2.length=33)
  (hp:purserref15_Purse_post.f (if zc1 (geA B) l a=0 then zai (fun n=>zaz a (-a) (geA B n)) As l else As,J) As (zc1 (geA B) l a) 4 a l g=some ((A2,J2),r)):
  purserref15_Purse_Commit.f (As,J) l a g=some ((A2,J2),r):=by
 have hA:zac V0 33 As=As:=hR.arr
 have hA2':zac V0 33 A2=A2:=za7 hA2
 unfold purserref15_Purse_Commit.f
 simp only[zaf]
 rw[zky,Option.bind_some,hA]
 by_cases hc:zbu l=true∧zbw a=true
 ·have hP:=zcv hc.1
  have ha:=(zb0 a).1 hc.2
  have hlen:=hP.len
  rw[hc.1,Bool.not_true,Bool.not_false,cond_true,zey,hc.2,Option.bind_some,Bool.not_true,cond_false]
  have h1:za3 (purserref15_Purse_Commit.l4 (As,J) l a) 0=some (zaf (zax (zd4 (geA B) l a) 0 l.length)):=by
   refine zbp l.length _ (fun i hi=> ?_) ?_
   ·have hr:=hP.rng _ (List.getElem_mem hi)
    unfold purserref15_Purse_Commit.l4
    simp only[zaf]
    rw[ilt hi,nn,Bool.and_self,cond_true,cond_true,at_ l i hi,znn hr,cond_true,hA,hR.at hr]
    unfold zd4
    rw[zkp l i hi]
    by_cases h9:(geA B l[i]).2.2.2.2<a
    ·rw[decide_eq_true h9,if_pos h9];rfl
    ·rw[decide_eq_false h9,if_neg h9,Bool.not_false,cond_true,wrS i (by omega)]
   ·unfold purserref15_Purse_Commit.l4
    rw[ige];rfl
  rw[h1,Option.bind_some]
  cases hf:zax (zd4 (geA B) l a) 0 l.length with
  |some b=>
   have he:zc1 (geA B) l a=b:=by unfold zc1;rw[if_pos hc,hf];rfl
   rw[he,if_neg (zjf hf)]at hp
   simp only[zaf]
   rw[show((As,(J.1,(J.2.1,J.2.2))):List FA×RJ)=(As,J)from rfl,hp,Option.bind_some,Option.bind_some]
   simp only[zaf]
   rw[hA2',hA2']
  |none=>
   have he:zc1 (geA B) l a=0:=by unfold zc1;rw[if_pos hc,hf];rfl
   rw[he,if_pos rfl]at hp
   simp only[zaf]
   have hok:=(ztr hR.ok he).2.2.2.2
   have hset:(zai (fun n=>zaz a (-a) (geA B n)) As l).length=33:=by rw[zam];exact hR.len
   have hloop:za3 (purserref15_Purse_Commit.l9 l a) (0,(),As,J.1,J.2.1,J.2.2)=some ((),zai (fun n=>zaz a (-a) (geA B n)) As l,J.1,J.2.1,J.2.2):=by
    refine zaq (fun i=>((i:Int),(),zai (fun n=>zaz a (-a) (geA B n)) As (l.take i),J.1,J.2.1,J.2.2)) l.length (by simp[zai]) (fun i hi=> ?_) ?_
    ·have hr:=hP.rng _ (List.getElem_mem hi)
     have hsl:(zai (fun n=>zaz a (-a) (geA B n)) As (l.take i)).length=33:=by rw[zam];exact hR.len
     have hg:=zdo (fun n=>zaz a (-a) (geA B n)) (l.take i) As hR.len (fun n hn=>hP.rng n (List.mem_of_mem_take hn)) l[i].toNat (by omega)
     rw[show((l[i].toNat:Nat):Int)=l[i]by omega,if_neg (zdh hP.nod i hi),hR.at hr]at hg
     obtain⟨o1,o2,o3,o4,o5,o6,o7⟩:=hok _ (List.getElem_mem hi)
     simp only[zaz]at o4 o5
     unfold purserref15_Purse_Commit.l9
     simp only[zaf]
     rw[ilt hi,nn,Bool.and_self,cond_true,cond_true,cond_true,at_ l i hi,znn hr,cond_true,cond_true,za7 hsl,hg]
     rw[za7 (show(List.set _ _ _).length=33 by rw[List.length_set];exact hsl),wrS i (by omega),wr _ (by omega) (by omega),wr _ (by omega) (by omega)]
     have hs:zai (fun n=>zaz a (-a) (geA B n)) As (l.take (i+1))=(zai (fun n=>zaz a (-a) (geA B n)) As (l.take i)).set l[i].toNat (zaz a (-a) (geA B l[i])):=by
      rw[zag l i hi]
      unfold zai
      rw[List.foldl_append]
      rfl
     rw[hs]
     simp only[zaz,Int.add_zero,Int.sub_eq_add_neg]
    ·unfold purserref15_Purse_Commit.l9
     simp only[List.take_length]
     rw[ige,za7 hset]
     rfl
   rw[hloop,Option.bind_some]
   simp only[zaf]
   rw[za7 hset,show((zai (fun n=>zaz a (-a) (geA B n)) As l,(J.1,(J.2.1,J.2.2))):List FA×RJ)=(zai (fun n=>zaz a (-a) (geA B n)) As l,J)from rfl,hp,Option.bind_some,Option.bind_some]
   simp only[zaf]
   rw[hA2',hA2']
 ·have he:zc1 (geA B) l a=1:=by unfold zc1;rw[if_neg hc]
  rw[he,if_neg (by decide)]at hp
  have hx:(((bif !(!zbu l)then(bif !(decide (a<1))then(some (decide (a >9007199254740992)))else(some true))else(some true)):Option Bool))=some true:=by
   cases h1:zbu l with
   |false=>rfl
   |true=>
    have h2:zbw a=false:=by
     cases h2:zbw a with
     |false=>rfl
     |true=>exact absurd ⟨h1,h2⟩ hc
    rw[Bool.not_true,Bool.not_false,cond_true,zey,h2]
    rfl
  rw[hx,Option.bind_some,cond_true,show((As,(J.1,(J.2.1,J.2.2))):List FA×RJ)=(As,J)from rfl,hp,Option.bind_some,Option.bind_some]
  simp only[zaf]
  rw[hA2',hA2']
/-! ### Refund -/
def zd3(g:Int→FA)(l:List Int)(a:Int)(i:Nat):Option Int:=if(g (l.getD i 0)).2.2.2.1<a then some 20 else none
def zc0(g:Int→FA)(l:List Int)(a:Int):Int:=if zbu l=true∧zbw a=true then(zax (zd3 g l a) 0 l.length).getD 0 else 1
theorem zje{g:Int→FA}{l:List Int}{a:Int}{d i:Nat}{b:Int}(h:zax (zd3 g l a) i d=some b):b≠0:=by
 obtain⟨k,_,_,h3⟩:=zcf h
 unfold zd3 at h3
 split at h3
 ·rw[←Option.some.inj h3];decide
 ·cases h3
theorem ztq{B:FB}{N:Nat}(hB:BOk B N){l:List Int}{a:Int}(h:zc0 (geA B) l a=0):PathP l∧zbu l=true∧zbw a=true∧zax (zd3 (geA B) l a) 0 l.length=none∧∀n∈l,OkA (zaz (-a) 0 (geA B n)):=by
 unfold zc0 at h
 split at h
 ·rename_i hc
  have hP:=zcv hc.1
  have ha:=(zb0 a).1 hc.2
  have hn:zax (zd3 (geA B) l a) 0 l.length=none:=by
   cases hf:zax (zd3 (geA B) l a) 0 l.length with
   |none=>rfl
   |some b=>rw[hf]at h;exact absurd h (zje hf)
  refine⟨hP,hc.1,hc.2,hn,fun n hn2=> ?_⟩
  obtain⟨k,hk,rfl⟩:=List.getElem_of_mem hn2
  have h1:=zb5 hn k (by omega) (by omega)
  unfold zd3 at h1
  rw[zkp l k hk]at h1
  split at h1
  ·cases h1
  ·rename_i hlt
   obtain⟨o1,o2,o3,o4,o5,o6,o7⟩:=hB.ok l[k]
   unfold zak at o7
   refine⟨o1,o2,o3,?_,?_,o6,?_⟩
   ·simp only[zaz];omega
   ·simp only[zaz];omega
   ·simp only[zaz,zak];omega
 ·cases h
theorem pRefund{B:FB}{N:Nat}(hB:BOk B N)(l:List Int)(a:Int):
  funds_Book_Refund.f B l a=some (if zc0 (geA B) l a=0 then zbj (fun n=>zaz (-a) 0 (geA B n)) B l else B,zc0 (geA B) l a):=by
 unfold funds_Book_Refund.f
 rw[zle,Option.bind_some]
 simp only[zaf]
 by_cases hc:zbu l=true∧zbw a=true
 ·have hP:=zcv hc.1
  have ha:=(zb0 a).1 hc.2
  have hlen:=hP.len
  rw[hc.1,Bool.not_true,Bool.not_false,cond_true,zct,Option.bind_some,hc.2,Option.bind_some]
  simp only[zaf]
  rw[Bool.not_true,cond_false]
  have h1:za3 (funds_Book_Refund.l4 l a (false,(),B)) 0=some (zaf (zax (zd3 (geA B) l a) 0 l.length)):=by
   refine zbp l.length _ (fun i hi=> ?_) ?_
   ·unfold funds_Book_Refund.l4
    simp only[zaf]
    rw[ilt hi,nn,Bool.and_self,cond_true,cond_true,at_ l i hi]
    rw[show(((zay (.int .i64) (.pair (.int .i64) (.pair (.int .i64) (.pair (.int .i64) (.pair (.int .i64) (.int .i64))))) B l[i]).getD ((0,(0,(0,(0,0)))):Int×Int×Int×Int×Int)))=geA B l[i]from rfl]
    unfold zd3
    rw[zkp l i hi]
    by_cases h9:(geA B l[i]).2.2.2.1<a
    ·rw[decide_eq_true h9,if_pos h9];rfl
    ·rw[decide_eq_false h9,if_neg h9,cond_false,wrS i (by omega)]
   ·unfold funds_Book_Refund.l4
    rw[ige];rfl
  rw[h1,Option.bind_some]
  cases hf:zax (zd3 (geA B) l a) 0 l.length with
  |some b=>
   have he:zc0 (geA B) l a=b:=by unfold zc0;rw[if_pos hc,hf];rfl
   rw[he,if_neg (zje hf)]
   rfl
  |none=>
   have he:zc0 (geA B) l a=0:=by unfold zc0;rw[if_pos hc,hf];rfl
   rw[he,if_pos rfl]
   simp only[zaf]
   rw[wr (0 - a) (by omega) (by omega),show 0 - a= -a by omega]
   rw[zpn hB hP (-a) 0 (ztq hB he).2.2.2.2]
   rfl
 ·have he:zc0 (geA B) l a=1:=by unfold zc0;rw[if_neg hc]
  rw[he,if_neg (by decide)]
  cases h1:zbu l with
  |false=>rfl
  |true=>
   have h2:zbw a=false:=by
    cases h2:zbw a with
    |false=>rfl
    |true=>exact absurd ⟨h1,h2⟩ hc
   rw[Bool.not_true,Bool.not_false,cond_true,zct,Option.bind_some,h2]
   rfl
theorem zu3 {N:Nat} {B:FB} {As:List FA} (hR:BRel N B As) (J:RJ) (l:List Int) (a g:Int) {A2:List FA} {J2:RJ} {r:Int} (hA2:A2.length=33)
  (hp:purserref15_Purse_post.f (if zc0 (geA B) l a=0 then zai (fun n=>zaz (-a) 0 (geA B n)) As l else As,J) As (zc0 (geA B) l a) 6 a l g=some ((A2,J2),r)):
  purserref15_Purse_Refund.f (As,J) l a g=some ((A2,J2),r):=by
 have hA:zac V0 33 As=As:=hR.arr
 have hA2':zac V0 33 A2=A2:=za7 hA2
 unfold purserref15_Purse_Refund.f
 simp only[zaf]
 rw[zky,Option.bind_some,hA]
 by_cases hc:zbu l=true∧zbw a=true
 ·have hP:=zcv hc.1
  have ha:=(zb0 a).1 hc.2
  have hlen:=hP.len
  rw[hc.1,Bool.not_true,Bool.not_false,cond_true,zey,hc.2,Option.bind_some,Bool.not_true,cond_false]
  have h1:za3 (purserref15_Purse_Refund.l4 (As,J) l a) 0=some (zaf (zax (zd3 (geA B) l a) 0 l.length)):=by
   refine zbp l.length _ (fun i hi=> ?_) ?_
   ·have hr:=hP.rng _ (List.getElem_mem hi)
    unfold purserref15_Purse_Refund.l4
    simp only[zaf]
    rw[ilt hi,nn,Bool.and_self,cond_true,cond_true,at_ l i hi,znn hr,cond_true,hA,hR.at hr]
    unfold zd3
    rw[zkp l i hi]
    by_cases h9:(geA B l[i]).2.2.2.1<a
    ·rw[decide_eq_true h9,if_pos h9];rfl
    ·rw[decide_eq_false h9,if_neg h9,cond_false,wrS i (by omega)]
   ·unfold purserref15_Purse_Refund.l4
    rw[ige];rfl
  rw[h1,Option.bind_some]
  cases hf:zax (zd3 (geA B) l a) 0 l.length with
  |some b=>
   have he:zc0 (geA B) l a=b:=by unfold zc0;rw[if_pos hc,hf];rfl
   rw[he,if_neg (zje hf)]at hp
   simp only[zaf]
   rw[show((As,(J.1,(J.2.1,J.2.2))):List FA×RJ)=(As,J)from rfl,hp,Option.bind_some,Option.bind_some]
   simp only[zaf]
   rw[hA2',hA2']
  |none=>
   have he:zc0 (geA B) l a=0:=by unfold zc0;rw[if_pos hc,hf];rfl
   rw[he,if_pos rfl]at hp
   simp only[zaf]
   have hok:=(ztq hR.ok he).2.2.2.2
   have hset:(zai (fun n=>zaz (-a) 0 (geA B n)) As l).length=33:=by rw[zam];exact hR.len
   have hloop:za3 (purserref15_Purse_Refund.l9 l a) (0,(),As,J.1,J.2.1,J.2.2)=some ((),zai (fun n=>zaz (-a) 0 (geA B n)) As l,J.1,J.2.1,J.2.2):=by
    refine zaq (fun i=>((i:Int),(),zai (fun n=>zaz (-a) 0 (geA B n)) As (l.take i),J.1,J.2.1,J.2.2)) l.length (by simp[zai]) (fun i hi=> ?_) ?_
    ·have hr:=hP.rng _ (List.getElem_mem hi)
     have hsl:(zai (fun n=>zaz (-a) 0 (geA B n)) As (l.take i)).length=33:=by rw[zam];exact hR.len
     have hg:=zdo (fun n=>zaz (-a) 0 (geA B n)) (l.take i) As hR.len (fun n hn=>hP.rng n (List.mem_of_mem_take hn)) l[i].toNat (by omega)
     rw[show((l[i].toNat:Nat):Int)=l[i]by omega,if_neg (zdh hP.nod i hi),hR.at hr]at hg
     obtain⟨o1,o2,o3,o4,o5,o6,o7⟩:=hok _ (List.getElem_mem hi)
     simp only[zaz]at o4 o5
     unfold purserref15_Purse_Refund.l9
     simp only[zaf]
     rw[ilt hi,nn,Bool.and_self,cond_true,cond_true,cond_true,at_ l i hi,znn hr,cond_true,cond_true,za7 hsl,hg]
     rw[za7 (show(List.set _ _ _).length=33 by rw[List.length_set];exact hsl),wrS i (by omega),wr _ (by omega) (by omega)]
     have hs:zai (fun n=>zaz (-a) 0 (geA B n)) As (l.take (i+1))=(zai (fun n=>zaz (-a) 0 (geA B n)) As (l.take i)).set l[i].toNat (zaz (-a) 0 (geA B l[i])):=by
      rw[zag l i hi]
      unfold zai
      rw[List.foldl_append]
      rfl
     rw[hs]
     simp only[zaz,Int.add_zero,Int.sub_eq_add_neg]
    ·unfold purserref15_Purse_Refund.l9
     simp only[List.take_length]
     rw[ige,za7 hset]
     rfl
   rw[hloop,Option.bind_some]
   simp only[zaf]
   rw[za7 hset,show((zai (fun n=>zaz (-a) 0 (geA B n)) As l,(J.1,(J.2.1,J.2.2))):List FA×RJ)=(zai (fun n=>zaz (-a) 0 (geA B n)) As l,J)from rfl,hp,Option.bind_some,Option.bind_some]
   simp only[zaf]
   rw[hA2',hA2']
 ·have he:zc0 (geA B) l a=1:=by unfold zc0;rw[if_neg hc]
  rw[he,if_neg (by decide)]at hp
  have hx:(((bif !(!zbu l)then(bif !(decide (a<1))then(some (decide (a >9007199254740992)))else(some true))else(some true)):Option Bool))=some true:=by
   cases h1:zbu l with
   |false=>rfl
   |true=>
    have h2:zbw a=false:=by
     cases h2:zbw a with
     |false=>rfl
     |true=>exact absurd ⟨h1,h2⟩ hc
    rw[Bool.not_true,Bool.not_false,cond_true,zey,h2]
    rfl
  rw[hx,Option.bind_some,cond_true,show((As,(J.1,(J.2.1,J.2.2))):List FA×RJ)=(As,J)from rfl,hp,Option.bind_some,Option.bind_some]
  simp only[zaf]
  rw[hA2',hA2']
/-! ### TopUp -/
def zu2(g:Int→FA)(n a:Int):Int:=if zdz n=true∧zbw a=true then(if(g n).1+(g n).2.1+a >9007199254740992 then 6 else 0)else 1
def zqu(a:Int)(x:FA):FA:=(x.1+a,x.2.1,x.2.2.1,x.2.2.2.1,x.2.2.2.2)
theorem mTopUp{B:FB}{N:Nat}(hB:BOk B N){n a:Int}(h:zu2 (geA B) n a=0):(1≤n∧n≤32)∧(1≤a∧a≤9007199254740992)∧OkA (zqu a (geA B n)):=by
 unfold zu2 at h
 split at h
 ·rename_i hc
  have hn:=(ze6 n).1 hc.1
  have ha:=(zb0 a).1 hc.2
  split at h
  ·cases h
  ·obtain⟨o1,o2,o3,o4,o5,o6,o7⟩:=hB.ok n
   unfold zak at o7
   exact⟨hn,ha,⟨by simp only[zqu];omega,o2,o3,o4,o5,by simp only[zqu];omega,by simp only[zqu,zak];omega⟩⟩
 ·cases h
theorem pTopUp{B:FB}{N:Nat}(hB:BOk B N)(n a:Int):funds_Book_TopUp.f B n a=some (if zu2 (geA B) n a=0 then zbj (fun n=>zqu a (geA B n)) B [n]else B,zu2 (geA B) n a):=by
 unfold funds_Book_TopUp.f
 rw[ztk,Option.bind_some]
 by_cases hc:zdz n=true∧zbw a=true
 ·have hn:=(ze6 n).1 hc.1
  have ha:=(zb0 a).1 hc.2
  obtain⟨o1,o2,o3,o4,o5,o6,o7⟩:=hB.ok n
  rw[hc.1,Bool.not_true,Bool.not_false,cond_true,zct,Option.bind_some,hc.2,Option.bind_some,Bool.not_true,cond_false]
  rw[show(((zay (.int .i64) (.pair (.int .i64) (.pair (.int .i64) (.pair (.int .i64) (.pair (.int .i64) (.int .i64))))) B n).getD ((0,(0,(0,(0,0)))):Int×Int×Int×Int×Int)))=geA B n from rfl]
  rw[wr ((geA B n).1+(geA B n).2.1) (by omega) (by omega),wr (9007199254740992 - a) (by omega) (by omega)]
  unfold zu2
  rw[if_pos hc]
  by_cases hg:(geA B n).1+(geA B n).2.1+a >9007199254740992
  ·rw[decide_eq_true (show(geA B n).1+(geA B n).2.1 >9007199254740992 - a by omega),cond_true,if_pos hg,if_neg (by decide)]
  ·rw[decide_eq_false (show¬(geA B n).1+(geA B n).2.1 >9007199254740992 - a by omega),cond_false,if_neg hg,if_pos rfl,wr ((geA B n).1+a) (by omega) (by omega),zr5]
   rfl
 ·have he:zu2 (geA B) n a=1:=by unfold zu2;rw[if_neg hc]
  rw[he,if_neg (by decide)]
  cases h1:zdz n with
  |false=>rfl
  |true=>
   have h2:zbw a=false:=by
    cases h2:zbw a with
    |false=>rfl
    |true=>exact absurd ⟨h1,h2⟩ hc
   rw[Bool.not_true,Bool.not_false,cond_true,zct,Option.bind_some,h2]
   rfl
theorem dTop {N:Nat} {B:FB} {As:List FA} (hR:BRel N B As) (J:RJ) (n a:Int) {A2:List FA} {J2:RJ} {r:Int} (hA2:A2.length=33)
  (hp:purserref15_Purse_post.f (if zu2 (geA B) n a=0 then zai (fun n=>zqu a (geA B n)) As [n]else As,J) As (zu2 (geA B) n a) 1 a [n] 0=some ((A2,J2),r)):
  purserref15_Purse_Top.f (As,J) n a=some ((A2,J2),r):=by
 have hA:zac V0 33 As=As:=hR.arr
 have hA2':zac V0 33 A2=A2:=za7 hA2
 unfold purserref15_Purse_Top.f
 simp only[zaf]
 rw[zpc,Option.bind_some,hA]
 by_cases hc:zdz n=true∧zbw a=true
 ·have hn:=(ze6 n).1 hc.1
  have ha:=(zb0 a).1 hc.2
  obtain⟨o1,o2,o3,o4,o5,o6,o7⟩:=hR.ok.ok n
  rw[hc.1,Bool.not_true,Bool.not_false,cond_true,zey,hc.2,Option.bind_some,Bool.not_true,cond_false,znn hn,cond_true,cond_true,hR.at hn]
  rw[wr ((geA B n).1+(geA B n).2.1) (by omega) (by omega),wr ((geA B n).1+(geA B n).2.1+a) (by omega) (by omega)]
  unfold zu2 at hp
  rw[if_pos hc]at hp
  by_cases hg:(geA B n).1+(geA B n).2.1+a >9007199254740992
  ·rw[if_pos hg,if_neg (by decide)]at hp
   rw[decide_eq_true hg,cond_true,show((As,(J.1,(J.2.1,J.2.2))):List FA×RJ)=(As,J)from rfl,hp,Option.bind_some,Option.bind_some]
   simp only[zaf]
   rw[hA2',hA2']
  ·rw[if_neg hg,if_pos rfl]at hp
   rw[decide_eq_false hg,cond_false,cond_true,cond_true,wr ((geA B n).1+a) (by omega) (by omega),za7 (show(List.set _ _ _).length=33 by rw[List.length_set];exact hR.len)]
   rw[show((As.set n.toNat ((geA B n).1+a,((geA B n).2.1,((geA B n).2.2.1,((geA B n).2.2.2.1,(geA B n).2.2.2.2)))),(J.1,(J.2.1,J.2.2))):List FA×RJ)=(zai (fun n=>zqu a (geA B n)) As [n],J)from rfl,hp,Option.bind_some,Option.bind_some]
   simp only[zaf]
   rw[hA2',hA2']
 ·have he:zu2 (geA B) n a=1:=by unfold zu2;rw[if_neg hc]
  rw[he,if_neg (by decide)]at hp
  have hx:(((bif !(!zdz n)then(bif !(decide (a<1))then(some (decide (a >9007199254740992)))else(some true))else(some true)):Option Bool))=some true:=by
   cases h1:zdz n with
   |false=>rfl
   |true=>
    have h2:zbw a=false:=by
     cases h2:zbw a with
     |false=>rfl
     |true=>exact absurd ⟨h1,h2⟩ hc
    rw[Bool.not_true,Bool.not_false,cond_true,zey,h2]
    rfl
  rw[hx,Option.bind_some,cond_true,show((As,(J.1,(J.2.1,J.2.2))):List FA×RJ)=(As,J)from rfl,hp,Option.bind_some,Option.bind_some]
  simp only[zaf]
  rw[hA2',hA2']
end Go.Proofs.YtniohchnpfpffaaGreat.Pure
