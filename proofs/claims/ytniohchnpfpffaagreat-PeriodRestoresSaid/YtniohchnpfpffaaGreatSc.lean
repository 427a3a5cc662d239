/- Plain laws: what Hold,Release,Commit,Refund,TopUp do to the accounts,the program's and the document's. No statement of its own. -/
import Derived.Test.YtniohchnpfpffaaGreatSb
set_option linter.unusedSimpArgs false
set_option linter.unusedVariables false
namespace Go.Proofs.YtniohchnpfpffaaGreat.Pure
open Go.Vk Go.Am Go.Pg Go.Sort Go.Proofs.YtniohchnpfpffaaGreat.Y
/-! ### accounts that are set -/
def zb0(F:Int→FA)(B:FB)(l:List Int):FB:=l.foldl (fun B' n=>setA B' n (F n)) B
theorem zde(F:Int→FA): ∀(l:List Int) (B:FB) (N:Nat),BOk B N→(∀n∈l,1≤n∧n≤32)→(∀n∈l,OkA (F n))→
  BOk (zb0 F B l) (N+l.length)∧∀q,geA (zb0 F B l) q=if q∈l then F q else geA B q
 | [],B,N,h,_,_=>⟨h,fun q=>by simp[zb0]⟩
 |n::l,B,N,h,hr,ho=>by
  obtain⟨k1,k2⟩:=zde F l (setA B n (F n)) (N+1) (zzi h (hr n (by simp)) (ho n (by simp))) (fun m hm=>hr m (by simp[hm])) (fun m hm=>ho m (by simp[hm]))
  refine⟨by rw[show N+(n::l).length=N+1+l.length by simp;omega];exact k1,fun q=> ?_⟩
  show geA (zb0 F (setA B n (F n)) l) q=_
  rw[k2,zlj h.nod]
  by_cases hq:q∈l
  ·rw[if_pos hq,if_pos (by simp[hq])]
  ·rw[if_neg hq]
   by_cases hqn:q=n
   ·subst hqn;rw[if_pos rfl,if_pos (by simp)]
   ·rw[if_neg hqn,if_neg (by simp[hq,hqn])]
def zam(F:Int→FA)(As:List FA)(l:List Int):List FA:=l.foldl (fun A n=>A.set n.toNat (F n)) As
theorem zaq(F:Int→FA): ∀(l:List Int) (As:List FA),(zam F As l).length=As.length
 | [],As=>rfl
 |n::l,As=>by
  show(zam F (As.set n.toNat (F n)) l).length=_
  rw[zaq F l,List.length_set]
theorem zdx(F:Int→FA): ∀(l:List Int) (As:List FA),As.length=33→(∀n∈l,1≤n∧n≤32)→∀q:Nat,q<33→(zam F As l).getD q V0=if(q:Int)∈l then F (q:Int)else As.getD q V0
 | [],As,h,_,q,hq=>by simp[zam]
 |n::l,As,h,hr,q,hq=>by
  show(zam F (As.set n.toNat (F n)) l).getD q V0=_
  obtain⟨hn1,hn2⟩:=hr n (by simp)
  rw[zdx F l (As.set n.toNat (F n)) (by rw[List.length_set];exact h) (fun m hm=>hr m (by simp[hm])) q hq]
  by_cases hm:(q:Int)∈l
  ·rw[if_pos hm,if_pos (by simp[hm])]
  ·rw[if_neg hm]
   rw[List.getD_eq_getElem?_getD,List.getElem?_set]
   by_cases hqn:(q:Int)=n
   ·subst hqn
    rw[Int.toNat_natCast,if_pos rfl,if_pos (by omega),if_pos (by simp)]
    rfl
   ·rw[if_neg (by omega),if_neg (by simp[hm,hqn]),←List.getD_eq_getElem?_getD]
def zb1(du dh:Int)(a:FA):FA:=(a.1,a.2.1,a.2.2.1,a.2.2.2.1+du,a.2.2.2.2+dh)
structure BRel(N:Nat)(B:FB)(As:List FA):Prop where
 ok:BOk B N
 len:As.length=33
 get: ∀n:Nat,n<33→As.getD n V0=geA B n
theorem BRel.at{N:Nat}{B:FB}{As:List FA}(h:BRel N B As){n:Int}(hn:1≤n∧n≤32):As.getD n.toNat V0=geA B n:=by
 rw[h.get n.toNat (by omega),show((n.toNat:Nat):Int)=n by omega]
theorem BRel.arr{N:Nat}{B:FB}{As:List FA}(h:BRel N B As):zab V0 33 As=As:=za6 h.len
theorem BRel.sets{N:Nat}{B:FB}{As:List FA}(h:BRel N B As){F:Int→FA}{l:List Int}(hr: ∀n∈l,1≤n∧n≤32)(ho: ∀n∈l,OkA (F n)):BRel (N+l.length) (zb0 F B l) (zam F As l):=by
 obtain⟨k1,k2⟩:=zde F l B N h.ok hr ho
 refine⟨k1,by rw[zaq];exact h.len,fun n hn=> ?_⟩
 rw[zdx F l As h.len hr n hn,k2,h.get n hn]
theorem zdo{l:List Int}(h:l.Nodup)(i:Nat)(hi:i<l.length):l[i]∉l.take i:=by
 rw[←List.take_append_drop i l,List.drop_eq_getElem_cons hi,List.nodup_append]at h
 exact fun hin=>h.2.2 _ hin _ (List.mem_cons.2 (.inl rfl)) rfl
theorem zqi{B:FB}{N:Nat}(hB:BOk B N){l:List Int}(hl:PathP l)(du dh:Int)(ho: ∀n∈l,OkA (zb1 du dh (geA B n))):
  funds_Book_move.f B l (0,(0,(0,(du,dh))))=some (zb0 (fun n=>zb1 du dh (geA B n)) B l,()):=by
 unfold funds_Book_move.f
 have hloop:za2 (funds_Book_move.l1 l (0,(0,(0,(du,dh))))) (0,(),B)=some ((),zb0 (fun n=>zb1 du dh (geA B n)) B l):=by
  refine zap (fun i=>((i:Int),(),zb0 (fun n=>zb1 du dh (geA B n)) B (l.take i))) l.length (by simp[zb0]) (fun i hi=> ?_) ?_
  ·have hm:l[i]∈l:=List.getElem_mem hi
   have hlen:=hl.len
   obtain⟨k1,k2⟩:=zde (fun n=>zb1 du dh (geA B n)) (l.take i) B N hB (fun n hn=>hl.rng n (List.mem_of_mem_take hn)) (fun n hn=>ho n (List.mem_of_mem_take hn))
   have hg:=k2 l[i]
   rw[if_neg (zdo hl.nod i hi)]at hg
   obtain⟨o1,o2,o3,o4,o5,o6,o7⟩:=ho _ hm
   simp only[zb1]at o4 o5
   unfold funds_Book_move.l1
   simp only[zak]
   rw[ilt hi,nn,Bool.and_self,cond_true,cond_true,at_ l i hi]
   rw[show(((zaj (.int .i64) (.pair (.int .i64) (.pair (.int .i64) (.pair (.int .i64) (.pair (.int .i64) (.int .i64))))) (zb0 (fun n=>zb1 du dh (geA B n)) B (l.take i)) l[i]).getD ((0,(0,(0,(0,0)))):Int×Int×Int×Int×Int)))=geA (zb0 (fun n=>zb1 du dh (geA B n)) B (l.take i)) l[i]from rfl,hg]
   rw[wr _ (by omega) (by omega),wr _ (by omega) (by omega),zol,Option.bind_some,wrS i (by omega)]
   have hs:zb0 (fun n=>zb1 du dh (geA B n)) B (l.take (i+1))=setA (zb0 (fun n=>zb1 du dh (geA B n)) B (l.take i)) l[i] (zb1 du dh (geA B l[i])):=by
    rw[zad l i hi]
    unfold zb0
    rw[List.foldl_append]
    rfl
   rw[hs]
   rfl
  ·unfold funds_Book_move.l1
   simp only[List.take_length]
   rw[ige]
   rfl
 rw[hloop]
 rfl
theorem left5{a:FA}(h:OkA a):funds_Account_left.f (a.1,(a.2.1,(a.2.2.1,(a.2.2.2.1,a.2.2.2.2))))=some (zag a):=zkb h
theorem zzv{a:FA}(h:OkA a):purserref14_Account_Left.f (a.1,(a.2.1,(a.2.2.1,(a.2.2.2.1,a.2.2.2.2))))=some (zag a):=zkb h
/-! ### Hold -/
def zj2(g:Int→FA)(l lim:List Int)(a:Int)(i:Nat):Option Int:=
 if zag (g (l.getD i 0))<a then some 9 else if lim.getD i 0≥0∧(g (l.getD i 0)).2.2.2.1+(g (l.getD i 0)).2.2.2.2+a >lim.getD i 0 then some 18 else none
def zf4(g:Int→FA)(l lim:List Int)(a:Int):Int:=if zk7 l lim=true∧zc0 a=true then(zaz (zj2 g l lim a) 0 l.length).getD 0 else 1
theorem zb2(a:Int):zc0 a=true↔1≤a∧a≤9007199254740992:=by simp[zc0]
theorem zuv{l lim:List Int}(h:zk7 l lim=true):PathP l∧lim.length=l.length∧∀i,i<l.length→ -1≤lim.getD i 0∧lim.getD i 0≤9007199254740992:=by
 unfold zk7 at h
 simp only[Bool.and_eq_true,decide_eq_true_eq,Option.isNone_iff_eq_none]at h
 refine⟨zd1 h.1,h.2.1,fun i hi=> ?_⟩
 have:=zb7 h.2.2 i (by omega) (by omega)
 unfold zAs at this
 split at this
 ·cases this
 ·omega
theorem zqu{g:Int→FA}{l lim:List Int}{a:Int}{d i:Nat}{b:Int}(h:zaz (zj2 g l lim a) i d=some b):b≠0:=by
 obtain⟨k,_,_,h3⟩:=zcl h
 unfold zj2 at h3
 split at h3
 ·rw[←Option.some.inj h3];decide
 ·split at h3
  ·rw[←Option.some.inj h3];decide
  ·cases h3
theorem zqs{B:FB}{N:Nat}(hB:BOk B N){l lim:List Int}{a:Int}(h:zf4 (geA B) l lim a=0):PathP l∧zk7 l lim=true∧zc0 a=true∧zaz (zj2 (geA B) l lim a) 0 l.length=none∧∀n∈l,OkA (zb1 0 a (geA B n)):=by
 unfold zf4 at h
 split at h
 ·rename_i hc
  obtain⟨hP,hll,_⟩:=zuv hc.1
  have ha:=(zb2 a).1 hc.2
  have hn:zaz (zj2 (geA B) l lim a) 0 l.length=none:=by
   cases hf:zaz (zj2 (geA B) l lim a) 0 l.length with
   |none=>rfl
   |some b=>rw[hf]at h;exact absurd h (zqu hf)
  refine⟨hP,hc.1,hc.2,hn,fun n hn2=> ?_⟩
  obtain⟨k,hk,rfl⟩:=List.getElem_of_mem hn2
  have h1:=zb7 hn k (by omega) (by omega)
  unfold zj2 at h1
  rw[zl3 l k hk]at h1
  split at h1
  ·cases h1
  ·rename_i hlt
   obtain⟨o1,o2,o3,o4,o5,o6,o7⟩:=hB.ok l[k]
   unfold zag at hlt o7
   refine⟨o1,o2,o3,?_,?_,o6,?_⟩
   ·simp only[zb1];omega
   ·simp only[zb1];omega
   ·simp only[zb1,zag];omega
 ·cases h
theorem zB8{B:FB}{N:Nat}(hB:BOk B N)(l lim:List Int)(a:Int):
  funds_Book_Hold.f B l lim a=some (if zf4 (geA B) l lim a=0 then zb0 (fun n=>zb1 0 a (geA B n)) B l else B,zf4 (geA B) l lim a):=by
 unfold funds_Book_Hold.f
 rw[zxz,Option.bind_some]
 simp only[zak]
 by_cases hc:zk7 l lim=true∧zc0 a=true
 ·obtain⟨hP,hll,hlr⟩:=zuv hc.1
  have ha:=(zb2 a).1 hc.2
  have hlen:=hP.len
  rw[hc.1,Bool.not_true,Bool.not_false,cond_true,zcz,Option.bind_some,hc.2,Option.bind_some]
  simp only[zak]
  rw[Bool.not_true,cond_false]
  have h1:za2 (funds_Book_Hold.l4 l lim a (false,(),B)) 0=some (zak (zaz (zj2 (geA B) l lim a) 0 l.length)):=by
   refine zbs l.length _ (fun i hi=> ?_) ?_
   ·have hok:=hB.ok l[i]
    obtain⟨o1,o2,o3,o4,o5,o6,o7⟩:=hok
    unfold funds_Book_Hold.l4
    simp only[zak]
    rw[ilt hi,nn,Bool.and_self,cond_true,cond_true,at_ l i hi]
    rw[show(((zaj (.int .i64) (.pair (.int .i64) (.pair (.int .i64) (.pair (.int .i64) (.pair (.int .i64) (.int .i64))))) B l[i]).getD ((0,(0,(0,(0,0)))):Int×Int×Int×Int×Int)))=geA B l[i]from rfl]
    rw[left5 (hB.ok l[i]),Option.bind_some]
    unfold zj2
    rw[zl3 l i hi]
    by_cases h9:zag (geA B l[i])<a
    ·rw[decide_eq_true h9,if_pos h9];rfl
    ·rw[decide_eq_false h9,if_neg h9,cond_false,ilt (show i<lim.length by omega),Bool.and_self,cond_true,Int.toNat_natCast]
     have hli:=hlr i hi
     generalize lim.getD i 0=q at hli⊢
     by_cases hm:q= -1
     ·rw[show(q != -1)=false by simp[hm],cond_false,Option.bind_some,cond_false,if_neg (by omega),wrS i (by omega)]
     ·rw[show(q != -1)=true by simp[hm],cond_true,cond_true,Option.bind_some]
      rw[wr ((geA B l[i]).2.2.2.1+(geA B l[i]).2.2.2.2) (by omega) (by omega),wr _ (by omega) (by omega)]
      by_cases h18:(geA B l[i]).2.2.2.1+(geA B l[i]).2.2.2.2+a >q
      ·rw[decide_eq_true h18,if_pos ⟨by omega,h18⟩];rfl
      ·rw[decide_eq_false h18,if_neg (fun h=>h18 h.2),cond_false,wrS i (by omega)]
   ·unfold funds_Book_Hold.l4
    rw[ige];rfl
  rw[h1,Option.bind_some]
  cases hf:zaz (zj2 (geA B) l lim a) 0 l.length with
  |some b=>
   have he:zf4 (geA B) l lim a=b:=by unfold zf4;rw[if_pos hc,hf];rfl
   rw[he,if_neg (zqu hf)]
   rfl
  |none=>
   have he:zf4 (geA B) l lim a=0:=by unfold zf4;rw[if_pos hc,hf];rfl
   rw[he,if_pos rfl]
   simp only[zak]
   rw[zqi hB hP 0 a (zqs hB he).2.2.2.2]
   rfl
 ·have he:zf4 (geA B) l lim a=1:=by unfold zf4;rw[if_neg hc]
  rw[he,if_neg (by decide)]
  cases h1:zk7 l lim with
  |false=>rfl
  |true=>
   have h2:zc0 a=false:=by
    cases h2:zc0 a with
    |false=>rfl
    |true=>exact absurd ⟨h1,h2⟩ hc
   rw[Bool.not_true,Bool.not_false,cond_true,zcz,Option.bind_some,h2]
   rfl
theorem zm8{n:Int}(h:1≤n∧n≤32):(decide (0≤n) && decide (n< (33:Int)))=true:=by simp;omega
theorem zqt {N:Nat} {B:FB} {As:List FA} (hR:BRel N B As) (J:RJ) (l lim:List Int) (a:Int) {A2:List FA} {J2:RJ} {r:Int} (hA2:A2.length=33)
  (hp:purserref15_Purse_post.f (if zf4 (geA B) l lim a=0 then zam (fun n=>zb1 0 a (geA B n)) As l else As,J) As (zf4 (geA B) l lim a) 2 a l 0=some ((A2,J2),r)):
  purserref15_Purse_Hold.f (As,J) l lim a=some ((A2,J2),r):=by
 have hA:zab V0 33 As=As:=hR.arr
 have hA2':zab V0 33 A2=A2:=za6 hA2
 unfold purserref15_Purse_Hold.f
 simp only[zak]
 rw[zuf,Option.bind_some,hA]
 by_cases hc:zk7 l lim=true∧zc0 a=true
 ·obtain⟨hP,hll,hlr⟩:=zuv hc.1
  have ha:=(zb2 a).1 hc.2
  have hlen:=hP.len
  rw[hc.1,Bool.not_true,Bool.not_false,cond_true,zf3,hc.2,Option.bind_some,Bool.not_true,cond_false]
  have h1:za2 (purserref15_Purse_Hold.l4 (As,J) l lim a) 0=some (zak (zaz (zj2 (geA B) l lim a) 0 l.length)):=by
   refine zbs l.length _ (fun i hi=> ?_) ?_
   ·have hok:=hR.ok.ok l[i]
    have hr:=hP.rng _ (List.getElem_mem hi)
    obtain⟨o1,o2,o3,o4,o5,o6,o7⟩:=hok
    unfold purserref15_Purse_Hold.l4
    simp only[zak]
    rw[ilt hi,nn,Bool.and_self,cond_true,cond_true,at_ l i hi,zm8 hr,cond_true,hA,hR.at hr]
    rw[zzv (hR.ok.ok l[i]),Option.bind_some]
    unfold zj2
    rw[zl3 l i hi]
    by_cases h9:zag (geA B l[i])<a
    ·rw[decide_eq_true h9,if_pos h9];rfl
    ·rw[decide_eq_false h9,if_neg h9,cond_false,ilt (show i<lim.length by omega),Bool.and_self,cond_true,Int.toNat_natCast]
     have hli:=hlr i hi
     generalize lim.getD i 0=q at hli⊢
     by_cases hm:q= -1
     ·rw[show decide (q≥0)=false by simp;omega,cond_false,Option.bind_some,cond_false,Option.bind_some,if_neg (by omega)]
      simp only[zak]
      rw[wrS i (by omega)]
     ·rw[show decide (q≥0)=true by simp;omega,cond_true,cond_true,Option.bind_some]
      rw[wr ((geA B l[i]).2.2.2.1+(geA B l[i]).2.2.2.2) (by omega) (by omega),wr _ (by omega) (by omega)]
      by_cases h18:(geA B l[i]).2.2.2.1+(geA B l[i]).2.2.2.2+a >q
      ·rw[decide_eq_true h18,if_pos ⟨by omega,h18⟩];rfl
      ·rw[decide_eq_false h18,if_neg (fun h=>h18 h.2),cond_false,Option.bind_some]
       simp only[zak]
       rw[wrS i (by omega)]
   ·unfold purserref15_Purse_Hold.l4
    rw[ige];rfl
  rw[h1,Option.bind_some]
  cases hf:zaz (zj2 (geA B) l lim a) 0 l.length with
  |some b=>
   have he:zf4 (geA B) l lim a=b:=by unfold zf4;rw[if_pos hc,hf];rfl
   rw[he,if_neg (zqu hf)]at hp
   simp only[zak]
   rw[show((As,(J.1,(J.2.1,J.2.2))):List FA×RJ)=(As,J)from rfl,hp,Option.bind_some,Option.bind_some]
   simp only[zak]
   rw[hA2',hA2']
  |none=>
   have he:zf4 (geA B) l lim a=0:=by unfold zf4;rw[if_pos hc,hf];rfl
   rw[he,if_pos rfl]at hp
   simp only[zak]
   have hok:=(zqs hR.ok he).2.2.2.2
   have hset:(zam (fun n=>zb1 0 a (geA B n)) As l).length=33:=by rw[zaq];exact hR.len
   have hloop:za2 (purserref15_Purse_Hold.l14 l a) (0,(),As,J.1,J.2.1,J.2.2)=some ((),zam (fun n=>zb1 0 a (geA B n)) As l,J.1,J.2.1,J.2.2):=by
    refine zap (fun i=>((i:Int),(),zam (fun n=>zb1 0 a (geA B n)) As (l.take i),J.1,J.2.1,J.2.2)) l.length (by simp[zam]) (fun i hi=> ?_) ?_
    ·have hr:=hP.rng _ (List.getElem_mem hi)
     have hsl:(zam (fun n=>zb1 0 a (geA B n)) As (l.take i)).length=33:=by rw[zaq];exact hR.len
     have hg:=zdx (fun n=>zb1 0 a (geA B n)) (l.take i) As hR.len (fun n hn=>hP.rng n (List.mem_of_mem_take hn)) l[i].toNat (by omega)
     rw[show((l[i].toNat:Nat):Int)=l[i]by omega,if_neg (zdo hP.nod i hi),hR.at hr]at hg
     obtain⟨o1,o2,o3,o4,o5,o6,o7⟩:=hok _ (List.getElem_mem hi)
     simp only[zb1]at o5
     unfold purserref15_Purse_Hold.l14
     simp only[zak]
     rw[ilt hi,nn,Bool.and_self,cond_true,cond_true,cond_true,at_ l i hi,zm8 hr,cond_true,cond_true,za6 hsl,hg]
     rw[za6 (show(List.set _ _ _).length=33 by rw[List.length_set];exact hsl),wrS i (by omega),wr _ (by omega) (by omega)]
     have hs:zam (fun n=>zb1 0 a (geA B n)) As (l.take (i+1))=(zam (fun n=>zb1 0 a (geA B n)) As (l.take i)).set l[i].toNat (zb1 0 a (geA B l[i])):=by
      rw[zad l i hi]
      unfold zam
      rw[List.foldl_append]
      rfl
     rw[hs]
     simp only[zb1,Int.add_zero]
    ·unfold purserref15_Purse_Hold.l14
     simp only[List.take_length]
     rw[ige,za6 hset]
     rfl
   rw[hloop,Option.bind_some]
   simp only[zak]
   rw[za6 hset,show((zam (fun n=>zb1 0 a (geA B n)) As l,(J.1,(J.2.1,J.2.2))):List FA×RJ)=(zam (fun n=>zb1 0 a (geA B n)) As l,J)from rfl,hp,Option.bind_some,Option.bind_some]
   simp only[zak]
   rw[hA2',hA2']
 ·have he:zf4 (geA B) l lim a=1:=by unfold zf4;rw[if_neg hc]
  rw[he,if_neg (by decide)]at hp
  have hx:(((bif !(!zk7 l lim)then(bif !(decide (a<1))then(some (decide (a >9007199254740992)))else(some true))else(some true)):Option Bool))=some true:=by
   cases h1:zk7 l lim with
   |false=>rfl
   |true=>
    have h2:zc0 a=false:=by
     cases h2:zc0 a with
     |false=>rfl
     |true=>exact absurd ⟨h1,h2⟩ hc
    rw[Bool.not_true,Bool.not_false,cond_true,zf3,h2]
    rfl
  rw[hx,Option.bind_some,cond_true,show((As,(J.1,(J.2.1,J.2.2))):List FA×RJ)=(As,J)from rfl,hp,Option.bind_some,Option.bind_some]
  simp only[zak]
  rw[hA2',hA2']
/-! ### Release -/
def zcn(g:Int→FA)(l:List Int)(a:Int)(i:Nat):Option Int:=if(g (l.getD i 0)).2.2.2.2<a then some 20 else none
def zbc(g:Int→FA)(l:List Int)(a:Int):Int:=if zby l=true∧zc0 a=true then(zaz (zcn g l a) 0 l.length).getD 0 else 1
theorem zhy{g:Int→FA}{l:List Int}{a:Int}{d i:Nat}{b:Int}(h:zaz (zcn g l a) i d=some b):b≠0:=by
 obtain⟨k,_,_,h3⟩:=zcl h
 unfold zcn at h3
 split at h3
 ·rw[←Option.some.inj h3];decide
 ·cases h3
theorem zqm{B:FB}{N:Nat}(hB:BOk B N){l:List Int}{a:Int}(h:zbc (geA B) l a=0):PathP l∧zby l=true∧zc0 a=true∧zaz (zcn (geA B) l a) 0 l.length=none∧∀n∈l,OkA (zb1 0 (-a) (geA B n)):=by
 unfold zbc at h
 split at h
 ·rename_i hc
  have hP:=zd1 hc.1
  have ha:=(zb2 a).1 hc.2
  have hn:zaz (zcn (geA B) l a) 0 l.length=none:=by
   cases hf:zaz (zcn (geA B) l a) 0 l.length with
   |none=>rfl
   |some b=>rw[hf]at h;exact absurd h (zhy hf)
  refine⟨hP,hc.1,hc.2,hn,fun n hn2=> ?_⟩
  obtain⟨k,hk,rfl⟩:=List.getElem_of_mem hn2
  have h1:=zb7 hn k (by omega) (by omega)
  unfold zcn at h1
  rw[zl3 l k hk]at h1
  split at h1
  ·cases h1
  ·rename_i hlt
   obtain⟨o1,o2,o3,o4,o5,o6,o7⟩:=hB.ok l[k]
   unfold zag at o7
   refine⟨o1,o2,o3,?_,?_,o6,?_⟩
   ·simp only[zb1];omega
   ·simp only[zb1];omega
   ·simp only[zb1,zag];omega
 ·cases h
theorem zDk{B:FB}{N:Nat}(hB:BOk B N)(l:List Int)(a:Int):
  funds_Book_Release.f B l a=some (if zbc (geA B) l a=0 then zb0 (fun n=>zb1 0 (-a) (geA B n)) B l else B,zbc (geA B) l a):=by
 unfold funds_Book_Release.f
 rw[zls,Option.bind_some]
 simp only[zak]
 by_cases hc:zby l=true∧zc0 a=true
 ·have hP:=zd1 hc.1
  have ha:=(zb2 a).1 hc.2
  have hlen:=hP.len
  rw[hc.1,Bool.not_true,Bool.not_false,cond_true,zcz,Option.bind_some,hc.2,Option.bind_some]
  simp only[zak]
  rw[Bool.not_true,cond_false]
  have h1:za2 (funds_Book_Release.l4 l a (false,(),B)) 0=some (zak (zaz (zcn (geA B) l a) 0 l.length)):=by
   refine zbs l.length _ (fun i hi=> ?_) ?_
   ·unfold funds_Book_Release.l4
    simp only[zak]
    rw[ilt hi,nn,Bool.and_self,cond_true,cond_true,at_ l i hi]
    rw[show(((zaj (.int .i64) (.pair (.int .i64) (.pair (.int .i64) (.pair (.int .i64) (.pair (.int .i64) (.int .i64))))) B l[i]).getD ((0,(0,(0,(0,0)))):Int×Int×Int×Int×Int)))=geA B l[i]from rfl]
    unfold zcn
    rw[zl3 l i hi]
    by_cases h9:(geA B l[i]).2.2.2.2<a
    ·rw[decide_eq_true h9,if_pos h9];rfl
    ·rw[decide_eq_false h9,if_neg h9,cond_false,wrS i (by omega)]
   ·unfold funds_Book_Release.l4
    rw[ige];rfl
  rw[h1,Option.bind_some]
  cases hf:zaz (zcn (geA B) l a) 0 l.length with
  |some b=>
   have he:zbc (geA B) l a=b:=by unfold zbc;rw[if_pos hc,hf];rfl
   rw[he,if_neg (zhy hf)]
   rfl
  |none=>
   have he:zbc (geA B) l a=0:=by unfold zbc;rw[if_pos hc,hf];rfl
   rw[he,if_pos rfl]
   simp only[zak]
   rw[wr (0 - a) (by omega) (by omega),show 0 - a= -a by omega]
   rw[zqi hB hP 0 (-a) (zqm hB he).2.2.2.2]
   rfl
 ·have he:zbc (geA B) l a=1:=by unfold zbc;rw[if_neg hc]
  rw[he,if_neg (by decide)]
  cases h1:zby l with
  |false=>rfl
  |true=>
   have h2:zc0 a=false:=by
    cases h2:zc0 a with
    |false=>rfl
    |true=>exact absurd ⟨h1,h2⟩ hc
   rw[Bool.not_true,Bool.not_false,cond_true,zcz,Option.bind_some,h2]
   rfl
theorem zrc {N:Nat} {B:FB} {As:List FA} (hR:BRel N B As) (J:RJ) (l:List Int) (a:Int) {A2:List FA} {J2:RJ} {r:Int} (hA2:A2.length=33)
  (hp:purserref15_Purse_post.f (if zbc (geA B) l a=0 then zam (fun n=>zb1 0 (-a) (geA B n)) As l else As,J) As (zbc (geA B) l a) 3 a l 0=some ((A2,J2),r)):
  purserref15_Purse_Release.f (As,J) l a=some ((A2,J2),r):=by
 have hA:zab V0 33 As=As:=hR.arr
 have hA2':zab V0 33 A2=A2:=za6 hA2
 unfold purserref15_Purse_Release.f
 simp only[zak]
 rw[zlb,Option.bind_some,hA]
 by_cases hc:zby l=true∧zc0 a=true
 ·have hP:=zd1 hc.1
  have ha:=(zb2 a).1 hc.2
  have hlen:=hP.len
  rw[hc.1,Bool.not_true,Bool.not_false,cond_true,zf3,hc.2,Option.bind_some,Bool.not_true,cond_false]
  have h1:za2 (purserref15_Purse_Release.l4 (As,J) l a) 0=some (zak (zaz (zcn (geA B) l a) 0 l.length)):=by
   refine zbs l.length _ (fun i hi=> ?_) ?_
   ·have hr:=hP.rng _ (List.getElem_mem hi)
    unfold purserref15_Purse_Release.l4
    simp only[zak]
    rw[ilt hi,nn,Bool.and_self,cond_true,cond_true,at_ l i hi,zm8 hr,cond_true,hA,hR.at hr]
    unfold zcn
    rw[zl3 l i hi]
    by_cases h9:(geA B l[i]).2.2.2.2<a
    ·rw[decide_eq_true h9,if_pos h9];rfl
    ·rw[decide_eq_false h9,if_neg h9,Bool.not_false,cond_true,wrS i (by omega)]
   ·unfold purserref15_Purse_Release.l4
    rw[ige];rfl
  rw[h1,Option.bind_some]
  cases hf:zaz (zcn (geA B) l a) 0 l.length with
  |some b=>
   have he:zbc (geA B) l a=b:=by unfold zbc;rw[if_pos hc,hf];rfl
   rw[he,if_neg (zhy hf)]at hp
   simp only[zak]
   rw[show((As,(J.1,(J.2.1,J.2.2))):List FA×RJ)=(As,J)from rfl,hp,Option.bind_some,Option.bind_some]
   simp only[zak]
   rw[hA2',hA2']
  |none=>
   have he:zbc (geA B) l a=0:=by unfold zbc;rw[if_pos hc,hf];rfl
   rw[he,if_pos rfl]at hp
   simp only[zak]
   have hok:=(zqm hR.ok he).2.2.2.2
   have hset:(zam (fun n=>zb1 0 (-a) (geA B n)) As l).length=33:=by rw[zaq];exact hR.len
   have hloop:za2 (purserref15_Purse_Release.l9 l a) (0,(),As,J.1,J.2.1,J.2.2)=some ((),zam (fun n=>zb1 0 (-a) (geA B n)) As l,J.1,J.2.1,J.2.2):=by
    refine zap (fun i=>((i:Int),(),zam (fun n=>zb1 0 (-a) (geA B n)) As (l.take i),J.1,J.2.1,J.2.2)) l.length (by simp[zam]) (fun i hi=> ?_) ?_
    ·have hr:=hP.rng _ (List.getElem_mem hi)
     have hsl:(zam (fun n=>zb1 0 (-a) (geA B n)) As (l.take i)).length=33:=by rw[zaq];exact hR.len
     have hg:=zdx (fun n=>zb1 0 (-a) (geA B n)) (l.take i) As hR.len (fun n hn=>hP.rng n (List.mem_of_mem_take hn)) l[i].toNat (by omega)
     rw[show((l[i].toNat:Nat):Int)=l[i]by omega,if_neg (zdo hP.nod i hi),hR.at hr]at hg
     obtain⟨o1,o2,o3,o4,o5,o6,o7⟩:=hok _ (List.getElem_mem hi)
     simp only[zb1]at o4 o5
     unfold purserref15_Purse_Release.l9
     simp only[zak]
     rw[ilt hi,nn,Bool.and_self,cond_true,cond_true,cond_true,at_ l i hi,zm8 hr,cond_true,cond_true,za6 hsl,hg]
     rw[za6 (show(List.set _ _ _).length=33 by rw[List.length_set];exact hsl),wrS i (by omega),wr _ (by omega) (by omega)]
     have hs:zam (fun n=>zb1 0 (-a) (geA B n)) As (l.take (i+1))=(zam (fun n=>zb1 0 (-a) (geA B n)) As (l.take i)).set l[i].toNat (zb1 0 (-a) (geA B l[i])):=by
      rw[zad l i hi]
      unfold zam
      rw[List.foldl_append]
      rfl
     rw[hs]
     simp only[zb1,Int.add_zero,Int.sub_eq_add_neg]
    ·unfold purserref15_Purse_Release.l9
     simp only[List.take_length]
     rw[ige,za6 hset]
     rfl
   rw[hloop,Option.bind_some]
   simp only[zak]
   rw[za6 hset,show((zam (fun n=>zb1 0 (-a) (geA B n)) As l,(J.1,(J.2.1,J.2.2))):List FA×RJ)=(zam (fun n=>zb1 0 (-a) (geA B n)) As l,J)from rfl,hp,Option.bind_some,Option.bind_some]
   simp only[zak]
   rw[hA2',hA2']
 ·have he:zbc (geA B) l a=1:=by unfold zbc;rw[if_neg hc]
  rw[he,if_neg (by decide)]at hp
  have hx:(((bif !(!zby l)then(bif !(decide (a<1))then(some (decide (a >9007199254740992)))else(some true))else(some true)):Option Bool))=some true:=by
   cases h1:zby l with
   |false=>rfl
   |true=>
    have h2:zc0 a=false:=by
     cases h2:zc0 a with
     |false=>rfl
     |true=>exact absurd ⟨h1,h2⟩ hc
    rw[Bool.not_true,Bool.not_false,cond_true,zf3,h2]
    rfl
  rw[hx,Option.bind_some,cond_true,show((As,(J.1,(J.2.1,J.2.2))):List FA×RJ)=(As,J)from rfl,hp,Option.bind_some,Option.bind_some]
  simp only[zak]
  rw[hA2',hA2']
/-! ### Commit -/
def zdc(g:Int→FA)(l:List Int)(a:Int)(i:Nat):Option Int:=if(g (l.getD i 0)).2.2.2.2<a then some 20 else none
def zc3(g:Int→FA)(l:List Int)(a:Int):Int:=if zby l=true∧zc0 a=true then(zaz (zdc g l a) 0 l.length).getD 0 else 1
theorem zjt{g:Int→FA}{l:List Int}{a:Int}{d i:Nat}{b:Int}(h:zaz (zdc g l a) i d=some b):b≠0:=by
 obtain⟨k,_,_,h3⟩:=zcl h
 unfold zdc at h3
 split at h3
 ·rw[←Option.some.inj h3];decide
 ·cases h3
theorem zus{B:FB}{N:Nat}(hB:BOk B N){l:List Int}{a:Int}(h:zc3 (geA B) l a=0):PathP l∧zby l=true∧zc0 a=true∧zaz (zdc (geA B) l a) 0 l.length=none∧∀n∈l,OkA (zb1 a (-a) (geA B n)):=by
 unfold zc3 at h
 split at h
 ·rename_i hc
  have hP:=zd1 hc.1
  have ha:=(zb2 a).1 hc.2
  have hn:zaz (zdc (geA B) l a) 0 l.length=none:=by
   cases hf:zaz (zdc (geA B) l a) 0 l.length with
   |none=>rfl
   |some b=>rw[hf]at h;exact absurd h (zjt hf)
  refine⟨hP,hc.1,hc.2,hn,fun n hn2=> ?_⟩
  obtain⟨k,hk,rfl⟩:=List.getElem_of_mem hn2
  have h1:=zb7 hn k (by omega) (by omega)
  unfold zdc at h1
  rw[zl3 l k hk]at h1
  split at h1
  ·cases h1
  ·rename_i hlt
   obtain⟨o1,o2,o3,o4,o5,o6,o7⟩:=hB.ok l[k]
   unfold zag at o7
   refine⟨o1,o2,o3,?_,?_,o6,?_⟩
   ·simp only[zb1];omega
   ·simp only[zb1];omega
   ·simp only[zb1,zag];omega
 ·cases h
theorem pCommit{B:FB}{N:Nat}(hB:BOk B N)(l:List Int)(a:Int):
  funds_Book_Commit.f B l a=some (if zc3 (geA B) l a=0 then zb0 (fun n=>zb1 a (-a) (geA B n)) B l else B,zc3 (geA B) l a):=by
 unfold funds_Book_Commit.f
 rw[zls,Option.bind_some]
 simp only[zak]
 by_cases hc:zby l=true∧zc0 a=true
 ·have hP:=zd1 hc.1
  have ha:=(zb2 a).1 hc.2
  have hlen:=hP.len
  rw[hc.1,Bool.not_true,Bool.not_false,cond_true,zcz,Option.bind_some,hc.2,Option.bind_some]
  simp only[zak]
  rw[Bool.not_true,cond_false]
  have h1:za2 (funds_Book_Commit.l4 l a (false,(),B)) 0=some (zak (zaz (zdc (geA B) l a) 0 l.length)):=by
   refine zbs l.length _ (fun i hi=> ?_) ?_
   ·unfold funds_Book_Commit.l4
    simp only[zak]
    rw[ilt hi,nn,Bool.and_self,cond_true,cond_true,at_ l i hi]
    rw[show(((zaj (.int .i64) (.pair (.int .i64) (.pair (.int .i64) (.pair (.int .i64) (.pair (.int .i64) (.int .i64))))) B l[i]).getD ((0,(0,(0,(0,0)))):Int×Int×Int×Int×Int)))=geA B l[i]from rfl]
    unfold zdc
    rw[zl3 l i hi]
    by_cases h9:(geA B l[i]).2.2.2.2<a
    ·rw[decide_eq_true h9,if_pos h9];rfl
    ·rw[decide_eq_false h9,if_neg h9,cond_false,wrS i (by omega)]
   ·unfold funds_Book_Commit.l4
    rw[ige];rfl
  rw[h1,Option.bind_some]
  cases hf:zaz (zdc (geA B) l a) 0 l.length with
  |some b=>
   have he:zc3 (geA B) l a=b:=by unfold zc3;rw[if_pos hc,hf];rfl
   rw[he,if_neg (zjt hf)]
   rfl
  |none=>
   have he:zc3 (geA B) l a=0:=by unfold zc3;rw[if_pos hc,hf];rfl
   rw[he,if_pos rfl]
   simp only[zak]
   rw[wr (0 - a) (by omega) (by omega),show 0 - a= -a by omega]
   rw[zqi hB hP a (-a) (zus hB he).2.2.2.2]
   rfl
 ·have he:zc3 (geA B) l a=1:=by unfold zc3;rw[if_neg hc]
  rw[he,if_neg (by decide)]
  cases h1:zby l with
  |false=>rfl
  |true=>
   have h2:zc0 a=false:=by
    cases h2:zc0 a with
    |false=>rfl
    |true=>exact absurd ⟨h1,h2⟩ hc
   rw[Bool.not_true,Bool.not_false,cond_true,zcz,Option.bind_some,h2]
   rfl
theorem zv8 {N:Nat} {B:FB} {As:List FA} (hR:BRel N B As) (J:RJ) (l:List Int) (a g:Int) {A2:List FA} {J2:RJ} {r:Int} (hA2:A2.length=33)
  (hp:purserref15_Purse_post.f (if zc3 (geA B) l a=0 then zam (fun n=>zb1 a (-a) (geA B n)) As l else As,J) As (zc3 (geA B) l a) 4 a l g=some ((A2,J2),r)):
  purserref15_Purse_Commit.f (As,J) l a g=some ((A2,J2),r):=by
 have hA:zab V0 33 As=As:=hR.arr
 have hA2':zab V0 33 A2=A2:=za6 hA2
 unfold purserref15_Purse_Commit.f
 simp only[zak]
 rw[zlb,Option.bind_some,hA]
 by_cases hc:zby l=true∧zc0 a=true
 ·have hP:=zd1 hc.1
  have ha:=(zb2 a).1 hc.2
  have hlen:=hP.len
  rw[hc.1,Bool.not_true,Bool.not_false,cond_true,zf3,hc.2,Option.bind_some,Bool.not_true,cond_false]
  have h1:za2 (purserref15_Purse_Commit.l4 (As,J) l a) 0=some (zak (zaz (zdc (geA B) l a) 0 l.length)):=by
   refine zbs l.length _ (fun i hi=> ?_) ?_
   ·have hr:=hP.rng _ (List.getElem_mem hi)
    unfold purserref15_Purse_Commit.l4
    simp only[zak]
    rw[ilt hi,nn,Bool.and_self,cond_true,cond_true,at_ l i hi,zm8 hr,cond_true,hA,hR.at hr]
    unfold zdc
    rw[zl3 l i hi]
    by_cases h9:(geA B l[i]).2.2.2.2<a
    ·rw[decide_eq_true h9,if_pos h9];rfl
    ·rw[decide_eq_false h9,if_neg h9,Bool.not_false,cond_true,wrS i (by omega)]
   ·unfold purserref15_Purse_Commit.l4
    rw[ige];rfl
  rw[h1,Option.bind_some]
  cases hf:zaz (zdc (geA B) l a) 0 l.length with
  |some b=>
   have he:zc3 (geA B) l a=b:=by unfold zc3;rw[if_pos hc,hf];rfl
   rw[he,if_neg (zjt hf)]at hp
   simp only[zak]
   rw[show((As,(J.1,(J.2.1,J.2.2))):List FA×RJ)=(As,J)from rfl,hp,Option.bind_some,Option.bind_some]
   simp only[zak]
   rw[hA2',hA2']
  |none=>
   have he:zc3 (geA B) l a=0:=by unfold zc3;rw[if_pos hc,hf];rfl
   rw[he,if_pos rfl]at hp
   simp only[zak]
   have hok:=(zus hR.ok he).2.2.2.2
   have hset:(zam (fun n=>zb1 a (-a) (geA B n)) As l).length=33:=by rw[zaq];exact hR.len
   have hloop:za2 (purserref15_Purse_Commit.l9 l a) (0,(),As,J.1,J.2.1,J.2.2)=some ((),zam (fun n=>zb1 a (-a) (geA B n)) As l,J.1,J.2.1,J.2.2):=by
    refine zap (fun i=>((i:Int),(),zam (fun n=>zb1 a (-a) (geA B n)) As (l.take i),J.1,J.2.1,J.2.2)) l.length (by simp[zam]) (fun i hi=> ?_) ?_
    ·have hr:=hP.rng _ (List.getElem_mem hi)
     have hsl:(zam (fun n=>zb1 a (-a) (geA B n)) As (l.take i)).length=33:=by rw[zaq];exact hR.len
     have hg:=zdx (fun n=>zb1 a (-a) (geA B n)) (l.take i) As hR.len (fun n hn=>hP.rng n (List.mem_of_mem_take hn)) l[i].toNat (by omega)
     rw[show((l[i].toNat:Nat):Int)=l[i]by omega,if_neg (zdo hP.nod i hi),hR.at hr]at hg
     obtain⟨o1,o2,o3,o4,o5,o6,o7⟩:=hok _ (List.getElem_mem hi)
     simp only[zb1]at o4 o5
     unfold purserref15_Purse_Commit.l9
     simp only[zak]
     rw[ilt hi,nn,Bool.and_self,cond_true,cond_true,cond_true,at_ l i hi,zm8 hr,cond_true,cond_true,za6 hsl,hg]
     rw[za6 (show(List.set _ _ _).length=33 by rw[List.length_set];exact hsl),wrS i (by omega),wr _ (by omega) (by omega),wr _ (by omega) (by omega)]
     have hs:zam (fun n=>zb1 a (-a) (geA B n)) As (l.take (i+1))=(zam (fun n=>zb1 a (-a) (geA B n)) As (l.take i)).set l[i].toNat (zb1 a (-a) (geA B l[i])):=by
      rw[zad l i hi]
      unfold zam
      rw[List.foldl_append]
      rfl
     rw[hs]
     simp only[zb1,Int.add_zero,Int.sub_eq_add_neg]
    ·unfold purserref15_Purse_Commit.l9
     simp only[List.take_length]
     rw[ige,za6 hset]
     rfl
   rw[hloop,Option.bind_some]
   simp only[zak]
   rw[za6 hset,show((zam (fun n=>zb1 a (-a) (geA B n)) As l,(J.1,(J.2.1,J.2.2))):List FA×RJ)=(zam (fun n=>zb1 a (-a) (geA B n)) As l,J)from rfl,hp,Option.bind_some,Option.bind_some]
   simp only[zak]
   rw[hA2',hA2']
 ·have he:zc3 (geA B) l a=1:=by unfold zc3;rw[if_neg hc]
  rw[he,if_neg (by decide)]at hp
  have hx:(((bif !(!zby l)then(bif !(decide (a<1))then(some (decide (a >9007199254740992)))else(some true))else(some true)):Option Bool))=some true:=by
   cases h1:zby l with
   |false=>rfl
   |true=>
    have h2:zc0 a=false:=by
     cases h2:zc0 a with
     |false=>rfl
     |true=>exact absurd ⟨h1,h2⟩ hc
    rw[Bool.not_true,Bool.not_false,cond_true,zf3,h2]
    rfl
  rw[hx,Option.bind_some,cond_true,show((As,(J.1,(J.2.1,J.2.2))):List FA×RJ)=(As,J)from rfl,hp,Option.bind_some,Option.bind_some]
  simp only[zak]
  rw[hA2',hA2']
/-! ### Refund -/
def zdb(g:Int→FA)(l:List Int)(a:Int)(i:Nat):Option Int:=if(g (l.getD i 0)).2.2.2.1<a then some 20 else none
def zc2(g:Int→FA)(l:List Int)(a:Int):Int:=if zby l=true∧zc0 a=true then(zaz (zdb g l a) 0 l.length).getD 0 else 1
theorem zjs{g:Int→FA}{l:List Int}{a:Int}{d i:Nat}{b:Int}(h:zaz (zdb g l a) i d=some b):b≠0:=by
 obtain⟨k,_,_,h3⟩:=zcl h
 unfold zdb at h3
 split at h3
 ·rw[←Option.some.inj h3];decide
 ·cases h3
theorem zur{B:FB}{N:Nat}(hB:BOk B N){l:List Int}{a:Int}(h:zc2 (geA B) l a=0):PathP l∧zby l=true∧zc0 a=true∧zaz (zdb (geA B) l a) 0 l.length=none∧∀n∈l,OkA (zb1 (-a) 0 (geA B n)):=by
 unfold zc2 at h
 split at h
 ·rename_i hc
  have hP:=zd1 hc.1
  have ha:=(zb2 a).1 hc.2
  have hn:zaz (zdb (geA B) l a) 0 l.length=none:=by
   cases hf:zaz (zdb (geA B) l a) 0 l.length with
   |none=>rfl
   |some b=>rw[hf]at h;exact absurd h (zjs hf)
  refine⟨hP,hc.1,hc.2,hn,fun n hn2=> ?_⟩
  obtain⟨k,hk,rfl⟩:=List.getElem_of_mem hn2
  have h1:=zb7 hn k (by omega) (by omega)
  unfold zdb at h1
  rw[zl3 l k hk]at h1
  split at h1
  ·cases h1
  ·rename_i hlt
   obtain⟨o1,o2,o3,o4,o5,o6,o7⟩:=hB.ok l[k]
   unfold zag at o7
   refine⟨o1,o2,o3,?_,?_,o6,?_⟩
   ·simp only[zb1];omega
   ·simp only[zb1];omega
   ·simp only[zb1,zag];omega
 ·cases h
theorem pRefund{B:FB}{N:Nat}(hB:BOk B N)(l:List Int)(a:Int):
  funds_Book_Refund.f B l a=some (if zc2 (geA B) l a=0 then zb0 (fun n=>zb1 (-a) 0 (geA B n)) B l else B,zc2 (geA B) l a):=by
 unfold funds_Book_Refund.f
 rw[zls,Option.bind_some]
 simp only[zak]
 by_cases hc:zby l=true∧zc0 a=true
 ·have hP:=zd1 hc.1
  have ha:=(zb2 a).1 hc.2
  have hlen:=hP.len
  rw[hc.1,Bool.not_true,Bool.not_false,cond_true,zcz,Option.bind_some,hc.2,Option.bind_some]
  simp only[zak]
  rw[Bool.not_true,cond_false]
  have h1:za2 (funds_Book_Refund.l4 l a (false,(),B)) 0=some (zak (zaz (zdb (geA B) l a) 0 l.length)):=by
   refine zbs l.length _ (fun i hi=> ?_) ?_
   ·unfold funds_Book_Refund.l4
    simp only[zak]
    rw[ilt hi,nn,Bool.and_self,cond_true,cond_true,at_ l i hi]
    rw[show(((zaj (.int .i64) (.pair (.int .i64) (.pair (.int .i64) (.pair (.int .i64) (.pair (.int .i64) (.int .i64))))) B l[i]).getD ((0,(0,(0,(0,0)))):Int×Int×Int×Int×Int)))=geA B l[i]from rfl]
    unfold zdb
    rw[zl3 l i hi]
    by_cases h9:(geA B l[i]).2.2.2.1<a
    ·rw[decide_eq_true h9,if_pos h9];rfl
    ·rw[decide_eq_false h9,if_neg h9,cond_false,wrS i (by omega)]
   ·unfold funds_Book_Refund.l4
    rw[ige];rfl
  rw[h1,Option.bind_some]
  cases hf:zaz (zdb (geA B) l a) 0 l.length with
  |some b=>
   have he:zc2 (geA B) l a=b:=by unfold zc2;rw[if_pos hc,hf];rfl
   rw[he,if_neg (zjs hf)]
   rfl
  |none=>
   have he:zc2 (geA B) l a=0:=by unfold zc2;rw[if_pos hc,hf];rfl
   rw[he,if_pos rfl]
   simp only[zak]
   rw[wr (0 - a) (by omega) (by omega),show 0 - a= -a by omega]
   rw[zqi hB hP (-a) 0 (zur hB he).2.2.2.2]
   rfl
 ·have he:zc2 (geA B) l a=1:=by unfold zc2;rw[if_neg hc]
  rw[he,if_neg (by decide)]
  cases h1:zby l with
  |false=>rfl
  |true=>
   have h2:zc0 a=false:=by
    cases h2:zc0 a with
    |false=>rfl
    |true=>exact absurd ⟨h1,h2⟩ hc
   rw[Bool.not_true,Bool.not_false,cond_true,zcz,Option.bind_some,h2]
   rfl
theorem zv7 {N:Nat} {B:FB} {As:List FA} (hR:BRel N B As) (J:RJ) (l:List Int) (a g:Int) {A2:List FA} {J2:RJ} {r:Int} (hA2:A2.length=33)
  (hp:purserref15_Purse_post.f (if zc2 (geA B) l a=0 then zam (fun n=>zb1 (-a) 0 (geA B n)) As l else As,J) As (zc2 (geA B) l a) 6 a l g=some ((A2,J2),r)):
  purserref15_Purse_Refund.f (As,J) l a g=some ((A2,J2),r):=by
 have hA:zab V0 33 As=As:=hR.arr
 have hA2':zab V0 33 A2=A2:=za6 hA2
 unfold purserref15_Purse_Refund.f
 simp only[zak]
 rw[zlb,Option.bind_some,hA]
 by_cases hc:zby l=true∧zc0 a=true
 ·have hP:=zd1 hc.1
  have ha:=(zb2 a).1 hc.2
  have hlen:=hP.len
  rw[hc.1,Bool.not_true,Bool.not_false,cond_true,zf3,hc.2,Option.bind_some,Bool.not_true,cond_false]
  have h1:za2 (purserref15_Purse_Refund.l4 (As,J) l a) 0=some (zak (zaz (zdb (geA B) l a) 0 l.length)):=by
   refine zbs l.length _ (fun i hi=> ?_) ?_
   ·have hr:=hP.rng _ (List.getElem_mem hi)
    unfold purserref15_Purse_Refund.l4
    simp only[zak]
    rw[ilt hi,nn,Bool.and_self,cond_true,cond_true,at_ l i hi,zm8 hr,cond_true,hA,hR.at hr]
    unfold zdb
    rw[zl3 l i hi]
    by_cases h9:(geA B l[i]).2.2.2.1<a
    ·rw[decide_eq_true h9,if_pos h9];rfl
    ·rw[decide_eq_false h9,if_neg h9,cond_false,wrS i (by omega)]
   ·unfold purserref15_Purse_Refund.l4
    rw[ige];rfl
  rw[h1,Option.bind_some]
  cases hf:zaz (zdb (geA B) l a) 0 l.length with
  |some b=>
   have he:zc2 (geA B) l a=b:=by unfold zc2;rw[if_pos hc,hf];rfl
   rw[he,if_neg (zjs hf)]at hp
   simp only[zak]
   rw[show((As,(J.1,(J.2.1,J.2.2))):List FA×RJ)=(As,J)from rfl,hp,Option.bind_some,Option.bind_some]
   simp only[zak]
   rw[hA2',hA2']
  |none=>
   have he:zc2 (geA B) l a=0:=by unfold zc2;rw[if_pos hc,hf];rfl
   rw[he,if_pos rfl]at hp
   simp only[zak]
   have hok:=(zur hR.ok he).2.2.2.2
   have hset:(zam (fun n=>zb1 (-a) 0 (geA B n)) As l).length=33:=by rw[zaq];exact hR.len
   have hloop:za2 (purserref15_Purse_Refund.l9 l a) (0,(),As,J.1,J.2.1,J.2.2)=some ((),zam (fun n=>zb1 (-a) 0 (geA B n)) As l,J.1,J.2.1,J.2.2):=by
    refine zap (fun i=>((i:Int),(),zam (fun n=>zb1 (-a) 0 (geA B n)) As (l.take i),J.1,J.2.1,J.2.2)) l.length (by simp[zam]) (fun i hi=> ?_) ?_
    ·have hr:=hP.rng _ (List.getElem_mem hi)
     have hsl:(zam (fun n=>zb1 (-a) 0 (geA B n)) As (l.take i)).length=33:=by rw[zaq];exact hR.len
     have hg:=zdx (fun n=>zb1 (-a) 0 (geA B n)) (l.take i) As hR.len (fun n hn=>hP.rng n (List.mem_of_mem_take hn)) l[i].toNat (by omega)
     rw[show((l[i].toNat:Nat):Int)=l[i]by omega,if_neg (zdo hP.nod i hi),hR.at hr]at hg
     obtain⟨o1,o2,o3,o4,o5,o6,o7⟩:=hok _ (List.getElem_mem hi)
     simp only[zb1]at o4 o5
     unfold purserref15_Purse_Refund.l9
     simp only[zak]
     rw[ilt hi,nn,Bool.and_self,cond_true,cond_true,cond_true,at_ l i hi,zm8 hr,cond_true,cond_true,za6 hsl,hg]
     rw[za6 (show(List.set _ _ _).length=33 by rw[List.length_set];exact hsl),wrS i (by omega),wr _ (by omega) (by omega)]
     have hs:zam (fun n=>zb1 (-a) 0 (geA B n)) As (l.take (i+1))=(zam (fun n=>zb1 (-a) 0 (geA B n)) As (l.take i)).set l[i].toNat (zb1 (-a) 0 (geA B l[i])):=by
      rw[zad l i hi]
      unfold zam
      rw[List.foldl_append]
      rfl
     rw[hs]
     simp only[zb1,Int.add_zero,Int.sub_eq_add_neg]
    ·unfold purserref15_Purse_Refund.l9
     simp only[List.take_length]
     rw[ige,za6 hset]
     rfl
   rw[hloop,Option.bind_some]
   simp only[zak]
   rw[za6 hset,show((zam (fun n=>zb1 (-a) 0 (geA B n)) As l,(J.1,(J.2.1,J.2.2))):List FA×RJ)=(zam (fun n=>zb1 (-a) 0 (geA B n)) As l,J)from rfl,hp,Option.bind_some,Option.bind_some]
   simp only[zak]
   rw[hA2',hA2']
 ·have he:zc2 (geA B) l a=1:=by unfold zc2;rw[if_neg hc]
  rw[he,if_neg (by decide)]at hp
  have hx:(((bif !(!zby l)then(bif !(decide (a<1))then(some (decide (a >9007199254740992)))else(some true))else(some true)):Option Bool))=some true:=by
   cases h1:zby l with
   |false=>rfl
   |true=>
    have h2:zc0 a=false:=by
     cases h2:zc0 a with
     |false=>rfl
     |true=>exact absurd ⟨h1,h2⟩ hc
    rw[Bool.not_true,Bool.not_false,cond_true,zf3,h2]
    rfl
  rw[hx,Option.bind_some,cond_true,show((As,(J.1,(J.2.1,J.2.2))):List FA×RJ)=(As,J)from rfl,hp,Option.bind_some,Option.bind_some]
  simp only[zak]
  rw[hA2',hA2']
/-! ### TopUp -/
def zv6(g:Int→FA)(n a:Int):Int:=if ze8 n=true∧zc0 a=true then(if(g n).1+(g n).2.1+a >9007199254740992 then 6 else 0)else 1
def zrq(a:Int)(x:FA):FA:=(x.1+a,x.2.1,x.2.2.1,x.2.2.2.1,x.2.2.2.2)
theorem mTopUp{B:FB}{N:Nat}(hB:BOk B N){n a:Int}(h:zv6 (geA B) n a=0):(1≤n∧n≤32)∧(1≤a∧a≤9007199254740992)∧OkA (zrq a (geA B n)):=by
 unfold zv6 at h
 split at h
 ·rename_i hc
  have hn:=(zdp n).1 hc.1
  have ha:=(zb2 a).1 hc.2
  split at h
  ·cases h
  ·obtain⟨o1,o2,o3,o4,o5,o6,o7⟩:=hB.ok n
   unfold zag at o7
   exact⟨hn,ha,⟨by simp only[zrq];omega,o2,o3,o4,o5,by simp only[zrq];omega,by simp only[zrq,zag];omega⟩⟩
 ·cases h
theorem pTopUp{B:FB}{N:Nat}(hB:BOk B N)(n a:Int):funds_Book_TopUp.f B n a=some (if zv6 (geA B) n a=0 then zb0 (fun n=>zrq a (geA B n)) B [n]else B,zv6 (geA B) n a):=by
 unfold funds_Book_TopUp.f
 rw[zqd,Option.bind_some]
 by_cases hc:ze8 n=true∧zc0 a=true
 ·have hn:=(zdp n).1 hc.1
  have ha:=(zb2 a).1 hc.2
  obtain⟨o1,o2,o3,o4,o5,o6,o7⟩:=hB.ok n
  rw[hc.1,Bool.not_true,Bool.not_false,cond_true,zcz,Option.bind_some,hc.2,Option.bind_some,Bool.not_true,cond_false]
  rw[show(((zaj (.int .i64) (.pair (.int .i64) (.pair (.int .i64) (.pair (.int .i64) (.pair (.int .i64) (.int .i64))))) B n).getD ((0,(0,(0,(0,0)))):Int×Int×Int×Int×Int)))=geA B n from rfl]
  rw[wr ((geA B n).1+(geA B n).2.1) (by omega) (by omega),wr (9007199254740992 - a) (by omega) (by omega)]
  unfold zv6
  rw[if_pos hc]
  by_cases hg:(geA B n).1+(geA B n).2.1+a >9007199254740992
  ·rw[decide_eq_true (show(geA B n).1+(geA B n).2.1 >9007199254740992 - a by omega),cond_true,if_pos hg,if_neg (by decide)]
  ·rw[decide_eq_false (show¬(geA B n).1+(geA B n).2.1 >9007199254740992 - a by omega),cond_false,if_neg hg,if_pos rfl,wr ((geA B n).1+a) (by omega) (by omega),zol]
   rfl
 ·have he:zv6 (geA B) n a=1:=by unfold zv6;rw[if_neg hc]
  rw[he,if_neg (by decide)]
  cases h1:ze8 n with
  |false=>rfl
  |true=>
   have h2:zc0 a=false:=by
    cases h2:zc0 a with
    |false=>rfl
    |true=>exact absurd ⟨h1,h2⟩ hc
   rw[Bool.not_true,Bool.not_false,cond_true,zcz,Option.bind_some,h2]
   rfl
theorem dTop {N:Nat} {B:FB} {As:List FA} (hR:BRel N B As) (J:RJ) (n a:Int) {A2:List FA} {J2:RJ} {r:Int} (hA2:A2.length=33)
  (hp:purserref15_Purse_post.f (if zv6 (geA B) n a=0 then zam (fun n=>zrq a (geA B n)) As [n]else As,J) As (zv6 (geA B) n a) 1 a [n] 0=some ((A2,J2),r)):
  purserref15_Purse_Top.f (As,J) n a=some ((A2,J2),r):=by
 have hA:zab V0 33 As=As:=hR.arr
 have hA2':zab V0 33 A2=A2:=za6 hA2
 unfold purserref15_Purse_Top.f
 simp only[zak]
 rw[zq4,Option.bind_some,hA]
 by_cases hc:ze8 n=true∧zc0 a=true
 ·have hn:=(zdp n).1 hc.1
  have ha:=(zb2 a).1 hc.2
  obtain⟨o1,o2,o3,o4,o5,o6,o7⟩:=hR.ok.ok n
  rw[hc.1,Bool.not_true,Bool.not_false,cond_true,zf3,hc.2,Option.bind_some,Bool.not_true,cond_false,zm8 hn,cond_true,cond_true,hR.at hn]
  rw[wr ((geA B n).1+(geA B n).2.1) (by omega) (by omega),wr ((geA B n).1+(geA B n).2.1+a) (by omega) (by omega)]
  unfold zv6 at hp
  rw[if_pos hc]at hp
  by_cases hg:(geA B n).1+(geA B n).2.1+a >9007199254740992
  ·rw[if_pos hg,if_neg (by decide)]at hp
   rw[decide_eq_true hg,cond_true,show((As,(J.1,(J.2.1,J.2.2))):List FA×RJ)=(As,J)from rfl,hp,Option.bind_some,Option.bind_some]
   simp only[zak]
   rw[hA2',hA2']
  ·rw[if_neg hg,if_pos rfl]at hp
   rw[decide_eq_false hg,cond_false,cond_true,cond_true,wr ((geA B n).1+a) (by omega) (by omega),za6 (show(List.set _ _ _).length=33 by rw[List.length_set];exact hR.len)]
   rw[show((As.set n.toNat ((geA B n).1+a,((geA B n).2.1,((geA B n).2.2.1,((geA B n).2.2.2.1,(geA B n).2.2.2.2)))),(J.1,(J.2.1,J.2.2))):List FA×RJ)=(zam (fun n=>zrq a (geA B n)) As [n],J)from rfl,hp,Option.bind_some,Option.bind_some]
   simp only[zak]
   rw[hA2',hA2']
 ·have he:zv6 (geA B) n a=1:=by unfold zv6;rw[if_neg hc]
  rw[he,if_neg (by decide)]at hp
  have hx:(((bif !(!ze8 n)then(bif !(decide (a<1))then(some (decide (a >9007199254740992)))else(some true))else(some true)):Option Bool))=some true:=by
   cases h1:ze8 n with
   |false=>rfl
   |true=>
    have h2:zc0 a=false:=by
     cases h2:zc0 a with
     |false=>rfl
     |true=>exact absurd ⟨h1,h2⟩ hc
    rw[Bool.not_true,Bool.not_false,cond_true,zf3,h2]
    rfl
  rw[hx,Option.bind_some,cond_true,show((As,(J.1,(J.2.1,J.2.2))):List FA×RJ)=(As,J)from rfl,hp,Option.bind_some,Option.bind_some]
  simp only[zak]
  rw[hA2',hA2']
end Go.Proofs.YtniohchnpfpffaaGreat.Pure
