/- Plain laws: a journal is what its entries make when they are posted again,period by period. No statement of its own. -/
import Derived.Test.YtniohchnpfpffaaGreatSf
set_option linter.unusedSimpArgs false
set_option linter.unusedVariables false
namespace Go.Proofs.YtniohchnpfpffaaGreat.Pure
open Go.Vk Go.Am Go.Pg Go.Sort Go.Proofs.YtniohchnpfpffaaGreat.Y
abbrev Pen:=(Int×List Leg)×Int
def j00:Jn:=([],(0,([],[[]])))
inductive Rch:Jn→Prop
 |new:Rch j00
 |post {j:Jn} {e:Int×List Leg}:Rch j→chk e.1 e.2=0→j.1.length≠16384→e.2.any (far j.2.2.1)=false→Rch (zb6 j e)
 |close {j:Jn}:Rch j→j.2.1<31→Rch (zc4 j)
theorem zzx{j:Jn}(h:Rch j)(e:Int×List Leg):Rch (zip j e):=by
 unfold zip
 by_cases h1:chk e.1 e.2≠0
 ·rw[if_pos h1];exact h
 ·rw[if_neg h1]
  by_cases h2:j.1.length=16384
  ·rw[if_pos h2];exact h
  ·rw[if_neg h2]
   cases h3:e.2.any (far j.2.2.1)with
   |true=>rw[if_pos rfl];exact h
   |false=>rw[if_neg (by simp)];exact .post h (by omega) h2 h3
theorem zmc: ∀(l:List (Int×List Leg)) {j:Jn},Rch j→Rch (zae j l)
 | [],j,h=>h
 |e::l,j,h=>zmc l (zzx h e)
theorem zmb{p m d:Nat}{k a g:Int}{l:List Int}{G:Int→FA}{P P':FB×Jn}{J J':RJ}{p' m' d':Nat}(hJ:JRel p m d P.2 J)(hJ':JRel p' m' d' P'.2 J')(hm':m'≤16384)(hs:Stp k a g l G P P')(hR:Rch P.2):Rch P'.2:=by
 rcases hs with⟨_,h2⟩|⟨_,_,_,_,_,ys,_,hc0,h2⟩
 ·rw[h2];exact hR
 ·obtain⟨c1,c2,c3,c4⟩:=zht hc0
  obtain⟨b1,b2⟩:=zf0 ys P.2.2.2.1 c3 c2 (fun q=>by have:=hJ.rng q;omega)
  have hlen:=hJ'.ji.list
  rw[h2]at hlen
  have hl1:(zb6 P.2 (k,ys)).1.length=P.2.1.length+1:=by simp[zb6]
  rw[h2]
  refine .post hR hc0 (by omega) ?_
  rw[List.any_eq_false]
  intro x hx
  have h3:=hJ'.rng x.1
  rw[h2]at h3
  have h4:bal (zb6 P.2 (k,ys)).2.2.1 x.1=bal P.2.2.2.1 x.1+x.2:=by
   rw[show(zb6 P.2 (k,ys)).2.2.1=zel P.2.2.2.1 ys from rfl,b1,zv9 c3 hx]
  rw[h4]at h3
  unfold far
  rw[wr _ (by omega) (by omega),decide_eq_false (by omega),decide_eq_false (by omega)]
  simp
theorem zDd{c:List Int}{B:FB}{j:Jn}{P':FB×Jn}{J':RJ}{p' m' d':Nat}(hJ':JRel p' m' d' P'.2 J')(hs:RStp c B j P')(hR:Rch j):Rch P'.2:=by
 rcases hs with rfl|⟨_,e2⟩
 ·exact hR
 ·have h1:=hJ'.ji.per
  have h2:=hJ'.ji.p31
  rw[e2]at h1⊢
  refine .close (zmc _ hR) ?_
  have:(zc4 (zae j (zaa c B (zb9 B)))).2.1=(zae j (zaa c B (zb9 B))).2.1+1:=rfl
  omega
/-! ### posted again -/
structure JB(j:Jn):Prop where
 p0:0≤j.2.1
 p31:j.2.1≤31
 mov:(j.2.2.2.length:Int)=j.2.1+1
 len:j.1.length≤16384
theorem JB.close{j:Jn}(h:JB j)(hp:j.2.1<31):JB (zc4 j):=by
 obtain⟨h1,h2,h3,h4⟩:=h
 exact⟨by simp only[zc4];omega,by simp only[zc4];omega,by simp only[zc4,List.length_append,List.length_singleton];omega,h4⟩
theorem JB.closeF{j:Jn}(h:JB j)(hp:j.2.1<31):journal_Journal_Close.f (j.1,(j.2.1,(j.2.2.1,j.2.2.2)))=some (zc4 j,(j.2.1+1,0)):=zwq j h.p0 hp (by have:=h.mov;have:=h.p31;omega)
def ze3:Nat→Jn→Jn
 |0,j=>j
 |d+1,j=>ze3 d (zc4 j)
theorem znr: ∀(d:Nat) (j:Jn),ze3 (d+1) j=zc4 (ze3 d j)
 |0,j=>rfl
 |d+1,j=>znr d (zc4 j)
theorem zre: ∀(d:Nat) (j:Jn),(ze3 d j).1=j.1∧(ze3 d j).2.1=j.2.1+d∧(ze3 d j).2.2.1=j.2.2.1
 |0,j=>⟨rfl,by simp[ze3],rfl⟩
 |d+1,j=>by
  obtain⟨h1,h2,h3⟩:=zre d (zc4 j)
  refine⟨h1,?_,h3⟩
  show(ze3 d (zc4 j)).2.1=_
  rw[h2]
  simp only[zc4];omega
theorem ztj: ∀(d:Nat) {j:Jn},JB j→j.2.1+d≤31→JB (ze3 d j)
 |0,j,h,_=>h
 |d+1,j,h,hp=>ztj d (h.close (by omega)) (by simp only[zc4];omega)
def zza(K:Jn)(x:Pen):Jn:=zb6 (ze3 (x.2 - K.2.1).toNat K) x.1
def ze2(l:List Pen):Jn:=l.foldl zza j00
theorem zpe(l:List Pen)(x:Pen):ze2 (l++ [x])=zza (ze2 l) x:=by
 unfold ze2;rw[List.foldl_append];rfl
structure Okst(K:Jn)(x:Pen):Prop where
 jb:JB K
 lo:K.2.1≤x.2
 hi:x.2≤31
 c:chk x.1.1 x.1.2=0
 n:K.1.length≠16384
 f:x.1.2.any (far K.2.2.1)=false
structure Rest(j:Jn):Prop where
 jb:JB j
 lo:(ze2 j.1).2.1≤j.2.1
 jf:JB (ze2 j.1)
 eq:ze3 (j.2.1 - (ze2 j.1).2.1).toNat (ze2 j.1)=j
 tim: ∀x∈j.1,x.2≤j.2.1
 ok: ∀i (hi:i<j.1.length),Okst (ze2 (j.1.take i)) j.1[i]
theorem jb00:JB j00:=⟨by decide,by decide,by decide,by decide⟩
theorem zDe{j:Jn}(h:Rch j):Rest j:=by
 induction h with
 |new=>exact⟨jb00,Int.le_refl _,jb00,rfl,fun x hx=>by simp[j00]at hx,fun i hi=>by simp[j00]at hi⟩
 | @post j e h hc hn hf ih=>
  obtain⟨a1,a2,a3,a4,a5,a6⟩:=ih
  obtain⟨b1,b2,b3⟩:=zre (j.2.1 - (ze2 j.1).2.1).toNat (ze2 j.1)
  rw[a4]at b1 b3
  have e0:(zb6 j e).1=j.1++ [(e,j.2.1)]:=rfl
  have e1:ze2 (zb6 j e).1=zb6 j e:=by
   rw[e0,zpe]
   unfold zza
   rw[a4]
  have hjb:JB (zb6 j e):=⟨a1.p0,a1.p31,by simp only[zb6,List.length_set];exact a1.mov,by rw[e0,List.length_append,List.length_singleton];have:=a1.len;omega⟩
  refine⟨hjb,by rw[e1];exact Int.le_refl _,by rw[e1];exact hjb,by rw[e1,Int.sub_self];rfl,fun x hx=> ?_,fun i hi=> ?_⟩
  ·rw[e0,List.mem_append,List.mem_singleton]at hx
   rcases hx with hx|rfl
   ·exact a5 x hx
   ·exact Int.le_refl _
  ·have hlen:(zb6 j e).1.length=j.1.length+1:=by rw[e0,List.length_append,List.length_singleton]
   by_cases hi2:i<j.1.length
   ·have t1:(zb6 j e).1.take i=j.1.take i:=by rw[e0,List.take_append_of_le_length (by omega)]
    have t2:(zb6 j e).1[i]'hi=j.1[i]:=by
     simp only[e0]
     exact List.getElem_append_left hi2
    rw[t1,t2]
    exact a6 i hi2
   ·have hie:i=j.1.length:=by omega
    have t1:(zb6 j e).1.take i=j.1:=by rw[e0,hie,List.take_left'];rfl
    have t2:(zb6 j e).1[i]'hi=(e,j.2.1):=by
     simp only[e0]
     rw[List.getElem_append_right (by omega)]
     simp[hie]
    rw[t1,t2]
    exact⟨a3,a2,a1.p31,hc,by rw[←b1];exact hn,by rw[←b3];exact hf⟩
 | @close j h hp ih=>
  obtain⟨a1,a2,a3,a4,a5,a6⟩:=ih
  have e0:(zc4 j).2.1=j.2.1+1:=rfl
  refine⟨a1.close hp,by rw[e0];show(ze2 j.1).2.1≤_;omega,a3,?_,fun x hx=>by rw[e0];have:=a5 x hx;omega,a6⟩
  show ze3 ((zc4 j).2.1 - (ze2 j.1).2.1).toNat (ze2 j.1)=zc4 j
  rw[e0,show(j.2.1+1 - (ze2 j.1).2.1).toNat=(j.2.1 - (ze2 j.1).2.1).toNat+1 by omega,znr,a4]
theorem zkl{t:Int}(ht:t≤31){f:Unit×Jn→Option ((Unit×Jn)⊕(Unit×Jn))}(h1: ∀K,JB K→K.2.1<t→f ((),K)=some (.inl ((),zc4 K)))(h2: ∀K,K.2.1=t→f ((),K)=some (.inr ((),K))):
  ∀(d:Nat) (K:Jn),JB K→t - K.2.1=d→za2 f ((),K)=some ((),ze3 d K)
 |0,K,hK,hd=>by rw[zai,h2 K (by omega)];rfl
 |d+1,K,hK,hd=>by
  rw[zai,h1 K hK (by omega)]
  exact zkl ht h1 h2 d (zc4 K) (hK.close (by omega)) (by simp only[zc4];omega)
theorem zot(K:Jn):journal_Journal_Period.f (K.1,(K.2.1,(K.2.2.1,K.2.2.2)))=some (K,K.2.1):=rfl
theorem zt5{j:Jn}(h:Rest j):za2 (period_Purse_entries.l2 (j.1.map (·.1)) (j.1.map (·.2)) j.2.1) (0,(),j00)=some (.inr ((),ze2 j.1)):=by
 refine zap (fun i=>((i:Int),(),ze2 (j.1.take i))) j.1.length rfl (fun i hi=> ?_) ?_
 ·obtain⟨o1,o2,o3,o4,o5,o6⟩:=h.ok i hi
  have htm:=h.tim _ (List.getElem_mem hi)
  rw[zad j.1 i hi,zpe]
  obtain⟨K,hK⟩: ∃K,K=ze2 (j.1.take i):=⟨_,rfl⟩
  obtain⟨x,hx⟩: ∃x,x=j.1[i]:=⟨_,rfl⟩
  rw[←hK]at o1 o2 o5 o6⊢
  rw[←hx]at o2 o3 o4 o6 htm⊢
  have g1:(j.1.map (·.1)).getD ((i:Int)).toNat ((0,[]):Int×List Leg)=x.1:=by
   rw[at_ _ i (by rw[List.length_map];exact hi),List.getElem_map,hx]
  have g2:(j.1.map (·.2)).getD ((i:Int)).toNat (0:Int)=x.2:=by
   rw[at_ _ i (by rw[List.length_map];exact hi),List.getElem_map,hx]
  obtain⟨d,hd⟩: ∃d:Nat,d=(x.2 - K.2.1).toNat:=⟨_,rfl⟩
  have hcl:za2 (period_Purse_entries.l5 (j.1.map (·.2)) ((i:Int),(),K)) ((),K)=some ((),ze3 d K):=by
   refine zkl o3 (fun K' hK' hp=> ?_) (fun K' hp=> ?_) d K o1 (by omega)
   ·unfold period_Purse_entries.l5
    simp only
    rw[List.length_map,ilt hi,nn,Bool.and_self,cond_true,zot,Option.bind_some]
    simp only[g2]
    rw[decide_eq_true hp,cond_true,hK'.closeF (by omega),Option.bind_some]
   ·unfold period_Purse_entries.l5
    simp only
    rw[List.length_map,ilt hi,nn,Bool.and_self,cond_true,zot,Option.bind_some]
    simp only[g2]
    rw[decide_eq_false (show¬K'.2.1<x.2 by omega),cond_false]
  obtain⟨c1,c2,c3⟩:=zre d K
  have hst:zza K x=zb6 (ze3 d K) x.1:=by unfold zza;rw[hd]
  have hjb:JB (ze3 d K):=ztj d o1 (by omega)
  obtain⟨K',hK'⟩: ∃K',K'=ze3 d K:=⟨_,rfl⟩
  rw[←hK']at c1 c2 c3 hst hjb hcl
  rw[hst]
  have hpost:journal_Journal_Post.f K' x.1=some (zb6 K' x.1,((K'.1.length:Int),0)):=by
   have h0:=hjb.p0
   have h1:=hjb.mov
   have h2:=(zht o4).1
   have h3:=hjb.len
   rw[zme K' x.1 K'.2.1.toNat (by omega) (by omega) (by omega) (by omega),if_neg (by omega),if_neg (by rw[c1];exact o5),c3,o6,if_neg (by simp)]
  unfold period_Purse_entries.l2
  simp only
  rw[List.length_map,List.length_map,ilt hi,nn,Bool.and_self,cond_true,cond_true,cond_true,zot,Option.bind_some]
  simp only[g1,g2]
  rw[decide_eq_false (show¬x.2<K.2.1 by omega),Bool.not_false,cond_true,decide_eq_false (show¬x.2 >j.2.1 by omega),cond_true,Option.bind_some]
  simp only
  rw[cond_false,show za2 (period_Purse_entries.l5 (j.1.map (·.2)) ((i:Int),(),K)) ((),K.1,K.2.1,K.2.2.1,K.2.2.2)=_ from hcl,Option.bind_some]
  simp only
  rw[show journal_Journal_Post.f (K'.1,(K'.2.1,(K'.2.2.1,K'.2.2.2))) (x.1.1,x.1.2)=_ from hpost,Option.bind_some]
  simp only
  rw[bne_self_eq_false,cond_false,wrS i (by have:=h.jb.len;omega)]
 ·rw[List.take_length]
  unfold period_Purse_entries.l2
  simp only
  rw[List.length_map,ige,cond_false]
theorem zpj{j:Jn}(h:Rest j)(B:FB):period_Purse_entries.f (B,j00) (j.1.map (·.1)) (j.1.map (·.2)) j.2.1=some ((B,j),0):=by
 have h1:=zt5 h
 have hp:=h.jb.p0
 have hq:=h.jb.p31
 have hlo:=h.lo
 have h2:za2 (period_Purse_entries.l13 j.2.1) ((),ze2 j.1)=some ((),j):=by
  have:=zkl (f:=period_Purse_entries.l13 j.2.1) hq (fun K' hK' hp=> ?_) (fun K' hp=> ?_) (j.2.1 - (ze2 j.1).2.1).toNat (ze2 j.1) h.jf (by omega)
  ·rw[h.eq]at this;exact this
  ·unfold period_Purse_entries.l13
   simp only
   rw[zot,Option.bind_some]
   simp only
   rw[decide_eq_true hp,cond_true,hK'.closeF (by omega),Option.bind_some]
  ·unfold period_Purse_entries.l13
   simp only
   rw[zot,Option.bind_some]
   simp only
   rw[decide_eq_false (by omega),cond_false]
 unfold period_Purse_entries.f
 rw[List.length_map,List.length_map,bne_self_eq_false,Bool.not_false,cond_true,decide_eq_false (show¬j.2.1<0 by omega),Bool.not_false,cond_true,decide_eq_false (show¬j.2.1≥32 by omega),Option.bind_some,cond_false]
 rw[show za2 (period_Purse_entries.l2 (j.1.map (·.1)) (j.1.map (·.2)) j.2.1) (0,(),(B,j00).2.1,(B,j00).2.2.1,(B,j00).2.2.2.1,(B,j00).2.2.2.2)=_ from h1,Option.bind_some]
 simp only
 rw[show za2 (period_Purse_entries.l13 j.2.1) ((),(ze2 j.1).1,(ze2 j.1).2.1,(ze2 j.1).2.2.1,(ze2 j.1).2.2.2)=_ from h2,Option.bind_some]
theorem zv5(B:FB)(j:Jn)(l:List (Int×List Leg))(w:List Int)(t:Int)(h:l.length≠w.length):period_Purse_entries.f (B,j) l w t=some ((B,j),1):=by
 unfold period_Purse_entries.f
 rw[show((l.length:Int) !=(w.length:Int))=true by simp;omega,Bool.not_true,cond_false,Option.bind_some,cond_true]
theorem zya(B:FB)(j:Jn):period_Purse_entries.f (B,j) [] [] 32=some ((B,j),1):=rfl
end Go.Proofs.YtniohchnpfpffaaGreat.Pure
