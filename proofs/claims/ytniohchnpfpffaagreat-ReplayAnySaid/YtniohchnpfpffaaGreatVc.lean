/- Plain laws: a journal's rows,and what is held against them. No statement of its own. -/
import Derived.Test.YtniohchnpfpffaaGreatVb
set_option linter.unusedSimpArgs false
set_option linter.unusedVariables false
namespace Go.Proofs.YtniohchnpfpffaaGreat.Pure
open Go.Vk Go.Am Go.Pg Go.Sort Go.Proofs.YtniohchnpfpffaaGreat.Y
theorem zyk(i:Nat)(hi:i<32):nodes32[i]'(by simpa[nodes32]using hi)=(i:Int)+1:=by
 unfold nodes32
 rw[List.getElem_map,List.getElem_range]
/-! ### through the entries -/
theorem zni {op:Int} {l:List Pn} {kd at_':Int} {ls:List Leg} (hls:ls.length≤1000000) {f:Int×Unit×Int×GS→Option ((Int×Unit×Int×GS)⊕(Unit×Int×GS))}
  (hf: ∀k (hk:k<ls.length) G G',replay_replay_leg.f (op,G) ls[k] kd at_'=some ((op,G'),())→f ((k:Int),(),op,G)=some (.inl ((((k+1:Nat):Nat):Int),(),op,G'))) (he: ∀G,f ((ls.length:Int),(),op,G)=some (.inr ((),op,G))):
  ∀(d k:Nat) (G:GS),k+d=ls.length→GRel op l kd (at_'==op) (ls.take k) G→∃G',zac f ((k:Int),(),op,G)=some ((),op,G')∧GRel op l kd (at_'==op) ls G'∧G'.length≤G.length+d
 |0,k,G,h,hG=>by
  have hk:k=ls.length:=by omega
  refine⟨G,?_,by rw[hk,List.take_length]at hG;exact hG,by omega⟩
  rw[zae,hk,he]
  rfl
 |d+1,k,G,h,hG=>by
  have hk:k<ls.length:=by omega
  obtain⟨G1,h1,h2⟩:=leg_rel hG ls[k]
  rw[←zcc ls k hk]at h2
  obtain⟨G',g1,g2,g3⟩:=zni hls hf he d (k+1) G1 (by omega) h2
  have hlen:G1.length≤G.length+1:=by
   obtain⟨G2,e1,e2⟩:=leg_p op G ls[k] kd at_'
   rw[h1]at e1
   simp only[Option.some.injEq,Prod.mk.injEq,true_and,and_true]at e1
   rcases e2 with⟨_,rfl⟩|⟨_,rfl⟩
   ·rw[e1];omega
   ·rw[e1,zpi]
    have: ∀(G:GS) (n:Int) (a:SA),(zb0 KI VS G n a).length≤G.length+1:=by
     intro G n a
     induction G with
     |nil=>simp[zb0]
     |cons x B ih=>
      cases x with
      |none=>simp only[zb0,List.length_cons];omega
      |some p=>
       obtain⟨k,v⟩:=p
       simp only[zb0]
       cases eqT KI n k<;>simp<;>omega
    exact this _ _ _
  refine⟨G',?_,g2,by omega⟩
  rw[zae,hf k hk G G1 h1]
  exact g1
theorem At_ok{j:Jn}{i:Nat}(hi:i<j.1.length)(hl:(j.1[i]).1.2.length≤1000000):journal_Journal_At.f (j.1,(j.2.1,(j.2.2.1,j.2.2.2))) (i:Int)=some (j,(((j.1[i]).1.1,(j.1[i]).1.2),(j.1[i]).2,0)):=by
 unfold journal_Journal_At.f
 simp only
 rw[show decide ((i:Int)<0)=false by simp,Bool.not_false,cond_true,show decide ((i:Int)≥(j.1.length:Int))=false by simp;omega,Option.bind_some,cond_false,nn,ilt hi,Bool.true_and,cond_true,cond_true,at_ j.1 i hi,zsq _ (by omega),Option.bind_some]
theorem zrj{op kd:Int}{now:Bool}{j:Jn}{n:Nat}  (hn:n≤j.1.length)(hlen:j.1.length≤1000)(hls: ∀x∈j.1,x.1.2.length≤100): ∀(d i:Nat) (G:GS),i+d=n→GRel op (j.1.take i) kd now [] G→
  ∃G',zac (replay_Rows.l3 (j,(n:Int))) ((i:Int),(),j.1,j.2.1,j.2.2.1,j.2.2.2,(),op,G)=some (.inr ((),j.1,j.2.1,j.2.2.1,j.2.2.2,(),op,G'))∧GRel op (j.1.take n) kd now [] G'∧G'.length≤G.length+100*d
 |0,i,G,h,hG=>by
  have hi:i=n:=by omega
  refine⟨G,?_,by rw[←hi];exact hG,by omega⟩
  have he:replay_Rows.l3 (j,(n:Int)) ((n:Int),(),j.1,j.2.1,j.2.2.1,j.2.2.2,(),op,G)=some (.inr (.inr ((),j.1,j.2.1,j.2.2.1,j.2.2.2,(),op,G))):=by
   unfold replay_Rows.l3
   simp only
   rw[ige,cond_false]
  rw[hi,zae,he]
  rfl
 |d+1,i,G,h,hG=>by
  have hi:i<j.1.length:=by omega
  have hxl:=hls _ (List.getElem_mem hi)
  have hat:=At_ok hi (by omega)
  obtain⟨x,hx⟩: ∃x,x=j.1[i]:=⟨_,rfl⟩
  rw[←hx]at hat hxl
  obtain⟨G1,g1,g2,g3⟩:=zni (op:=op) (l:=j.1.take i) (kd:=x.1.1) (at_':=x.2) (ls:=x.1.2) (by omega) (f:=replay_Rows.l5 (j,((x.1.1,x.1.2),x.2,0))) (fun k hk G G' h=>by
   unfold replay_Rows.l5
   simp only
   rw[ilt hk,nn,Bool.and_self,cond_true,cond_true,at_ x.1.2 k hk]
   rw[show replay_replay_leg.f (op,G) ((x.1.2[k].1.1,(x.1.2[k].1.2.1,x.1.2[k].1.2.2)),x.1.2[k].2) x.1.1 x.2=_ from h,Option.bind_some,wrS k (by omega)]) (fun G=>by
   unfold replay_Rows.l5
   simp only
   rw[ige,cond_false]) x.1.2.length 0 G (by omega) hG.re
  have g4:GRel op (j.1.take (i+1)) kd now [] G1:=by
   rw[zcc j.1 i hi,←hx]
   exact g2.next kd now
  obtain⟨G',k1,k2,k3⟩:=zrj hn hlen hls d (i+1) G1 (by omega) g4
  refine⟨G',?_,k2,by omega⟩
  have hst:replay_Rows.l3 (j,(n:Int)) ((i:Int),(),j.1,j.2.1,j.2.2.1,j.2.2.2,(),op,G)=some (.inl ((((i+1:Nat):Nat):Int),(),j.1,j.2.1,j.2.2.1,j.2.2.2,(),op,G1)):=by
   unfold replay_Rows.l3
   simp only
   rw[ilt (show i<n by omega),cond_true,hat,Option.bind_some]
   simp only
   rw[bne_self_eq_false,cond_false]
   rw[show((0:Nat):Int)=0 from rfl]at g1
   rw[g1,Option.bind_some]
   simp only
   rw[wrS i (by omega)]
  rw[zae,hst]
  exact k1
theorem zrc{op kd:Int}{now:Bool}{j:Jn}{n:Nat}  (hn:n≤j.1.length)(hlen:j.1.length≤1000)(hls: ∀x∈j.1,x.1.2.length≤100): ∀(d i:Nat) (G:GS),i+d=n→GRel op (j.1.take i) kd now [] G→
  ∃G',zac (replay_Upto.l4 (n:Int)) ((i:Int),(),j.1,j.2.1,j.2.2.1,j.2.2.2,(),op,G)=some (.inr ((),j.1,j.2.1,j.2.2.1,j.2.2.2,(),op,G'))∧GRel op (j.1.take n) kd now [] G'∧G'.length≤G.length+100*d
 |0,i,G,h,hG=>by
  have hi:i=n:=by omega
  refine⟨G,?_,by rw[←hi];exact hG,by omega⟩
  have he:replay_Upto.l4 (n:Int) ((n:Int),(),j.1,j.2.1,j.2.2.1,j.2.2.2,(),op,G)=some (.inr (.inr ((),j.1,j.2.1,j.2.2.1,j.2.2.2,(),op,G))):=by
   unfold replay_Upto.l4
   simp only
   rw[ige,cond_false]
  rw[hi,zae,he]
  rfl
 |d+1,i,G,h,hG=>by
  have hi:i<j.1.length:=by omega
  have hxl:=hls _ (List.getElem_mem hi)
  have hat:=At_ok hi (by omega)
  obtain⟨x,hx⟩: ∃x,x=j.1[i]:=⟨_,rfl⟩
  rw[←hx]at hat hxl
  obtain⟨G1,g1,g2,g3⟩:=zni (op:=op) (l:=j.1.take i) (kd:=x.1.1) (at_':=x.2) (ls:=x.1.2) (by omega) (f:=replay_Upto.l6 (j,((x.1.1,x.1.2),x.2,0))) (fun k hk G G' h=>by
   unfold replay_Upto.l6
   simp only
   rw[ilt hk,nn,Bool.and_self,cond_true,cond_true,at_ x.1.2 k hk]
   rw[show replay_replay_leg.f (op,G) ((x.1.2[k].1.1,(x.1.2[k].1.2.1,x.1.2[k].1.2.2)),x.1.2[k].2) x.1.1 x.2=_ from h,Option.bind_some,wrS k (by omega)]) (fun G=>by
   unfold replay_Upto.l6
   simp only
   rw[ige,cond_false]) x.1.2.length 0 G (by omega) hG.re
  have g4:GRel op (j.1.take (i+1)) kd now [] G1:=by
   rw[zcc j.1 i hi,←hx]
   exact g2.next kd now
  obtain⟨G',k1,k2,k3⟩:=zrc hn hlen hls d (i+1) G1 (by omega) g4
  refine⟨G',?_,k2,by omega⟩
  have hst:replay_Upto.l4 (n:Int) ((i:Int),(),j.1,j.2.1,j.2.2.1,j.2.2.2,(),op,G)=some (.inl ((((i+1:Nat):Nat):Int),(),j.1,j.2.1,j.2.2.1,j.2.2.2,(),op,G1)):=by
   unfold replay_Upto.l4
   simp only
   rw[ilt (show i<n by omega),cond_true,hat,Option.bind_some]
   simp only
   rw[bne_self_eq_false,cond_false]
   rw[show((0:Nat):Int)=0 from rfl]at g1
   rw[g1,Option.bind_some]
   simp only
   rw[wrS i (by omega)]
  rw[zae,hst]
  exact k1
theorem zyy{q:Int}{l:List Pn}(h:zle q l=true): ∃x∈l,∃g∈x.1.2,g.1.2.1=q:=by
 unfold zle zsj at h
 rw[List.any_eq_true]at h
 obtain⟨x,hx,h2⟩:=h
 rw[List.any_eq_true]at h2
 obtain⟨g,hg,h3⟩:=h2
 exact⟨x,hx,g,hg,by simpa using h3⟩
structure JOk(j:Jn):Prop where
 len:j.1.length≤1000
 legs: ∀x∈j.1,x.1.2.length≤100
 nodes: ∀x∈j.1,∀g∈x.1.2,0≤g.1.2.1∧g.1.2.1≤4
theorem JOk.rng{j:Jn}(h:JOk j)(n:Nat)(q:Int)(hq:zle q (j.1.take n)=true):0≤q∧q≤4:=by
 obtain⟨x,hx,g,hg,e⟩:=zyy hq
 have:=h.nodes x (List.mem_of_mem_take hx) g hg
 omega
theorem Rows_f{j:Jn}(h:JOk j):replay_Rows.f j=some (j,resL j.2.1 j.1):=by
 obtain⟨G,h1,h2,h3⟩:=zrj (op:=j.2.1) (kd:=0) (now:=false) (j:=j) (n:=j.1.length) (Nat.le_refl _) h.len h.legs j.1.length 0 [] (by omega) (zsk _ _ _)
 rw[List.take_length]at h2
 have hl:=h.len
 simp only[List.length_nil,Nat.zero_add]at h3
 have h4:=rows_f h2 (by omega) (fun q hq=>by have:=h.rng j.1.length q (by rw[List.take_length];exact hq);omega)
 unfold replay_Rows.f
 rw[show journal_Journal_Len.f (j.1,(j.2.1,(j.2.2.1,j.2.2.2)))=some (j,(j.1.length:Int))from rfl,Option.bind_some]
 simp only
 rw[show journal_Journal_Period.f (j.1,(j.2.1,(j.2.2.1,j.2.2.2)))=some (j,j.2.1)from rfl,Option.bind_some]
 simp only
 rw[show((0:Nat):Int)=0 from rfl]at h1
 rw[h1,Option.bind_some]
 simp only
 rw[h4,Option.bind_some,Option.bind_some]
def zn8(j:Jn)(n:Nat):Int:=if n=0 then 0 else(j.1.getD (n - 1) ((0,[]),0)).2
theorem Upto_f{j:Jn}(h:JOk j){n:Nat}(hn:n≤j.1.length):replay_Upto.f j (n:Int)=some (j,resL (zn8 j n) (j.1.take n)):=by
 obtain⟨G,h1,h2,h3⟩:=zrc (op:=zn8 j n) (kd:=0) (now:=false) (j:=j) (n:=n) hn h.len h.legs n 0 [] (by omega) (zsk _ _ _)
 have hl:=h.len
 simp only[List.length_nil,Nat.zero_add]at h3
 have h4:=rows_f h2 (by omega) (fun q hq=>by have:=h.rng n q hq;omega)
 have hat: ∃y e,journal_Journal_At.f (j.1,(j.2.1,(j.2.2.1,j.2.2.2))) (IntKind.i64.wrap ((n:Int) - 1))=some (j,(y,zn8 j n,e)):=by
  rw[wr _ (by omega) (by omega)]
  unfold zn8
  by_cases h0:n=0
  ·rw[if_pos h0,h0]
   refine⟨(0,[]),7,?_⟩
   unfold journal_Journal_At.f
   rfl
  ·have hi:n - 1<j.1.length:=by omega
   have:=At_ok hi (by have:=h.legs _ (List.getElem_mem hi);omega)
   rw[if_neg h0,at_n _ _ hi,show((n:Int) - 1)=((n - 1:Nat):Int)by omega,this]
   exact⟨_,_,rfl⟩
 obtain⟨y,e,hat⟩:=hat
 unfold replay_Upto.f
 rw[show decide ((n:Int)<0)=false by simp,Bool.not_false,cond_true,show journal_Journal_Len.f (j.1,(j.2.1,(j.2.2.1,j.2.2.2)))=some (j,(j.1.length:Int))from rfl,Option.bind_some]
 simp only
 rw[show decide ((n:Int)>(j.1.length:Int))=false from decide_eq_false (by omega),Option.bind_some]
 simp only
 rw[cond_false,hat,Option.bind_some]
 simp only
 rw[show((0:Nat):Int)=0 from rfl]at h1
 rw[h1,Option.bind_some]
 simp only
 rw[h4,Option.bind_some,Option.bind_some]
theorem sameR{A:Int→FA}{As:List FA}(hl:As.length=33)(hA: ∀q:Int,1≤q∧q≤32→As.getD q.toNat V0=A q):purserlaw28_same.f (zez A nodes32) As=some true:=by
 have h32:nodes32.length=32:=by decide
 have hloop:zac (purserlaw28_same.l1 (zez A nodes32) As) (0,1)=some (.inr ((zez A nodes32).length:Int)):=by
  refine zc5 (fun i=>(((zez A (nodes32.take i)).length:Int),(((i+1:Nat):Nat):Int))) 32 rfl (fun i hi=> ?_) ?_
  ·have hil:i<nodes32.length:=by omega
   obtain⟨n,hn⟩: ∃n,n=(((i+1:Nat):Nat):Int):=⟨_,rfl⟩
   have hni:nodes32[i]'hil=n:=by
    rw[zyk i hi];omega
   have hnr:1≤n∧n≤32:=by omega
   have hat:=hA n hnr
   have hsplit:zez A nodes32=zez A (nodes32.take i)++(if A n=V0 then []else [(n,A n)])++zez A (nodes32.drop (i+1)):=by
    have e:nodes32=nodes32.take i++n::nodes32.drop (i+1):=by
     rw[←hni,←List.drop_eq_getElem_cons hil,List.take_append_drop]
    conv=>lhs;rw[e]
    unfold zez
    rw[List.filter_append,List.map_append,List.filter_cons]
    by_cases hz:A n=V0
    ·rw[if_pos hz,if_neg (by simp[hz]),List.append_nil]
    ·rw[if_neg hz,if_pos (by simp[hz]),List.map_cons,List.append_assoc];rfl
   have hst:zez A (nodes32.take (i+1))=zez A (nodes32.take i)++(if A n=V0 then []else [(n,A n)]):=by
    rw[zcc nodes32 i hil,hni]
    unfold zez
    rw[List.filter_append,List.map_append]
    by_cases hz:A n=V0
    ·rw[if_pos hz];simp[hz]
    ·rw[if_neg hz];simp[hz]
   have hle:=zri A (nodes32.take i)
   rw[List.length_take]at hle
   have hw:IntKind.i64.wrap (n+1)=((((i+1)+1:Nat):Nat):Int):=by rw[hn];exact wrS (i+1) (by omega)
   unfold purserlaw28_same.l1
   simp only
   rw[←hn,decide_eq_true hnr.2,cond_true,decide_eq_true (show(0:Int)≤n by omega),decide_eq_true (show n<33 by omega),Bool.and_self,cond_true]
   simp only[zgs hl]
   rw[hat,zue,hst]
   by_cases hz:A n=V0
   ·rw[decide_eq_true hz,cond_true,if_pos hz,List.append_nil,Option.bind_some]
    simp only
    rw[hw]
   ·rw[if_neg hz]at hsplit
    rw[decide_eq_false hz,cond_false,if_neg hz]
    have hlt:(zez A (nodes32.take i)).length< (zez A nodes32).length:=by rw[hsplit];simp
    have hg:(zez A nodes32).getD (((zez A (nodes32.take i)).length:Int)).toNat (0,V0)=(n,A n):=by
     rw[at_ _ _ hlt]
     have: ∀(l1 l3:List Rw) (x:Rw) (l:List Rw) (e:l=l1++ [x]++l3) (h:l1.length<l.length),l[l1.length]=x:=by
      intro l1 l3 x l e h
      subst e
      simp
     exact this _ _ _ _ hsplit hlt
    rw[show decide (((zez A (nodes32.take i)).length:Int)≥((zez A nodes32).length:Int))=false from decide_eq_false (by omega),Bool.not_false,cond_true,nn,ilt hlt,Bool.and_self,cond_true]
    simp only[hg]
    rw[show(n !=n)=false by simp,Bool.not_false,cond_true,cond_true]
    simp only[beq_self_eq_true,Bool.and_self,Bool.not_true,Option.bind_some,cond_false]
    rw[hw,wrS _ (by omega)]
    simp
  ·unfold purserlaw28_same.l1
   simp only
   rw[show decide ((((32+1:Nat):Nat):Int)≤32)=false from rfl,cond_false,List.take_of_length_le (by omega)]
 unfold purserlaw28_same.f
 rw[hloop,Option.bind_some]
 simp
/-! ### what is held against them -/
def asA(A:Int→FA)(i:Nat):List FA:=(List.range i).foldl (fun(As:List FA) (k:Nat)=>As.set (k+1) (A ((k:Int)+1))) (List.replicate 33 V0)
theorem zo3(A:Int→FA)(i:Nat):asA A (i+1)=(asA A i).set (i+1) (A ((i:Int)+1)):=by
 unfold asA
 rw[List.range_succ,List.foldl_append]
 rfl
theorem zfk(A:Int→FA): ∀i,(asA A i).length=33
 |0=>rfl
 |i+1=>by rw[zo3,List.length_set];exact zfk A i
theorem zra(A:Int→FA)(q:Nat)(hq:q<33): ∀i,(asA A i).getD q V0=if 1≤q∧q≤i then A (q:Int)else V0
 |0=>by
  rw[if_neg (by omega),show asA A 0=List.replicate 33 V0 from rfl,at_n _ _ (by rw[List.length_replicate];exact hq),List.getElem_replicate]
 |i+1=>by
  have e:(asA A i)[q]?.getD V0=if 1≤q∧q≤i then A (q:Int)else V0:=by rw[←List.getD_eq_getElem?_getD];exact zra A q hq i
  rw[zo3,List.getD_eq_getElem?_getD,List.getElem?_set]
  by_cases h:i+1=q
  ·subst h
   rw[if_pos rfl,if_pos (by rw[zfk];omega),if_pos (by omega)]
   rfl
  ·rw[if_neg h,e]
   by_cases h2:1≤q∧q≤i
   ·rw[if_pos h2,if_pos (by omega)]
   ·rw[if_neg h2,if_neg (by omega)]
theorem zwd{j:Jn}(h:JOk j){n:Nat}(hn:n≤j.1.length)(op:Int)(b:Bool)(hb:b=false→n=j.1.length∧op=j.2.1)(hb2:b=true→op=zn8 j n):
  purserlaw28_held.f j (zky j.1) (zje j.1) (n:Int) op b=some ((j,()),true):=by
 obtain⟨A,hA⟩: ∃A:Int→FA,A=fun q=>zdp (zlb q op (j.1.take n)):=⟨_,rfl⟩
 have hdoc: ∀q,purserref28_Account.f (zky (j.1.take n)) (zje (j.1.take n)) op q=some (A q):=fun q=>by
  rw[hA]
  exact doc_acc (j.1.take n) op q (fun x hx=>by have:=h.legs x (List.mem_of_mem_take hx);omega) (by rw[List.length_take];have:=h.len;omega)
 have hA5: ∀q,¬(0≤q∧q≤4)→A q=V0:=fun q hq=>by
  rw[hA]
  show zdp (zlb q op (j.1.take n))=V0
  rw[zxf (by cases hc:zle q (j.1.take n)with|false=>rfl|true=>exact absurd (h.rng n q hc) hq),zwh]
 have hl1:(zky j.1).length=j.1.length:=by unfold zky;rw[List.length_map]
 have hl2:(zje j.1).length=j.1.length:=by unfold zje;rw[List.length_map]
 have hloop:zac (purserlaw28_held.l1 (zky j.1) (zje j.1) (n:Int) op) (false,1,(List.replicate 33 V0))=some (!((List.range 4).all fun k=>rgB (A ((k:Int)+1))),asA A 4):=by
  refine zc5 (fun i=>(!((List.range i).all fun k=>rgB (A ((k:Int)+1))),(((i+1:Nat):Nat):Int),asA A i)) 4 rfl (fun i hi=> ?_) ?_
  ·have t1:((zky j.1).take ((n:Int)).toNat).drop (0:Int).toNat=zky (j.1.take n):=by
    rw[Int.toNat_natCast,show(0:Int).toNat=0 from rfl,List.drop_zero];unfold zky;rw[List.map_take]
   have t2:((zje j.1).take ((n:Int)).toNat).drop (0:Int).toNat=zje (j.1.take n):=by
    rw[Int.toNat_natCast,show(0:Int).toNat=0 from rfl,List.drop_zero];unfold zje;rw[List.map_take]
   unfold purserlaw28_held.l1
   simp only
   rw[decide_eq_true (show(((i+1:Nat):Nat):Int)≤4 by omega),cond_true,hl1,hl2,show decide ((0:Int)≤0)=true from rfl,nn,decide_eq_true (show(n:Int)≤(j.1.length:Int)by omega),Bool.and_self,Bool.and_self,cond_true,cond_true,t1,t2,hdoc,Option.bind_some,nn,decide_eq_true (show(((i+1:Nat):Nat):Int)<33 by omega),Bool.and_self,cond_true,cond_true]
   rw[zgs (zfk A i),Int.toNat_natCast]
   have hset:(asA A i).set (i+1) (A (((i+1:Nat):Nat):Int))=asA A (i+1):=by rw[zo3];rfl
   have hset':(asA A i).set (i+1) ((A (((i+1:Nat):Nat):Int)).1,((A (((i+1:Nat):Nat):Int)).2.1,((A (((i+1:Nat):Nat):Int)).2.2.1,((A (((i+1:Nat):Nat):Int)).2.2.2.1,(A (((i+1:Nat):Nat):Int)).2.2.2.2))))=asA A (i+1):=hset
   rw[hset',zgs (zfk A (i+1))]
   have hgt:(asA A (i+1)).getD (i+1) V0=A (((i+1:Nat):Nat):Int):=by rw[zra A (i+1) (by omega),if_pos (by omega)]
   rw[hgt]
   have hrt:purserref14_Account_Right.f ((A (((i+1:Nat):Nat):Int)).1,((A (((i+1:Nat):Nat):Int)).2.1,((A (((i+1:Nat):Nat):Int)).2.2.1,((A (((i+1:Nat):Nat):Int)).2.2.2.1,(A (((i+1:Nat):Nat):Int)).2.2.2.2))))=_:=zy3 (A (((i+1:Nat):Nat):Int))
   rw[hrt,Option.bind_some,List.range_succ,List.all_append]
   rw[wrS (i+1) (by omega)]
   simp only[List.all_cons,List.all_nil,Bool.and_true]
   rw[show((i:Int)+1)=(((i+1:Nat):Nat):Int)by omega]
   cases (List.range i).all (fun k=>rgB (A ((k:Int)+1)))<;>rfl
  ·unfold purserlaw28_held.l1
   simp only
   rw[show decide ((((4+1:Nat):Nat):Int)≤4)=false from rfl,cond_false,zgs (zfk A 4)]
 have hall:nodes32.all (fun q=>rgB (A q))=(List.range 4).all (fun k=>rgB (A ((k:Int)+1))):=by
  rw[Bool.eq_iff_iff,List.all_eq_true,List.all_eq_true]
  constructor
  ·intro hh k hk
   rw[List.mem_range]at hk
   exact hh _ ((zd7 _).2 (by omega))
  ·intro hh q hq
   have hq:=(zd7 q).1 hq
   by_cases h4:q≤4
   ·have:=hh (q - 1).toNat (by rw[List.mem_range];omega)
    rw[show(((q - 1).toNat:Int)+1)=q by omega]at this
    exact this
   ·rw[hA5 q (by omega)];exact rgB_0
 have hsame:=sameR (A:=A) (zfk A 4) (fun q hq=>by
  rw[zra A q.toNat (by omega),show((q.toNat:Nat):Int)=q by omega]
  by_cases h4:q≤4
  ·rw[if_pos (by omega)]
  ·rw[if_neg (by omega),hA5 q (by omega)])
 have hres:resL op (j.1.take n)=bif (List.range 4).all (fun k=>rgB (A ((k:Int)+1)))then(zez A nodes32,0)else([],20):=by
  unfold resL
  rw[←hall,hA]
 have hR:=Rows_f h
 have hU:=Upto_f h hn
 unfold purserlaw28_held.f
 rw[hloop,Option.bind_some,show replay_Rows.f (j.1,(j.2.1,(j.2.2.1,j.2.2.2)))=_ from hR,Option.bind_some]
 simp only
 cases b with
 |true=>
  have ho:=hb2 rfl
  rw[←ho,hres]at hU
  rw[cond_true,show replay_Upto.f (j.1,(j.2.1,(j.2.2.1,j.2.2.2))) (n:Int)=_ from hU,Option.bind_some]
  cases (List.range 4).all (fun k=>rgB (A ((k:Int)+1)))with
  |true=>
   simp only[Bool.not_true,cond_false,cond_true,beq_self_eq_true]
   rw[zgs (zfk A 4),hsame]
   rfl
  |false=>rfl
 |false=>
  obtain⟨h1,h2⟩:=hb rfl
  rw[cond_false]
  rw[h1,List.take_length,h2]at hres
  rw[hres]
  cases (List.range 4).all (fun k=>rgB (A ((k:Int)+1)))with
  |true=>
   simp only[Bool.not_true,cond_false,cond_true,beq_self_eq_true]
   rw[zgs (zfk A 4),hsame]
   rfl
  |false=>rfl
end Go.Proofs.YtniohchnpfpffaaGreat.Pure
