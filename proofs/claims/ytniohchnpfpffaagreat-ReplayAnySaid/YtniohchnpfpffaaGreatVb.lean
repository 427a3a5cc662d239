/- Plain laws: nodes' accounts made of entries: the document's,and the program's rows. No statement of its own. -/
import Derived.Test.YtniohchnpfpffaaGreatVa
set_option linter.unusedSimpArgs false
set_option linter.unusedVariables false
namespace Go.Proofs.YtniohchnpfpffaaGreat.Pure
open Go.Vk Go.Am Go.Pg Go.Sort Go.Proofs.YtniohchnpfpffaaGreat.Y
/-! ### the document's account -/
def zky(l:List Pn):List (Int×List zcj):=l.map fun x=>(x.1.1,x.1.2.map frL)
def zje(l:List Pn):List Int:=l.map fun x=>x.2
theorem zwr(l:List Pn)(op q:Int)(i:Nat)(hi:i<l.length)(hl:l[i].1.2.length≤1000000)(s:SA):
  zac (purserref28_Account.l2 (zky l) (zje l) op q (s.1,(i:Int),s.2)) (s.1,0,s.2)=some (zz4 q op s l[i]):=by
 have e0:(zky l).getD ((i:Int)).toNat ((0,[]):Int×List zcj)=(l[i].1.1,l[i].1.2.map frL):=by
  unfold zky
  rw[at_ _ i (by rw[List.length_map];exact hi),List.getElem_map]
 have e1:(zje l).getD ((i:Int)).toNat (0:Int)=l[i].2:=by
  unfold zje
  rw[at_ _ i (by rw[List.length_map];exact hi),List.getElem_map]
 have n0:((zky l).length:Int)=(l.length:Int):=by unfold zky;rw[List.length_map]
 have n1:((zje l).length:Int)=(l.length:Int):=by unfold zje;rw[List.length_map]
 obtain⟨x,hx⟩: ∃x,x=l[i]:=⟨_,rfl⟩
 rw[←hx]at e0 e1 hl⊢
 obtain⟨⟨kd,ls⟩,at_'⟩:=x
 simp only at e0 e1 hl
 refine zc5 (fun k=>(((ls.take k).foldl (zo7 q kd (at_'==op)) s).1,(k:Int),((ls.take k).foldl (zo7 q kd (at_'==op)) s).2)) ls.length rfl (fun k hk=> ?_) ?_
 ·have ht:(ls.take (k+1)).foldl (zo7 q kd (at_'==op)) s=zo7 q kd (at_'==op) ((ls.take k).foldl (zo7 q kd (at_'==op)) s) ls[k]:=by
   rw[zcc ls k hk,List.foldl_append];rfl
  rw[ht]
  generalize (ls.take k).foldl (zo7 q kd (at_'==op)) s=t
  have e2:(ls.map frL).getD ((k:Int)).toNat ((0,(0,(0,0))):zcj)=frL ls[k]:=by
   rw[at_ _ k (by rw[List.length_map];exact hk),List.getElem_map]
  obtain⟨g,hg⟩: ∃g,g=ls[k]:=⟨_,rfl⟩
  rw[←hg]at e2⊢
  unfold purserref28_Account.l2
  simp only
  rw[n0,n1,ilt hi,nn,Bool.and_self,cond_true]
  simp only[e0,e1]
  rw[List.length_map,ilt hk,nn,Bool.and_self]
  simp only[e2,cond_true,frL]
  rw[wrS k (by omega)]
  unfold zo7
  by_cases hq:g.1.2.1=q
  ·rw[if_pos hq,show(g.1.2.1 !=q)=false by simp[hq],cond_false]
   unfold stpS
   generalize (at_'==op)=now
   generalize (kd==1)=b1
   cases h2:(g.1.1==2)<;>cases h3:(g.1.1==3)<;>cases h4:(g.1.1==4)<;>cases h5:(g.1.1==5)<;>cases now<;>cases b1<;>rfl
  ·rw[if_neg hq,show(g.1.2.1 !=q)=true by simp[hq]]
   rfl
 ·rw[List.take_length]
  unfold purserref28_Account.l2
  simp only
  rw[n0,ilt hi,nn,Bool.and_self,cond_true]
  simp only[e0]
  rw[List.length_map,ige,cond_false]
  rfl
theorem doc_acc(l:List Pn)(op q:Int)(hl: ∀x∈l,x.1.2.length≤1000000)(hn:l.length≤1000000):purserref28_Account.f (zky l) (zje l) op q=some (zdp (zlb q op l)):=by
 have n0:((zky l).length:Int)=(l.length:Int):=by unfold zky;rw[List.length_map]
 have h:zac (purserref28_Account.l1 (zky l) (zje l) op q) (0,0,V0)=some (zlb q op l):=by
  refine zc5 (fun i=>(((l.take i).foldl (zz4 q op) Z0).1,(i:Int),((l.take i).foldl (zz4 q op) Z0).2)) l.length rfl (fun i hi=> ?_) ?_
  ·have ht:(l.take (i+1)).foldl (zz4 q op) Z0=zz4 q op ((l.take i).foldl (zz4 q op) Z0) l[i]:=by
    rw[zcc l i hi,List.foldl_append];rfl
   rw[ht]
   generalize (l.take i).foldl (zz4 q op) Z0=t
   have hin:=zwr l op q i hi (hl _ (List.getElem_mem hi)) t
   unfold purserref28_Account.l1
   simp only
   rw[n0,ilt hi,cond_true,show zac (purserref28_Account.l2 (zky l) (zje l) op q (t.1,(i:Int),t.2)) (t.1,0,(t.2.1,(t.2.2.1,(t.2.2.2.1,(t.2.2.2.2.1,t.2.2.2.2.2)))))=_ from hin,Option.bind_some,wrS i (by omega)]
  ·rw[List.take_length]
   unfold purserref28_Account.l1
   simp only
   rw[n0,ige,cond_false]
   rfl
 unfold purserref28_Account.f
 rw[h,Option.bind_some]
 rfl
/-! ### is it right? -/
def inB(x:Int):Bool:=decide (x≥0) && decide (x≤9007199254740992)
def lwA(a:FA):Int:=Wx ((Wx ((Wx ((Wx (a.1+a.2.1)) - a.2.2.1)) - a.2.2.2.1)) - a.2.2.2.2)
def rgB(a:FA):Bool:=(inB a.1 && (inB a.2.1 && (inB a.2.2.1 && (inB a.2.2.2.1 && inB a.2.2.2.2)))) && (decide (Wx (a.1+a.2.1)≤9007199254740992) && decide (lwA a≥0))
theorem zmz(x:Int):funds_within.f x=some (inB x):=by
 unfold funds_within.f inB
 cases decide (x≥0)<;>rfl
theorem in_b(x:Int):purserref14_in.f x=some (inB x):=zmz x
theorem right_b(a:FA):funds_Account_right.f a=some (rgB a):=by
 have key: ∀d i:Nat,i+d=5→zac (funds_Account_right.l1 a) (i:Int)=some (bif (([a.1,a.2.1,a.2.2.1,a.2.2.2.1,a.2.2.2.2]:List Int).drop i).all inB then .inr ()else .inl false):=by
  intro d
  induction d with
  |zero=>
   intro i hi
   obtain rfl:i=5:=by omega
   rw[zae]
   rfl
  |succ d ih=>
   intro i hi
   have hi5:i< ([a.1,a.2.1,a.2.2.1,a.2.2.2.1,a.2.2.2.2]:List Int).length:=by simp;omega
   have hst:funds_Account_right.l1 a (i:Int)=if inB ([a.1,a.2.1,a.2.2.1,a.2.2.2.1,a.2.2.2.2]:List Int)[i]=true then some (.inl (((i+1:Nat):Nat):Int))else some (.inr (.inl false)):=by
    unfold funds_Account_right.l1
    rw[ilt hi5,nn,Bool.and_self,cond_true,cond_true,at_ _ i hi5,zmz,Option.bind_some,wrS i (by omega)]
    cases inB ([a.1,a.2.1,a.2.2.1,a.2.2.2.1,a.2.2.2.2]:List Int)[i]<;>rfl
   rw[zae,hst,List.drop_eq_getElem_cons hi5,List.all_cons]
   by_cases hb:inB ([a.1,a.2.1,a.2.2.1,a.2.2.2.1,a.2.2.2.2]:List Int)[i]=true
   ·rw[if_pos hb,hb,Bool.true_and];exact ih (i+1) (by omega)
   ·have hf:inB ([a.1,a.2.1,a.2.2.1,a.2.2.2.1,a.2.2.2.2]:List Int)[i]=false:=by simpa using hb
    rw[if_neg hb,hf,Bool.false_and];rfl
 have h:=key 5 0 rfl
 rw[List.drop_zero,show((0:Nat):Int)=0 from rfl]at h
 have hall:([a.1,a.2.1,a.2.2.1,a.2.2.2.1,a.2.2.2.2]:List Int).all inB=(inB a.1 && (inB a.2.1 && (inB a.2.2.1 && (inB a.2.2.2.1 && inB a.2.2.2.2)))):=by simp[List.all_cons]
 unfold funds_Account_right.f
 rw[h,Option.bind_some,hall]
 unfold rgB
 cases hb:(inB a.1 && (inB a.2.1 && (inB a.2.2.1 && (inB a.2.2.2.1 && inB a.2.2.2.2))))with
 |false=>rfl
 |true=>
  rw[cond_true,Bool.true_and]
  simp only
  rw[zmz,Option.bind_some]
  simp only[Bool.and_eq_true]at hb
  have h1:=hb.1
  have h2:=hb.2.1
  unfold inB at h1 h2
  simp only[Bool.and_eq_true,decide_eq_true_eq]at h1 h2
  have hw:Wx (a.1+a.2.1)=a.1+a.2.1:=wr _ (by omega) (by omega)
  have hin:inB (Wx (a.1+a.2.1))=decide (Wx (a.1+a.2.1)≤9007199254740992):=by
   unfold inB
   rw[decide_eq_true (show Wx (a.1+a.2.1)≥0 by rw[hw];omega),Bool.true_and]
  rw[show IntKind.i64.wrap (a.1+a.2.1)=Wx (a.1+a.2.1)from rfl,hin]
  cases decide (Wx (a.1+a.2.1)≤9007199254740992)<;>rfl
theorem zy3(a:FA):purserref14_Account_Right.f a=some (rgB a):=by
 unfold purserref14_Account_Right.f rgB
 simp only[in_b,Option.bind_some]
 cases inB a.1 with
 |false=>rfl
 |true=>
  cases inB a.2.1 with
  |false=>rfl
  |true=>
   cases inB a.2.2.1 with
   |false=>rfl
   |true=>
    cases inB a.2.2.2.1 with
    |false=>rfl
    |true=>
     cases inB a.2.2.2.2 with
     |false=>rfl
     |true=>
      cases h:decide (Wx (a.1+a.2.1)≤9007199254740992)with
      |false=>rfl
      |true=>rfl
theorem rgB_0:rgB V0=true:=by decide
theorem zwh:zdp Z0=V0:=by decide
theorem zue(a:FA):((a.1==0) && ((a.2.1==0) && ((a.2.2.1==0) && ((a.2.2.2.1==0) && ((a.2.2.2.2==0) && true)))))=decide (a=V0):=by
 obtain⟨a,b,c,d,e⟩:=a
 rw[Bool.eq_iff_iff]
 simp[V0]
/-! ### the program's rows -/
theorem zuz{l1 kk ks:List Int}(hp:l1.Perm kk)(hn:kk.Nodup)(hm: ∀k,k∈kk↔k∈ks)(hs:ks.Pairwise (fun a b=>a≤b))(hk:ks.Nodup):(List.mergeSort (l1:List Int) fun x y=>decide (x≤y))=ks:=by
 have hperm:(List.mergeSort (l1:List Int) fun x y=>decide (x≤y)).Perm ks:=((List.mergeSort_perm _ _).trans hp).trans ((List.perm_ext_iff_of_nodup hn hk).2 hm)
 have hs1:(List.mergeSort (l1:List Int) fun x y=>decide (x≤y)).Pairwise (fun a b:Int=>a≤b):=by
  have:=List.pairwise_mergeSort (le:=fun x y:Int=>decide (x≤y)) (fun a b c h1 h2=>by simp at*;omega) (fun a b=>by simp;omega) l1
  exact this.imp (fun h=>by simpa using h)
 exact List.Perm.eq_of_pairwise (le:=fun a b:Int=>a≤b) (fun a b _ _ h1 h2=>by omega) hs1 hs hperm
abbrev Rw:=Int×FA
def zez(A:Int→FA)(l:List Int):List Rw:=(l.filter fun q=>decide (A q≠V0)).map fun q=>(q,A q)
theorem zri(A:Int→FA)(l:List Int):(zez A l).length≤l.length:=by
 unfold zez;rw[List.length_map];exact List.length_filter_le _ _
theorem zos{S:Int→SA}{G:GS}{ks l2:List Int}(hs:(List.mergeSort (l2:List Int) fun x y=>decide (x≤y))=ks)(hk: ∀k∈ks,(1≤k∧k≤32)∧zc9 KI G k=some (S k))(hlen:ks.length≤1000): ∀(d i:Nat) (B:FB),i+d=ks.length→
  ((∃k∈ks.drop i,rgB (zdp (S k))=false)∧∃B',zac (replay_replay_rows.l3 l2) (zez (fun q=>zdp (S q)) (ks.take i),(i:Int),G,(),B)=some (.inl ([],20,G,(),B')))∨
  ((∀k∈ks.drop i,rgB (zdp (S k))=true)∧∃B',zac (replay_replay_rows.l3 l2) (zez (fun q=>zdp (S q)) (ks.take i),(i:Int),G,(),B)=some (.inr (zez (fun q=>zdp (S q)) ks,G,(),B')))
 |0,i,B,h=>by
  right
  refine⟨fun k hk=>by rw[show i=ks.length by omega,List.drop_length]at hk;simp at hk,B,?_⟩
  have he:replay_replay_rows.l3 l2 (zez (fun q=>zdp (S q)) ks,(ks.length:Int),G,(),B)=some (.inr (.inr (zez (fun q=>zdp (S q)) ks,G,(),B))):=by
   unfold replay_replay_rows.l3
   simp only
   rw[hs,ige,cond_false]
  rw[show i=ks.length by omega,List.take_length,zae,he]
  rfl
 |d+1,i,B,h=>by
  have hi:i<ks.length:=by omega
  obtain⟨hr,hg⟩:=hk _ (List.getElem_mem hi)
  obtain⟨y,hy⟩: ∃y,y=S ks[i]:=⟨_,rfl⟩
  rw[←hy]at hg
  have hset:=Set_b B hr (right_b (zdp y))
  have hsame:ziz (zc8 KI G ks[i]) (y.1,(y.2.1,(y.2.2.1,(y.2.2.2.1,(y.2.2.2.2.1,y.2.2.2.2.2))))) G=G:=by
   rw[show(y.1,(y.2.1,(y.2.2.1,(y.2.2.2.1,(y.2.2.2.2.1,y.2.2.2.2.2)))))=y from rfl,zj3 G _ y y hg,zkj G _ y hg]
  have hst:replay_replay_rows.l3 l2 (zez (fun q=>zdp (S q)) (ks.take i),(i:Int),G,(),B)=if rgB (zdp y)=true then some (.inl (zez (fun q=>zdp (S q)) (ks.take (i+1)),(((i+1:Nat):Nat):Int),G,(),setA B ks[i] (zdp y)))else some (.inr (.inl ([],20,G,(),B))):=by
   unfold replay_replay_rows.l3
   simp only
   rw[hs,ilt hi,nn,Bool.and_self,cond_true,cond_true,at_ ks i hi,hg]
   simp only[zlk]
   rw[hsame]
   have hset':funds_Book_Set.f B ks[i] ((zdp y).1,((zdp y).2.1,((zdp y).2.2.1,((zdp y).2.2.2.1,(zdp y).2.2.2.2))))=_:=hset
   by_cases hb:rgB (zdp y)=true
   ·rw[if_pos hb,if_pos hb]at hset'
    rw[if_pos hb]
    erw[hset']
    rw[Option.bind_some]
    simp only
    rw[bne_self_eq_false,cond_false]
    have hz:=zue (zdp y)
    erw[hz]
    have htk:zez (fun q=>zdp (S q)) (ks.take (i+1))=if zdp y=V0 then zez (fun q=>zdp (S q)) (ks.take i)else zez (fun q=>zdp (S q)) (ks.take i)++ [(ks[i],zdp y)]:=by
     unfold zez
     rw[zcc ks i hi,List.filter_append,List.map_append]
     by_cases hz:zdp y=V0
     ·rw[if_pos hz];simp[←hy,hz]
     ·rw[if_neg hz];simp[←hy,hz]
    rw[htk,wrS i (by omega)]
    by_cases hz:zdp y=V0
    ·rw[if_pos hz,decide_eq_true hz];rfl
    ·have hl:=zri (fun q=>zdp (S q)) (ks.take i)
     rw[List.length_take]at hl
     rw[if_neg hz,decide_eq_false hz,Bool.not_false,cond_true,decide_eq_true (by simp only[List.length_singleton];omega),cond_true]
     rfl
   ·rw[if_neg hb,if_neg hb]at hset'
    rw[if_neg hb]
    erw[hset']
    rfl
  rw[zae,hst]
  by_cases hb:rgB (zdp y)=true
  ·rw[if_pos hb]
   rcases zos hs hk hlen d (i+1) (setA B ks[i] (zdp y)) (by omega)with⟨⟨k,hk1,hk2⟩,B',h2⟩|⟨h1,B',h2⟩
   ·exact .inl ⟨⟨k,by rw[List.drop_eq_getElem_cons hi];exact List.mem_cons_of_mem _ hk1,hk2⟩,B',h2⟩
   ·refine .inr ⟨fun k hk'=> ?_,B',h2⟩
    rw[List.drop_eq_getElem_cons hi]at hk'
    rcases List.mem_cons.1 hk' with rfl|hk'
    ·rw[←hy];exact hb
    ·exact h1 k hk'
  ·rw[if_neg hb]
   left
   refine⟨⟨ks[i],by rw[List.drop_eq_getElem_cons hi];exact List.mem_cons_self,by rw[←hy];simpa using hb⟩,B,rfl⟩
def resL(op:Int)(l:List Pn):List Rw×Int:=bif nodes32.all (fun q=>rgB (zdp (zlb q op l)))then(zez (fun q=>zdp (zlb q op l)) nodes32,0)else([],20)
theorem zxf{op q:Int}{l:List Pn}(h:zle q l=false):zlb q op l=Z0:=zsh h
theorem rows_f{op kd:Int}{now:Bool}{l:List Pn}{G:GS}(h:GRel op l kd now [] G)(hlen:G.length≤1000000)(hn: ∀q,zle q l=true→0≤q∧q≤32):replay_replay_rows.f (op,G)=some ((op,G),resL op l):=by
 have hget: ∀q:Int,zc9 KI G q=if q≠0∧zle q l=true then some (zlb q op l)else none:=fun q=>by
  have:=h.get q
  rw[show zsj q []=false from rfl,Bool.or_false]at this
  exact this
 have hmem: ∀k:Int,k∈zda (K:=KI) (V:=VS) G↔k∈nodes32.filter (fun q=>zle q l):=fun k=>by
  rw[←zgg (V:=VS) flatI,←zpj,hget,List.mem_filter,zd7]
  by_cases hk:k≠0∧zle k l=true
  ·rw[if_pos hk]
   have:=hn k hk.2
   simp[hk.2];omega
  ·rw[if_neg hk]
   simp only[Option.isSome_none,Bool.false_eq_true,false_iff]
   exact fun hc=>hk ⟨by omega,hc.2⟩
 obtain⟨ks,hks⟩: ∃ks,ks=nodes32.filter (fun q=>zle q l):=⟨_,rfl⟩
 rw[←hks]at hmem
 have hkl:ks.length≤32:=by
  have:=List.length_filter_le (fun q=>zle q l) nodes32
  rw[←hks]at this
  have h32:nodes32.length=32:=by decide
  omega
 have hA: ∀q,q∉ks→(1≤q∧q≤32)→zlb q op l=Z0:=fun q hq hr=>by
  refine zxf ?_
  cases hc:zle q l with
  |false=>rfl
  |true=>exact absurd (by rw[hks,List.mem_filter,zd7];exact⟨hr,hc⟩) hq
 have hkk: ∀k∈ks,(1≤k∧k≤32)∧zc9 KI G k=some (zlb k op l):=fun k hk=>by
  rw[hks,List.mem_filter,zd7]at hk
  exact⟨hk.1,by rw[hget,if_pos ⟨by omega,hk.2⟩]⟩
 have hres: ∀(l2:List Int),l2.Perm (zda (K:=KI) (V:=VS) G)→∃B',zac (replay_replay_rows.l3 l2) ([],0,G,(),([]:FB))=some (if(resL op l).2=20 then .inl ([],20,G,(),B')else .inr ((resL op l).1,G,(),B'))∧((resL op l).2=20∧(resL op l).1= []∨(resL op l).2=0):=fun l2 hl2=>by
  have hs:=zuz hl2 h.nod hmem (by rw[hks];exact nodes_sorted.filter _) (by rw[hks];exact nodes_nodup.filter _)
  have hall:nodes32.all (fun q=>rgB (zdp (zlb q op l)))=ks.all (fun q=>rgB (zdp (zlb q op l))):=by
   rw[Bool.eq_iff_iff,List.all_eq_true,List.all_eq_true]
   constructor
   ·intro hh k hk
    exact hh k ((zd7 k).2 (hkk k hk).1)
   ·intro hh k hk
    by_cases hm:k∈ks
    ·exact hh k hm
    ·rw[hA k hm ((zd7 k).1 hk),zwh];exact rgB_0
  rcases zos (S:=fun q=>zlb q op l) hs hkk (by omega) ks.length 0 [] (by omega)with⟨⟨k,hk,hk2⟩,B',h2⟩|⟨h1,B',h2⟩
  ·have hf:nodes32.all (fun q=>rgB (zdp (zlb q op l)))=false:=by
    rw[hall,List.all_eq_false]
    exact⟨k,List.mem_of_mem_drop hk,by simpa using hk2⟩
   refine⟨B',?_,.inl ?_⟩
   ·unfold resL
    rw[hf]
    exact h2
   ·unfold resL
    rw[hf]
    exact⟨rfl,rfl⟩
  ·have hf:nodes32.all (fun q=>rgB (zdp (zlb q op l)))=true:=by
    rw[hall,List.all_eq_true]
    intro k hk
    exact h1 k (by simpa using hk)
   have hrw:zez (fun q=>zdp (zlb q op l)) ks=zez (fun q=>zdp (zlb q op l)) nodes32:=by
    unfold zez
    rw[hks,List.filter_filter]
    congr 1
    refine List.filter_congr fun q hq=> ?_
    cases hc:zle q l with
    |true=>rw[Bool.and_true]
    |false=>
     show(_ && false)=decide (zdp (zlb q op l)≠V0)
     rw[zxf hc,zwh];simp
   refine⟨B',?_,.inr ?_⟩
   ·unfold resL
    rw[hf,←hrw]
    exact h2
   ·unfold resL
    rw[hf]
    rfl
 have hkeys:(zda (K:=KI) (V:=VS) G).length≤32:=by
  have:=((List.perm_ext_iff_of_nodup h.nod (by rw[hks];exact nodes_nodup.filter _)).2 hmem).length_eq
  omega
 unfold replay_replay_rows.f
 rw[show funds_New.f=some ([]:FB)from rfl,Option.bind_some]
 simp only
 rw[Nat.ble_eq_true_of_le (show G.length≤1099511627776 by omega),cond_true]
 refine zxe (x:=((op,G),resL op l)) fun l2 hl2=> ?_
 have hl2:l2.Perm (zda (K:=KI) (V:=VS) G):=hl2
 rw[Nat.ble_eq_true_of_le (show l2.length≤1099511627776 by have:=hl2.length_eq;omega),cond_true]
 obtain⟨B',h1,h2⟩:=hres l2 hl2
 rw[h1,Option.bind_some]
 rcases h2 with⟨h2,h3⟩|h2
 ·rw[if_pos h2]
  simp only
  rw[←h2,←h3]
 ·rw[if_neg (by omega)]
  simp only
  rw[←h2]
end Go.Proofs.YtniohchnpfpffaaGreat.Pure
