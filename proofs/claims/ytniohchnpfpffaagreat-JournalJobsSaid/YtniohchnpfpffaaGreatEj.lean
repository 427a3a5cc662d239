/- The plain law of EntryMakes: what the law computes is true,whatever the input. -/
import Derived.Test.YtniohchnpfpffaaGreatEh
set_option linter.unusedSimpArgs false
set_option linter.unusedVariables false
namespace Go.Proofs.YtniohchnpfpffaaGreat.Pure
open Go.Vk Go.Am Go.Pg Go.Sort Go.Proofs.YtniohchnpfpffaaGreat.Y
open Classical
/-! ### is a path bad? -/
def zeo(p:List Int)(i n:Nat):Bool:=(List.range n).any fun j=>p.getD i 0==p.getD j 0
def zix(p:List Int)(n:Nat):Bool:=(List.range n).any fun i=>zeo p i i
theorem zsm(n:Nat)(f:Nat→Bool):(List.range (n+1)).any f=((List.range n).any f||f n):=by
 rw[List.range_succ,List.any_append];simp
theorem l5_eq(p:List Int)(i:Nat)(hi:i<p.length)(hl:p.length≤64)(b0 b:Bool):zab (purserref07_Make.l5 p (b0,(i:Int))) (b,0)=some (b||zeo p i i):=by
 refine zb9 (s0:=(b,(0:Int))) (fun j=>(b||zeo p i j,(j:Int))) i (by simp[zeo]) ?_ ?_
 ·intro j hj
  unfold purserref07_Make.l5
  dsimp only
  have h1:decide ((j:Int)< (i:Int))=true:=ilt hj
  rw[h1,cond_true,wrS j (by omega)]
  have hs:(b||zeo p i (j+1))=((b||zeo p i j)||(p.getD i 0==p.getD j 0)):=by
   unfold zeo;rw[zsm,Bool.or_assoc]
  rw[hs]
  cases hb:(b||zeo p i j)with
  |true=>rfl
  |false=>
   rw[Bool.not_false,cond_true,nn,ilt hi,nn,ilt (show j<p.length by omega)]
   simp only[Bool.and_self,cond_true,Option.bind_some,Int.toNat_natCast,Bool.false_or]
 ·unfold purserref07_Make.l5
  dsimp only
  rw[show decide ((i:Int)< (i:Int))=false by simp,cond_false]
theorem l3_eq(p:List Int)(hl:p.length≤64)(b:Bool):zab (purserref07_Make.l3 p) (b,0)=some (b||zix p (min p.length 4)):=by
 refine zb9 (s0:=(b,(0:Int))) (fun i=>(b||zix p i,(i:Int))) (min p.length 4) (by simp[zix]) ?_ ?_
 ·intro i hi
  have h1:i<p.length:=by omega
  have h2:decide ((i:Int)<4)=true:=by simp;omega
  unfold purserref07_Make.l3
  dsimp only
  rw[ilt h1,cond_true,h2,Option.bind_some,cond_true,l5_eq p i h1 hl,Option.bind_some,wrS i (by omega)]
  have hs:(b||zix p (i+1))=((b||zix p i)||zeo p i i):=by
   unfold zix;rw[zsm,Bool.or_assoc]
  rw[hs]
 ·unfold purserref07_Make.l3
  dsimp only
  rcases Nat.lt_or_ge p.length 4 with h|h
  ·rw[Nat.min_eq_left (by omega),ige,cond_false,Option.bind_some,cond_false]
  ·rw[Nat.min_eq_right h]
   have h2:decide (((4:Nat):Int)<4)=false:=by decide
   cases h1:decide (((4:Nat):Int)< (p.length:Int))with
   |true=>rw[cond_true,h2,Option.bind_some,cond_false]
   |false=>rw[cond_false,Option.bind_some,cond_false]
theorem zpg: ∀(p:List Int),p.length≤3→zix p (min p.length 4)= !(decide p.Nodup)
 | [],_=>by simp[zix]
 | [x],_=>by simp[zix,zeo]
 | [x,y],_=>by
  simp[zix,zeo,List.range_succ]
  by_cases h:x=y
  ·subst h;simp
  ·have: ¬y=x:=fun e=>h e.symm
   simp[h,this]
 | [x,y,z],_=>by
  simp[zix,zeo,List.range_succ]
  by_cases h:x=y
  ·subst h;simp
  ·have h': ¬y=x:=fun e=>h e.symm
   by_cases h2:x=z
   ·subst h2;simp[h,h']
   ·have h2': ¬z=x:=fun e=>h2 e.symm
    by_cases h3:y=z
    ·subst h3;simp[h,h',h2,h2']
    ·have h3': ¬z=y:=fun e=>h3 e.symm
     simp[h,h',h2,h2',h3,h3']
 |x::y::z::w::l,h=>by simp at h
/-! ### insertion -/
noncomputable def zg0(x:zc3):List zc3→List zc3
 | []=> [x]
 |y::A=>if ltA (toL x).1 (toL y).1 then y::zg0 x A else x::y::A
theorem set_at{α:Type}(A:List α)(a z:α)(B:List α):(A++a::B).set A.length z=A++z::B:=by
 induction A with
 |nil=>rfl
 |cons x A ih=>simp[ih]
theorem zxv{α:Type}(A:List α)(a b z:α)(B:List α):(A++a::b::B).set (A.length+1) z=A++a::z::B:=by
 induction A with
 |nil=>rfl
 |cons x A ih=>simp[ih]
theorem zs2(x:zc3): ∀(A B:List zc3),A.length+B.length+1≤1099511627776→zab (purserref07_Make.l14 x) ((A.length:Int),A.reverse++x::B)=some ((zg0 x A).reverse++B)
 | [],B,hl=>by
  rw[zaf]
  unfold purserref07_Make.l14
  rfl
 |y::A,B,hl=>by
  rw[List.length_cons]at hl
  rw[zaf]
  have e0:(y::A).reverse++x::B=A.reverse++y::x::B:=by simp
  have hlen:(A.reverse++y::x::B).length=A.length+B.length+2:=by simp only[List.length_append,List.length_reverse,List.length_cons];omega
  have d1:decide ((((y::A).length:Nat):Int)>0)=true:=by simp
  have w1:IntKind.i64.wrap ((((y::A).length:Nat):Int) - 1)=(A.length:Int):=by rw[List.length_cons,wr _ (by omega) (by omega)];omega
  have d2:decide ((A.length:Int)< ((A.reverse++y::x::B).length:Int))=true:=decide_eq_true (by rw[hlen];omega)
  have g1:(A.reverse++y::x::B).getD ((A.length:Int)).toNat (0,(0,(0,0)))=y:=by
   have:=zdh A.reverse y (x::B) ((0,(0,(0,0))):zc3)
   rwa[List.length_reverse]at this
  have t1:((((y::A).length:Nat):Int)).toNat=A.reverse.length+1:=by simp
  have t2:((A.length:Int)).toNat=A.reverse.length:=by simp
  have s1:(A.reverse++y::x::B).set (A.reverse.length+1) y=A.reverse++y::y::B:=zxv _ _ _ _ _
  have s2:(A.reverse++y::y::B).set A.reverse.length x=A.reverse++x::y::B:=set_at _ _ _ _
  have d3:decide ((((y::A).length:Nat):Int)< ((A.reverse++y::x::B).length:Int))=true:=decide_eq_true (by rw[hlen,List.length_cons];omega)
  have d4:decide ((A.length:Int)< ((A.reverse++y::y::B).length:Int))=true:=by
   have:(A.reverse++y::y::B).length=A.length+B.length+2:=by simp only[List.length_append,List.length_reverse,List.length_cons];omega
   exact decide_eq_true (by rw[this];omega)
  have step:purserref07_Make.l14 x ((((y::A).length:Nat):Int),A.reverse++y::x::B)=some (if ltA (toL x).1 (toL y).1 then .inl ((A.length:Int),A.reverse++x::y::B)else .inr (A.reverse++y::x::B)):=by
   unfold purserref07_Make.l14
   dsimp only
   rw[d1,cond_true,w1,nn,d2,Bool.and_self,cond_true,g1]
   rw[show purserref07_rises.f (x.1,x.2.1,x.2.2.1,x.2.2.2) (y.1,y.2.1,y.2.2.1,y.2.2.2)=_ from zrc x y,Option.bind_some,Option.bind_some]
   by_cases h:ltA (toL x).1 (toL y).1
   ·rw[decide_eq_true h,if_pos h,cond_true,d3,nn,Bool.and_self,cond_true,t1,t2]
    rw[show(y.1,y.2.1,y.2.2.1,y.2.2.2)=y from rfl,s1,d4,Bool.and_self,cond_true,show(x.1,x.2.1,x.2.2.1,x.2.2.2)=x from rfl,s2]
    rfl
   ·rw[decide_eq_false h,if_neg h,cond_false]
  rw[e0,step]
  by_cases h:ltA (toL x).1 (toL y).1
  ·rw[if_pos h]
   simp only[Option.bind_some]
   rw[zs2 x A (y::B) (by simp;omega)]
   simp[zg0,h]
  ·rw[if_neg h]
   simp[zg0,h]
theorem zj2(x:zc3): ∀(A:List zc3),(zg0 x A).Perm (x::A)
 | []=> .refl _
 |y::A=>by
  unfold zg0
  split
  ·exact((zj2 x A).cons y).trans (List.Perm.swap _ _ _)
  ·exact .refl _
def dn(A:List zc3):Prop:=A.Pairwise fun a b=> ¬ltA (toL a).1 (toL b).1
theorem zor{a b c:Acc}(h: ¬ltA a b)(k: ¬ltA b c): ¬ltA a c:=by
 intro hac
 rcases zn7 a b with h1|h1|h1
 ·exact h h1
 ·exact k (zd4 h1 hac)
 ·subst h1;exact k hac
theorem ins_dn(x:zc3): ∀{A:List zc3},dn A→dn (zg0 x A)
 | [],_=>by simp[dn,zg0]
 |y::A,h=>by
  unfold dn at h
  rw[List.pairwise_cons]at h
  unfold zg0
  split
  ·rename_i hlt
   unfold dn
   rw[List.pairwise_cons]
   refine⟨fun z hz=> ?_,ins_dn x h.2⟩
   rcases List.mem_cons.1 ((zj2 x A).mem_iff.1 hz)with rfl|hz
   ·exact fun hc=>zbq _ (zd4 hc hlt)
   ·exact h.1 z hz
  ·rename_i hge
   unfold dn
   rw[List.pairwise_cons,List.pairwise_cons]
   refine⟨fun z hz=> ?_,h⟩
   rcases List.mem_cons.1 hz with rfl|hz
   ·exact hge
   ·exact zor hge (h.1 z hz)
/-! ### legs -/
def rl(s n g a:Int):zc3:=(s,n,(if s=4 then g else 0),a)
theorem rl_on{s:Int}(h:s≠1)(n g a:Int):toL (rl s n g a)=(onA s n g,a):=by
 unfold toL rl onA
 dsimp only
 rw[if_neg h]
 split
 ·rename_i h4;rw[h4]
 ·rfl
noncomputable def znx(x:zc3)(L:List zc3):List zc3:=if x.1=1 then L else(zg0 x L.reverse).reverse
theorem znw(x:zc3)(L:List zc3):(znx x L).length≤L.length+1:=by
 unfold znx
 split
 ·omega
 ·rw[List.length_reverse,(zj2 x L.reverse).length_eq];simp
def froms:List Int:= [0,1,2,3,3,2,4]
def tos:List Int:= [0,2,3,2,4,5,2]
theorem zoa{k:Int}(hk:1≤k∧k≤6):froms.getD k.toNat 0=(za5 k).1∧tos.getD k.toNat 0=(za5 k).2:=by
 have:k=1∨k=2∨k=3∨k=4∨k=5∨k=6:=by omega
 rcases this with rfl|rfl|rfl|rfl|rfl|rfl<;>decide
theorem zrz(x:zc3)(kk:Int)(L:List zc3)(hl:L.length≤100):
  (bif (x.1==1)then(some ((),kk,L))else(bif decide (L.length+([(x.1,(x.2.1,(x.2.2.1,x.2.2.2)))]:List (Int×Int×Int×Int)).length≤1099511627776)then((zab (purserref07_Make.l14 x) ((L.length:Int),(L++([(x.1,(x.2.1,(x.2.2.1,x.2.2.2)))]:List (Int×Int×Int×Int))))).bind fun e17=>some ((),kk,e17))else none))=some ((),kk,znx x L):=by
 unfold znx
 by_cases h:x.1=1
 ·have:(x.1==1)=true:=by simp[h]
  rw[this,cond_true,if_pos h]
 ·have e:(x.1==1)=false:=by simp[h]
  have d:decide (L.length+([(x.1,(x.2.1,(x.2.2.1,x.2.2.2)))]:List (Int×Int×Int×Int)).length≤1099511627776)=true:=decide_eq_true (by simp;omega)
  rw[e,cond_false,if_neg h,d,cond_true]
  have hi:=zs2 x L.reverse [] (by simp;omega)
  rw[List.length_reverse,List.reverse_reverse]at hi
  rw[show(L++([(x.1,(x.2.1,(x.2.2.1,x.2.2.2)))]:List (Int×Int×Int×Int)))=L++x:: []from rfl,hi,Option.bind_some,List.append_nil]
theorem zs0(k a g:Int)(p:List Int)(i:Nat)(hi:i<p.length)(hk:1≤k∧k≤6)(kk:Int)(Lb L:List zc3)(side:Nat)(hs:side<2)(hl:L.length≤100):
  purserref07_Make.l11 k a p g ((i:Int),(),kk,Lb) ((side:Int),(),kk,L)=some (.inl (((side+1:Nat):Int),(),kk,znx (if side=1 then rl (za5 k).2 p[i] g (neg a)else rl (za5 k).1 p[i] g a) L)):=by
 unfold purserref07_Make.l11
 dsimp only
 have d1:decide ((side:Int)<2)=true:=by simp;omega
 have et:([0,1,2,3,3,2,4]:List Int).getD k.toNat 0=(za5 k).1:=(zoa hk).1
 have et2:([0,2,3,2,4,5,2]:List Int).getD k.toNat 0=(za5 k).2:=(zoa hk).2
 rw[d1,cond_true,nn,ilt hi,Bool.and_self,cond_true,at_ p i hi,et,et2,wrS side (by omega)]
 have hgrp: ∀(s n b:Int),(bif (s==4)then(some ((s,n,g,b):Int×Int×Int×Int))else(some (s,n,0,b)))=some (rl s n g b):=by
  intro s n b
  unfold rl
  by_cases h:s=4
  ·simp[h]
  ·have:(s==4)=false:=by simp[h]
   simp[this,h]
 by_cases h1:side=1
 ·subst h1
  rw[show((((1:Nat):Int))==1)=true from rfl,cond_true,Option.bind_some]
  dsimp only
  rw[hgrp,Option.bind_some,if_pos rfl]
  rw[zrz (rl (za5 k).2 p[i] g (IntKind.i64.wrap (0 - a))) kk L hl,Option.bind_some]
  rfl
 ·have h0:side=0:=by omega
  subst h0
  rw[show((((0:Nat):Int))==1)=false from rfl,cond_false,Option.bind_some]
  dsimp only
  rw[hgrp,Option.bind_some,if_neg (by decide)]
  rw[zrz (rl (za5 k).1 p[i] g a) kk L hl,Option.bind_some]
noncomputable def zg5(k a g:Int)(L:List zc3)(n:Int):List zc3:=znx (rl (za5 k).2 n g (neg a)) (znx (rl (za5 k).1 n g a) L)
theorem zuk(k a g:Int)(L:List zc3)(n:Int):(zg5 k a g L n).length≤L.length+2:=by
 have h1:=znw (rl (za5 k).1 n g a) L
 have h2:=znw (rl (za5 k).2 n g (neg a)) (znx (rl (za5 k).1 n g a) L)
 unfold zg5;omega
theorem l11_eq(k a g:Int)(p:List Int)(i:Nat)(hi:i<p.length)(hk:1≤k∧k≤6)(kk:Int)(L:List zc3)(hl:L.length≤50):
  zab (purserref07_Make.l11 k a p g ((i:Int),(),kk,L)) (0,(),kk,L)=some ((),kk,zg5 k a g L p[i]):=by
 refine zb9 (s0:=((0:Int),(),kk,L)) (fun s=>((s:Int),(),kk,if s=0 then L else if s=1 then znx (rl (za5 k).1 p[i] g a) L else zg5 k a g L p[i])) 2 rfl ?_ ?_
 ·intro s hs
  have h1:=znw (rl (za5 k).1 p[i] g a) L
  have hc:s=0∨s=1:=by omega
  rcases hc with rfl|rfl
  ·rw[zs0 k a g p i hi hk kk L _ 0 (by omega) (by simp;omega)]
   rfl
  ·rw[zs0 k a g p i hi hk kk L _ 1 (by omega) (by simp;omega)]
   rfl
 ·rfl
theorem znl(k a g:Int): ∀(ns:List Int) (L:List zc3),(ns.foldl (zg5 k a g) L).length≤L.length+2*ns.length
 | [],L=>by simp
 |n::ns,L=>by
  have h1:=znl k a g ns (zg5 k a g L n)
  have h2:=zuk k a g L n
  simp only[List.foldl_cons,List.length_cons];omega
theorem l10_eq(k a g:Int)(p:List Int)(hp:p.length≤3)(hk:1≤k∧k≤6)(kk:Int)(L:List zc3)(hl:L.length≤1):
  zab (purserref07_Make.l10 k a p g) (0,(),kk,L)=some ((),kk,p.foldl (zg5 k a g) L):=by
 refine zb9 (s0:=((0:Int),(),kk,L)) (fun i=>((i:Int),(),kk,(p.take i).foldl (zg5 k a g) L)) p.length rfl ?_ ?_
 ·intro i hi
  have hf:=znl k a g (p.take i) L
  have ht:(p.take i).length≤3:=by simp;omega
  unfold purserref07_Make.l10
  dsimp only
  rw[ilt hi,cond_true,l11_eq k a g p i hi hk kk _ (by omega),Option.bind_some]
  dsimp only
  rw[wrS i (by omega),zcp p i hi,List.foldl_append]
  rfl
 ·unfold purserref07_Make.l10
  dsimp only
  rw[ige,cond_false,List.take_length]
/-! ### what comes of it -/
def up(L:List zc3):Prop:=dn L.reverse
theorem zx9{x:zc3}{L:List zc3}(h:up L):up (znx x L):=by
 unfold znx
 split
 ·exact h
 ·unfold up
  rw[List.reverse_reverse]
  exact ins_dn x h
theorem zq0{x:zc3}{L:List zc3}(h:x.1≠1):(znx x L).Perm (x::L):=by
 unfold znx
 rw[if_neg h]
 exact(List.reverse_perm _).trans ((zj2 x L.reverse).trans ((List.reverse_perm L).cons x))
theorem sides2(k:Int):(za5 k).2≠1:=by
 unfold za5
 repeat' split
 all_goals decide
theorem zuj(k a g n:Int)(L:List zc3):((zg5 k a g L n).map toL).Perm (L.map toL++zbt k a g n):=by
 have h2:=sides2 k
 unfold zg5 zbt
 have p2:(znx (rl (za5 k).2 n g (neg a)) (znx (rl (za5 k).1 n g a) L)).Perm (rl (za5 k).2 n g (neg a)::znx (rl (za5 k).1 n g a) L):=zq0 h2
 have e2:=rl_on h2 n g (neg a)
 by_cases h1:(za5 k).1=1
 ·have e1:znx (rl (za5 k).1 n g a) L=L:=by unfold znx;rw[if_pos (show(rl (za5 k).1 n g a).1=1 from h1)]
  rw[e1]at p2⊢
  rw[if_pos h1,List.nil_append]
  refine(p2.map toL).trans ?_
  rw[List.map_cons,e2]
  exact(List.perm_append_singleton _ _).symm
 ·have p1:(znx (rl (za5 k).1 n g a) L).Perm (rl (za5 k).1 n g a::L):=zq0 h1
  have e1:=rl_on h1 n g a
  rw[if_neg h1]
  refine((p2.trans (p1.cons _)).map toL).trans ?_
  rw[List.map_cons,List.map_cons,e2,e1]
  have q1:List.Perm ((onA (za5 k).2 n g,neg a)::(onA (za5 k).1 n g,a)::L.map toL) ([(onA (za5 k).1 n g,a),(onA (za5 k).2 n g,neg a)]++L.map toL):=List.Perm.swap _ _ _
  exact q1.trans List.perm_append_comm
theorem zp9(k a g:Int): ∀(ns:List Int) (L:List zc3),((ns.foldl (zg5 k a g) L).map toL).Perm (L.map toL++ns.flatMap (zbt k a g))
 | [],L=>by simp
 |n::ns,L=>by
  simp only[List.foldl_cons,List.flatMap_cons]
  refine(zp9 k a g ns _).trans ?_
  rw[←List.append_assoc]
  exact(zuj k a g n L).append_right _
theorem zw7(k a g:Int): ∀(ns:List Int) (L:List zc3),up L→up (ns.foldl (zg5 k a g) L)
 | [],L,h=>h
 |n::ns,L,h=>zw7 k a g ns _ (zx9 (zx9 h))
theorem zuf{L:List zc3}(h:up L):(L.map toL).Pairwise (fun x y=> ¬ltA y.1 x.1):=by
 unfold up dn at h
 rw[List.pairwise_reverse]at h
 rw[List.pairwise_map]
 exact h
theorem zgv(k n g:Int):(onA k n g).1=k:=by
 unfold onA
 split
 ·rename_i h;rw[h]
 ·split
  ·rename_i h;rw[h]
  ·rfl
theorem zmy{k:Int}(n g:Int)(h:k≠1):(onA k n g).2.1=n:=by
 unfold onA
 rw[if_neg h]
 split<;>rfl
theorem zxs(k:Int):(za5 k).1≠(za5 k).2:=by
 unfold za5
 repeat' split
 all_goals decide
theorem zm8(k a g:Int): ∀(ns:List Int),ns.Nodup→((ns.flatMap (zbt k a g)).map (·.1)).Nodup∧∀q∈(ns.flatMap (zbt k a g)).map (·.1),q.2.1∈ns∧q.1≠1
 | [],_=>by simp
 |n::ns,hn=>by
  rw[List.nodup_cons]at hn
  obtain⟨ih,hm⟩:=zm8 k a g ns hn.2
  have h2:=sides2 k
  have hat:((zbt k a g n).map (·.1)).Nodup∧∀q∈(zbt k a g n).map (·.1),q.2.1=n∧q.1≠1:=by
   unfold zbt
   by_cases h1:(za5 k).1=1
   ·rw[if_pos h1]
    refine⟨by simp,fun q hq=> ?_⟩
    simp at hq
    subst hq
    exact⟨zmy _ _ h2,by rw[zgv];exact h2⟩
   ·rw[if_neg h1]
    refine⟨?_,fun q hq=> ?_⟩
    ·simp
     intro e
     have:=congrArg Prod.fst e
     rw[zgv,zgv]at this
     exact zxs k this
    ·simp at hq
     rcases hq with rfl|rfl
     ·exact⟨zmy _ _ h1,by rw[zgv];exact h1⟩
     ·exact⟨zmy _ _ h2,by rw[zgv];exact h2⟩
  rw[List.flatMap_cons,List.map_append]
  refine⟨List.nodup_append.2 ⟨hat.1,ih,fun x hx y hy e=> ?_⟩,fun q hq=> ?_⟩
  ·have:=(hat.2 x hx).1
   have h3:=(hm y hy).1
   rw[←e,this]at h3
   exact hn.1 h3
  ·rcases List.mem_append.1 hq with h|h
   ·have:=hat.2 q h
    exact⟨by rw[this.1];simp,this.2⟩
   ·have:=hm q h
    exact⟨by simp[this.1],this.2⟩
theorem zti(k a g:Int)(ns:List Int)(hn:ns.Nodup):((zip k a g ns).map (·.1)).Nodup:=by
 obtain⟨h1,h2⟩:=zm8 k a g ns hn
 unfold zip
 rw[List.map_append]
 split
 ·rw[List.map_singleton]
  refine List.nodup_append.2 ⟨by simp,h1,fun x hx y hy e=> ?_⟩
  simp at hx
  subst hx
  have:=(h2 y hy).2
  rw[←e]at this
  exact this rfl
 ·simpa using h1
theorem strict{ys zs:List Leg}(hp:ys.Perm zs)(hs:ys.Pairwise (fun x y=> ¬ltA y.1 x.1))(hn:(zs.map (·.1)).Nodup):ys.Pairwise (fun x y=>ltA x.1 y.1):=by
 have hn':(ys.map (·.1)).Nodup:=(hp.map (·.1)).nodup_iff.2 hn
 rw[List.nodup_iff_pairwise_ne,List.pairwise_map]at hn'
 refine List.Pairwise.imp₂ (fun x y h1 h2=> ?_) hs hn'
 rcases zn7 x.1 y.1 with h|h|h
 ·exact h
 ·exact absurd h h1
 ·exact absurd h h2
/-! ### the document's Make -/
theorem zsz(k a:Int)(p:List Int)(g:Int)(hk: ¬(1≤k∧k≤6)):purserref07_Make.f k a p g=some ((0,[]),21):=by
 unfold purserref07_Make.f
 by_cases h1:k<1
 ·simp[h1]
 ·have h2:k >6:=by omega
  simp[h1,h2]
theorem zv5(a:Int)(p:List Int):(bif !(decide (a<1))then(bif !(decide (a >9007199254740992))then(bif !(decide ((p.length:Int)<1))then(some (decide ((p.length:Int)>3)))else(some true))else(some true))else(some true))=some (decide (a<1)||(decide (a >9007199254740992)||(decide ((p.length:Int)<1)||decide ((p.length:Int)>3)))):=by
 cases decide (a<1)<;>cases decide (a >9007199254740992)<;>cases decide ((p.length:Int)<1)<;>rfl
theorem zv1(k a:Int)(p:List Int)(g:Int)(hl:p.length≤64)(hk:1≤k∧k≤6)(ha: ¬(1≤a∧a≤9007199254740992∧pathB p=true)):purserref07_Make.f k a p g=some ((0,[]),1):=by
 have k1:decide (k<1)=false:=by simp;omega
 have k2:decide (k >6)=false:=by simp;omega
 unfold purserref07_Make.f
 rw[k1,k2,Bool.not_false,cond_true,Option.bind_some,cond_false,zv5,Option.bind_some,l3_eq p hl,Option.bind_some]
 have:((decide (a<1)||(decide (a >9007199254740992)||(decide ((p.length:Int)<1)||decide ((p.length:Int)>3))))||zix p (min p.length 4))=true:=by
  by_cases h1:a<1
  ·simp[h1]
  by_cases h2:a >9007199254740992
  ·simp[h2]
  by_cases h3:p.length<1
  ·have:(p.length:Int)<1:=by omega
   simp[this]
  by_cases h4:p.length >3
  ·have:(p.length:Int)>3:=by omega
   simp[this]
  have hd:=zpg p (by omega)
  have hn: ¬p.Nodup:=by
   intro hn
   apply ha
   refine⟨by omega,by omega,?_⟩
   unfold pathB
   simp[hn]
   omega
  rw[hd]
  simp[hn]
 rw[this,cond_true]
theorem zxy(k a:Int)(p:List Int)(g:Int)(hk:1≤k∧k≤6)(ha:1≤a∧a≤9007199254740992∧pathB p=true): ∃L:List zc3,(L.map toL).Perm (zip k a g p)∧(L.map toL).Pairwise (fun x y=> ¬ltA y.1 x.1)∧L.length≤7∧
  purserref07_Make.f k a p g=some (if chk k (L.map toL)≠0 then((0,[]),chk k (L.map toL))else((k,L),0)):=by
 obtain⟨ha1,ha2,hp⟩:=ha
 have hp3:=zrk hp
 have hnd:p.Nodup:=by unfold pathB at hp;simp at hp;exact hp.2.2
 have hi: ∀L0:List zc3,L0=(if(za5 k).1=1 then [((1:Int),(0:Int),(0:Int),IntKind.i64.wrap (a* (p.length:Int)))]else [])→up L0∧L0.length≤1∧L0.map toL=(if(za5 k).1=1 then [(((1,0,0):Acc),IntKind.i64.wrap (a* (p.length:Int)))]else []):=by
  rintro L0 rfl
  by_cases h:(za5 k).1=1
  ·rw[if_pos h,if_pos h];exact⟨by simp[up,dn],by simp,rfl⟩
  ·rw[if_neg h,if_neg h];exact⟨by simp[up,dn],by simp,rfl⟩
 obtain⟨i1,i2,i3⟩:=hi _ rfl
 generalize hL0:(if(za5 k).1=1 then [((1:Int),(0:Int),(0:Int),IntKind.i64.wrap (a* (p.length:Int)))]else []:List zc3)=L0 at i1 i2 i3
 have hlen:=znl k a g p L0
 refine⟨p.foldl (zg5 k a g) L0,?_,zuf (zw7 k a g p L0 i1),by omega,?_⟩
 ·have:=zp9 k a g p L0
  rw[i3]at this
  exact this
 have k1:decide (k<1)=false:=by simp;omega
 have k2:decide (k >6)=false:=by simp;omega
 have d1:decide (a<1)=false:=by simp;omega
 have d2:decide (a >9007199254740992)=false:=by simp;omega
 have d3:decide ((p.length:Int)<1)=false:=by simp;omega
 have d4:decide ((p.length:Int)>3)=false:=by simp;omega
 have hd:=zpg p hp3.2
 rw[decide_eq_true hnd]at hd
 unfold purserref07_Make.f
 rw[k1,k2,Bool.not_false,cond_true,Option.bind_some,cond_false,zv5,Option.bind_some,l3_eq p (by omega),Option.bind_some,d1,d2,d3,d4,hd]
 have d5:decide (0≤k)=true:=by simp;omega
 have d6:decide (k< (7:Int))=true:=by simp;omega
 have d7:decide (k< (([0,1,2,3,3,2,4]:List Int).length:Int))=true:=d6
 have d8:decide (k< (([0,2,3,2,4,5,2]:List Int).length:Int))=true:=d6
 rw[d5,d6,d7,d8]
 simp only[Bool.not_true,Bool.or_self,cond_false,Bool.and_self,cond_true]
 have hinit:(bif (k==1)then(bif decide (([]:List (Int×Int×Int×Int)).length+([(1,(0,(0,(IntKind.i64.wrap (a* (p.length:Int))))))]:List (Int×Int×Int×Int)).length≤1099511627776)then(some ((),k,(([]:List (Int×Int×Int×Int))++([(1,(0,(0,(IntKind.i64.wrap (a* (p.length:Int))))))]:List (Int×Int×Int×Int)))))else none)else(some ((),k,[])))=some ((),k,L0):=by
  rw[←hL0]
  by_cases hc:k=1
  ·subst hc;rfl
  ·have e:(k==1)=false:=by simp[hc]
   have:(za5 k).1≠1:=by
    unfold za5
    rw[if_neg hc]
    repeat' split
    all_goals decide
   rw[e,cond_false,if_neg this]
 rw[hinit,Option.bind_some]
 dsimp only
 rw[l10_eq k a g p hp3.2 hk k L0 i2,Option.bind_some]
 dsimp only
 rw[zoi k _ (by omega),Option.bind_some]
 by_cases hc:chk k ((p.foldl (zg5 k a g) L0).map toL)=0
 ·simp[hc]
 ·have e:(chk k ((p.foldl (zg5 k a g) L0).map toL) !=0)=true:=by simp[hc]
  simp[hc,e]
/-! ### the law -/
theorem zut(k a:Int)(p:List Int)(g:Int)(hl:p.length≤64): ∃(L:List zc3) (f:Int) (kk:Int),entry_Make.f k a p g=some ((kk,L.map toL),f)∧purserref07_Make.f k a p g=some ((kk,L),f)∧L.length≤7∧(f=0→chk kk (L.map toL)=0):=by
 by_cases hk:1≤k∧k≤6
 ·by_cases ha:1≤a∧a≤9007199254740992∧pathB p=true
  ·obtain⟨ys,y1,y2,y3⟩:=zvp k a p g hk ha
   obtain⟨L,l1,l2,l3,l4⟩:=zxy k a p g hk ha
   have hnd:p.Nodup:=by have:=ha.2.2;unfold pathB at this;simp at this;exact this.2.2
   have hst:=strict l1 l2 (zti k a g p hnd)
   have heq:ys=L.map toL:=zra (y1.trans l1.symm) y2 hst
   rw[heq]at y3
   by_cases hc:chk k (L.map toL)=0
   ·refine⟨L,0,k,by rw[y3];simp[hc],by rw[l4];simp[hc],l3,fun _=>hc⟩
   ·refine⟨[],chk k (L.map toL),0,by rw[y3];simp[hc],by rw[l4];simp[hc],by simp,fun h=>absurd h hc⟩
  ·exact⟨[],1,0,zye k a p g hk ha,zv1 k a p g hl hk ha,by simp,fun h=>absurd h (by decide)⟩
 ·exact⟨[],21,0,zvr k a p g hk,zsz k a p g hk,by simp,fun h=>absurd h (by decide)⟩
end Go.Proofs.YtniohchnpfpffaaGreat.Pure
