/- Plain laws: what is searched in order; paths,limits,the program's and the document's. No statement of its own. -/
import Derived.Test.YtniohchnpfpffaaGreatRf
set_option linter.unusedSimpArgs false
set_option linter.unusedVariables false
namespace Go.Proofs.YtniohchnpfpffaaGreat.Pure
open Go.Vk Go.Am Go.Pg Go.Sort Go.Proofs.YtniohchnpfpffaaGreat.Y
theorem zB6(l:List Int)(x:Int)(hl:l.length≤1000000): ∀(n i:Nat),i+n=l.length→
  za2 (purserref15_in.l1 l x) (i:Int)=some (if x∈l.drop i then .inl true else .inr ())
 |0,i,h=>by
  rw[List.drop_of_length_le (by omega),if_neg (by simp),zai]
  unfold purserref15_in.l1
  rw[show l.length=i by omega,ige]
  rfl
 |n+1,i,h=>by
  have hi:i<l.length:=by omega
  have ih:=zB6 l x hl n (i+1) (by omega)
  have hd:l.drop i=l[i]::l.drop (i+1):=List.drop_eq_getElem_cons hi
  have hs:purserref15_in.l1 l x (i:Int)=if x=l[i]then some (.inr (.inl true))else some (.inl (((i+1:Nat):Nat):Int)):=by
   unfold purserref15_in.l1
   rw[ilt hi,nn,Bool.and_self,cond_true,cond_true,at_ l i hi,wrS i (by omega)]
   by_cases hx:x=l[i]
   ·rw[if_pos hx,show(l[i]==x)=true by simp[hx]];rfl
   ·rw[if_neg hx,show(l[i]==x)=false by simp;exact fun e=>hx e.symm];rfl
  rw[hd,zai,hs]
  by_cases hx:x=l[i]
  ·rw[if_pos hx,if_pos (List.mem_cons.2 (.inl hx))]
   rfl
  ·rw[if_neg hx]
   simp only[Option.bind_some]
   rw[ih]
   by_cases hm:x∈l.drop (i+1)
   ·rw[if_pos hm,if_pos (List.mem_cons.2 (.inr hm))]
   ·rw[if_neg hm,if_neg (fun h=>by rcases List.mem_cons.1 h with h|h;exact hx h;exact hm h)]
theorem in_eq(l:List Int)(x:Int)(hl:l.length≤1000000):purserref15_in.f l x=some (decide (x∈l)):=by
 have h:=zB6 l x hl l.length 0 (by omega)
 unfold purserref15_in.f
 rw[show((0:Nat):Int)=0 from rfl]at h
 rw[h]
 by_cases hm:x∈l
 ·rw[List.drop_zero,if_pos hm,decide_eq_true hm];rfl
 ·rw[List.drop_zero,if_neg hm,decide_eq_false hm];rfl
theorem zBh(l:List Int)(n:Nat)(hn:n≤1000):purserlaw15_few.f l (n:Int)=some (l.take n):=by
 unfold purserlaw15_few.f
 rw[cut_ok,cond_true,cut_eq,List.nil_append]
 have e:decide (([]:List Int).length+(l.take n).length≤1099511627776)=true:=by simp;omega
 rw[e,cond_true]
def zaz{B:Type}(t:Nat→Option B):Nat→Nat→Option B
 |_,0=>none
 |i,d+1=>match t i with
  |some b=>some b
  |none=>zaz t (i+1) d
theorem zb7{B:Type}{t:Nat→Option B}: ∀{d i:Nat},zaz t i d=none→∀k,i≤k→k<i+d→t k=none
 |0,i,_,k,h1,h2=>by omega
 |d+1,i,h,k,h1,h2=>by
  simp only[zaz]at h
  cases ht:t i with
  |some b=>rw[ht]at h;cases h
  |none=>
   rw[ht]at h
   by_cases hk:k=i
   ·rw[hk];exact ht
   ·exact zb7 h k (by omega) (by omega)
theorem zlk{B:Type}{t:Nat→Option B}: ∀{d i:Nat},(∀k,i≤k→k<i+d→t k=none)→zaz t i d=none
 |0,i,_=>rfl
 |d+1,i,h=>by
  simp only[zaz]
  rw[h i (by omega) (by omega)]
  exact zlk fun k h1 h2=>h k (by omega) (by omega)
theorem zcl{B:Type}{t:Nat→Option B}: ∀{d i:Nat} {b:B},zaz t i d=some b→∃k,i≤k∧k<i+d∧t k=some b
 |0,i,b,h=>by cases h
 |d+1,i,b,h=>by
  simp only[zaz]at h
  cases ht:t i with
  |some c=>
   rw[ht]at h
   obtain rfl:=Option.some.inj h
   exact⟨i,by omega,by omega,ht⟩
  |none=>
   rw[ht]at h
   obtain⟨k,h1,h2,h3⟩:=zcl h
   exact⟨k,by omega,by omega,h3⟩
def zak{B:Type}:Option B→B⊕Unit
 |some b=> .inl b
 |none=> .inr ()
theorem zbs {B:Type} {f:Int→Option (Int⊕(B⊕Unit))} (n:Nat) (t:Nat→Option B) (hs: ∀i,i<n→f (i:Int)=some (match t i with|some b=> .inr (.inl b)|none=> .inl (((i+1:Nat):Nat):Int)))
  (he:f (n:Int)=some (.inr (.inr ()))):za2 f 0=some (zak (zaz t 0 n)):=by
 have: ∀d i,i+d=n→za2 f (i:Int)=some (zak (zaz t i d)):=by
  intro d
  induction d with
  |zero=>intro i hi;rw[zai,show i=n by omega,he];rfl
  |succ d ih=>
   intro i hi
   rw[zai,hs i (by omega)]
   simp only[zaz]
   cases t i with
   |some b=>rfl
   |none=>simp only[Option.bind_some];exact ih (i+1) (by omega)
 exact this n 0 (by omega)
def ze8(n:Int):Bool:=decide (1≤n) && decide (n≤32)
theorem zdp(n:Int):ze8 n=true↔1≤n∧n≤32:=by simp[ze8]
theorem zqd(n:Int):funds_node.f n=some (ze8 n):=by
 unfold funds_node.f ze8
 rw[show decide (n≥1)=decide (1≤n)from rfl]
 cases decide (1≤n)<;>rfl
theorem zq4(n:Int):purserref14_Node.f n=some (ze8 n):=by
 unfold purserref14_Node.f ze8
 rw[show decide (n≥1)=decide (1≤n)from rfl]
 cases decide (1≤n)<;>rfl
def zc0(n:Int):Bool:=decide (1≤n) && decide (n≤9007199254740992)
theorem zcz(n:Int):funds_amount.f n=some (zc0 n):=by
 unfold funds_amount.f zc0
 rw[show decide (n≥1)=decide (1≤n)from rfl]
 cases decide (1≤n)<;>rfl
theorem zf3(n:Int):((bif !(decide (n<1))then(some (decide (n >9007199254740992)))else(some true)):Option Bool)=some (!zc0 n):=by
 unfold zc0
 by_cases h:1≤n
 ·rw[decide_eq_false (show¬n<1 by omega),decide_eq_true h,Bool.not_false,cond_true,Bool.true_and]
  by_cases h2:n≤9007199254740992
  ·rw[decide_eq_true h2,decide_eq_false (show¬n >9007199254740992 by omega)];rfl
  ·rw[decide_eq_false h2,decide_eq_true (show n >9007199254740992 by omega)];rfl
 ·rw[decide_eq_true (show n<1 by omega),decide_eq_false h];rfl
/-! ### paths -/
def zl7(l:List Int)(i:Nat):Option Bool:=if ze8 (l.getD i 0)=true∧l.getD i 0∉l.take i then none else some false
def zby(l:List Int):Bool:=decide (1≤l.length) && (decide (l.length≤3) && (zaz (zl7 l) 0 l.length).isNone)
theorem zmf{l:List Int}{d i:Nat}{b:Bool}(h:zaz (zl7 l) i d=some b):b=false:=by
 obtain⟨k,_,_,h3⟩:=zcl h
 unfold zl7 at h3
 split at h3
 ·cases h3
 ·exact(Option.some.inj h3).symm
theorem len_ok(l:List Int):((bif !(decide ((l.length:Int)<1))then(some (decide ((l.length:Int)>3)))else(some true)):Option Bool)=some (!(decide (1≤l.length) && decide (l.length≤3))):=by
 by_cases h:1≤l.length
 ·rw[decide_eq_false (show¬(l.length:Int)<1 by omega),decide_eq_true h,Bool.not_false,cond_true,Bool.true_and]
  by_cases h2:l.length≤3
  ·rw[decide_eq_true h2,decide_eq_false (show¬(l.length:Int)>3 by omega)];rfl
  ·rw[decide_eq_false h2,decide_eq_true (show(l.length:Int)>3 by omega)];rfl
 ·rw[decide_eq_true (show(l.length:Int)<1 by omega),decide_eq_false h];rfl
theorem zls(B:FB)(l:List Int):funds_Book_path.f B l=some (B,zby l):=by
 unfold funds_Book_path.f zby
 rw[len_ok,Option.bind_some]
 by_cases hl:1≤l.length∧l.length≤3
 ·have h1:za2 (funds_Book_path.l2 l) 0=some (zak (zaz (zl7 l) 0 l.length)):=by
   refine zbs l.length (zl7 l) (fun i hi=> ?_) ?_
   ·unfold funds_Book_path.l2
    rw[ilt hi,nn,Bool.and_self,cond_true,cond_true,at_ l i hi,zqd,Option.bind_some]
    have hc:=zik (l.take i) l[i] (by simp;omega)
    unfold zl7
    rw[zl3 l i hi]
    cases hn:ze8 l[i]with
    |false=>
     rw[if_neg (by simp),Bool.not_false,Bool.not_true,cond_false,Option.bind_some]
     rfl
    |true=>
     rw[Bool.not_true,Bool.not_false,cond_true,show(decide ((0:Int)≤0) && (true && decide ((i:Int)≤(l.length:Int))))=true by simp;omega,cond_true]
     rw[show((l.take ((i:Int).toNat)).drop (0:Int).toNat)=l.take i by simp,hc,Option.bind_some,Option.bind_some]
     by_cases hm:l[i]∈l.take i
     ·rw[if_neg (fun h=>h.2 hm),decide_eq_true hm];rfl
     ·rw[if_pos ⟨rfl,hm⟩,decide_eq_false hm,cond_false,wrS i (by omega)]
   ·unfold funds_Book_path.l2
    rw[ige];rfl
  rw[decide_eq_true hl.1,decide_eq_true hl.2,Bool.and_self,Bool.not_true,cond_false,h1,Option.bind_some,Bool.true_and,Bool.true_and]
  cases hf:zaz (zl7 l) 0 l.length with
  |none=>rfl
  |some b=>rw[zmf hf];rfl
 ·have e:(decide (1≤l.length) && decide (l.length≤3))=false:=by
   cases h1:(decide (1≤l.length) && decide (l.length≤3))with
   |false=>rfl
   |true=>simp at h1;exact absurd h1 hl
  rw[e,Bool.not_false,cond_true,←Bool.and_assoc,e,Bool.false_and]
theorem zlb(l:List Int):purserref14_path.f l=some (zby l):=by
 unfold purserref14_path.f zby
 rw[len_ok,Option.bind_some]
 by_cases hl:1≤l.length∧l.length≤3
 ·have h1:za2 (purserref14_path.l2 l) 0=some (zak (zaz (zl7 l) 0 l.length)):=by
   refine zbs l.length (zl7 l) (fun i hi=> ?_) ?_
   ·unfold purserref14_path.l2
    rw[ilt hi,cond_true]
    have h3:za2 (purserref14_path.l3 l (i:Int)) 0=some (zak (zaz (fun k=>if l.getD k 0=l[i]then some false else none) 0 i)):=by
     refine zbs i _ (fun k hk=> ?_) ?_
     ·unfold purserref14_path.l3
      rw[ilt hk,ilt (show k<l.length by omega),ilt hi,nn,nn,Bool.and_self,cond_true,cond_true,cond_true,at_ l k (by omega),at_ l i hi]
      simp only[zl3 l k (by omega)]
      by_cases he:l[k]=l[i]
      ·rw[if_pos he,show(l[k]==l[i])=true by simp[he]];rfl
      ·rw[if_neg he,show(l[k]==l[i])=false by simp[he],cond_false,wrS k (by omega)]
     ·unfold purserref14_path.l3
      rw[ige];rfl
    rw[h3,Option.bind_some]
    unfold zl7
    rw[zl3 l i hi]
    cases hf:zaz (fun k=>if l.getD k 0=l[i]then some false else none) 0 i with
    |some b=>
     obtain⟨k,_,k2,k3⟩:=zcl hf
     try simp only at k3
     split at k3
     ·rename_i he
      obtain rfl:=Option.some.inj k3
      have hm:l[i]∈l.take i:=by
       rw[zl3 l k (by omega)]at he
       rw[←he]
       rw[List.mem_take_iff_getElem]
       exact⟨k,by omega,rfl⟩
      rw[if_neg (fun h=>h.2 hm)]
      rfl
     ·cases k3
    |none=>
     have hm:l[i]∉l.take i:=by
      intro hm
      rw[List.mem_take_iff_getElem]at hm
      obtain⟨k,hk,he⟩:=hm
      have:=zb7 hf k (by omega) (by omega)
      try simp only at this
      rw[zl3 l k (by omega),if_pos he]at this
      cases this
     simp only[zak]
     rw[nn,Bool.and_self,cond_true,at_ l i hi,zq4,Option.bind_some]
     cases hn:ze8 l[i]with
     |false=>rw[if_neg (by simp)];rfl
     |true=>rw[if_pos ⟨rfl,hm⟩,Bool.not_true,cond_false,wrS i (by omega)]
   ·unfold purserref14_path.l2
    rw[ige];rfl
  rw[decide_eq_true hl.1,decide_eq_true hl.2,Bool.and_self,Bool.not_true,cond_false,h1,Option.bind_some,Bool.true_and,Bool.true_and]
  cases hf:zaz (zl7 l) 0 l.length with
  |none=>rfl
  |some b=>rw[zmf hf];rfl
 ·have e:(decide (1≤l.length) && decide (l.length≤3))=false:=by
   cases h1:(decide (1≤l.length) && decide (l.length≤3))with
   |false=>rfl
   |true=>simp at h1;exact absurd h1 hl
  rw[e,Bool.not_false,cond_true,←Bool.and_assoc,e,Bool.false_and]
structure PathP(l:List Int):Prop where
 one:1≤l.length
 len:l.length≤3
 rng: ∀n∈l,1≤n∧n≤32
 nod:l.Nodup
theorem zd1{l:List Int}(h:zby l=true):PathP l:=by
 unfold zby at h
 simp only[Bool.and_eq_true,decide_eq_true_eq,Option.isNone_iff_eq_none]at h
 obtain⟨h1,h2,h3⟩:=h
 have hk:=zb7 h3
 have ht: ∀k (hk:k<l.length),ze8 l[k]=true∧l[k]∉l.take k:=by
  intro k hkl
  have:=hk k (by omega) (by omega)
  unfold zl7 at this
  rw[zl3 l k hkl]at this
  split at this
  ·assumption
  ·cases this
 refine⟨h1,h2,fun n hn=> ?_,?_⟩
 ·obtain⟨k,hkl,rfl⟩:=List.getElem_of_mem hn
  exact(zdp _).1 (ht k hkl).1
 ·rw[List.nodup_iff_pairwise_ne,List.pairwise_iff_getElem]
  intro i k hi hk2 hik he
  exact(ht k hk2).2 (by rw[List.mem_take_iff_getElem];exact⟨i,by omega,he⟩)
/-! ### limits -/
def zAs(lim:List Int)(i:Nat):Option Bool:=if lim.getD i 0< -1∨lim.getD i 0 >9007199254740992 then some false else none
def zk7(l lim:List Int):Bool:=zby l && (decide (lim.length=l.length) && (zaz (zAs lim) 0 l.length).isNone)
theorem lim_or(x:Int):((bif !(decide (x< (-1)))then(some (decide (x >9007199254740992)))else(some true)):Option Bool)=some (decide (x< -1∨x >9007199254740992)):=by
 by_cases h:x< -1
 ·rw[decide_eq_true h,decide_eq_true (show x< -1∨x >9007199254740992 from .inl h)];rfl
 ·rw[decide_eq_false h,Bool.not_false,cond_true]
  by_cases h2:x >9007199254740992
  ·rw[decide_eq_true h2,decide_eq_true (show x< -1∨x >9007199254740992 from .inr h2)]
  ·rw[decide_eq_false h2,decide_eq_false (show¬(x< -1∨x >9007199254740992)from fun h'=>by rcases h' with h'|h';exact h h';exact h2 h')]
theorem zxz(B:FB)(l lim:List Int):funds_Book_limited.f B l lim=some (B,zk7 l lim):=by
 unfold funds_Book_limited.f zk7
 rw[zls,Option.bind_some]
 cases hp:zby l with
 |false=>rfl
 |true=>
  simp only[Bool.not_true,Bool.not_false,cond_true,Option.bind_some]
  have hP:=zd1 hp
  by_cases hll:lim.length=l.length
  ·rw[show((lim.length:Int) !=(l.length:Int))=false by simp[hll],cond_false,decide_eq_true hll]
   have h1:za2 (funds_Book_limited.l3 lim) 0=some (zak (zaz (fun i=>if lim.getD i 0< -1∨lim.getD i 0 >9007199254740992 then some (i:Int)else none) 0 lim.length)):=by
    refine zbs lim.length _ (fun i hi=> ?_) ?_
    ·unfold funds_Book_limited.l3
     rw[ilt hi,nn,Bool.and_self,cond_true,cond_true,lim_or,Option.bind_some,Int.toNat_natCast]
     by_cases hx:lim.getD i 0< -1∨lim.getD i 0 >9007199254740992
     ·rw[decide_eq_true hx,if_pos hx];rfl
     ·rw[decide_eq_false hx,if_neg hx,cond_false,wrS i (by have:=hP.len;omega)]
    ·unfold funds_Book_limited.l3
     rw[ige];rfl
   rw[h1,Option.bind_some]
   have hiff:(zaz (fun i=>if lim.getD i 0< -1∨lim.getD i 0 >9007199254740992 then some (i:Int)else none) 0 lim.length=none)↔(zaz (zAs lim) 0 l.length=none):=by
    rw[hll]
    constructor
    ·intro h
     refine zlk fun k h1 h2=> ?_
     have:=zb7 h k h1 h2
     unfold zAs
     try simp only at this
     split at this
     ·cases this
     ·rename_i hx;rw[if_neg hx]
    ·intro h
     refine zlk fun k h1 h2=> ?_
     have:=zb7 h k h1 h2
     unfold zAs at this
     split at this
     ·cases this
     ·rename_i hx;simp only[if_neg hx]
   cases hf:zaz (fun i=>if lim.getD i 0< -1∨lim.getD i 0 >9007199254740992 then some (i:Int)else none) 0 lim.length with
   |none=>rw[hiff.1 hf];rfl
   |some b=>
    obtain⟨k,_,_,k3⟩:=zcl hf
    try simp only at k3
    split at k3
    ·obtain rfl:=Option.some.inj k3
     have hn:zaz (zAs lim) 0 l.length≠none:=fun h=>by rw[hiff.2 h]at hf;cases hf
     cases hg:zaz (zAs lim) 0 l.length with
     |none=>exact absurd hg hn
     |some c=>
      show(some (decide ((k:Int)≥0)):Option Bool).bind (fun e8=>some (B,!e8))=some (B,false)
      rw[show decide ((k:Int)≥0)=true by simp]
      rfl
    ·cases k3
  ·rw[show((lim.length:Int) !=(l.length:Int))=true by simp;omega,cond_true,decide_eq_false hll]
   rfl
theorem zuf(l lim:List Int):purserref14_limited.f l lim=some (zk7 l lim):=by
 unfold purserref14_limited.f zk7
 rw[zlb,Option.bind_some]
 cases hp:zby l with
 |false=>rfl
 |true=>
  simp only[Bool.not_true,Bool.not_false,cond_true,Option.bind_some]
  have hP:=zd1 hp
  by_cases hll:lim.length=l.length
  ·rw[show((lim.length:Int) !=(l.length:Int))=false by simp[hll],cond_false,decide_eq_true hll]
   have h1:za2 (purserref14_limited.l3 l lim) 0=some (zak (zaz (zAs lim) 0 l.length)):=by
    refine zbs l.length _ (fun i hi=> ?_) ?_
    ·unfold purserref14_limited.l3
     rw[ilt hi,ilt (show i<lim.length by omega),nn,Bool.and_self,cond_true,cond_true,cond_true,lim_or,Option.bind_some,Int.toNat_natCast]
     unfold zAs
     by_cases hx:lim.getD i 0< -1∨lim.getD i 0 >9007199254740992
     ·rw[decide_eq_true hx,if_pos hx];rfl
     ·rw[decide_eq_false hx,if_neg hx,cond_false,wrS i (by have:=hP.len;omega)]
    ·unfold purserref14_limited.l3
     rw[ige];rfl
   rw[h1,Option.bind_some]
   cases hf:zaz (zAs lim) 0 l.length with
   |none=>rfl
   |some b=>
    obtain⟨k,_,_,k3⟩:=zcl hf
    unfold zAs at k3
    split at k3
    ·obtain rfl:=Option.some.inj k3;rfl
    ·cases k3
  ·rw[show((lim.length:Int) !=(l.length:Int))=true by simp;omega,cond_true,decide_eq_false hll]
   rfl
end Go.Proofs.YtniohchnpfpffaaGreat.Pure
