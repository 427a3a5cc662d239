/- The abstract machine,part 1: its values,its memory,what they stand for. No statement of its own. -/
import Derived.Test.YtfcgafnmlkiimaaGreatDoorVkB
import Derived.Orders
import Derived.Laws.Tables
import Derived.Great.BuildSlice
set_option linter.unusedSimpArgs false
set_option linter.unusedVariables false
namespace Go.Am
open Go.Vk Go.RowKit
variable [Dr]
inductive AV where
 /-- nothing is known -/
 |unk
 /-- just this value -/
 |val (v:Value)
 /-- a known block's cell -/
 |ptr (b off:Nat)
 /-- a slice that reads so,and stays so (perm: for good) -/
 |sv (perm:Bool) (T:Ty) (xs:List T.Den)
 /-- the address of a cell of such a slice's element -/
 |ep (perm:Bool) (T:Ty) (xs:List T.Den) (i off:Nat)
 /-- the slice of a known row -/
 |row (r:Nat)
 /-- a slice of a known block of cells: n elements of sz cells -/
 |lit (b n sz:Nat)
 /-- the address of a cell of an array's element: the array lies at off,it has n elements -/
 |ap (b off:Nat) (T:Ty) (n i o:Nat)
 /-- the address of a cell of a known row's element -/
 |rp (r sz i off:Nat)
 /-- a known map -/
 |map (m:Nat)
 /-- the address of a cell of an arena's item -/
 |apt (a k off:Nat)
 /-- no address,or that of the block -/
 |selfp (b:Nat)
 |clo (fn:Fn) (first caps:List AV)
 |ifc (t:TypeId) (x:AV)
 /-- the iterator of a map that stays (block i),and the entry at which it stands -/
 |it (i:Nat) (k v:AV)
 |agg (cs:List AV)
 |tup (vs:List AV)
structure MTy where
 kt:TypeId
 vt:TypeId
 ka:Bool
 K:Ty
 va:Bool
 V:Ty
structure OqK where
 T:Ty
 C:TypeId
 e:TypeId
 m:MTy
@[reducible] def OqDen(o:OqK):Type:=List o.T.Den×List Nat×List (Option (o.m.K.Den×Nat))
inductive DT where
 |flat (T:Ty)
 |row (T:Ty) (e:TypeId)
 |map (m:MTy)
 |pair (a b:DT)
 |ptr (C:TypeId) (d:DT)
 /-- a row of things,each of one cell -/
 |rowD (d:DT) (e:TypeId)
 /-- a map of things (of the map's type the values' own is not looked at) -/
 |mapD (m:MTy) (d:DT)
 /-- a row and a map that lead to the same items -/
 |opq (o:OqK)
@[reducible] def DT.Den:DT→Type
 | .flat T=>T.Den
 | .row T _=>List T.Den
 | .map m=>Mp m.K m.V
 | .pair a b=>a.Den×b.Den
 | .ptr _ d=>d.Den
 | .rowD d _=>List d.Den
 | .mapD m d=>Gp m.K d.Den
 | .opq o=>OqDen o
def DT.sz:DT→Nat
 | .flat T=>T.sz
 | .row _ _=>1
 | .map _=>1
 | .pair a b=>a.sz+b.sz
 | .ptr _ _=>1
 | .rowD _ _=>1
 | .mapD _ _=>1
 | .opq _=>2
inductive AB where
 |cells (T:TypeId) (cs:List AV)
 |row (T:Ty) (e:TypeId) (xs:List T.Den)
 |map (m:MTy) (xs:Mp m.K m.V)
 /-- a row of things; l: the one that is lent,and its block -/
 |rowD (d:DT) (e:TypeId) (xs:List d.Den) (l:Option (Nat×Nat))
 /-- a map of things -/
 |mapD (m:MTy) (d:DT) (xs:Gp m.K d.Den) (l:Option (Nat×Nat))
 /-- items,by number -/
 |arena (T:Ty) (C:TypeId) (xs:List T.Den)
 /-- a row that leads to an arena's items -/
 |arw (a:Nat) (e:TypeId) (ks:List Nat)
 /-- a map that leads to an arena's items -/
 |amp (a:Nat) (m:MTy) (xs:Gp m.K Nat)
 /-- an iterator of a known map,ahead of its first step -/
 |iter (b since:Nat)
 |gone
 /-- it is read alone,for now -/
 |lock (x:AB)
structure Env where
 Pr:Nat→Prop
 It:Nat→Prop
 Kp:Nat→Prop
 bnd:Nat
 nought:Pr 0
 sub: ∀t,(Pr t∨It t)→Kp t
 low: ∀t,Kp t→t<bnd
def ItAt(E:Env)(σ:Gh)(w:World)(u ku vu:Value):Prop:=
 ∃(r n since:Nat) (seen:Array Nat) (clock:Nat) (es:Array MapEntry) (e:MapEntry),u= .pointer (some ⟨r,0,none⟩)∧E.It (σ r)∧w.heap[r]? =some (.mapIter (some n) since (seen.push e.born) clock)∧E.It (σ n)∧w.heap[n]? =some (.map es clock)∧
  e∈es.toList∧(es.toList.map (·.born)).Nodup∧ku=e.key∧vu=e.val
def ptrN(bs:List Nat)(k:Nat):Value:= .pointer (some ⟨bs.getD k 0,0,none⟩)
def ptrs(bs:List Nat):Value:= .agg (bs.map fun n=>Value.pointer (some ⟨n,0,none⟩)).toArray
omit [Dr] in
theorem ptrs_inj{bs bs':List Nat}(h:ptrs bs=ptrs bs'):bs=bs':=by
 simp only[ptrs,Value.agg.injEq]at h
 have h:bs.map (fun n=>Value.pointer (some ⟨n,0,none⟩))=bs'.map (fun n=>Value.pointer (some ⟨n,0,none⟩)):=by simpa using congrArg Array.toList h
 induction bs generalizing bs' with
 |nil=>cases bs' with
  |nil=>rfl
  |cons _ _=>simp at h
 |cons b bs ih=>cases bs' with
  |nil=>simp at h
  |cons c cs=>
   simp only[List.map_cons,List.cons.injEq,Value.pointer.injEq,Option.some.injEq,Addr.mk.injEq,and_true]at h
   rw[h.1,ih (by rw[h.2]) h.2]
mutual
def Rel(E:Env)(σ:Gh)(w:World)(β:List Value):AV→Value→Prop
 | .unk,_=>True
 | .val v,u=>u=v
 | .ptr b off,u=> ∃n,β[b]? =some (.pointer (some ⟨n,0,none⟩))∧u= .pointer (some ⟨n,off,none⟩)
 | .sv p T xs,u=> ∃A c t,u= .slice A xs.length c∧xs.length≤c∧E.Pr t∧(p=true→t=0)∧Rd T.kd σ t w A xs
 | .ep p T xs i off,u=> ∃ad t,u= .pointer (some (ad.add (i*T.sz+off)))∧i<xs.length∧E.Pr t∧(p=true→t=0)∧Rd T.kd σ t w (some ad) xs
 | .row r,u=>β[r]? =some u∧u.oneCell'=true
 | .lit b n sz,u=> ∃m,β[b]? =some (.pointer (some ⟨m,0,none⟩))∧u= .slice (some ⟨m,0,none⟩) n n
 | .ap b off T n i o,u=> ∃m,β[b]? =some (.pointer (some ⟨m,0,none⟩))∧i<n∧u= .pointer (some ⟨m,off+(i*T.sz+o),none⟩)
 | .rp r sz i off,u=> ∃ad n c,β[r]? =some (.slice (some ad) n c)∧i<n∧u= .pointer (some (ad.add (i*sz+off)))
 | .map m,u=>β[m]? =some u∧u.oneCell'=true
 | .apt a k off,u=> ∃bs n,β[a]? =some (ptrs bs)∧bs[k]? =some n∧u= .pointer (some ⟨n,off,none⟩)
 | .selfp b,u=> ∃n,β[b]? =some (.pointer (some ⟨n,0,none⟩))∧(u= .pointer none∨u= .pointer (some ⟨n,0,none⟩))
 | .clo fn fs cs,u=> ∃vs us,u= .func fn vs.toArray us.toArray∧RelL E σ w β fs vs∧RelL E σ w β cs us
 | .ifc t x,u=> ∃v,u= .iface t v∧Rel E σ w β x v
 | .it i k v,u=> ∃ku vu,β[i]? =some u∧ItAt E σ w u ku vu∧Rel E σ w β k ku∧Rel E σ w β v vu
 | .agg cs,u=> ∃vs,u= .agg vs.toArray∧RelL E σ w β cs vs
 | .tup cs,u=> ∃vs,u= .tuple vs.toArray∧RelL E σ w β cs vs
def RelL(E:Env)(σ:Gh)(w:World)(β:List Value):List AV→List Value→Prop
 | [],vs=>vs= []
 |c::cs,vs=> ∃v r,vs=v::r∧Rel E σ w β c v∧RelL E σ w β cs r
end
structure EvT(C:Nat→Prop)(σ:Gh)(w:World)(σ':Gh)(w':World):Prop where
 os:w'.os=w.os
 tape:w'.tape=w.tape
 output:w'.output=w.output
 drawn:Dr.D→w.drawn≤w'.drawn
 size:w.heap.size≤w'.heap.size
 keep: ∀b,b<w.heap.size→¬C (σ b)→σ' b=σ b∧w'.heap[b]? =w.heap[b]?
section
variable {C C' : Nat → Prop} {σ σ1 σ2 : Gh} {w w1 w2 : World} {t : Nat}
theorem EvT.refl:EvT C σ w σ w:=⟨rfl,rfl,rfl,fun _=>Nat.le_refl _,Nat.le_refl _,fun _ _ _=>⟨rfl,rfl⟩⟩
theorem EvT.trans(h:EvT C σ w σ1 w1)(k:EvT C σ1 w1 σ2 w2):EvT C σ w σ2 w2:=
 ⟨k.os.trans h.os,k.tape.trans h.tape,k.output.trans h.output,fun d=>Nat.le_trans (h.drawn d) (k.drawn d),Nat.le_trans h.size k.size,fun b hb hn=>by
  obtain⟨h1,h2⟩:=h.keep b hb hn
  obtain⟨k1,k2⟩:=k.keep b (Nat.lt_of_lt_of_le hb h.size) (by rw[h1];exact hn)
  exact⟨k1.trans h1,k2.trans h2⟩⟩
theorem EvT.mono(h:EvT C σ w σ1 w1)(hc: ∀t,C t→C' t):EvT C' σ w σ1 w1:=
 ⟨h.os,h.tape,h.output,h.drawn,h.size,fun b hb hn=>h.keep b hb fun hc'=>hn (hc _ hc')⟩
theorem EvT.ev1(h:EvT C σ w σ1 w1)(h0: ¬C 0): ∃hi,Ev 1 hi σ w σ1 w1:=by
 obtain⟨r,hr,hlt⟩:=Gh.fresh σ 2 w.heap.size
 refine⟨r,h.os,h.tape,h.output,h.drawn,h.size,fun b hb hn=>h.keep b hb fun hc=> ?_⟩
 have:=hlt b hb
 have h2:σ b=0:=by omega
 rw[h2]at hc
 exact h0 hc
theorem EvT.of{lo hi:Nat}(h:Ev lo hi σ w σ1 w1)(hc: ∀t,lo≤t→t<hi→C t):EvT C σ w σ1 w1:=
 ⟨h.os,h.tape,h.output,h.drawn,h.size,fun b hb hn=>h.keep b hb fun⟨h1,h2⟩=>hn (hc _ h1 h2)⟩
theorem blk_evT{b:Nat}{T:TypeId}{cs:Array Value}(h:Blk σ t w b T cs)(e:EvT C σ w σ1 w1)(ht: ¬C t):Blk σ1 t w1 b T cs:=by
 obtain⟨k1,k2⟩:=e.keep b h.lt (by rw[h.1];exact ht)
 exact⟨k1.trans h.1,k2.trans h.2⟩
theorem rd_evT{α:Type}{K:Kd α}{A:Option Addr}{xs:List α}(h:Rd K σ t w A xs)(e:EvT C σ w σ1 w1)(ht: ¬C t)(h0: ¬C 0):Rd K σ1 t w1 A xs:=fun hp=>by
 obtain⟨hi,e1⟩:=e.ev1 h0
 obtain⟨ad,h1,h2,h3,h4⟩:=h hp
 obtain⟨k1,k2⟩:=e.keep ad.block h2 (by rw[h3];exact ht)
 refine⟨ad,h1,Nat.lt_of_lt_of_le h2 e.size,k1.trans h3,fun j hj=> ?_⟩
 obtain⟨cs,h5,h6⟩:=h4 j hj
 refine⟨cs,K.ev h5 e1 (Nat.le_refl 1),fun i u hu=> ?_⟩
 rw[World.cell?_of_block (w:=w) (by rw[add_block];exact k2)]
 exact h6 i u hu
theorem own_evT{α:Type}{K:Kd α}{e:TypeId}{v:Value}{xs:List α}(h:Own K e σ t w v xs)(k:EvT C σ w σ1 w1)(ht: ¬C t)(h0: ¬C 0):Own K e σ1 t w1 v xs:=by
 obtain⟨hi,e1⟩:=k.ev1 h0
 obtain⟨cs,h1,h2,h3⟩:=h
 rcases h1.2 with⟨rfl,hn⟩|⟨g,cap,cur,rfl,hb,hh,hr⟩
 ·exact⟨cs,⟨h1.1,.inl ⟨rfl,hn⟩⟩,fun g hg=>by simp[Value.ownBlock]at hg,h3.ev e1 (Nat.le_refl 1)⟩
 ·have hg:=h2 g (by simp[Value.ownBlock])
  obtain⟨k1,k2⟩:=k.keep g (Array.getElem?_eq_some_iff.1 hh).1 (by rw[hg];exact ht)
  refine⟨cs,⟨h1.1,.inr ⟨g,cap,cur,rfl,hb,k2.trans hh,hr⟩⟩,fun g' hg'=> ?_,h3.ev e1 (Nat.le_refl 1)⟩
  have:g=g':=by simpa[Value.ownBlock]using hg'
  subst this
  exact k1.trans hg
end
section
variable {E : Env} {C : Nat → Prop} {σ σ1 : Gh} {w w1 : World} {β β' : List Value}
theorem ItAt.ev{u ku vu:Value}(e:EvT C σ w σ1 w1)(hP: ∀t,(E.Pr t∨E.It t)→¬C t)(h:ItAt E σ w u ku vu):ItAt E σ1 w1 u ku vu:=by
 obtain⟨r,n,since,seen,clock,es,x,h1,h2,h3,h4,h5,h6⟩:=h
 obtain⟨a1,a2⟩:=e.keep r (Array.getElem?_eq_some_iff.1 h3).1 (hP _ (.inr h2))
 obtain⟨b1,b2⟩:=e.keep n (Array.getElem?_eq_some_iff.1 h5).1 (hP _ (.inr h4))
 exact⟨r,n,since,seen,clock,es,x,h1,by rw[a1];exact h2,a2.trans h3,by rw[b1];exact h4,b2.trans h5,h6⟩
mutual
theorem Rel.ev(e:EvT C σ w σ1 w1)(hP: ∀t,(E.Pr t∨E.It t)→¬C t): ∀{x:AV} {u:Value},Rel E σ w β x u→Rel E σ1 w1 β x u
 | .unk,_,h=>by simp only[Rel]
 | .val v,u,h=>by simp only[Rel]at h⊢;exact h
 | .ptr b off,u,h=>by simp only[Rel]at h⊢;exact h
 | .sv p T xs,u,h=>by
  simp only[Rel]at h⊢
  obtain⟨A,c,t,h1,h2,h3,h4,h5⟩:=h
  exact⟨A,c,t,h1,h2,h3,h4,rd_evT h5 e (hP _ (.inl h3)) (hP _ (.inl E.nought))⟩
 | .ep p T xs i off,u,h=>by
  simp only[Rel]at h⊢
  obtain⟨A,t,h1,h2,h3,h4,h5⟩:=h
  exact⟨A,t,h1,h2,h3,h4,rd_evT h5 e (hP _ (.inl h3)) (hP _ (.inl E.nought))⟩
 | .row r,u,h=>by simp only[Rel]at h⊢;exact h
 | .lit b n sz,u,h=>by simp only[Rel]at h⊢;exact h
 | .ap ..,u,h=>by simp only[Rel]at h⊢;exact h
 | .rp r sz i off,u,h=>by simp only[Rel]at h⊢;exact h
 | .map m,u,h=>by simp only[Rel]at h⊢;exact h
 | .apt ..,u,h=>by simp only[Rel]at h⊢;exact h
 | .selfp ..,u,h=>by simp only[Rel]at h⊢;exact h
 | .clo fn fs cs,u,h=>by
  simp only[Rel]at h⊢
  obtain⟨vs,us,h1,h2,h3⟩:=h
  exact⟨vs,us,h1,RelL.ev e hP h2,RelL.ev e hP h3⟩
 | .ifc t x,u,h=>by
  simp only[Rel]at h⊢
  obtain⟨v,h1,h2⟩:=h
  exact⟨v,h1,Rel.ev e hP h2⟩
 | .it i k v,u,h=>by
  simp only[Rel]at h⊢
  obtain⟨ku,vu,h0,h1,h2,h3⟩:=h
  exact⟨ku,vu,h0,h1.ev e hP,Rel.ev e hP h2,Rel.ev e hP h3⟩
 | .agg cs,u,h=>by
  simp only[Rel]at h⊢
  obtain⟨vs,h1,h2⟩:=h
  exact⟨vs,h1,RelL.ev e hP h2⟩
 | .tup cs,u,h=>by
  simp only[Rel]at h⊢
  obtain⟨vs,h1,h2⟩:=h
  exact⟨vs,h1,RelL.ev e hP h2⟩
theorem RelL.ev(e:EvT C σ w σ1 w1)(hP: ∀t,(E.Pr t∨E.It t)→¬C t): ∀{xs:List AV} {us:List Value},RelL E σ w β xs us→RelL E σ1 w1 β xs us
 | [],us,h=>by simp only[RelL]at h⊢;exact h
 |x::xs,us,h=>by
  simp only[RelL]at h⊢
  obtain⟨v,r,h1,h2,h3⟩:=h
  exact⟨v,r,h1,Rel.ev e hP h2,RelL.ev e hP h3⟩
end
end
section
variable {E E' : Env} {σ : Gh} {w : World} {β β' : List Value}
omit [Dr] in
theorem ItAt.env{u ku vu:Value}(hE: ∀t,E.It t→E'.It t)(h:ItAt E σ w u ku vu):ItAt E' σ w u ku vu:=by
 obtain⟨r,n,since,seen,clock,es,x,h1,h2,h3,h4,h5⟩:=h
 exact⟨r,n,since,seen,clock,es,x,h1,hE _ h2,h3,hE _ h4,h5⟩
mutual
theorem Rel.env(hE:(∀t,E.Pr t→E'.Pr t)∧∀t,E.It t→E'.It t): ∀{x:AV} {u:Value},Rel E σ w β x u→Rel E' σ w β x u
 | .unk,_,h=>by simp only[Rel]
 | .val v,u,h=>by simp only[Rel]at h⊢;exact h
 | .ptr b off,u,h=>by simp only[Rel]at h⊢;exact h
 | .sv p T xs,u,h=>by
  simp only[Rel]at h⊢
  obtain⟨A,c,t,h1,h2,h3,h4,h5⟩:=h
  exact⟨A,c,t,h1,h2,hE.1 _ h3,h4,h5⟩
 | .ep p T xs i off,u,h=>by
  simp only[Rel]at h⊢
  obtain⟨A,t,h1,h2,h3,h4,h5⟩:=h
  exact⟨A,t,h1,h2,hE.1 _ h3,h4,h5⟩
 | .row r,u,h=>by simp only[Rel]at h⊢;exact h
 | .lit b n sz,u,h=>by simp only[Rel]at h⊢;exact h
 | .ap ..,u,h=>by simp only[Rel]at h⊢;exact h
 | .rp r sz i off,u,h=>by simp only[Rel]at h⊢;exact h
 | .map m,u,h=>by simp only[Rel]at h⊢;exact h
 | .apt ..,u,h=>by simp only[Rel]at h⊢;exact h
 | .selfp ..,u,h=>by simp only[Rel]at h⊢;exact h
 | .clo fn fs cs,u,h=>by
  simp only[Rel]at h⊢
  obtain⟨vs,us,h1,h2,h3⟩:=h
  exact⟨vs,us,h1,RelL.env hE h2,RelL.env hE h3⟩
 | .ifc t x,u,h=>by
  simp only[Rel]at h⊢
  obtain⟨v,h1,h2⟩:=h
  exact⟨v,h1,Rel.env hE h2⟩
 | .it i k v,u,h=>by
  simp only[Rel]at h⊢
  obtain⟨ku,vu,h0,h1,h2,h3⟩:=h
  exact⟨ku,vu,h0,h1.env hE.2,Rel.env hE h2,Rel.env hE h3⟩
 | .agg cs,u,h=>by
  simp only[Rel]at h⊢
  obtain⟨vs,h1,h2⟩:=h
  exact⟨vs,h1,RelL.env hE h2⟩
 | .tup cs,u,h=>by
  simp only[Rel]at h⊢
  obtain⟨vs,h1,h2⟩:=h
  exact⟨vs,h1,RelL.env hE h2⟩
theorem RelL.env(hE:(∀t,E.Pr t→E'.Pr t)∧∀t,E.It t→E'.It t): ∀{xs:List AV} {us:List Value},RelL E σ w β xs us→RelL E' σ w β xs us
 | [],us,h=>by simp only[RelL]at h⊢;exact h
 |x::xs,us,h=>by
  simp only[RelL]at h⊢
  obtain⟨v,r,h1,h2,h3⟩:=h
  exact⟨v,r,h1,Rel.env hE h2,RelL.env hE h3⟩
end
end
/-! ### values without iterators -/
mutual
def AV.noit:AV→Bool
 | .it _ _ _=>false
 | .clo _ fs cs=>AV.noitL fs && AV.noitL cs
 | .ifc _ x=>AV.noit x
 | .agg cs=>AV.noitL cs
 | .tup cs=>AV.noitL cs
 |_=>true
def AV.noitL:List AV→Bool
 | []=>true
 |x::xs=>AV.noit x && AV.noitL xs
end
section
variable {E E' : Env} {σ : Gh} {w : World} {β β' : List Value}
mutual
theorem Rel.envN(hE: ∀t,E.Pr t→E'.Pr t): ∀{x:AV} {u:Value},x.noit=true→Rel E σ w β x u→Rel E' σ w β x u
 | .unk,_,_,h=>by simp only[Rel]
 | .val v,u,_,h=>by simp only[Rel]at h⊢;exact h
 | .ptr b off,u,_,h=>by simp only[Rel]at h⊢;exact h
 | .sv p T xs,u,_,h=>by
  simp only[Rel]at h⊢
  obtain⟨A,c,t,h1,h2,h3,h4,h5⟩:=h
  exact⟨A,c,t,h1,h2,hE _ h3,h4,h5⟩
 | .ep p T xs i off,u,_,h=>by
  simp only[Rel]at h⊢
  obtain⟨A,t,h1,h2,h3,h4,h5⟩:=h
  exact⟨A,t,h1,h2,hE _ h3,h4,h5⟩
 | .row r,u,_,h=>by simp only[Rel]at h⊢;exact h
 | .lit b n sz,u,_,h=>by simp only[Rel]at h⊢;exact h
 | .ap ..,u,_,h=>by simp only[Rel]at h⊢;exact h
 | .rp r sz i off,u,_,h=>by simp only[Rel]at h⊢;exact h
 | .map m,u,_,h=>by simp only[Rel]at h⊢;exact h
 | .apt ..,u,_,h=>by simp only[Rel]at h⊢;exact h
 | .selfp ..,u,_,h=>by simp only[Rel]at h⊢;exact h
 | .clo fn fs cs,u,hn,h=>by
  simp only[AV.noit,Bool.and_eq_true]at hn
  simp only[Rel]at h⊢
  obtain⟨vs,us,h1,h2,h3⟩:=h
  exact⟨vs,us,h1,RelL.envN hE hn.1 h2,RelL.envN hE hn.2 h3⟩
 | .ifc t x,u,hn,h=>by
  simp only[AV.noit]at hn
  simp only[Rel]at h⊢
  obtain⟨v,h1,h2⟩:=h
  exact⟨v,h1,Rel.envN hE hn h2⟩
 | .it i k v,u,hn,h=>by simp[AV.noit]at hn
 | .agg cs,u,hn,h=>by
  simp only[AV.noit]at hn
  simp only[Rel]at h⊢
  obtain⟨vs,h1,h2⟩:=h
  exact⟨vs,h1,RelL.envN hE hn h2⟩
 | .tup cs,u,hn,h=>by
  simp only[AV.noit]at hn
  simp only[Rel]at h⊢
  obtain⟨vs,h1,h2⟩:=h
  exact⟨vs,h1,RelL.envN hE hn h2⟩
theorem RelL.envN(hE: ∀t,E.Pr t→E'.Pr t): ∀{xs:List AV} {us:List Value},AV.noitL xs=true→RelL E σ w β xs us→RelL E' σ w β xs us
 | [],us,_,h=>by simp only[RelL]at h⊢;exact h
 |x::xs,us,hn,h=>by
  simp only[AV.noitL,Bool.and_eq_true]at hn
  simp only[RelL]at h⊢
  obtain⟨v,r,h1,h2,h3⟩:=h
  exact⟨v,r,h1,Rel.envN hE hn.1 h2,RelL.envN hE hn.2 h3⟩
end
end
section
variable {E : Env} {σ : Gh} {w : World} {β β' : List Value}
omit [Dr] in
theorem get_pre{α:Type}{l l':List α}{i:Nat}{x:α}(hb: ∃s,l'=l++s)(h:l[i]? =some x):l'[i]? =some x:=by
 obtain⟨s,rfl⟩:=hb
 rw[List.getElem?_append_left (List.getElem?_eq_some_iff.1 h).1];exact h
mutual
theorem Rel.more(hb: ∃s,β'=β++s): ∀{x:AV} {u:Value},Rel E σ w β x u→Rel E σ w β' x u
 | .unk,_,h=>by simp only[Rel]
 | .val v,u,h=>by simp only[Rel]at h⊢;exact h
 | .ptr b off,u,h=>by
  simp only[Rel]at h⊢
  obtain⟨n,h1,h2⟩:=h
  exact⟨n,get_pre hb h1,h2⟩
 | .sv p T xs,u,h=>by simp only[Rel]at h⊢;exact h
 | .ep p T xs i off,u,h=>by simp only[Rel]at h⊢;exact h
 | .row r,u,h=>by simp only[Rel]at h⊢;exact⟨get_pre hb h.1,h.2⟩
 | .lit b n sz,u,h=>by
  simp only[Rel]at h⊢
  obtain⟨m,h1,h2⟩:=h
  exact⟨m,get_pre hb h1,h2⟩
 | .ap b off T n i o,u,h=>by
  simp only[Rel]at h⊢
  obtain⟨m,h1,h2⟩:=h
  exact⟨m,get_pre hb h1,h2⟩
 | .rp r sz i off,u,h=>by
  simp only[Rel]at h⊢
  obtain⟨ad,n,c,h1,h2⟩:=h
  exact⟨ad,n,c,get_pre hb h1,h2⟩
 | .map m,u,h=>by simp only[Rel]at h⊢;exact⟨get_pre hb h.1,h.2⟩
 | .apt a k off,u,h=>by
  simp only[Rel]at h⊢
  obtain⟨bs,n,h1,h2⟩:=h
  exact⟨bs,n,get_pre hb h1,h2⟩
 | .selfp b,u,h=>by
  simp only[Rel]at h⊢
  obtain⟨n,h1,h2⟩:=h
  exact⟨n,get_pre hb h1,h2⟩
 | .clo fn fs cs,u,h=>by
  simp only[Rel]at h⊢
  obtain⟨vs,us,h1,h2,h3⟩:=h
  exact⟨vs,us,h1,RelL.more hb h2,RelL.more hb h3⟩
 | .ifc t x,u,h=>by
  simp only[Rel]at h⊢
  obtain⟨v,h1,h2⟩:=h
  exact⟨v,h1,Rel.more hb h2⟩
 | .it i k v,u,h=>by
  simp only[Rel]at h⊢
  obtain⟨ku,vu,h0,h1,h2,h3⟩:=h
  exact⟨ku,vu,get_pre hb h0,h1,Rel.more hb h2,Rel.more hb h3⟩
 | .agg cs,u,h=>by
  simp only[Rel]at h⊢
  obtain⟨vs,h1,h2⟩:=h
  exact⟨vs,h1,RelL.more hb h2⟩
 | .tup cs,u,h=>by
  simp only[Rel]at h⊢
  obtain⟨vs,h1,h2⟩:=h
  exact⟨vs,h1,RelL.more hb h2⟩
theorem RelL.more(hb: ∃s,β'=β++s): ∀{xs:List AV} {us:List Value},RelL E σ w β xs us→RelL E σ w β' xs us
 | [],us,h=>by simp only[RelL]at h⊢;exact h
 |x::xs,us,h=>by
  simp only[RelL]at h⊢
  obtain⟨v,r,h1,h2,h3⟩:=h
  exact⟨v,r,h1,Rel.more hb h2,RelL.more hb h3⟩
end
theorem RelL.length: ∀{xs:List AV} {us:List Value},RelL E σ w β xs us→us.length=xs.length
 | [],us,h=>by simp only[RelL]at h;rw[h];rfl
 |x::xs,us,h=>by
  simp only[RelL]at h
  obtain⟨v,r,rfl,h2,h3⟩:=h
  simp[RelL.length h3]
theorem RelL.get: ∀{xs:List AV} {us:List Value},RelL E σ w β xs us→∀{i:Nat} {x:AV},xs[i]? =some x→∃u,us[i]? =some u∧Rel E σ w β x u
 | [],us,h,i,x,hx=>by simp at hx
 |y::xs,us,h,i,x,hx=>by
  simp only[RelL]at h
  obtain⟨v,r,rfl,h2,h3⟩:=h
  cases i with
  |zero=>
   simp only[List.getElem?_cons_zero,Option.some.injEq]at hx
   subst hx
   exact⟨v,by simp,h2⟩
  |succ i=>simpa using RelL.get h3 (i:=i) (by simpa using hx)
theorem RelL.set: ∀{xs:List AV} {us:List Value},RelL E σ w β xs us→∀(i:Nat) {x:AV} {u:Value},Rel E σ w β x u→RelL E σ w β (xs.set i x) (us.set i u)
 | [],us,h,i,x,u,hx=>by simp only[RelL]at h;subst h;simp[RelL]
 |y::xs,us,h,i,x,u,hx=>by
  simp only[RelL]at h
  obtain⟨v,r,rfl,h2,h3⟩:=h
  cases i with
  |zero=>simp only[List.set_cons_zero,RelL];exact⟨u,r,rfl,hx,h3⟩
  |succ i=>simp only[List.set_cons_succ,RelL];exact⟨v,r.set i u,rfl,h2,RelL.set h3 i hx⟩
end
def RepV(ag:Bool)(T:Ty)(σ:Gh)(w:World)(y:T.Den)(u:Value):Prop:=
 ∃cs,repTy T σ w y cs∧match ag with
  |true=>u= .agg cs.toArray
  |false=>cs= [u]
theorem RepV.ev{ag:Bool}{T:Ty}{C:Nat→Prop}{σ σ1:Gh}{w w1:World}{y:T.Den}{u:Value}(h:RepV ag T σ w y u)(e:EvT C σ w σ1 w1)(h0: ¬C 0):RepV ag T σ1 w1 y u:=by
 obtain⟨cs,h1,h2⟩:=h
 obtain⟨hi,e1⟩:=e.ev1 h0
 exact⟨cs,repTy_ev T h1 e1 (Nat.le_refl 1),h2⟩
/-! ### things that a container holds -/
def rawK:Kd Value where
 sz:=1
 rep:=fun _ _ x cs=>cs= [x]∧x.oneCell'=true
 len:=fun h=>by rw[h.1];rfl
 one:=fun h u hu=>by rw[h.1]at hu;simp only[List.mem_singleton]at hu;rw[hu];exact h.2
 ev:=fun h _ _=>h
def hbV:Value→Option Nat
 | .slice (some a) _ _=>some a.block
 | .map n=>n
 | .pointer (some a)=>some a.block
 |_=>none
def OneV(ag:Bool)(cs:List Value)(u:Value):Prop:=
 match ag with
 |true=>u= .agg cs.toArray
 |false=>cs= [u]
def OwnF{α:Type}(K:Kd α)(e:TypeId)(σ:Gh)(w:World)(v:Value)(xs:List α):Prop:=
 ∃cs,w.ownsRow 0 e K.sz v xs.length cs∧Reps K σ w xs cs
theorem own_f{α:Type}{K:Kd α}{e:TypeId}{σ:Gh}{t:Nat}{w:World}{v:Value}{xs:List α}(h:Own K e σ t w v xs):OwnF K e σ w v xs∧∀g,hbV v=some g→σ g=t:=by
 obtain⟨cs,h1,h2,h3⟩:=h
 refine⟨⟨cs,h1,h3⟩,fun g hg=>h2 g ?_⟩
 rcases h1.2 with⟨rfl,hn⟩|⟨g',cap,cur,rfl,hb,hh,hr⟩
 ·simp[hbV]at hg
 ·simp only[hbV,Option.some.injEq]at hg
  subst hg
  simp[Value.ownBlock]
theorem own_of{α:Type}{K:Kd α}{e:TypeId}{σ:Gh}{t:Nat}{w:World}{v:Value}{xs:List α}(h:OwnF K e σ w v xs)(ht: ∀g,hbV v=some g→σ g=t):Own K e σ t w v xs:=by
 obtain⟨cs,h1,h3⟩:=h
 refine⟨cs,h1,fun g hg=>ht g ?_,h3⟩
 rcases h1.2 with⟨rfl,hn⟩|⟨g',cap,cur,rfl,hb,hh,hr⟩
 ·simp[Value.ownBlock]at hg
 ·have:g'=g:=by simpa[Value.ownBlock]using hg
  subst this
  simp[hbV]
theorem OwnF.lt{α:Type}{K:Kd α}{e:TypeId}{σ:Gh}{w:World}{v:Value}{xs:List α}(h:OwnF K e σ w v xs){g:Nat}(hg:hbV v=some g):g<w.heap.size:=by
 obtain⟨cs,h1,h3⟩:=h
 rcases h1.2 with⟨rfl,hn⟩|⟨g',cap,cur,rfl,hb,hh,hr⟩
 ·simp[hbV]at hg
 ·simp only[hbV,Option.some.injEq]at hg
  subst hg
  exact(Array.getElem?_eq_some_iff.1 hh).1
theorem OwnF.one{α:Type}{K:Kd α}{e:TypeId}{σ:Gh}{w:World}{v:Value}{xs:List α}(h:OwnF K e σ w v xs):v.oneCell'=true:=by
 obtain⟨cs,h1,h3⟩:=h
 rcases h1.2 with⟨rfl,hn⟩|⟨g',cap,cur,rfl,hb,hh,hr⟩<;>rfl
theorem OwnF.ev{α:Type}{K:Kd α}{e:TypeId}{σ σ1:Gh}{w w1:World}{v:Value}{xs:List α}{hi:Nat}(h:OwnF K e σ w v xs)(e1:Ev 1 hi σ w σ1 w1)(hg: ∀g,hbV v=some g→w1.heap[g]? =w.heap[g]?):OwnF K e σ1 w1 v xs:=by
 obtain⟨cs,h1,h3⟩:=h
 rcases h1.2 with⟨rfl,hn⟩|⟨g,cap,cur,rfl,hb,hh,hr⟩
 ·exact⟨cs,⟨h1.1,.inl ⟨rfl,hn⟩⟩,h3.ev e1 (Nat.le_refl 1)⟩
 ·exact⟨cs,⟨h1.1,.inr ⟨g,cap,cur,rfl,hb,(hg g (by simp[hbV])).trans hh,hr⟩⟩,h3.ev e1 (Nat.le_refl 1)⟩
def fpO{D:Type}:Option (Value×D×List Nat)→List Nat
 |some p=>p.2.2
 |none=> []
def RepD(σ:Gh)(w:World):(d:DT)→d.Den→List Value→List Nat→Prop
 | .flat T,x,cs,F=>repTy T σ w x cs∧F= []
 | .row T e,xs,cs,F=> ∃u,cs= [u]∧F=(hbV u).toList∧OwnF T.kd e σ w u xs
 | .map m,xs,cs,F=> ∃n es,cs= [.map (some n)]∧F= [n]∧w.heap[n]? =some (.map es xs.length)∧es.toList=ents m.ka m.K m.va m.V 0 xs
 | .pair a b,x,cs,F=> ∃c1 c2 F1 F2,cs=c1++c2∧F=F1++F2∧RepD σ w a x.1 c1 F1∧RepD σ w b x.2 c2 F2
 | .ptr C d,x,cs,F=> ∃n vs F1,cs= [.pointer (some ⟨n,0,none⟩)]∧F=n::F1∧w.heap[n]? =some (.cells (List.toArray vs) C (0,0))∧RepD σ w d x vs F1
 | .rowD d e,xs,cs,F=> ∃u,∃L:List (Value×d.Den×List Nat),cs= [u]∧F=(hbV u).toList++(L.map (·.2.2)).flatten∧OwnF rawK e σ w u (L.map (·.1))∧xs=L.map (·.2.1)∧∀p∈L,RepD σ w d p.2.1 [p.1] p.2.2
 | .mapD m d,xs,cs,F=> ∃n es,∃L:Gp m.K (Value×d.Den×List Nat),cs= [.map (some n)]∧F=n::(L.map (fun o=>fpO (o.map (·.2)))).flatten∧w.heap[n]? =some (.map es xs.length)∧es.toList=gents m.ka m.K (fun p:Value×d.Den×List Nat=>p.1) 0 L∧
  xs=L.map (Option.map fun p=>(p.1,p.2.2.1))∧∀k u x G,some (k,u,x,G)∈L→∃cs,OneV m.va cs u∧RepD σ w d x cs G
 | .opq o,x,cs,F=> ∃u n es,∃bs:List Nat,cs= [u,.map (some n)]∧F=(hbV u).toList++n::bs∧OwnF rawK o.e σ w u (x.2.1.map (ptrN bs))∧w.heap[n]? =some (.map es x.2.2.length)∧es.toList=gents o.m.ka o.m.K (ptrN bs) 0 x.2.2∧bs.length=x.1.length∧
  (∀k∈x.2.1,k<bs.length)∧(∀k i,some (k,i)∈x.2.2→i<bs.length)∧∀(k m:Nat),bs[k]? =some m→∃ds y,x.1[k]? =some y∧w.heap[m]? =some (.cells (List.toArray ds) o.C (0,0))∧repTy o.T σ w y ds
theorem RepD.ev{σ σ1:Gh}{w w1:World}{hi:Nat}(e1:Ev 1 hi σ w σ1 w1): ∀(d:DT) {x:d.Den} {cs:List Value} {F:List Nat},RepD σ w d x cs F→(∀g∈F,w1.heap[g]? =w.heap[g]?)→RepD σ1 w1 d x cs F
 | .flat T,x,cs,F,h,hg=>by
  simp only[RepD]at h⊢
  exact⟨repTy_ev T h.1 e1 (Nat.le_refl 1),h.2⟩
 | .row T e,x,cs,F,h,hg=>by
  simp only[RepD]at h⊢
  obtain⟨u,rfl,rfl,h3⟩:=h
  exact⟨u,rfl,rfl,h3.ev e1 fun g hq=>hg g (by simp[hq])⟩
 | .map m,x,cs,F,h,hg=>by
  simp only[RepD]at h⊢
  obtain⟨n,es,rfl,rfl,h3,h4⟩:=h
  exact⟨n,es,rfl,rfl,(hg n (by simp)).trans h3,h4⟩
 | .pair a b,x,cs,F,h,hg=>by
  simp only[RepD]at h⊢
  obtain⟨c1,c2,F1,F2,rfl,rfl,h3,h4⟩:=h
  exact⟨c1,c2,F1,F2,rfl,rfl,RepD.ev e1 a h3 fun g hq=>hg g (by simp[hq]),RepD.ev e1 b h4 fun g hq=>hg g (by simp[hq])⟩
 | .ptr C d,x,cs,F,h,hg=>by
  simp only[RepD]at h⊢
  obtain⟨n,vs,F1,rfl,rfl,h3,h4⟩:=h
  exact⟨n,vs,F1,rfl,rfl,(hg n (by simp)).trans h3,RepD.ev e1 d h4 fun g hq=>hg g (by simp[hq])⟩
 | .rowD d e,x,cs,F,h,hg=>by
  simp only[RepD]at h⊢
  obtain⟨u,L,rfl,rfl,h3,h4,h5⟩:=h
  exact⟨u,L,rfl,rfl,h3.ev e1 fun g hq=>hg g (by simp[hq]),h4,fun p hp=>RepD.ev e1 d (h5 p hp) fun g hq=>hg g (List.mem_append_right _ (List.mem_flatten.2 ⟨_,List.mem_map.2 ⟨p,hp,rfl⟩,hq⟩))⟩
 | .mapD m d,x,cs,F,h,hg=>by
  simp only[RepD]at h⊢
  obtain⟨n,es,L,rfl,rfl,h3,h4,h5,h6⟩:=h
  refine⟨n,es,L,rfl,rfl,(hg n (by simp)).trans h3,h4,h5,fun k u x G hp=> ?_⟩
  obtain⟨cs,h7,h8⟩:=h6 k u x G hp
  exact⟨cs,h7,RepD.ev e1 d h8 fun g hq=>hg g (List.mem_cons_of_mem _ (List.mem_flatten.2 ⟨_,List.mem_map.2 ⟨_,hp,rfl⟩,hq⟩))⟩
 | .opq o,x,cs,F,h,hg=>by
  simp only[RepD]at h⊢
  obtain⟨u,n,es,bs,rfl,rfl,h3,h4,h5,h6,h7,h8,h9⟩:=h
  refine⟨u,n,es,bs,rfl,rfl,h3.ev e1 fun g hq=>hg g (by simp[hq]),(hg n (by simp)).trans h4,h5,h6,h7,h8,fun k m hk=> ?_⟩
  obtain⟨ds,y,k1,k2,k3⟩:=h9 k m hk
  exact⟨ds,y,k1,(hg m (by simp[List.mem_of_getElem? hk])).trans k2,repTy_ev o.T k3 e1 (Nat.le_refl 1)⟩
theorem RepD.lt{σ:Gh}{w:World}: ∀(d:DT) {x:d.Den} {cs:List Value} {F:List Nat},RepD σ w d x cs F→∀g∈F,g<w.heap.size
 | .flat T,x,cs,F,h,g,hg=>by
  simp only[RepD]at h
  rw[h.2]at hg;simp at hg
 | .row T e,x,cs,F,h,g,hg=>by
  simp only[RepD]at h
  obtain⟨u,rfl,rfl,h3⟩:=h
  exact h3.lt (by simpa using hg)
 | .map m,x,cs,F,h,g,hg=>by
  simp only[RepD]at h
  obtain⟨n,es,rfl,rfl,h3,h4⟩:=h
  simp only[List.mem_singleton]at hg
  subst hg
  exact(Array.getElem?_eq_some_iff.1 h3).1
 | .pair a b,x,cs,F,h,g,hg=>by
  simp only[RepD]at h
  obtain⟨c1,c2,F1,F2,rfl,rfl,h3,h4⟩:=h
  rcases List.mem_append.1 hg with hg|hg
  ·exact RepD.lt a h3 g hg
  ·exact RepD.lt b h4 g hg
 | .ptr C d,x,cs,F,h,g,hg=>by
  simp only[RepD]at h
  obtain⟨n,vs,F1,rfl,rfl,h3,h4⟩:=h
  rcases List.mem_cons.1 hg with rfl|hg
  ·exact(Array.getElem?_eq_some_iff.1 h3).1
  ·exact RepD.lt d h4 g hg
 | .rowD d e,x,cs,F,h,g,hg=>by
  simp only[RepD]at h
  obtain⟨u,L,rfl,rfl,h3,h4,h5⟩:=h
  rcases List.mem_append.1 hg with hg|hg
  ·exact h3.lt (by simpa using hg)
  ·obtain⟨G,hG,hq⟩:=List.mem_flatten.1 hg
   obtain⟨p,hp,rfl⟩:=List.mem_map.1 hG
   exact RepD.lt d (h5 p hp) g hq
 | .mapD m d,x,cs,F,h,g,hg=>by
  simp only[RepD]at h
  obtain⟨n,es,L,rfl,rfl,h3,h4,h5,h6⟩:=h
  rcases List.mem_cons.1 hg with rfl|hg
  ·exact(Array.getElem?_eq_some_iff.1 h3).1
  ·obtain⟨G,hG,hq⟩:=List.mem_flatten.1 hg
   obtain⟨p,hp,rfl⟩:=List.mem_map.1 hG
   cases p with
   |none=>simp[fpO]at hq
   |some p=>
    obtain⟨k,u,x,G⟩:=p
    obtain⟨cs,_,h8⟩:=h6 k u x G hp
    exact RepD.lt d h8 g hq
 | .opq o,x,cs,F,h,g,hg=>by
  simp only[RepD]at h
  obtain⟨u,n,es,bs,rfl,rfl,h3,h4,h5,h6,h7,h8,h9⟩:=h
  rcases List.mem_append.1 hg with hg|hg
  ·exact h3.lt (by simpa using hg)
  ·rcases List.mem_cons.1 hg with rfl|hg
   ·exact(Array.getElem?_eq_some_iff.1 h4).1
   ·obtain⟨k,hk⟩:=List.mem_iff_getElem?.1 hg
    obtain⟨ds,y,_,k2,_⟩:=h9 k g hk
    exact(Array.getElem?_eq_some_iff.1 k2).1
structure Hold{D:Type}(R:Value→D→List Nat→Prop)(σ:Gh)(w:World)(t:Nat)(g0:Option Nat)(ln:Nat→Prop)(lk:Value→Prop)(P:List (Option (Value×D×List Nat))):Prop where
 own: ∀(i:Nat) u x G,P[i]? =some (some (u,x,G))→¬ln i→R u x G
 out: ∀(i:Nat) u x G,P[i]? =some (some (u,x,G))→ln i→lk u∧G= []
 tag: ∀p∈P,∀g∈fpO p,σ g=t∧g<w.heap.size
 nd: ∀(i:Nat) p,P[i]? =some p→(fpO p).Nodup∧∀g∈fpO p,g0≠some g
 inj: ∀(i j:Nat) p q g,P[i]? =some p→P[j]? =some q→g∈fpO p→g∈fpO q→i=j
omit [Dr] in
theorem Hold.mono{D:Type}{R R':Value→D→List Nat→Prop}{σ:Gh}{w:World}{t:Nat}{g0:Option Nat}{ln:Nat→Prop}{lk lk':Value→Prop}{P:List (Option (Value×D×List Nat))}(h:Hold R σ w t g0 ln lk P)(hR: ∀u x G,R u x G→R' u x G)(hl: ∀u,lk u→lk' u):Hold R' σ w t g0 ln lk' P:=
 ⟨fun i u x G hp hn=>hR u x G (h.own i u x G hp hn),fun i u x G hp hn=>⟨hl u (h.out i u x G hp hn).1,(h.out i u x G hp hn).2⟩,h.tag,h.nd,h.inj⟩
theorem Hold.ev {D:Type} {R R':Value→D→List Nat→Prop} {C:Nat→Prop} {σ σ1:Gh} {w w1:World} {t:Nat} {g0:Option Nat} {ln:Nat→Prop} {lk:Value→Prop} {P:List (Option (Value×D×List Nat))} (h:Hold R σ w t g0 ln lk P) (e:EvT C σ w σ1 w1) (ht: ¬C t)
  (hR: ∀u x G,R u x G→(∀g∈G,w1.heap[g]? =w.heap[g]?)→R' u x G):Hold R' σ1 w1 t g0 ln lk P:=by
 have hk: ∀p∈P,∀g∈fpO p,σ1 g=t∧w1.heap[g]? =w.heap[g]? :=fun p hp g hg=>by
  obtain⟨h1,h2⟩:=h.tag p hp g hg
  obtain⟨k1,k2⟩:=e.keep g h2 (by rw[h1];exact ht)
  exact⟨k1.trans h1,k2⟩
 exact⟨fun i u x G hp hn=>hR u x G (h.own i u x G hp hn) fun g hg=>(hk _ (List.mem_of_getElem? hp) g hg).2,h.out,fun p hp g hg=>⟨(hk p hp g hg).1,Nat.lt_of_lt_of_le (h.tag p hp g hg).2 e.size⟩,h.nd,h.inj⟩
def lnO(l:Option (Nat×Nat))(i:Nat):Prop:= ∃b,l=some (i,b)
def lkO(β:List Value)(l:Option (Nat×Nat))(u:Value):Prop:= ∃i b,l=some (i,b)∧β[b]? =some u
def BRel(E:Env)(σ:Gh)(w:World)(β:List Value)(t:Nat)(v:Value):AB→Prop
 | .cells T cs=> ∃n vs,v= .pointer (some ⟨n,0,none⟩)∧Blk σ t w n T (List.toArray vs)∧RelL E σ w β cs vs
 | .row T e xs=>Own T.kd e σ t w v xs
 | .map m xs=> ∃n es,v= .map (some n)∧w.heap[n]? =some (.map es xs.length)∧σ n=t∧es.toList=ents m.ka m.K m.va m.V 0 xs
 | .rowD d e xs l=> ∃L:List (Value×d.Den×List Nat),Own rawK e σ t w v (L.map (·.1))∧xs=L.map (·.2.1)∧(∀i b,l=some (i,b)→b<β.length)∧Hold (fun u x G=>RepD σ w d x [u] G) σ w t (hbV v) (lnO l) (lkO β l) (L.map some)
 | .mapD m d xs l=> ∃n es,∃L:Gp m.K (Value×d.Den×List Nat),v= .map (some n)∧w.heap[n]? =some (.map es xs.length)∧σ n=t∧es.toList=gents m.ka m.K (fun p:Value×d.Den×List Nat=>p.1) 0 L∧xs=L.map (Option.map fun p=>(p.1,p.2.2.1))∧(∀i b,l=some (i,b)→b<β.length)∧
  Hold (fun u x G=> ∃cs,OneV m.va cs u∧RepD σ w d x cs G) σ w t (some n) (lnO l) (lkO β l) (L.map (Option.map (·.2)))
 | .arena T C xs=> ∃bs:List Nat,v=ptrs bs∧bs.length=xs.length∧bs.Nodup∧∀(k m:Nat),bs[k]? =some m→∃ds y,xs[k]? =some y∧Blk σ t w m C (List.toArray ds)∧repTy T σ w y ds
 | .arw a e ks=> ∃bs:List Nat,β[a]? =some (ptrs bs)∧(∀k∈ks,k<bs.length)∧Own rawK e σ t w v (ks.map (ptrN bs))
 | .amp a m xs=> ∃n es,∃bs:List Nat,v= .map (some n)∧w.heap[n]? =some (.map es xs.length)∧σ n=t∧β[a]? =some (ptrs bs)∧es.toList=gents m.ka m.K (ptrN bs) 0 xs∧∀k i,some (k,i)∈xs→i<bs.length
 | .iter b since=> ∃r n,v= .pointer (some ⟨r,0,none⟩)∧w.heap[r]? =some (.mapIter (some n) since #[] since)∧σ r=t∧β[b]? =some (.map (some n))
 | .gone=>True
 | .lock x=>BRel E σ w β t v x
def AB.live:AB→Bool
 | .gone=>false
 | .lock x=>x.live
 |_=>true
structure St where
 tmps:List AV
 heap:List AB
structure Conc(E:Env)(σ:Gh)(τ:Nat→Nat)(β:List Value)(st:St)(a:Act)(w:World):Prop where
 defers:a.defers= []
 tmps:RelL E σ w β st.tmps a.tmps.toList
 size:β.length=st.heap.length
 heap: ∀(i:Nat) (x:AB) (v:Value),st.heap[i]? =some x→β[i]? =some v→BRel E σ w β (τ i) v x
 apart: ∀(i:Nat) (x:AB),st.heap[i]? =some x→x.live=true→¬E.Kp (τ i)
 inj: ∀(i j:Nat) (x y:AB),st.heap[i]? =some x→st.heap[j]? =some y→x.live=true→y.live=true→τ i=τ j→i=j
section
variable {E : Env} {C : Nat → Prop} {σ σ1 : Gh} {τ : Nat → Nat} {w w1 : World} {β : List Value}
theorem BRel.ev{t:Nat}{v:Value}{x:AB}(h:BRel E σ w β t v x)(e:EvT C σ w σ1 w1)(hP: ∀t,(E.Pr t∨E.It t)→¬C t)(hi:x.live=true→¬C t):BRel E σ1 w1 β t v x:=by
 induction x with
 |cells T cs=>
  obtain⟨n,vs,h1,h2,h3⟩:=h
  exact⟨n,vs,h1,blk_evT h2 e (hi rfl),RelL.ev e hP h3⟩
 |row T et xs=>exact own_evT h e (hi rfl) (hP _ (.inl E.nought))
 |map m xs=>
  obtain⟨n,es,h1,h2,h3,h4⟩:=h
  obtain⟨k1,k2⟩:=e.keep n (Array.getElem?_eq_some_iff.1 h2).1 (by rw[h3];exact hi rfl)
  exact⟨n,es,h1,k2.trans h2,k1.trans h3,h4⟩
 |rowD d et xs l=>
  obtain⟨L,h1,h2,h3,h4⟩:=h
  obtain⟨hi',e1⟩:=e.ev1 (hP _ (.inl E.nought))
  exact⟨L,own_evT h1 e (hi rfl) (hP _ (.inl E.nought)),h2,h3,h4.ev e (hi rfl) fun u x G hr hg=>hr.ev e1 d hg⟩
 |mapD m d xs l=>
  obtain⟨n,es,L,h1,h2,h3,h4,h5,h6,h7⟩:=h
  obtain⟨hi',e1⟩:=e.ev1 (hP _ (.inl E.nought))
  obtain⟨k1,k2⟩:=e.keep n (Array.getElem?_eq_some_iff.1 h2).1 (by rw[h3];exact hi rfl)
  exact⟨n,es,L,h1,k2.trans h2,k1.trans h3,h4,h5,h6,h7.ev e (hi rfl) fun u x G hr hg=>by
   obtain⟨cs,hr1,hr2⟩:=hr
   exact⟨cs,hr1,hr2.ev e1 d hg⟩⟩
 |iter b since=>
  obtain⟨r,n,h1,h2,h3,h4⟩:=h
  obtain⟨k1,k2⟩:=e.keep r (Array.getElem?_eq_some_iff.1 h2).1 (by rw[h3];exact hi rfl)
  exact⟨r,n,h1,k2.trans h2,k1.trans h3,h4⟩
 |arena T C xs=>
  obtain⟨bs,h1,h2,h3,h4⟩:=h
  obtain⟨hi',e1⟩:=e.ev1 (hP _ (.inl E.nought))
  refine⟨bs,h1,h2,h3,fun k m hk=> ?_⟩
  obtain⟨ds,y,k1,k2,k3⟩:=h4 k m hk
  exact⟨ds,y,k1,blk_evT k2 e (hi rfl),repTy_ev T k3 e1 (Nat.le_refl 1)⟩
 |arw a et ks=>
  obtain⟨bs,h1,h2,h3⟩:=h
  exact⟨bs,h1,h2,own_evT h3 e (hi rfl) (hP _ (.inl E.nought))⟩
 |amp a m xs=>
  obtain⟨n,es,bs,h1,h2,h3,h4⟩:=h
  obtain⟨k1,k2⟩:=e.keep n (Array.getElem?_eq_some_iff.1 h2).1 (by rw[h3];exact hi rfl)
  exact⟨n,es,bs,h1,k2.trans h2,k1.trans h3,h4⟩
 |gone=>trivial
 |lock x ih=>exact ih h hi
omit [Dr] in
theorem lkO_more{β':List Value}{l:Option (Nat×Nat)}{u:Value}(hb: ∃s,β'=β++s)(h:lkO β l u):lkO β' l u:=by
 obtain⟨i,b,h1,h2⟩:=h
 exact⟨i,b,h1,get_pre hb h2⟩
omit [Dr] in
theorem lkO_len{β':List Value}{b:Nat}(hb: ∃s,β'=β++s)(h:b<β.length):b<β'.length:=by
 obtain⟨s,rfl⟩:=hb
 simp only[List.length_append]
 omega
theorem BRel.more{β':List Value}{t:Nat}{v:Value}{x:AB}(h:BRel E σ w β t v x)(hb: ∃s,β'=β++s):BRel E σ w β' t v x:=by
 induction x with
 |cells T cs=>
  obtain⟨n,vs,h1,h2,h3⟩:=h
  exact⟨n,vs,h1,h2,RelL.more hb h3⟩
 |row T et xs=>exact h
 |map m xs=>exact h
 |rowD d et xs l=>
  obtain⟨L,h1,h2,h3,h4⟩:=h
  exact⟨L,h1,h2,fun i b hl=>lkO_len hb (h3 i b hl),h4.mono (fun _ _ _ h=>h) fun u=>lkO_more hb⟩
 |mapD m d xs l=>
  obtain⟨n,es,L,h1,h2,h3,h4,h5,h6,h7⟩:=h
  exact⟨n,es,L,h1,h2,h3,h4,h5,fun i b hl=>lkO_len hb (h6 i b hl),h7.mono (fun _ _ _ h=>h) fun u=>lkO_more hb⟩
 |iter b since=>
  obtain⟨r,n,h1,h2,h3,h4⟩:=h
  exact⟨r,n,h1,h2,h3,get_pre hb h4⟩
 |arena T C xs=>exact h
 |arw a et ks=>
  obtain⟨bs,h1,h2⟩:=h
  exact⟨bs,get_pre hb h1,h2⟩
 |amp a m xs=>
  obtain⟨n,es,bs,h1,h2,h3,h4,h5⟩:=h
  exact⟨n,es,bs,h1,h2,h3,get_pre hb h4,h5⟩
 |gone=>trivial
 |lock x ih=>exact ih h
def AB.bare:AB→AB
 | .lock x=>x.bare
 |x=>x
theorem BRel.bare{t:Nat}{v:Value}: ∀{x:AB},BRel E σ w β t v x→BRel E σ w β t v x.bare
 | .lock x,h=>BRel.bare (x:=x) h
 | .cells _ _,h=>h
 | .row _ _ _,h=>h
 | .map _ _,h=>h
 | .rowD ..,h=>h
 | .mapD ..,h=>h
 | .arena ..,h=>h
 | .arw ..,h=>h
 | .amp ..,h=>h
 | .iter _ _,h=>h
 | .gone,h=>h
def look(H:List AB)(b:Nat):Option AB:=
 match H[b]? with
 |some x=>some x.bare
 |none=>none
theorem Conc.look{st:St}{a:Act}{i:Nat}{x:AB}{v:Value}(hC:Conc E σ τ β st a w)(hx:look st.heap i=some x)(hv:β[i]? =some v):BRel E σ w β (τ i) v x:=by
 unfold Am.look at hx
 split at hx
 ·rename_i y hy
  obtain rfl:=Option.some.inj hx
  exact BRel.bare (hC.heap i _ v hy hv)
 ·cases hx
def HPres(H H':List AB):Prop:=H.length≤H'.length∧∀(i:Nat) (b:AB),H[i]? =some (.lock b)→H'[i]? =some (.lock b)
omit [Dr] in
theorem HPres.refl(H:List AB):HPres H H:=⟨Nat.le_refl _,fun _ _ h=>h⟩
omit [Dr] in
theorem HPres.trans{H H' H'':List AB}(h:HPres H H')(k:HPres H' H''):HPres H H'':=⟨Nat.le_trans h.1 k.1,fun i b hb=>k.2 i b (h.2 i b hb)⟩
omit [Dr] in
theorem HPres.app(H l:List AB):HPres H (H++l):=⟨by simp,fun i b h=>by rw[List.getElem?_append_left (List.getElem?_eq_some_iff.1 h).1];exact h⟩
omit [Dr] in
theorem HPres.set{H:List AB}{i:Nat}{x y:AB}(hx:H[i]? =some x)(hl: ∀b,x≠ .lock b):HPres H (H.set i y):=⟨by simp,fun j b h=>by
 rw[List.getElem?_set]
 by_cases hij:i=j
 ·subst hij
  rw[hx]at h
  exact absurd (Option.some.inj h) (hl b)
 ·rw[if_neg hij];exact h⟩
/-! ### of which blocks a value speaks -/
mutual
def AV.under(n:Nat):AV→Prop
 | .ptr b _=>b<n
 | .row r=>r<n
 | .lit b _ _=>b<n
 | .ap b _ _ _ _ _=>b<n
 | .rp r _ _ _=>r<n
 | .map m=>m<n
 | .apt a _ _=>a<n
 | .selfp b=>b<n
 | .clo _ fs cs=>AV.underL n fs∧AV.underL n cs
 | .ifc _ x=>AV.under n x
 | .it i k v=>i<n∧AV.under n k∧AV.under n v
 | .agg cs=>AV.underL n cs
 | .tup cs=>AV.underL n cs
 |_=>True
def AV.underL(n:Nat):List AV→Prop
 | []=>True
 |x::xs=>AV.under n x∧AV.underL n xs
end
omit [Dr] in
theorem lt_of_get{α:Type}{l:List α}{i:Nat}{x:α}(h:l[i]? =some x):i<l.length:=(List.getElem?_eq_some_iff.1 h).1
mutual
theorem Rel.under: ∀{x:AV} {u:Value},Rel E σ w β x u→x.under β.length
 | .unk,_,h=>by simp[AV.under]
 | .val v,u,h=>by simp[AV.under]
 | .ptr b off,u,h=>by simp only[Rel]at h;obtain⟨n,h1,_⟩:=h;exact lt_of_get h1
 | .sv p T xs,u,h=>by simp[AV.under]
 | .ep p T xs i off,u,h=>by simp[AV.under]
 | .row r,u,h=>by simp only[Rel]at h;exact lt_of_get h.1
 | .lit b n sz,u,h=>by simp only[Rel]at h;obtain⟨m,h1,_⟩:=h;exact lt_of_get h1
 | .ap ..,u,h=>by simp only[Rel]at h;obtain⟨m,h1,_⟩:=h;exact lt_of_get h1
 | .rp r sz i off,u,h=>by simp only[Rel]at h;obtain⟨ad,n,c,h1,_⟩:=h;exact lt_of_get h1
 | .map m,u,h=>by simp only[Rel]at h;exact lt_of_get h.1
 | .apt a k off,u,h=>by simp only[Rel]at h;obtain⟨bs,n,h1,_⟩:=h;exact lt_of_get h1
 | .selfp b,u,h=>by simp only[Rel]at h;obtain⟨n,h1,_⟩:=h;exact lt_of_get h1
 | .clo fn fs cs,u,h=>by simp only[Rel]at h;obtain⟨vs,us,_,h2,h3⟩:=h;simp only[AV.under];exact⟨RelL.under h2,RelL.under h3⟩
 | .ifc t x,u,h=>by simp only[Rel]at h;obtain⟨v,_,h2⟩:=h;simp only[AV.under];exact Rel.under h2
 | .it i k v,u,h=>by simp only[Rel]at h;obtain⟨ku,vu,h0,_,h2,h3⟩:=h;simp only[AV.under];exact⟨lt_of_get h0,Rel.under h2,Rel.under h3⟩
 | .agg cs,u,h=>by simp only[Rel]at h;obtain⟨vs,_,h2⟩:=h;simp only[AV.under];exact RelL.under h2
 | .tup cs,u,h=>by simp only[Rel]at h;obtain⟨vs,_,h2⟩:=h;simp only[AV.under];exact RelL.under h2
theorem RelL.under: ∀{xs:List AV} {us:List Value},RelL E σ w β xs us→AV.underL β.length xs
 | [],us,h=>by simp[AV.underL]
 |x::xs,us,h=>by simp only[RelL]at h;obtain⟨v,r,_,h2,h3⟩:=h;simp only[AV.underL];exact⟨Rel.under h2,RelL.under h3⟩
end
mutual
theorem Rel.less{s:List Value}: ∀{x:AV} {u:Value},Rel E σ w (β++s) x u→x.under β.length→Rel E σ w β x u
 | .unk,_,h,_=>by simp only[Rel]
 | .val v,u,h,_=>by simp only[Rel]at h⊢;exact h
 | .ptr b off,u,h,hb=>by
  simp only[Rel]at h⊢
  simp only[AV.under]at hb
  rw[List.getElem?_append_left hb]at h
  exact h
 | .sv p T xs,u,h,_=>by simp only[Rel]at h⊢;exact h
 | .ep p T xs i off,u,h,_=>by simp only[Rel]at h⊢;exact h
 | .row r,u,h,hb=>by
  simp only[Rel]at h⊢
  simp only[AV.under]at hb
  rw[List.getElem?_append_left hb]at h
  exact h
 | .lit b n sz,u,h,hb=>by
  simp only[Rel]at h⊢
  simp only[AV.under]at hb
  rw[List.getElem?_append_left hb]at h
  exact h
 | .ap b off T n i o,u,h,hb=>by
  simp only[Rel]at h⊢
  simp only[AV.under]at hb
  rw[List.getElem?_append_left hb]at h
  exact h
 | .rp r sz i off,u,h,hb=>by
  simp only[Rel]at h⊢
  simp only[AV.under]at hb
  rw[List.getElem?_append_left hb]at h
  exact h
 | .map m,u,h,hb=>by
  simp only[Rel]at h⊢
  simp only[AV.under]at hb
  rw[List.getElem?_append_left hb]at h
  exact h
 | .apt a k off,u,h,hb=>by
  simp only[Rel]at h⊢
  simp only[AV.under]at hb
  rw[List.getElem?_append_left hb]at h
  exact h
 | .selfp b,u,h,hb=>by
  simp only[Rel]at h⊢
  simp only[AV.under]at hb
  rw[List.getElem?_append_left hb]at h
  exact h
 | .clo fn fs cs,u,h,hb=>by
  simp only[Rel]at h⊢
  simp only[AV.under]at hb
  obtain⟨vs,us,h1,h2,h3⟩:=h
  exact⟨vs,us,h1,RelL.less h2 hb.1,RelL.less h3 hb.2⟩
 | .ifc t x,u,h,hb=>by
  simp only[Rel]at h⊢
  simp only[AV.under]at hb
  obtain⟨v,h1,h2⟩:=h
  exact⟨v,h1,Rel.less h2 hb⟩
 | .it i k v,u,h,hb=>by
  simp only[Rel]at h⊢
  simp only[AV.under]at hb
  obtain⟨ku,vu,h0,h1,h2,h3⟩:=h
  rw[List.getElem?_append_left hb.1]at h0
  exact⟨ku,vu,h0,h1,Rel.less h2 hb.2.1,Rel.less h3 hb.2.2⟩
 | .agg cs,u,h,hb=>by
  simp only[Rel]at h⊢
  simp only[AV.under]at hb
  obtain⟨v,h1,h2⟩:=h
  exact⟨v,h1,RelL.less h2 hb⟩
 | .tup cs,u,h,hb=>by
  simp only[Rel]at h⊢
  simp only[AV.under]at hb
  obtain⟨v,h1,h2⟩:=h
  exact⟨v,h1,RelL.less h2 hb⟩
theorem RelL.less{s:List Value}: ∀{xs:List AV} {us:List Value},RelL E σ w (β++s) xs us→AV.underL β.length xs→RelL E σ w β xs us
 | [],us,h,_=>by simp only[RelL]at h⊢;exact h
 |x::xs,us,h,hb=>by
  simp only[RelL]at h⊢
  simp only[AV.underL]at hb
  obtain⟨v,r,h1,h2,h3⟩:=h
  exact⟨v,r,h1,Rel.less h2 hb.1,RelL.less h3 hb.2⟩
end
end
end Go.Am
/- The abstract machine,part 2: operations that touch no memory; loads. No statement of its own. -/
namespace Go.Am
open Go.Vk Go.RowKit
variable [Dr]
def runPure{α:Type}(P:Program):Sem α→Option α
 | .pure a=>some a
 | .program k=>runPure P (k P)
 | .mark _ k=>runPure P k
 |_=>none
omit [Dr] in
theorem runPure_run{α:Type}{P:Program}(w:World){a:α}: ∀{s:Sem α},runPure P s=some a→s.run P w= .ok a w
 | .pure b,h=>by
  simp only[runPure,Option.some.injEq]at h
  rw[←h];rfl
 | .program k,h=>by
  simp only[runPure]at h
  have:=runPure_run w (s:=k P) h
  simpa[Sem.run]using this
 | .mark _ k,h=>by
  simp only[runPure]at h
  have:=runPure_run w (s:=k) h
  simpa[Sem.run]using this
 | .load ..,h=>by simp[runPure]at h
 | .store ..,h=>by simp[runPure]at h
 | .new ..,h=>by simp[runPure]at h
 | .shape ..,h=>by simp[runPure]at h
 | .freeze ..,h=>by simp[runPure]at h
 | .frozen ..,h=>by simp[runPure]at h
 | .getObj ..,h=>by simp[runPure]at h
 | .setObj ..,h=>by simp[runPure]at h
 | .choose ..,h=>by simp[runPure]at h
 | .sys ..,h=>by simp[runPure]at h
 | .halt ..,h=>by simp[runPure]at h
def aeval(tm:List AV):Operand→AV
 | .tmp t=>tm.getD t .unk
 | .const v=> .val v
 | .global _=> .unk
 | .func f=> .val (.func (.func f) #[] #[])
def exact1:AV→Option Value
 | .val v=>some v
 |_=>none
def exactL:List AV→Option (List Value)
 | []=>some []
 |x::xs=>match exact1 x,exactL xs with
  |some v,some vs=>some (v::vs)
  |_,_=>none
def AV.exact:AV→Option Value
 | .val v=>some v
 | .agg cs=>match exactL cs with
  |some vs=>some (.agg vs.toArray)
  |none=>none
 |_=>none
def Rng(E:Env):Nat→Prop:=fun t=> ¬E.Kp t
section
variable {E : Env} {σ : Gh} {τ : Nat → Nat} {w : World} {β : List Value} {st : St} {a : Act}
theorem aeval_rel(h:Conc E σ τ β st a w)(x:Operand):Rel E σ w β (aeval st.tmps x) (a.eval x):=by
 cases x with
 |tmp t=>
  simp only[aeval,Act.eval]
  rw[List.getD_eq_getElem?_getD]
  cases ht:st.tmps[t]? with
  |none=>simp[Rel]
  |some v=>
   obtain⟨u,h1,h2⟩:=RelL.get h.tmps ht
   rw[Array.getElem?_toList]at h1
   simp only[Option.getD_some,Array.getD_eq_getD_getElem?,h1]
   exact h2
 |const v=>simp[aeval,Rel,Act.eval]
 |global g=>simp[aeval,Rel]
 |func f=>simp[aeval,Rel,Act.eval]
theorem exactL_rel: ∀{xs:List AV} {vs us:List Value},RelL E σ w β xs us→exactL xs=some vs→us=vs
 | [],vs,us,h,he=>by
  simp only[RelL]at h
  simp only[exactL,Option.some.injEq]at he
  rw[h,he]
 |x::xs,vs,us,h,he=>by
  simp only[RelL]at h
  obtain⟨v,r,rfl,h2,h3⟩:=h
  cases x<;>simp only[exactL,exact1]at he<;>try (cases he;done)
  cases hx:exactL xs with
  |none=>rw[hx]at he;cases he
  |some ws=>
   rw[hx]at he
   simp only[Option.some.injEq]at he
   simp only[Rel]at h2
   rw[←he,h2,exactL_rel h3 hx]
theorem exact_rel{x:AV}{v u:Value}(h:Rel E σ w β x u)(he:x.exact=some v):u=v:=by
 cases x<;>simp only[AV.exact]at he<;>try (cases he;done)
 ·simp only[Option.some.injEq]at he
  subst he
  simpa[Rel]using h
 ·rename_i cs
  cases hx:exactL cs with
  |none=>rw[hx]at he;cases he
  |some ws=>
   rw[hx]at he
   simp only[Option.some.injEq]at he
   simp only[Rel]at h
   obtain⟨us,h1,h2⟩:=h
   rw[h1,←he,exactL_rel h2 hx]
end
def OpOut(P:Program)(E:Env)(σ:Gh)(β:List Value)(tm:List AV)(a:Act)(w:World)(o:Oper)(H':List AB)(av:AV):Prop:=
 OpGives P a.eval o w (fun v σ' w'=> ∃τ' β',(∃s,β'=β++s)∧EvT (Rng E) σ w σ' w'∧Conc E σ' τ' β' ⟨tm,H'⟩ a w'∧Rel E σ' w' β' av v)
section
variable {P : Program} {E : Env} {σ : Gh} {τ : Nat → Nat} {w : World} {β : List Value} {tm : List AV} {H : List AB} {a : Act} {o : Oper}
theorem OpOut.same{av:AV}{v:Value}(hC:Conc E σ τ β ⟨tm,H⟩ a w)(hr:(execOp a.eval o).run P w= .ok (.value v) w)(hv:Rel E σ w β av v):OpOut P E σ β tm a w o H av:=
 OpGives.val σ hr ⟨τ,β,⟨[],by simp⟩,EvT.refl,hC,hv⟩
/-! ### values that are known -/
def exacts(ρ:Operand→AV)(x:Operand):Value:=((ρ x).exact).getD undef
def pureX(P:Program)(o:Oper)(ρ:Operand→AV):Option Value:=
 match o.op with
 | .select .. =>none
 |_=>
  match o.op.operands.toList.all (fun x=>(ρ x).exact.isSome)with
  |true=>match runPure P (execOp (exacts ρ) o)with
   |some (.value v)=>some v
   |_=>none
  |false=>none
theorem pureX_sound{v:Value}(hC:Conc E σ τ β ⟨tm,H⟩ a w)(h:pureX P o (aeval tm)=some v):OpOut P E σ β tm a w o H (.val v):=by
 have hns: ∀cs b,o.op≠ .select cs b:=fun cs b e=>by simp[pureX,e]at h
 have hex:o.op.operands.toList.all (fun x=>(aeval tm x).exact.isSome)=true:=by
  unfold pureX at h
  split at h
  ·cases h
  ·split at h
   ·assumption
   ·cases h
 have hr:runPure P (execOp (exacts (aeval tm)) o)=some (.value v):=by
  unfold pureX at h
  split at h
  ·cases h
  ·rw[hex]at h
   simp only at h
   split at h
   ·rename_i he;rw[he];simpa using h
   ·cases h
 have hc:execOp a.eval o=execOp (exacts (aeval tm)) o:=execOp_congr o hns (fun x hx=>by
  have h1:=List.all_eq_true.1 hex x (by simpa using hx)
  obtain⟨u,hu⟩:=Option.isSome_iff_exists.1 h1
  have h2:=exact_rel (aeval_rel hC x) hu
  simp only[exacts,hu,Option.getD_some]
  exact h2)
 refine OpOut.same hC (v:=v) ?_ (by simp[Rel])
 rw[hc]
 exact runPure_run w hr
/-! ### moves -/
theorem move_sound{x:Operand}(hC:Conc E σ τ β ⟨tm,H⟩ a w)(ho:o.op= .move x∨o.op= .assign x):OpOut P E σ β tm a w o H (aeval tm x):=by
 refine OpOut.same hC (v:=a.eval x) ?_ (aeval_rel hC x)
 rcases ho with ho|ho<;>simp[execOp,ho]
def extractX(x:AV)(i:Nat):Option AV:=
 match x with
 | .tup vs=>vs[i]?
 |_=>none
theorem extract_sound{x:Operand}{i:Nat}{y:AV}(hC:Conc E σ τ β ⟨tm,H⟩ a w)(ho:o.op= .extract x i)(h:extractX (aeval tm x) i=some y):OpOut P E σ β tm a w o H y:=by
 have hx:=aeval_rel hC x
 unfold extractX at h
 split at h
 ·rename_i vs he
  rw[he]at hx
  simp only[Rel]at hx
  obtain⟨us,h1,h2⟩:=hx
  obtain⟨u,h3,h4⟩:=RelL.get h2 h
  refine OpOut.same hC (v:=u) ?_ h4
  simp[execOp,ho,Instr.extract,h1,h3]
 ·cases h
/-! ### types -/
def kindEq(k k':IntKind):Option (PLift (k=k')):=if h:k=k' then some ⟨h⟩else none
def natEq(k k':Nat):Option (PLift (k=k')):=if h:k=k' then some ⟨h⟩else none
def tyEq:(a b:Ty)→Option (PLift (a=b))
 | .int k,.int k'=>match kindEq k k' with
  |some ⟨h⟩=>some ⟨by rw[h]⟩
  |none=>none
 | .bool,.bool=>some ⟨rfl⟩
 | .str,.str=>some ⟨rfl⟩
 | .slice a,.slice b=>match tyEq a b with
  |some ⟨h⟩=>some ⟨by rw[h]⟩
  |none=>none
 | .pair a b,.pair c d=>match tyEq a c,tyEq b d with
  |some ⟨h⟩,some ⟨k⟩=>some ⟨by rw[h,k]⟩
  |_,_=>none
 | .arr k n,.arr k' n'=>match tyEq k k',natEq n n' with
  |some ⟨h⟩,some ⟨k⟩=>some ⟨by rw[h,k]⟩
  |_,_=>none
 |_,_=>none
def castL{a b:Ty}(h:a=b)(xs:List a.Den):List b.Den:=h▸xs
def structTy(f:TypeId→Option Ty):List Field→Option Ty
 | []=>none
 | [x]=>f x.type
 |x::y::r=>match f x.type,structTy f (y::r)with
  |some a,some b=>some (.pair a b)
  |_,_=>none
def tyOf(P:Program):Nat→TypeId→Option Ty
 |0,_=>none
 |n+1,t=>match P.underlying t with
  |some (.int k)=>some (.int k)
  |some .bool=>some .bool
  |some .string=>some .str
  |some (.slice e)=>(tyOf P n e).map .slice
  |some (.struct fs)=>structTy (tyOf P n) fs.toList
  |some (.array m e)=>(tyOf P n e).map fun T=> .arr T m
  |_=>none
/-! ### addresses -/
def fieldX(P:Program)(t:TypeId)(f:Nat)(x:AV):Option AV:=
 match P.underlying t with
 |some (.struct fs)=>match fs[f]? with
  |some fd=>match(P.info? fd.type).map (fun i=>Nat.blt 0 i.size)with
   |some true=>match x with
    | .ptr b off=>some (.ptr b (off+fd.offset))
    | .ep p T xs i off=>some (.ep p T xs i (off+fd.offset))
    | .rp r sz i off=>some (.rp r sz i (off+fd.offset))
    | .ap b off T n i o=>some (.ap b off T n i (o+fd.offset))
    | .apt q k off=>some (.apt q k (off+fd.offset))
    |_=>none
   |_=>none
  |none=>none
 |_=>none
theorem fieldAddr_sound{t:TypeId}{f:Nat}{x:Operand}{y:AV}(hC:Conc E σ τ β ⟨tm,H⟩ a w)(ho:o.op= .fieldAddr t x f)(h:fieldX P t f (aeval tm x)=some y):OpOut P E σ β tm a w o H y:=by
 have hx:=aeval_rel hC x
 unfold fieldX at h
 split at h
 ·rename_i fs hu
  split at h
  ·rename_i fd hf
   split at h
   ·rename_i hsz
    obtain⟨ti,hti,hlt⟩:=Option.map_eq_some_iff.1 hsz
    have hlt:ti.size≠0:=by have:0+1≤ti.size:=Nat.le_of_ble_eq_true hlt;omega
    have hrun: ∀ad:Addr,a.eval x= .pointer (some ad)→(execOp a.eval o).run P w= .ok (.value (.pointer (some (ad.add fd.offset)))) w:=fun ad he=>by
     simp[execOp,ho,he,Instr.fieldAt,run_underlying hu,hf,Instr.sureAddr,fieldPlace,sizeOf,typeInfo,hti,hlt]
    cases hv:aeval tm x with
    |ptr b off=>
     rw[hv]at h
     have hx:Rel E σ w β (.ptr b off) (a.eval x):=hv▸hx
     simp only[Option.some.injEq]at h
     subst h
     simp only[Rel]at hx
     obtain⟨n,h1,h2⟩:=hx
     refine OpOut.same hC (hrun _ h2) ?_
     simp only[Rel]
     exact⟨n,h1,by rw[add_mk]⟩
    |ep p T xs i off=>
     rw[hv]at h
     have hx:Rel E σ w β (.ep p T xs i off) (a.eval x):=hv▸hx
     simp only[Option.some.injEq]at h
     subst h
     simp only[Rel]at hx
     obtain⟨ad,t,h1,h2⟩:=hx
     refine OpOut.same hC (hrun _ h1) ?_
     simp only[Rel]
     exact⟨ad,t,by rw[add_add,Nat.add_assoc],h2⟩
    |rp r sz i off=>
     rw[hv]at h
     have hx:Rel E σ w β (.rp r sz i off) (a.eval x):=hv▸hx
     simp only[Option.some.injEq]at h
     subst h
     simp only[Rel]at hx
     obtain⟨ad,n,c,h1,h2,h3⟩:=hx
     refine OpOut.same hC (hrun _ h3) ?_
     simp only[Rel]
     exact⟨ad,n,c,h1,h2,by rw[add_add,Nat.add_assoc]⟩
    |ap b off T n i o=>
     rw[hv]at h
     have hx:Rel E σ w β (.ap b off T n i o) (a.eval x):=hv▸hx
     simp only[Option.some.injEq]at h
     subst h
     simp only[Rel]at hx
     obtain⟨m,h1,h2,h3⟩:=hx
     refine OpOut.same hC (hrun _ h3) ?_
     simp only[Rel]
     exact⟨m,h1,h2,by rw[add_mk,Nat.add_assoc off,Nat.add_assoc]⟩
    |apt q k off=>
     rw[hv]at h
     have hx:Rel E σ w β (.apt q k off) (a.eval x):=hv▸hx
     simp only[Option.some.injEq]at h
     subst h
     simp only[Rel]at hx
     obtain⟨bs,n,h1,h2,h3⟩:=hx
     refine OpOut.same hC (hrun _ h3) ?_
     simp only[Rel]
     exact⟨bs,n,h1,h2,by rw[add_mk]⟩
    |_=>simp[hv]at h
   ·cases h
  ·cases h
 ·cases h
def indexX(P:Program)(H:List AB)(t:TypeId)(x i:AV):Option (Bool×AV):=
 match P.underlying t,i with
 |some (.slice e),.val (.int _ n)=>match x with
  | .sv p T xs=>match(P.info? e).map (fun i=>Nat.beq i.size T.sz)with
   |some true=>some (decide (0≤n) && decide (n< (xs.length:Int)),.ep p T xs n.toNat 0)
   |_=>none
  | .row r=>match look H r with
   |some (.row T e' xs)=>match(P.info? e).map (fun i=>Nat.beq i.size T.sz)with
    |some true=>some (decide (0≤n) && decide (n< (xs.length:Int)),.rp r T.sz n.toNat 0)
    |_=>none
   |_=>none
  |_=>none
 |some (.array m e),.val (.int _ n)=>match x with
  | .ptr b off=>match P.info? e with
   |some ie=>match tyOf P 30 e with
    |some T=>match Nat.beq ie.size T.sz with
     |true=>some (decide (0≤n) && decide (n< (m:Int)),.ap b off T m n.toNat 0)
     |false=>none
    |none=>some (decide (0≤n) && decide (n< (m:Int)),.ptr b (off+n.toNat*ie.size))
   |none=>none
  | .ap b off T' m' j o=>match P.info? e,tyOf P 30 e with
   |some ie,some T=>match Nat.beq ie.size T.sz with
    |true=>some (decide (0≤n) && decide (n< (m:Int)),.ap b (off+(j*T'.sz+o)) T m n.toNat 0)
    |false=>none
   |_,_=>none
  | .ep p T xs j o=>match P.info? e with
   |some ie=>some (decide (0≤n) && decide (n< (m:Int)),.ep p T xs j (o+n.toNat*ie.size))
   |none=>none
  | .rp r sz j o=>match P.info? e with
   |some ie=>some (decide (0≤n) && decide (n< (m:Int)),.rp r sz j (o+n.toNat*ie.size))
   |none=>none
  |_=>none
 |_,_=>none
theorem index_sound{t:TypeId}{x ix:Operand}{y:AV}(hC:Conc E σ τ β ⟨tm,H⟩ a w)(ho:o.op= .indexAddr t x ix)(h:indexX P H t (aeval tm x) (aeval tm ix)=some (true,y)):OpOut P E σ β tm a w o H y:=by
 have hx:=aeval_rel hC x
 have hi:=aeval_rel hC ix
 unfold indexX at h
 split at h
 ·rename_i e kk n hu hin
  have hi:a.eval ix= .int kk n:=by
   have:Rel E σ w β (.val (.int kk n)) (a.eval ix):=hin▸hi
   simpa only[Rel]using this
  cases hv:aeval tm x with
  |sv p T xs=>
   rw[hv]at h
   have hx:Rel E σ w β (.sv p T xs) (a.eval x):=hv▸hx
   simp only at h
   split at h
   ·rename_i hsz
    obtain⟨ti,hti,hbeq⟩:=Option.map_eq_some_iff.1 hsz
    have hsz:(P.info? e).map (·.size)=some T.sz:=by rw[hti];simpa using Nat.eq_of_beq_eq_true hbeq
    simp only[Option.some.injEq,Prod.mk.injEq]at h
    obtain⟨hc,rfl⟩:=h
    obtain⟨h0,h1⟩:=idxS hc
    simp only[Rel]at hx
    obtain⟨A,c,t',e1,e2,e3,e4,e5⟩:=hx
    obtain⟨ad,rfl⟩:=e5.some_ h0 h1
    refine OpOut.same hC (ex_index ho hu hsz e1 hi h0 h1) ?_
    simp only[Rel]
    exact⟨ad,t',by simp,by omega,e3,e4,e5⟩
   ·cases h
  |row r=>
   rw[hv]at h
   have hx:Rel E σ w β (.row r) (a.eval x):=hv▸hx
   simp only at h
   split at h
   ·rename_i T e' xs hr
    split at h
    ·rename_i hsz
     obtain⟨ti,hti,hbeq⟩:=Option.map_eq_some_iff.1 hsz
     have hsz:(P.info? e).map (·.size)=some T.sz:=by rw[hti];simpa using Nat.eq_of_beq_eq_true hbeq
     simp only[Option.some.injEq,Prod.mk.injEq]at h
     obtain⟨hc,rfl⟩:=h
     obtain⟨h0,h1⟩:=idxS hc
     simp only[Rel]at hx
     have hb:Own T.kd e' σ (τ r) w (a.eval x) xs:=hC.look hr hx.1
     obtain⟨A,c,e1,e2,_,e5⟩:=hb.rd
     obtain⟨ad,rfl⟩:=e5.some_ h0 h1
     refine OpOut.same hC (ex_index ho hu hsz e1 hi h0 h1) ?_
     simp only[Rel]
     exact⟨ad,xs.length,c,by rw[←e1];exact hx.1,by omega,by simp⟩
    ·cases h
   ·cases h
  |_=>simp[hv]at h
 ·rename_i m e kk n hu hin
  have hi:a.eval ix= .int kk n:=by
   have:Rel E σ w β (.val (.int kk n)) (a.eval ix):=hin▸hi
   simpa only[Rel]using this
  have hrun: ∀(ie:TypeInfo) (ad:Addr),P.info? e=some ie→0≤n→n< (m:Int)→a.eval x= .pointer (some ad)→(execOp a.eval o).run P w= .ok (.value (.pointer (some (ad.add (n.toNat*ie.size))))) w:=fun ie ad hie h0 h1 e2=>by
   simp[execOp,ho,Instr.indexAt,e2,hi,asIntOf,run_underlying hu,h0,h1,sizeOf,typeInfo,hie,Instr.sureAddr]
  cases hv:aeval tm x with
  |ptr b off=>
   rw[hv]at h
   have hx:Rel E σ w β (.ptr b off) (a.eval x):=hv▸hx
   simp only[Rel]at hx
   obtain⟨nn,e1,e2⟩:=hx
   simp only at h
   split at h
   ·rename_i ie hie
    split at h
    ·rename_i T hT
     split at h
     ·rename_i hsz
      have hsz:=Nat.eq_of_beq_eq_true hsz
      simp only[Option.some.injEq,Prod.mk.injEq]at h
      obtain⟨hc,rfl⟩:=h
      obtain⟨h0,h1⟩:=idxS hc
      refine OpOut.same hC (hrun ie _ hie h0 h1 e2) ?_
      simp only[Rel]
      exact⟨nn,e1,by omega,by rw[add_mk,hsz,Nat.add_zero]⟩
     ·cases h
    ·simp only[Option.some.injEq,Prod.mk.injEq]at h
     obtain⟨hc,rfl⟩:=h
     obtain⟨h0,h1⟩:=idxS hc
     refine OpOut.same hC (hrun ie _ hie h0 h1 e2) ?_
     simp only[Rel]
     exact⟨nn,e1,by rw[add_mk]⟩
   ·cases h
  |ap b off T' m' j o=>
   rw[hv]at h
   have hx:Rel E σ w β (.ap b off T' m' j o) (a.eval x):=hv▸hx
   simp only[Rel]at hx
   obtain⟨nn,e1,_,e2⟩:=hx
   simp only at h
   split at h
   ·rename_i ie T hie hT
    split at h
    ·rename_i hsz
     have hsz:=Nat.eq_of_beq_eq_true hsz
     simp only[Option.some.injEq,Prod.mk.injEq]at h
     obtain⟨hc,rfl⟩:=h
     obtain⟨h0,h1⟩:=idxS hc
     refine OpOut.same hC (hrun ie _ hie h0 h1 e2) ?_
     simp only[Rel]
     exact⟨nn,e1,by omega,by rw[add_mk,hsz,Nat.add_zero]⟩
    ·cases h
   ·cases h
  |ep p T xs j o=>
   rw[hv]at h
   have hx:Rel E σ w β (.ep p T xs j o) (a.eval x):=hv▸hx
   simp only[Rel]at hx
   obtain⟨ad,t',e1,e2⟩:=hx
   simp only at h
   split at h
   ·rename_i ie hie
    simp only[Option.some.injEq,Prod.mk.injEq]at h
    obtain⟨hc,rfl⟩:=h
    obtain⟨h0,h1⟩:=idxS hc
    refine OpOut.same hC (hrun ie _ hie h0 h1 e1) ?_
    simp only[Rel]
    exact⟨ad,t',by rw[add_add,Nat.add_assoc],e2⟩
   ·cases h
  |rp r sz j o=>
   rw[hv]at h
   have hx:Rel E σ w β (.rp r sz j o) (a.eval x):=hv▸hx
   simp only[Rel]at hx
   obtain⟨ad,n',c,e1,e2,e3⟩:=hx
   simp only at h
   split at h
   ·rename_i ie hie
    simp only[Option.some.injEq,Prod.mk.injEq]at h
    obtain⟨hc,rfl⟩:=h
    obtain⟨h0,h1⟩:=idxS hc
    refine OpOut.same hC (hrun ie _ hie h0 h1 e3) ?_
    simp only[Rel]
    exact⟨ad,n',c,e1,e2,by rw[add_add,Nat.add_assoc]⟩
   ·cases h
  |_=>simp[hv]at h
 ·cases h
/-! ### typed cells -/
def Ty.dfl:(T:Ty)→T.Den
 | .int _=>(0:Int)
 | .bool=>false
 | .str=>ByteArray.empty
 | .slice _=> []
 | .pair a b=>(Ty.dfl a,Ty.dfl b)
 | .arr T n=>List.replicate n (Ty.dfl T)
def arrC{α:Type}(f:α→List AV)(d:α)(xs:List α):Nat→Nat→List AV
 |_,0=> []
 |j,n+1=>f (xs.getD j d)++arrC f d xs (j+1) n
def enc:(T:Ty)→T.Den→List AV
 | .int k,x=> [.val (.int k x)]
 | .bool,x=> [.val (.bool x)]
 | .str,x=> [.val (.string x)]
 | .slice T,xs=> [.sv true T xs]
 | .pair a b,x=>enc a x.1++enc b x.2
 | .arr T n,xs=>arrC (enc T) (Ty.dfl T) xs 0 n
theorem RelL.append{E:Env}{σ:Gh}{w:World}{β:List Value}: ∀{xs ys:List AV} {us vs:List Value},RelL E σ w β xs us→RelL E σ w β ys vs→RelL E σ w β (xs++ys) (us++vs)
 | [],ys,us,vs,h,k=>by simp only[RelL]at h;subst h;exact k
 |x::xs,ys,us,vs,h,k=>by
  simp only[RelL]at h
  obtain⟨v,r,rfl,h2,h3⟩:=h
  simp only[List.cons_append,RelL]
  exact⟨v,r++vs,rfl,h2,RelL.append h3 k⟩
theorem arrC_rel{E:Env}{σ:Gh}{w:World}{β:List Value}{α:Type}{f:α→List AV}{d:α}{R:α→List Value→Prop}(hf: ∀x c,R x c→RelL E σ w β (f x) c): ∀(ys xs:List α) {cs:List Value},RepsF R ys cs→RelL E σ w β (arrC f d (xs++ys) xs.length ys.length) cs
 | [],xs,cs,h=>by rw[show cs=_ from h];simp[arrC,RelL]
 |y::ys,xs,cs,⟨c,r,h,hx,hr⟩=>by
  have ih:=arrC_rel hf (d:=d) ys (xs++ [y]) hr
  rw[List.append_assoc,List.singleton_append,List.length_append,List.length_singleton]at ih
  rw[h]
  simp only[List.length_cons,arrC]
  refine RelL.append ?_ ih
  rw[List.getD_eq_getElem?_getD,List.getElem?_append_right (Nat.le_refl _),Nat.sub_self]
  exact hf _ _ hx
theorem enc_rel: ∀(T:Ty) {x:T.Den} {cs:List Value},repTy T σ w x cs→RelL E σ w β (enc T x) cs
 | .int k,x,cs,h=>by rw[show cs=_ from h];simp[enc,RelL,Rel]
 | .bool,x,cs,h=>by rw[show cs=_ from h];simp[enc,RelL,Rel]
 | .str,x,cs,h=>by rw[show cs=_ from h];simp[enc,RelL,Rel]
 | .slice T,xs,cs,⟨A,c,h,hc,hr⟩=>by
  rw[h]
  simp only[enc,RelL,Rel]
  exact⟨_,[],rfl,⟨A,c,0,rfl,hc,E.nought,fun _=>rfl,hr⟩,rfl⟩
 | .pair p q,x,cs,⟨c1,c2,h,h1,h2⟩=>by
  rw[h]
  exact RelL.append (enc_rel p h1) (enc_rel q h2)
 | .arr T n,xs,cs,⟨h,h1⟩=>by
  have h2:=arrC_rel (E:=E) (β:=β) (f:=enc T) (d:=Ty.dfl T) (fun _ _ hx=>enc_rel T hx) xs [] h
  rw[h1]at h2
  exact h2
/-! ### cells to typed values -/
def decI{α:Type}(f:List AV→Option (α×List AV)):Nat→List AV→Option (List α×List AV)
 |0,l=>some ([],l)
 |n+1,l=>match f l with
  |some (x,l1)=>match decI f n l1 with
   |some (xs,r)=>some (x::xs,r)
   |none=>none
  |none=>none
def decSl(T:Ty):AV→Option (List T.Den)
 | .val (.slice none 0 0)=>some []
 | .sv true T' xs=>match tyEq T' T with
  |some ⟨h⟩=>some (castL h xs)
  |none=>none
 |_=>none
def dec:(T:Ty)→List AV→Option (T.Den×List AV)
 | .int k,.val (.int k' x)::l=>match kindEq k' k with
  |some _=>some (x,l)
  |none=>none
 | .bool,.val (.bool x)::l=>some (x,l)
 | .str,.val (.string x)::l=>some (x,l)
 | .slice T,y::l=>match decSl T y with
  |some xs=>some (xs,l)
  |none=>none
 | .pair a b,l=>match dec a l with
  |some (x,l1)=>match dec b l1 with
   |some (y,l2)=>some ((x,y),l2)
   |none=>none
  |none=>none
 | .arr T n,l=>decI (dec T) n l
 |_,_=>none
def decN(T:Ty):Nat→List AV→Option (List T.Den×List AV)
 |0,l=>some ([],l)
 |n+1,l=>match dec T l with
  |some (x,l1)=>match decN T n l1 with
   |some (xs,r)=>some (x::xs,r)
   |none=>none
  |none=>none
theorem decI_rel{α:Type}{f:List AV→Option (α×List AV)}{R:α→List Value→Prop}(hf: ∀{l r:List AV} {x:α} {us:List Value},f l=some (x,r)→RelL E σ w β l us→∃c d,us=c++d∧R x c∧RelL E σ w β r d):
  ∀{n:Nat} {l r:List AV} {xs:List α} {us:List Value},decI f n l=some (xs,r)→RelL E σ w β l us→∃c d,us=c++d∧RepsF R xs c∧xs.length=n∧RelL E σ w β r d
 |0,l,r,xs,us,h,hr=>by
  simp only[decI,Option.some.injEq,Prod.mk.injEq]at h
  obtain⟨rfl,rfl⟩:=h
  exact⟨[],us,rfl,rfl,rfl,hr⟩
 |n+1,l,r,xs,us,h,hr=>by
  simp only[decI]at h
  split at h
  ·rename_i x l1 h1
   split at h
   ·rename_i ys r' h2
    simp only[Option.some.injEq,Prod.mk.injEq]at h
    obtain⟨rfl,rfl⟩:=h
    obtain⟨c,d,rfl,e2,e3⟩:=hf h1 hr
    obtain⟨c',d',rfl,e5,e6,e7⟩:=decI_rel hf h2 e3
    exact⟨c++c',d',by rw[List.append_assoc],⟨c,c',rfl,e2,e5⟩,by simp[e6],e7⟩
   ·cases h
  ·cases h
theorem decSl_rel{T:Ty}{y:AV}{xs:List T.Den}{u:Value}(h:decSl T y=some xs)(hr:Rel E σ w β y u): ∃A c t,u= .slice A xs.length c∧xs.length≤c∧t=0∧Rd T.kd σ t w A xs:=by
 unfold decSl at h
 split at h
 ·simp only[Option.some.injEq]at h
  subst h
  simp only[Rel]at hr
  exact⟨none,0,0,hr,Nat.le_refl _,rfl,Rd.nil⟩
 ·rename_i T' ys
  split at h
  ·rename_i hkk _
   simp only[Option.some.injEq]at h
   subst h
   simp only[Rel]at hr
   obtain⟨A,c,t,e1,e2,e3,e4,e5⟩:=hr
   subst hkk
   exact⟨A,c,t,e1,e2,e4 trivial,e5⟩
  ·cases h
 ·cases h
theorem dec_rel: ∀(T:Ty) {l r:List AV} {x:T.Den} {us:List Value},dec T l=some (x,r)→RelL E σ w β l us→∃c d,us=c++d∧repTy T σ w x c∧RelL E σ w β r d
 | .int k,l,r,x,us,h,hr=>by
  cases l with
  |nil=>simp[dec]at h
  |cons y l=>
   simp only[RelL]at hr
   obtain⟨v,u,rfl,h2,h3⟩:=hr
   cases y<;>try (simp[dec]at h;done)
   rename_i vv
   cases vv<;>try (simp[dec]at h;done)
   rename_i k' n
   simp only[dec]at h
   split at h
   ·rename_i pk _
    obtain⟨hkk⟩:=pk
    simp only[Option.some.injEq,Prod.mk.injEq]at h
    obtain⟨rfl,rfl⟩:=h
    simp only[Rel]at h2
    subst hkk
    exact⟨[v],u,rfl,by rw[h2];rfl,h3⟩
   ·cases h
 | .bool,l,r,x,us,h,hr=>by
  cases l with
  |nil=>simp[dec]at h
  |cons y l=>
   simp only[RelL]at hr
   obtain⟨v,u,rfl,h2,h3⟩:=hr
   cases y<;>try (simp[dec]at h;done)
   rename_i vv
   cases vv<;>try (simp[dec]at h;done)
   simp only[dec,Option.some.injEq,Prod.mk.injEq]at h
   obtain⟨rfl,rfl⟩:=h
   simp only[Rel]at h2
   exact⟨[v],u,rfl,by rw[h2];rfl,h3⟩
 | .str,l,r,x,us,h,hr=>by
  cases l with
  |nil=>simp[dec]at h
  |cons y l=>
   simp only[RelL]at hr
   obtain⟨v,u,rfl,h2,h3⟩:=hr
   cases y<;>try (simp[dec]at h;done)
   rename_i vv
   cases vv<;>try (simp[dec]at h;done)
   simp only[dec,Option.some.injEq,Prod.mk.injEq]at h
   obtain⟨rfl,rfl⟩:=h
   simp only[Rel]at h2
   exact⟨[v],u,rfl,by rw[h2];rfl,h3⟩
 | .slice T,l,r,x,us,h,hr=>by
  cases l with
  |nil=>simp[dec]at h
  |cons y l=>
   simp only[RelL]at hr
   obtain⟨v,u,rfl,h2,h3⟩:=hr
   simp only[dec]at h
   split at h
   ·rename_i xs hd
    simp only[Option.some.injEq,Prod.mk.injEq]at h
    obtain⟨rfl,rfl⟩:=h
    obtain⟨A,c,t,e1,e2,e3,e4⟩:=decSl_rel hd h2
    subst e3
    exact⟨[v],u,rfl,⟨A,c,by rw[e1],e2,e4⟩,h3⟩
   ·cases h
 | .pair p q,l,r,x,us,h,hr=>by
  simp only[dec]at h
  split at h
  ·rename_i x1 l1 h1
   split at h
   ·rename_i y l2 h2
    simp only[Option.some.injEq,Prod.mk.injEq]at h
    obtain⟨rfl,rfl⟩:=h
    obtain⟨c,d,rfl,e2,e3⟩:=dec_rel p h1 hr
    obtain⟨c',d',rfl,e5,e6⟩:=dec_rel q h2 e3
    exact⟨c++c',d',by rw[List.append_assoc],⟨c,c',rfl,e2,e5⟩,e6⟩
   ·cases h
  ·cases h
 | .arr T n,l,r,x,us,h,hr=>by
  simp only[dec]at h
  obtain⟨c,d,e1,e2,e3,e4⟩:=decI_rel (R:=repTy T σ w) (fun h hr=>dec_rel T h hr) h hr
  exact⟨c,d,e1,⟨e2,e3⟩,e4⟩
theorem decN_rel{T:Ty}: ∀{n:Nat} {l r:List AV} {xs:List T.Den} {us:List Value},decN T n l=some (xs,r)→RelL E σ w β l us→∃c d,us=c++d∧Reps T.kd σ w xs c∧xs.length=n∧RelL E σ w β r d
 |0,l,r,xs,us,h,hr=>by
  simp only[decN,Option.some.injEq,Prod.mk.injEq]at h
  obtain⟨rfl,rfl⟩:=h
  exact⟨[],us,rfl,rfl,rfl,hr⟩
 |n+1,l,r,xs,us,h,hr=>by
  simp only[decN]at h
  split at h
  ·rename_i x l1 h1
   split at h
   ·rename_i ys r' h2
    simp only[Option.some.injEq,Prod.mk.injEq]at h
    obtain⟨rfl,rfl⟩:=h
    obtain⟨c,d,rfl,e2,e3⟩:=dec_rel T h1 hr
    obtain⟨c',d',rfl,e5,e6,e7⟩:=decN_rel h2 e3
    exact⟨c++c',d',by rw[List.append_assoc],⟨c,c',rfl,e2,e5⟩,by simp[e6],e7⟩
   ·cases h
  ·cases h
end
end Go.Am
/- The abstract machine,part 15: structs that are compared. No statement of its own. -/
namespace Go.Am
open Go.Vk Go.RowKit
variable [Dr]
def eqFs(P:Program)(again:TypeId→Value→Value→Option Bool)(xs ys:Array Value):List Field→Option Bool
 | []=>some true
 | f :: fs => match f.name == "_",runPure P (part f.type xs f.offset),runPure P (part f.type ys f.offset) with
  |false,some a,some b=>match again f.type a b,eqFs P again xs ys fs with
   |some r,some s=>some (r && s)
   |_,_=>none
  |_,_,_=>none
def eqIs(P:Program)(again:TypeId→Value→Value→Option Bool)(e:TypeId)(c:Nat)(xs ys:Array Value):List Nat→Option Bool
 | []=>some true
 |i::is=>match runPure P (part e xs (i*c)),runPure P (part e ys (i*c))with
  |some a,some b=>match again e a b,eqIs P again e c xs ys is with
   |some r,some s=>some (r && s)
   |_,_=>none
  |_,_=>none
def eqV(P:Program):Nat→Nat→TypeId→Value→Value→Option Bool
 |0,_,_,_,_=>none
 |n+1,d,t,x,y=>match x,y with
  | .agg xs,.agg ys=>match P.underlying t,P.stoodInHeld t,d with
   |some (.struct fs),false,d'+1=>eqFs P (eqV P n d') xs ys fs.toList
   |some (.array m e),_,d'+1=>match P.info? e with
    |some _=>eqIs P (eqV P n d') e (P.cellsOf e) xs ys (List.range m)
    |none=>none
   |_,_,_=>none
  |x,y=>runPure P (Op.equalIn d t x y)
section
variable {P : Program} {w : World}
omit [Dr] in
theorem eqFs_sound{again:TypeId→Value→Value→Option Bool}{d:Nat}(ha: ∀t x y r,again t x y=some r→(Op.equalIn d t x y).run P w= .ok r w){xs ys:Array Value}: ∀{fs:List Field} {r:Bool},eqFs P again xs ys fs=some r→(Op.eqFields d xs ys fs).run P w= .ok r w
 | [],r,h=>by
  simp only[eqFs,Option.some.injEq]at h
  subst h
  exact eqf0
 |f::fs,r,h=>by
  simp only[eqFs]at h
  split at h
  ·rename_i a b hn h1 h2
   split at h
   ·rename_i r' s' h3 h4
    obtain rfl:=Option.some.inj h
    exact eqf1 a b hn (runPure_run w h1) (runPure_run w h2) (ha _ _ _ _ h3) (eqFs_sound ha h4)
   ·cases h
  ·cases h
omit [Dr] in
theorem eqIs_sound{again:TypeId→Value→Value→Option Bool}{d:Nat}(ha: ∀t x y r,again t x y=some r→(Op.equalIn d t x y).run P w= .ok r w){e:TypeId}{c:Nat}{xs ys:Array Value}: ∀{is:List Nat} {r:Bool},eqIs P again e c xs ys is=some r→(Op.eqItems d e c xs ys is).run P w= .ok r w
 | [],r,h=>by
  simp only[eqIs,Option.some.injEq]at h
  subst h
  simp[Op.eqItems]
 |i::is,r,h=>by
  simp only[eqIs]at h
  split at h
  ·rename_i a b h1 h2
   split at h
   ·rename_i r' s' h3 h4
    obtain rfl:=Option.some.inj h
    have h5:=eqIs_sound ha h4
    simp only[Op.eqItems,Sem.run_bind,runPure_run w h1,runPure_run w h2,ha _ _ _ _ h3,Result.andThen_ok]
    cases r'
    ·simp
    ·simpa using h5
   ·cases h
  ·cases h
omit [Dr] in
theorem eqV_sound: ∀(n:Nat) {d:Nat} {t:TypeId} {x y:Value} {r:Bool},eqV P n d t x y=some r→(Op.equalIn d t x y).run P w= .ok r w
 |0,d,t,x,y,r,h=>by simp[eqV]at h
 |n+1,d,t,x,y,r,h=>by
  unfold eqV at h
  split at h
  ·split at h
   ·rename_i fs d' hu hs
    exact eqA hu hs (eqFs_sound (fun t x y r hr=>eqV_sound n hr) h)
   ·rename_i m e d' hu
    split at h
    ·rename_i i hi
     rw[run_equalIn_array w d' _ _ hu hi]
     exact eqIs_sound (fun t x y r hr=>eqV_sound n hr) h
    ·cases h
   ·cases h
  ·exact runPure_run w h
def eqX(P:Program)(o:Oper)(ρ:Operand→AV):Option Value:=
 match o.op with
 | .binOp .eql t x y _=>match(ρ x).exact,(ρ y).exact with
  |some (.agg xs),some (.agg ys)=>match runPure P (eqGuard .eql t x y (.agg xs) (.agg ys)),eqV P 9 (9999+1) t (.agg xs) (.agg ys)with
   |some (),some c=>some (.bool c)
   |_,_=>none
  |_,_=>none
 | .binOp .neq t x y _=>match(ρ x).exact,(ρ y).exact with
  |some (.agg xs),some (.agg ys)=>match runPure P (eqGuard .neq t x y (.agg xs) (.agg ys)),eqV P 9 (9999+1) t (.agg xs) (.agg ys)with
   |some (),some c=>some (.bool (!c))
   |_,_=>none
  |_,_=>none
 |_=>none
theorem eqX_sound{E:Env}{σ:Gh}{τ:Nat→Nat}{β:List Value}{tm:List AV}{H:List AB}{a:Act}{o:Oper}{v:Value}(hC:Conc E σ τ β ⟨tm,H⟩ a w)(h:eqX P o (aeval tm)=some v):OpOut P E σ β tm a w o H (.val v):=by
 unfold eqX at h
 split at h
 ·rename_i t x y u ho
  split at h
  ·rename_i xs ys hx hy
   split at h
   ·rename_i c hg he
    obtain rfl:=Option.some.inj h
    exact OpOut.same hC (run_eql_of ho (exact_rel (aeval_rel hC x) hx) (exact_rel (aeval_rel hC y) hy) (eq_top (runPure_run w hg) (eqV_sound 9 he))) (by simp[Rel])
   ·cases h
  ·cases h
 ·rename_i t x y u ho
  split at h
  ·rename_i xs ys hx hy
   split at h
   ·rename_i c hg he
    obtain rfl:=Option.some.inj h
    exact OpOut.same hC (run_neq_of ho (exact_rel (aeval_rel hC x) hx) (exact_rel (aeval_rel hC y) hy) (neq_top (runPure_run w hg) (eqV_sound 9 he))) (by simp[Rel])
   ·cases h
  ·cases h
 ·cases h
end
end Go.Am
/- The abstract machine,part 3: loads,new blocks,stores,structs. No statement of its own. -/
namespace Go.Am
open Go.Vk Go.RowKit
variable [Dr]
section
variable {P : Program} {E : Env} {σ : Gh} {τ : Nat → Nat} {w : World} {β : List Value} {tm : List AV} {H : List AB} {a : Act} {o : Oper}
theorem RelL.drop: ∀{xs:List AV} {us:List Value} (n:Nat),RelL E σ w β xs us→RelL E σ w β (xs.drop n) (us.drop n)
 | [],us,n,h=>by simp only[RelL]at h;subst h;simp[RelL]
 |x::xs,us,0,h=>h
 |x::xs,us,n+1,h=>by
  simp only[RelL]at h
  obtain⟨v,r,rfl,h2,h3⟩:=h
  exact RelL.drop n h3
theorem RelL.take: ∀{xs:List AV} {us:List Value} (n:Nat),RelL E σ w β xs us→RelL E σ w β (xs.take n) (us.take n)
 | [],us,n,h=>by simp only[RelL]at h;subst h;simp[RelL]
 |x::xs,us,0,h=>by simp[RelL]
 |x::xs,us,n+1,h=>by
  simp only[RelL]at h
  obtain⟨v,r,rfl,h2,h3⟩:=h
  simp only[List.take_succ_cons,RelL]
  exact⟨v,r.take n,rfl,h2,RelL.take n h3⟩
/-! ### loads -/
def partX(P:Program)(t:TypeId)(cs:List AV)(off:Nat):Option AV:=
 match scalarB P t with
 |true=>cs[off]?
 |false=>match aggB P t,P.info? t with
  |true,some i=>match Nat.ble (off+i.size) cs.length with
   |true=>some (.agg ((cs.drop off).take i.size))
   |false=>none
  |_,_=>none
theorem part_run {t:TypeId} {x:Operand} {cs:List AV} {vs:List Value} {ad:Addr} {off:Nat} {y:AV} (hC:Conc E σ τ β ⟨tm,H⟩ a w) (ho:o.op= .load t x) (hx:a.eval x= .pointer (some (ad.add off)))
  (hr:RelL E σ w β cs vs) (hc: ∀j u,vs[j]? =some u→w.cell? (ad.add j)=some u) (h:partX P t cs off=some y):(∃u,(execOp a.eval o).run P w= .ok (.value u) w∧Rel E σ w β y u):=by
 unfold partX at h
 split at h
 ·rename_i hs
  obtain⟨u,h1,h2⟩:=RelL.get hr h
  exact⟨_,ex_load1 ho hx hs (hc _ _ h1),h2⟩
 ·split at h
  ·rename_i i ha hi
   split at h
   ·rename_i hb
    have hb:=Nat.le_of_ble_eq_true hb
    simp only[Option.some.injEq]at h
    subst h
    have hl:=hr.length
    have hlen:((vs.drop off).take i.size).length=i.size:=by simp;omega
    refine⟨_,ex_loadN (cs:=(vs.drop off).take i.size) ho hx ha (by rw[hi,hlen];rfl) (fun j u hj=> ?_),?_⟩
    ·rw[add_add]
     refine hc _ _ ?_
     rw[List.getElem?_take]at hj
     split at hj
     ·rw[List.getElem?_drop]at hj;exact hj
     ·cases hj
    ·simp only[Rel]
     exact⟨_,rfl,RelL.take _ (RelL.drop _ hr)⟩
   ·cases h
  ·cases h
def loadX(P:Program)(H:List AB)(t:TypeId)(x:AV):Option AV:=
 match x with
 | .ptr b off=>match look H b with
  |some (.cells _ cs)=>partX P t cs off
  |_=>none
 | .ep _ T xs i off=>partX P t (enc T (xs.getD i (Ty.dfl T))) off
 | .ap b off T n i o=>match look H b with
  |some (.cells _ cs)=>match decN T n (cs.drop off)with
   |some (xs,_)=>partX P t (enc T (xs.getD i (Ty.dfl T))) o
   |none=>none
  |_=>none
 | .rp r sz i off=>match look H r with
  |some (.row T _ xs)=>match Nat.beq sz T.sz with
   |true=>partX P t (enc T (xs.getD i (Ty.dfl T))) off
   |false=>none
  |some (.arw q _ ks)=>match Nat.beq sz 1,Nat.beq off 0 with
   |true,true=>partX P t [.apt q (ks.getD i 0) 0] 0
   |_,_=>none
  |_=>none
 | .apt q k off=>match look H q with
  |some (.arena T _ xs)=>partX P t (enc T (xs.getD k (Ty.dfl T))) off
  |_=>none
 |_=>none
omit [Dr] in
theorem cells_blk{t n:Nat}{T:TypeId}{vs:List Value}(h:Blk σ t w n T vs.toArray): ∀j u,vs[j]? =some u→w.cell? ((⟨n,0,none⟩:Addr).add j)=some u:=fun j u hu=>by
 rw[add_mk,h.cell,Nat.zero_add];simpa using hu
theorem load_run{t:TypeId}{x:Operand}{y:AV}(hC:Conc E σ τ β ⟨tm,H⟩ a w)(ho:o.op= .load t x)(h:loadX P H t (aeval tm x)=some y):(∃u,(execOp a.eval o).run P w= .ok (.value u) w∧Rel E σ w β y u):=by
 have hx:=aeval_rel hC x
 have elem: ∀(T:Ty) (xs:List T.Den) (t' i off:Nat) (ad:Addr),Rd T.kd σ t' w (some ad) xs→i<xs.length→a.eval x= .pointer (some (ad.add (i*T.sz+off)))→partX P t (enc T (xs.getD i (Ty.dfl T))) off=some y→(∃u,(execOp a.eval o).run P w= .ok (.value u) w∧Rel E σ w β y u):=by
  intro T xs t' i off ad hr hi hp h
  obtain⟨ad',cs,e1,e2,e3⟩:=hr.at2 (i:Int) (by omega) (by omega) (Ty.dfl T)
  obtain rfl:=Option.some.inj e1
  simp only[Int.toNat_natCast]at e2 e3
  exact part_run (ad:=ad.add (i*T.sz)) hC ho (by rw[hp,add_add]) (enc_rel T e2) e3 h
 cases hv:aeval tm x with
 |ptr b off=>
  rw[hv]at h
  have hx:Rel E σ w β (.ptr b off) (a.eval x):=hv▸hx
  simp only[loadX]at h
  split at h
  ·rename_i T cs hb
   simp only[Rel]at hx
   obtain⟨n,h1,h2⟩:=hx
   obtain⟨n',vs,e1,e2,e3⟩:=hC.look hb h1
   simp only[Value.pointer.injEq,Option.some.injEq,Addr.mk.injEq]at e1
   obtain⟨rfl,_⟩:=e1
   refine part_run (ad:=⟨n,0,none⟩) hC ho (by rw[h2,add_mk,Nat.zero_add]) e3 (cells_blk e2) h
  ·cases h
 |ep p T xs i off=>
  rw[hv]at h
  have hx:Rel E σ w β (.ep p T xs i off) (a.eval x):=hv▸hx
  simp only[loadX]at h
  simp only[Rel]at hx
  obtain⟨ad,t',h1,h2,h3,h4,h5⟩:=hx
  exact elem T xs t' i off ad h5 h2 h1 h
 |rp r sz i off=>
  rw[hv]at h
  have hx:Rel E σ w β (.rp r sz i off) (a.eval x):=hv▸hx
  simp only[loadX]at h
  split at h
  ·rename_i T e xs hr
   split at h
   ·rename_i hsz
    have hsz:=Nat.eq_of_beq_eq_true hsz
    subst hsz
    simp only[Rel]at hx
    obtain⟨ad,n,c,h1,h2,h3⟩:=hx
    obtain⟨A,c',e1,e2,_,e5⟩:=(show Own T.kd e σ (τ r) w _ xs from hC.look hr h1).rd
    injection e1 with e6 e7 e8
    subst e6 e7
    exact elem T xs _ i off ad e5 h2 h3 h
   ·cases h
  ·rename_i q e ks hr
   split at h
   ·rename_i hsz hoff
    obtain rfl:=Nat.eq_of_beq_eq_true hsz
    obtain rfl:=Nat.eq_of_beq_eq_true hoff
    simp only[Rel]at hx
    obtain⟨ad,n,c,h1,h2,h3⟩:=hx
    obtain⟨bs,f1,f2,f3⟩:=(show BRel E σ w β (τ r) _ (.arw q e ks)from hC.look hr h1)
    obtain⟨A,c',e1,e2,_,e5⟩:=f3.rd
    injection e1 with e6 e7 e8
    subst e6 e7
    obtain⟨ad',cs,g1,g2,g3⟩:=e5.at2 (i:Int) (by omega) (by omega) (.pointer none)
    obtain rfl:=Option.some.inj g1
    simp only[Int.toNat_natCast]at g2 g3
    have hi:i<ks.length:=by simpa using h2
    have hgk:(ks.map (ptrN bs)).getD i (.pointer none)=ptrN bs (ks.getD i 0):=by
     rw[List.getD_eq_getElem?_getD,List.getD_eq_getElem?_getD,List.getElem?_map,List.getElem?_eq_getElem hi];rfl
    rw[hgk]at g2
    obtain⟨g4,_⟩:=(show cs= [ptrN bs (ks.getD i 0)]∧_ from g2)
    subst g4
    have hk:ks.getD i 0<bs.length:=f2 _ (by rw[List.getD_eq_getElem?_getD,List.getElem?_eq_getElem hi];exact List.getElem_mem hi)
    refine part_run (ad:=ad.add (i*1)) (off:=0) (cs:= [.apt q (ks.getD i 0) 0]) (vs:= [ptrN bs (ks.getD i 0)]) hC ho (by rw[h3,add_add]) ?_ (fun j u hu=> ?_) h
    ·simp only[RelL,Rel]
     refine⟨_,[],rfl,⟨bs,bs[ks.getD i 0],f1,List.getElem?_eq_getElem hk,?_⟩,rfl⟩
     simp only[ptrN]
     rw[List.getD_eq_getElem?_getD,List.getElem?_eq_getElem hk];rfl
    ·exact g3 j u hu
   ·cases h
  ·cases h
 |apt q k off=>
  rw[hv]at h
  have hx:Rel E σ w β (.apt q k off) (a.eval x):=hv▸hx
  simp only[loadX]at h
  split at h
  ·rename_i T C xs hq
   simp only[Rel]at hx
   obtain⟨bs,n,h1,h2,h3⟩:=hx
   obtain⟨bs',f1,f2,f3,f4⟩:=(show BRel E σ w β (τ q) _ (.arena T C xs)from hC.look hq h1)
   obtain rfl:=ptrs_inj f1
   obtain⟨ds,y1,g1,g2,g3⟩:=f4 k n h2
   have hget:xs.getD k (Ty.dfl T)=y1:=by rw[List.getD_eq_getElem?_getD,g1];rfl
   rw[hget]at h
   exact part_run (ad:=⟨n,0,none⟩) hC ho (by rw[h3,add_mk,Nat.zero_add]) (enc_rel T g3) (cells_blk g2) h
  ·cases h
 |ap b off T n i o=>
  rw[hv]at h
  have hx:Rel E σ w β (.ap b off T n i o) (a.eval x):=hv▸hx
  simp only[loadX]at h
  split at h
  ·rename_i C cs hb
   split at h
   ·rename_i xs r hd
    simp only[Rel]at hx
    obtain⟨m,h1,h2,h3⟩:=hx
    obtain⟨n',vs,e1,e2,e3⟩:=hC.look hb h1
    simp only[Value.pointer.injEq,Option.some.injEq,Addr.mk.injEq]at e1
    obtain⟨rfl,_⟩:=e1
    obtain⟨c,d,f1,f2,f3,f4⟩:=decN_rel hd (RelL.drop off e3)
    have hi:i<xs.length:=by omega
    obtain⟨ci,g1,g2⟩:=Reps.get f2 i hi
    have hget:xs.getD i (Ty.dfl T)=xs[i]:=by rw[List.getD_eq_getElem?_getD,List.getElem?_eq_getElem hi];rfl
    rw[hget]at h
    refine part_run (ad:=⟨m,off+i*T.sz,none⟩) hC ho (by rw[h3,add_mk,Nat.add_assoc]) (enc_rel T g1) (fun j u hu=> ?_) h
    have:c[i*T.sz+j]? =some u:=g2 j u hu
    have hv2:(vs.drop off)[i*T.sz+j]? =some u:=by rw[f1,List.getElem?_append_left (List.getElem?_eq_some_iff.1 this).1];exact this
    rw[List.getElem?_drop]at hv2
    have:=cells_blk e2 _ _ hv2
    rw[add_mk,Nat.zero_add]at this
    rw[add_mk,Nat.add_assoc]
    exact this
   ·cases h
  ·cases h
 |_=>rw[hv]at h;simp[loadX]at h
theorem load_sound{t:TypeId}{x:Operand}{y:AV}(hC:Conc E σ τ β ⟨tm,H⟩ a w)(ho:o.op= .load t x)(h:loadX P H t (aeval tm x)=some y):OpOut P E σ β tm a w o H y:=by
 obtain⟨u,h1,h2⟩:=load_run hC ho h
 exact OpOut.same hC h1 h2
/-! ### the length -/
def lenX(P:Program)(H:List AB)(t:TypeId)(x:AV):Option AV:=
 match P.underlying t with
 |some (.slice _)=>match x with
  | .sv _ _ xs=>some (.val (.int .i64 xs.length))
  | .row r=>match look H r with
   |some (.row _ _ xs)=>some (.val (.int .i64 xs.length))
   |_=>none
  |_=>none
 |_=>none
theorem len_sound{x:Operand}{t:TypeId}{y:AV}(hC:Conc E σ τ β ⟨tm,H⟩ a w)(ho:o.op= .call {callee:= .builtin .len,args:= #[x],argTypes:= #[t]})(h:lenX P H t (aeval tm x)=some y):OpOut P E σ β tm a w o H y:=by
 have hx:=aeval_rel hC x
 unfold lenX at h
 split at h
 ·rename_i e hu
  have hrun: ∀A n c,a.eval x= .slice A n c→(execOp a.eval o).run P w= .ok (.value (.int .i64 n)) w:=fun A n c he=>by
   simp[execOp,ho,resolve,invoke,builtin,he,Builtin.len_,run_underlying hu,goInt]
  cases hv:aeval tm x with
  |sv p T xs=>
   rw[hv]at h
   have hx:Rel E σ w β (.sv p T xs) (a.eval x):=hv▸hx
   simp only[Option.some.injEq]at h
   subst h
   simp only[Rel]at hx
   obtain⟨A,c,t',e1,_⟩:=hx
   exact OpOut.same hC (hrun _ _ _ e1) (by simp[Rel])
  |row r=>
   rw[hv]at h
   have hx:Rel E σ w β (.row r) (a.eval x):=hv▸hx
   simp only at h
   split at h
   ·rename_i T e xs hr
    simp only[Option.some.injEq]at h
    subst h
    simp only[Rel]at hx
    obtain⟨A,c',e1,_⟩:=(show Own T.kd e σ (τ r) w _ xs from hC.look hr hx.1).rd
    exact OpOut.same hC (hrun _ _ _ e1) (by simp[Rel])
   ·cases h
  |_=>rw[hv]at h;simp at h
 ·cases h
/-! ### cells of a value -/
def AV.one:AV→Bool
 | .unk=>false
 | .val v=>v.oneCell'
 | .agg _| .tup _| .it _ _ _=>false
 |_=>true
theorem one_rel{x:AV}{u:Value}(h:Rel E σ w β x u)(h1:x.one=true):u.oneCell'=true:=by
 cases x<;>simp only[AV.one]at h1<;>try (cases h1;done)
 all_goals simp only[Rel]at h
 ·rw[h];exact h1
 ·obtain⟨n,_,rfl⟩:=h;rfl
 ·obtain⟨A,c,t,rfl,_⟩:=h;rfl
 ·obtain⟨A,t,rfl,_⟩:=h;rfl
 ·exact h.2
 ·obtain⟨m,_,rfl⟩:=h;rfl
 ·obtain⟨m,_,_,rfl⟩:=h;rfl
 ·obtain⟨ad,n,c,_,_,rfl⟩:=h;rfl
 ·exact h.2
 ·obtain⟨bs,n,_,_,rfl⟩:=h;rfl
 ·obtain⟨n,_,rfl|rfl⟩:=h<;>rfl
 ·obtain⟨vs,us,rfl,_⟩:=h;rfl
 ·obtain⟨v,rfl,_⟩:=h;rfl
def cellsA(x:AV):Option (List AV):=
 match x with
 | .agg cs=>match cs.all AV.one with
  |true=>some cs
  |false=>none
 | .val (.agg vs)=>match vs.toList.all Value.oneCell' with
  |true=>some (vs.toList.map .val)
  |false=>none
 |x=>match x.one with
  |true=>some [x]
  |false=>none
theorem relL_vals: ∀(vs:List Value),RelL E σ w β (vs.map .val) vs
 | []=>by simp[RelL]
 |v::vs=>by simp only[List.map_cons,RelL];exact⟨v,vs,rfl,by simp[Rel],relL_vals vs⟩
theorem ones_rel: ∀{xs:List AV} {us:List Value},RelL E σ w β xs us→xs.all AV.one=true→∀u∈us,u.oneCell'=true
 | [],us,h,_,u,hu=>by simp only[RelL]at h;subst h;cases hu
 |x::xs,us,h,h1,u,hu=>by
  simp only[RelL]at h
  obtain⟨v,r,rfl,h2,h3⟩:=h
  simp only[List.all_cons,Bool.and_eq_true]at h1
  rcases List.mem_cons.1 hu with rfl|hu
  ·exact one_rel h2 h1.1
  ·exact ones_rel h3 h1.2 u hu
omit [Dr] in
theorem cells_one{u:Value}(h:u.oneCell'=true):u.cells= #[u]:=by cases u<;>first|rfl|simp[Value.oneCell']at h
theorem cellsA_rel{x:AV}{u:Value}{cs:List AV}(h:Rel E σ w β x u)(hc:cellsA x=some cs):RelL E σ w β cs u.cells.toList∧∀v∈u.cells.toList,v.oneCell'=true:=by
 unfold cellsA at hc
 split at hc
 ·split at hc
  ·rename_i hall
   simp only[Option.some.injEq]at hc
   subst hc
   simp only[Rel]at h
   obtain⟨vs,rfl,h2⟩:=h
   exact⟨by simpa[Value.cells]using h2,by simpa[Value.cells]using ones_rel h2 hall⟩
  ·cases hc
 ·rename_i vs
  split at hc
  ·rename_i hall
   simp only[Option.some.injEq]at hc
   subst hc
   simp only[Rel]at h
   subst h
   refine⟨by simpa[Value.cells]using relL_vals vs.toList,fun v hv=> ?_⟩
   exact List.all_eq_true.1 hall v (by simpa[Value.cells]using hv)
  ·cases hc
 ·split at hc
  ·rename_i h1
   simp only[Option.some.injEq]at hc
   subst hc
   have:=one_rel h h1
   rw[cells_one this]
   refine⟨?_,fun v hv=> ?_⟩
   ·simp only[RelL];exact⟨u,[],rfl,h,rfl⟩
   ·simp only[List.mem_singleton]at hv;rw[hv];exact this
  ·cases hc
/-! ### new blocks -/
def updT(τ:Nat→Nat)(n t:Nat):Nat→Nat:=fun i=>if i=n then t else τ i
theorem conc_new {x:AB} {v:Value} {t:Nat} {σ1:Gh} {w1:World} (hC:Conc E σ τ β ⟨tm,H⟩ a w) (hev:EvT (fun t'=>t'=t) σ w σ1 w1) (hP: ¬E.Kp t) (ht: ∀(i:Nat) (y:AB),H[i]? =some y→y.live=true→τ i≠t)
  (hb:BRel E σ1 w1 (β++ [v]) t v x):Conc E σ1 (updT τ H.length t) (β++ [v]) ⟨tm,H++ [x]⟩ a w1:=by
 have hsz:=hC.size
 simp only at hsz
 have hP': ∀t',(E.Pr t'∨E.It t')→¬t'=t:=fun t' ht h=>hP (h▸E.sub _ ht)
 have hpre: ∃s,β++ [v]=β++s:=⟨_,rfl⟩
 have cases2: ∀(i:Nat) (y:AB),(H++ [x])[i]? =some y→(H[i]? =some y∧i<H.length∧updT τ H.length t i=τ i)∨(i=H.length∧y=x∧updT τ H.length t i=t):=by
  intro i y hy
  rcases Nat.lt_or_ge i H.length with hi|hi
  ·rw[List.getElem?_append_left hi]at hy
   exact .inl ⟨hy,hi,by simp[updT,Nat.ne_of_lt hi]⟩
  ·rw[List.getElem?_append_right hi]at hy
   have h0:i=H.length:=by
    have:=(List.getElem?_eq_some_iff.1 hy).1
    simp at this
    omega
   subst h0
   rw[Nat.sub_self]at hy
   simp only[List.getElem?_cons_zero,Option.some.injEq]at hy
   exact .inr ⟨rfl,hy.symm,by simp[updT]⟩
 refine⟨hC.defers,RelL.more hpre (RelL.ev hev hP' hC.tmps),by simp[hsz],fun i y u hy hu=> ?_,fun i y hy hl=> ?_,fun i j y z hy hz hl hk he=> ?_⟩
 ·rcases cases2 i y hy with⟨h1,h2,h3⟩|⟨rfl,rfl,h3⟩
  ·rw[List.getElem?_append_left (by omega)]at hu
   rw[h3]
   exact BRel.more (BRel.ev (hC.heap i y u h1 hu) hev hP' (fun hl=>ht i y h1 hl)) hpre
  ·rw[List.getElem?_append_right (by omega),hsz,Nat.sub_self]at hu
   simp only[List.getElem?_cons_zero,Option.some.injEq]at hu
   subst hu
   rw[h3];exact hb
 ·rcases cases2 i y hy with⟨h1,h2,h3⟩|⟨rfl,rfl,h3⟩
  ·rw[h3];exact hC.apart i y h1 hl
  ·rw[h3];exact hP
 ·rcases cases2 i y hy with⟨h1,h2,h3⟩|⟨rfl,rfl,h3⟩
  ·rcases cases2 j z hz with⟨k1,k2,k3⟩|⟨rfl,rfl,k3⟩
   ·rw[h3,k3]at he;exact hC.inj i j y z h1 k1 hl hk he
   ·rw[h3,k3]at he;exact absurd he (ht i y h1 hl)
  ·rcases cases2 j z hz with⟨k1,k2,k3⟩|⟨rfl,rfl,k3⟩
   ·rw[h3,k3]at he;exact absurd he.symm (ht j z k1 hk)
   ·rfl
theorem conc_fresh(hC:Conc E σ τ β ⟨tm,H⟩ a w): ∃t,¬E.Kp t∧∀(i:Nat) (y:AB),H[i]? =some y→y.live=true→τ i≠t:=by
 obtain⟨r,h1,h2⟩:=Gh.fresh τ E.bnd H.length
 refine⟨r,fun h=>by have:=E.low _ h;omega,fun i y hy _=> ?_⟩
 have:=h2 i (List.getElem?_eq_some_iff.1 hy).1
 omega
theorem conc_alloc{T:TypeId}{cs:List AV}{vs:Array Value}(hC:Conc E σ τ β ⟨tm,H⟩ a w)(hr:RelL E σ w β cs vs.toList):
  ∃σ' τ' β',(∃s,β'=β++s)∧EvT (Rng E) σ w σ' {w with heap:=w.heap.push (.cells vs T)}∧Conc E σ' τ' β' ⟨tm,H++ [.cells T cs]⟩ a {w with heap:=w.heap.push (.cells vs T)}∧
   Rel E σ' {w with heap:=w.heap.push (.cells vs T)} β' (.ptr H.length 0) (.pointer (some ⟨w.heap.size,0,none⟩)):=by
 have hsz:=hC.size
 simp only at hsz
 obtain⟨t,hP,ht⟩:=conc_fresh hC
 have hev1:Ev 1 1 σ w (upd σ w.heap.size t) {w with heap:=w.heap.push (.cells vs T)}:=ev_alloc σ w _ _ 1 1
 have hev:EvT (fun _=>False) σ w (upd σ w.heap.size t) {w with heap:=w.heap.push (.cells vs T)}:=EvT.of hev1 (fun t h1 h2=>by omega)
 have hpre: ∃s,β++ [Value.pointer (some ⟨w.heap.size,0,none⟩)]=β++s:=⟨_,rfl⟩
 refine⟨upd σ w.heap.size t,_,β++ [.pointer (some ⟨w.heap.size,0,none⟩)],hpre,hev.mono (fun _ h=>h.elim),conc_new hC (hev.mono (fun _ h=>h.elim)) hP ht ?_,?_⟩
 ·refine⟨w.heap.size,vs.toList,rfl,?_,RelL.more hpre (RelL.ev hev (fun _ _ h=>h) hr)⟩
  have:=blk_alloc σ w vs T t
  simpa using this
 ·simp only[Rel]
  refine⟨w.heap.size,?_,rfl⟩
  rw[List.getElem?_append_right (by omega),hsz,Nat.sub_self]
  rfl
theorem conc_allocB{T:TypeId}{cs:List AV}{vs:Array Value}(hC:Conc E σ τ β ⟨tm,H⟩ a w)(hr:RelL E σ w (β++ [.pointer (some ⟨w.heap.size,0,none⟩)]) cs vs.toList):
  ∃σ' τ' β',(∃s,β'=β++s)∧EvT (Rng E) σ w σ' {w with heap:=w.heap.push (.cells vs T)}∧Conc E σ' τ' β' ⟨tm,H++ [.cells T cs]⟩ a {w with heap:=w.heap.push (.cells vs T)}∧
   Rel E σ' {w with heap:=w.heap.push (.cells vs T)} β' (.ptr H.length 0) (.pointer (some ⟨w.heap.size,0,none⟩)):=by
 have hsz:=hC.size
 simp only at hsz
 obtain⟨t,hP,ht⟩:=conc_fresh hC
 have hev1:Ev 1 1 σ w (upd σ w.heap.size t) {w with heap:=w.heap.push (.cells vs T)}:=ev_alloc σ w _ _ 1 1
 have hev:EvT (fun _=>False) σ w (upd σ w.heap.size t) {w with heap:=w.heap.push (.cells vs T)}:=EvT.of hev1 (fun t h1 h2=>by omega)
 have hpre: ∃s,β++ [Value.pointer (some ⟨w.heap.size,0,none⟩)]=β++s:=⟨_,rfl⟩
 refine⟨upd σ w.heap.size t,_,β++ [.pointer (some ⟨w.heap.size,0,none⟩)],hpre,hev.mono (fun _ h=>h.elim),conc_new hC (hev.mono (fun _ h=>h.elim)) hP ht ?_,?_⟩
 ·refine⟨w.heap.size,vs.toList,rfl,?_,RelL.ev hev (fun _ _ h=>h) hr⟩
  have:=blk_alloc σ w vs T t
  simpa using this
 ·simp only[Rel]
  refine⟨w.heap.size,?_,rfl⟩
  rw[List.getElem?_append_right (by omega),hsz,Nat.sub_self]
  rfl
theorem box_sound{T:TypeId}{x:Operand}{cs:List AV}(hC:Conc E σ τ β ⟨tm,H⟩ a w)(ho:o.op= .box T x)(h:cellsA (aeval tm x)=some cs):OpOut P E σ β tm a w o (H++ [.cells T cs]) (.ptr H.length 0):=by
 obtain⟨h1,_⟩:=cellsA_rel (aeval_rel hC x) h
 obtain⟨σ',τ',β',h0,h2,h3,h4⟩:=conc_alloc (T:=T) hC h1
 refine OpGives.val σ' ?_ ⟨τ',β',h0,h2,h3,h4⟩
 simp[execOp,ho,Instr.box,newVar,newRow,newObj,Sem.run]
def zeroX(P:Program)(T:TypeId):Option (List AV):=
 match(P.info? T).bind (·.zero)with
 |some z=>some (z.cells.toList.map .val)
 |none=>none
theorem alloc_sound{T:TypeId}{cs:List AV}(hC:Conc E σ τ β ⟨tm,H⟩ a w)(ho:o.op= .alloc T)(h:zeroX P T=some cs):OpOut P E σ β tm a w o (H++ [.cells T cs]) (.ptr H.length 0):=by
 unfold zeroX at h
 split at h
 ·rename_i z hz
  simp only[Option.some.injEq]at h
  subst h
  obtain⟨σ',τ',β',h0,h2,h3,h4⟩:=conc_alloc (T:=T) (vs:=z.cells) hC (relL_vals z.cells.toList)
  refine OpGives.val σ' ?_ ⟨τ',β',h0,h2,h3,h4⟩
  obtain⟨i,hi,hzz⟩:=Option.bind_eq_some_iff.1 hz
  simp[execOp,ho,Instr.alloc,zeroValue,typeInfo,hi,hzz,newVar,newRow,newObj,Sem.run]
 ·cases h
def isBld(P:Program)(T:TypeId):Bool:=
 match P.underlying T with
 |some (.struct fs)=>match fs[0]? with
  |some fd=>match P.underlying fd.type with
   |some (.pointer t)=>Nat.beq t T
   |_=>false
  |none=>false
 |_=>false
def bldW(P:Program)(T:TypeId)(n:Nat)(cs:List AV):List AV:=
 match cs with
 | .val (.pointer none)::r=>match isBld P T with
  |true=> .selfp n::r
  |false=>cs
 |_=>cs
theorem allocB_sound{T:TypeId}{cs:List AV}(hC:Conc E σ τ β ⟨tm,H⟩ a w)(ho:o.op= .alloc T)(h:zeroX P T=some cs):OpOut P E σ β tm a w o (H++ [.cells T (bldW P T H.length cs)]) (.ptr H.length 0):=by
 have hsz:=hC.size
 simp only at hsz
 have h':=h
 unfold zeroX at h
 split at h
 case h_2=>cases h
 rename_i z hz
 simp only[Option.some.injEq]at h
 unfold bldW
 split
 case h_2=>exact alloc_sound hC ho h'
 rename_i r
 split
 case h_2=>exact alloc_sound hC ho h'
 obtain⟨q,hq⟩: ∃q,z.cells.toList= .pointer none::q:=by
  cases hz':z.cells.toList with
  |nil=>rw[hz']at h;simp at h
  |cons x q=>
   rw[hz']at h
   simp only[List.map_cons,List.cons.injEq,AV.val.injEq]at h
   exact⟨q,by rw[h.1]⟩
 have hr:r=q.map .val:=by
  rw[hq]at h
  simp only[List.map_cons,List.cons.injEq]at h
  exact h.2.symm
 subst hr
 obtain⟨σ',τ',β',h0,h2,h3,h4⟩:=conc_allocB (T:=T) (cs:= .selfp H.length::q.map .val) (vs:=z.cells) hC (by
  rw[hq]
  refine⟨_,_,rfl,?_,relL_vals q⟩
  simp only[Rel]
  exact⟨w.heap.size,by rw[List.getElem?_append_right (by omega),hsz,Nat.sub_self];rfl,.inl trivial⟩)
 refine OpGives.val σ' ?_ ⟨τ',β',h0,h2,h3,h4⟩
 obtain⟨i,hi,hzz⟩:=Option.bind_eq_some_iff.1 hz
 simp[execOp,ho,Instr.alloc,zeroValue,typeInfo,hi,hzz,newVar,newRow,newObj,Sem.run]
end
end Go.Am
/- The abstract machine,part 4: stores,structs,cuts of slices,rows. No statement of its own. -/
namespace Go.Am
open Go.Vk Go.RowKit
variable [Dr]
section
variable {P : Program} {E : Env} {σ σ1 : Gh} {τ : Nat → Nat} {w w1 : World} {β : List Value} {tm : List AV} {H : List AB} {a : Act} {o : Oper}
/-! ### stores -/
def putA(cs:List AV)(i:Nat):List AV→List AV
 | []=>cs
 |v::vs=>putA (cs.set i v) (i+1) vs
theorem putA_rel: ∀{ds:List AV} {us:List Value} (i:Nat) {cs:List AV} {vs:Array Value},RelL E σ w β cs vs.toList→RelL E σ w β ds us→RelL E σ w β (putA cs i ds) (putCells vs i us).toList
 | [],us,i,cs,vs,h,k=>by
  simp only[RelL]at k
  subst k
  exact h
 |d::ds,us,i,cs,vs,h,k=>by
  simp only[RelL]at k
  obtain⟨v,r,rfl,h2,h3⟩:=k
  simp only[putA,putCells]
  refine putA_rel (i+1) ?_ h3
  rw[Array.toList_setIfInBounds]
  exact RelL.set h i h2
theorem Conc.put{i:Nat}{x y:AB}{v:Value}(hC:Conc E σ τ β ⟨tm,H⟩ a w)(hx:H[i]? =some x)(hl:x.live=true)(hv:β[i]? =some v)(e:EvT (fun t=>t=τ i) σ w σ1 w1)(hy:BRel E σ1 w1 β (τ i) v y):Conc E σ1 τ β ⟨tm,H.set i y⟩ a w1:=by
 have hP: ∀t,(E.Pr t∨E.It t)→¬t=τ i:=fun t ht h=>hC.apart i x hx hl (h▸E.sub _ ht)
 have cases2: ∀(j:Nat) (z:AB),(H.set i y)[j]? =some z→(H[j]? =some z∧j≠i)∨(j=i∧z=y):=by
  intro j z hz
  rw[List.getElem?_set]at hz
  by_cases hij:i=j
  ·rw[if_pos hij]at hz
   split at hz
   ·exact .inr ⟨hij.symm,(Option.some.inj hz).symm⟩
   ·cases hz
  ·rw[if_neg hij]at hz
   exact .inl ⟨hz,fun h=>hij h.symm⟩
 refine⟨hC.defers,RelL.ev e hP hC.tmps,by rw[hC.size];simp,fun j z u hz hu=> ?_,fun j z hz hk=> ?_,fun j k z u hz hu h1 h2 he=> ?_⟩
 ·rcases cases2 j z hz with⟨h1,h2⟩|⟨rfl,rfl⟩
  ·exact BRel.ev (hC.heap j z u h1 hu) e hP (fun hk h=>h2 (hC.inj _ _ _ _ h1 hx hk hl h))
  ·rw[hv]at hu
   obtain rfl:=Option.some.inj hu
   exact hy
 ·rcases cases2 j z hz with⟨h1,h2⟩|⟨rfl,rfl⟩
  ·exact hC.apart j z h1 hk
  ·exact hC.apart _ x hx hl
 ·rcases cases2 j z hz with⟨a1,a2⟩|⟨rfl,rfl⟩
  ·rcases cases2 k u hu with⟨b1,b2⟩|⟨rfl,rfl⟩
   ·exact hC.inj j k z u a1 b1 h1 h2 he
   ·exact hC.inj _ _ _ _ a1 hx h1 hl he
  ·rcases cases2 k u hu with⟨b1,b2⟩|⟨rfl,rfl⟩
   ·exact hC.inj _ _ _ _ hx b1 hl h2 he
   ·rfl
def storeX(P:Program)(H:List AB)(t:TypeId)(x v:AV):Option (List AB):=
 match x with
 | .ptr b off=>match H[b]?,cellsA v with
  |some (.cells T cs),some ds=>match(P.info? t).map (fun i=>Nat.beq i.size ds.length),Nat.ble (off+ds.length) cs.length with
   |some true,true=>some (H.set b (.cells T (putA cs off ds)))
   |_,_=>none
  |_,_=>none
 |_=>none
theorem store_sound{t:TypeId}{x y:Operand}{H':List AB}(hC:Conc E σ τ β ⟨tm,H⟩ a w)(ho:o.op= .store t x y)(h:storeX P H t (aeval tm x) (aeval tm y)=some H'):OpOut P E σ β tm a w o H' .unk:=by
 have hx:=aeval_rel hC x
 have hy:=aeval_rel hC y
 cases hv:aeval tm x with
 |ptr b off=>
  rw[hv]at h
  have hx:Rel E σ w β (.ptr b off) (a.eval x):=hv▸hx
  simp only[storeX]at h
  split at h
  ·rename_i T cs ds hb hd
   split at h
   ·rename_i hsz hle
    simp only[Option.some.injEq]at h
    subst h
    obtain⟨ti,hti,hbeq⟩:=Option.map_eq_some_iff.1 hsz
    have hle:=Nat.le_of_ble_eq_true hle
    have hbeq:=Nat.eq_of_beq_eq_true hbeq
    simp only[Rel]at hx
    obtain⟨n,h1,h2⟩:=hx
    obtain⟨n',vs,e1,e2,e3⟩:=hC.heap b _ _ hb h1
    simp only[Value.pointer.injEq,Option.some.injEq,Addr.mk.injEq]at e1
    obtain⟨rfl,_⟩:=e1
    obtain⟨d1,d2⟩:=cellsA_rel hy hd
    have l1:=e3.length
    have l2:=d1.length
    obtain⟨w',r1,r2,r3⟩:=run_storeCells_blk (P:=P) off (a.eval y).cells.toList 0 vs.toArray w e2 (by simp only[List.size_toArray];omega) d2
    have hev:EvT (fun t=>t=τ b) σ w σ w':=EvT.of r2 (fun t h1 h2=>by omega)
    have hP: ∀t,E.Kp t→¬t=τ b:=fun t ht h=>hC.apart b _ hb rfl (h▸ht)
    refine OpGives.unit σ ?_ ⟨τ,β,⟨[],by simp⟩,hev.mono (fun t h hp=>hP t hp h),Conc.put hC hb rfl h1 hev ⟨n,(putCells vs.toArray off (a.eval y).cells.toList).toList,rfl,by simpa using r3,?_⟩,by simp[Rel]⟩
    ·have hcells:(a.eval y).cells=(a.eval y).cells.toList.toArray:=by simp
     have hl:(a.eval y).cells.size=ti.size:=by rw[←Array.length_toList,l2,hbeq]
     simp[execOp,ho,Instr.storeAt,h2,Instr.sureAddr,storeVar,sizeOf,typeInfo,hti,hl,r1]
    ·exact putA_rel off (RelL.ev hev (fun t ht=>hP t (E.sub t ht)) (by simpa using e3)) (RelL.ev hev (fun t ht=>hP t (E.sub t ht)) d1)
   ·cases h
  ·cases h
 |_=>rw[hv]at h;simp[storeX]at h
/-! ### structs -/
def fillA(place:Nat→Option (Nat×Nat))(cells:List AV):List (Nat×List AV)→Option (List AV)
 | []=>some cells
 |(i,cs)::rest=>match place i with
  |none=>none
  |some (off,size)=>match Nat.beq cs.length size,Nat.ble (off+cs.length) cells.length with
   |true,true=>fillA place (putA cells off cs) rest
   |_,_=>none
omit [Dr] in
theorem zip_put: ∀(us:List Value) (off j:Nat) (vs:Array Value),(us.zipIdx j).foldl (fun cs (c,j)=>cs.setIfInBounds (off+j) c) vs=putCells vs (off+j) us
 | [],off,j,vs=>rfl
 |u::us,off,j,vs=>by
  simp only[List.zipIdx_cons,List.foldl_cons,putCells]
  rw[zip_put us off (j+1)]
  rfl
inductive PartsRel(E:Env)(σ:Gh)(w:World)(β:List Value):List (Nat×List AV)→List (Nat×Value)→Prop
 |nil:PartsRel E σ w β [] []
 |cons {i:Nat} {cs:List AV} {v:Value} {xs:List (Nat×List AV)} {ys:List (Nat×Value)}:RelL E σ w β cs v.cells.toList→PartsRel E σ w β xs ys→PartsRel E σ w β ((i,cs)::xs) ((i,v)::ys)
theorem fillA_rel{place:Nat→Option (Nat×Nat)}: ∀{xs:List (Nat×List AV)} {ys:List (Nat×Value)} {cs r:List AV} {vs:Array Value},PartsRel E σ w β xs ys→RelL E σ w β cs vs.toList→fillA place cs xs=some r→∃rs,Instr.fill place vs ys=some rs∧RelL E σ w β r rs.toList
 | [],_,cs,r,vs,.nil,h,he=>by
  simp only[fillA,Option.some.injEq]at he
  subst he
  exact⟨vs,rfl,h⟩
 |(i,ds)::xs,_,cs,r,vs,.cons (v:=v) (ys:=ys) h1 h2,h,he=>by
  simp only[fillA]at he
  split at he
  ·cases he
  ·rename_i off size hp
   split at he
   ·rename_i hb hl
    have hb:=Nat.eq_of_beq_eq_true hb
    have hl:=Nat.le_of_ble_eq_true hl
    have l1:=h1.length
    have l2:=h.length
    simp only[Array.length_toList]at l1 l2
    obtain⟨rs,e1,e2⟩:=fillA_rel h2 (putA_rel off h h1) he
    refine⟨rs,?_,e2⟩
    have hc: ¬(v.cells.size≠size∨off+v.cells.size >vs.size):=by omega
    have hz:v.cells.zipIdx.foldl (fun cs (c,j)=>cs.setIfInBounds (off+j) c) vs=putCells vs off v.cells.toList:=by
     have:=zip_put v.cells.toList off 0 vs
     rw[Nat.add_zero]at this
     rw[←this,←Array.foldl_toList,Array.toList_zipIdx]
    simp only[Instr.fill,hp]
    rw[if_neg (by simpa using hc),hz]
    exact e1
   ·cases he
def partsX(tm:List AV):List (Nat×Operand)→Option (List (Nat×List AV))
 | []=>some []
 |(i,x)::r=>match cellsA (aeval tm x),partsX tm r with
  |some cs,some rs=>some ((i,cs)::rs)
  |_,_=>none
theorem partsX_rel(hC:Conc E σ τ β ⟨tm,H⟩ a w): ∀{l:List (Nat×Operand)} {xs:List (Nat×List AV)},partsX tm l=some xs→PartsRel E σ w β xs (l.map fun(i,x)=>(i,a.eval x))
 | [],xs,h=>by
  simp only[partsX,Option.some.injEq]at h
  subst h
  exact .nil
 |(i,x)::r,xs,h=>by
  simp only[partsX]at h
  split at h
  ·rename_i cs rs h1 h2
   simp only[Option.some.injEq]at h
   subst h
   exact .cons (cellsA_rel (aeval_rel hC x) h1).1 (partsX_rel hC h2)
  ·cases h
def placesX(P:Program)(t:TypeId):Option (Nat→Option (Nat×Nat)):=
 match P.underlying t with
 |some (.array _ e)=>(P.info? e).map fun ie=>fun i=>some (i*ie.size,ie.size)
 |some (.struct fields)=>(fields.toList.mapM (fun f=>(P.info? f.type).map fun i=>(f.offset,i.size))).map fun ps=>fun i=>ps.toArray[i]?
 |_=>none
def buildX(P:Program)(tm:List AV)(t:TypeId)(parts:List (Nat×Operand)):Option AV:=
 match placesX P t,zeroX P t,partsX tm parts with
 |some place,some z,some ps=>match fillA place z ps with
  |some cs=>some (.agg cs)
  |none=>none
 |_,_,_=>none
theorem build_sound{t:TypeId}{parts:Array (Nat×Operand)}{y:AV}(hC:Conc E σ τ β ⟨tm,H⟩ a w)(ho:o.op= .build t parts)(h:buildX P tm t parts.toList=some y):OpOut P E σ β tm a w o H y:=by
 unfold buildX at h
 split at h
 ·rename_i place z ps hp hz hps
  split at h
  ·rename_i cs hf
   simp only[Option.some.injEq]at h
   subst h
   unfold zeroX at hz
   split at hz
   ·rename_i zz hzz
    simp only[Option.some.injEq]at hz
    subst hz
    obtain⟨rs,e1,e2⟩:=fillA_rel (partsX_rel hC hps) (relL_vals (E:=E) (σ:=σ) (w:=w) (β:=β) zz.cells.toList) hf
    refine OpOut.same hC (v:= .agg rs) ?_ (by simp only[Rel];exact⟨rs.toList,by simp,e2⟩)
    have hb:P.built t (parts.map fun(i,x)=>(i,a.eval x)).toList=some rs:=by
     obtain⟨it,hit,hzt⟩:=Option.bind_eq_some_iff.1 hzz
     unfold placesX at hp
     unfold Program.built
     have e1':Instr.fill place zz.cells (parts.toList.map fun(i,x)=>(i,a.eval x))=some rs:=e1
     split at hp
     ·rename_i n e hu
      obtain⟨ie,hie,hpl⟩:=Option.map_eq_some_iff.1 hp
      subst hpl
      simp only[hit,hu,hzt,hie,Array.toList_map]
      exact e1'
     ·rename_i fields hu
      obtain⟨ps',hie,hpl⟩:=Option.map_eq_some_iff.1 hp
      subst hpl
      simp only[hit,hu,hzt,hie,Array.toList_map]
      exact e1'
     ·cases hp
    simp[execOp,ho,run_build w t _ _ hb]
   ·cases hz
  ·cases h
 ·cases h
end
end Go.Am
/- The abstract machine,part 5: typed rows: written out,appended to,cut. No statement of its own. -/
namespace Go.Am
open Go.Vk Go.RowKit
variable [Dr]
section
variable {P : Program} {E : Env} {σ σ1 : Gh} {τ : Nat → Nat} {w w1 : World} {β : List Value} {tm : List AV} {H : List AB} {a : Act} {o : Oper}
/-! ### a row of its own,new -/
theorem conc_row{T:Ty}{e:TypeId}{v:Value}{xs:List T.Den}{t:Nat}(hC:Conc E σ τ β ⟨tm,H⟩ a w)(hev:EvT (fun t'=>t'=t) σ w σ1 w1)(hP: ¬E.Kp t)(ht: ∀(i:Nat) (y:AB),H[i]? =some y→y.live=true→τ i≠t)(ho:Own T.kd e σ1 t w1 v xs):
  Conc E σ1 (updT τ H.length t) (β++ [v]) ⟨tm,H++ [.row T e xs]⟩ a w1∧Rel E σ1 w1 (β++ [v]) (.row H.length) v:=by
 have hsz:=hC.size
 simp only at hsz
 have hone:v.oneCell'=true:=by
  obtain⟨A,c,rfl,_⟩:=ho.rd
  rfl
 refine⟨conc_new hC hev hP ht ho,?_⟩
 simp only[Rel]
 refine⟨?_,hone⟩
 rw[List.getElem?_append_right (by omega),hsz,Nat.sub_self]
 rfl
def rowX(P:Program)(tm:List AV)(H:List AB)(t:TypeId)(n:Nat)(parts:List (Nat×Operand)):Option (List AB):=
 match P.underlying t with
 |some (.slice e)=>match P.info? e,tyOf P 20 e with
  |some ie,some T=>match ie.zero,Nat.ble (n*ie.size) 65536,Nat.beq (n*ie.size) 0,Nat.ble n 65536 with
   |some z,true,false,true=>match partsX tm parts with
    |some ps=>match fillA (fun i=>some (i*ie.size,ie.size)) (((Array.range (n*ie.size)).map (z.cells[· % z.cells.size]!)).toList.map .val) ps with
     |some cs=>match decN T n cs with
      |some (xs,[])=>some (H++ [.row T e xs])
      |_=>none
     |none=>none
    |none=>none
   |_,_,_,_=>none
  |_,_=>none
 |_=>none
theorem row_sound{t:TypeId}{n:Nat}{parts:Array (Nat×Operand)}{H':List AB}(hC:Conc E σ τ β ⟨tm,H⟩ a w)(ho:o.op= .buildSlice t n parts)(h:rowX P tm H t n parts.toList=some H'):OpOut P E σ β tm a w o H' (.row H.length):=by
 unfold rowX at h
 split at h
 ·rename_i e hu
  split at h
  ·rename_i ie T hie hT
   split at h
   ·rename_i z hz hle hne hn
    split at h
    ·rename_i ps hps
     split at h
     ·rename_i cs hf
      split at h
      ·rename_i xs hd
       simp only[Option.some.injEq]at h
       subst h
       have hle:=Nat.le_of_ble_eq_true hle
       have hn:=Nat.le_of_ble_eq_true hn
       have hne:=Nat.ne_of_beq_eq_false hne
       obtain⟨rs,e1,e2⟩:=fillA_rel (partsX_rel hC hps) (relL_vals (E:=E) (σ:=σ) (w:=w) (β:=β) ((Array.range (n*ie.size)).map (z.cells[· % z.cells.size]!)).toList) hf
       obtain⟨c,d,e3,e4,e5,e6⟩:=decN_rel hd e2
       simp only[RelL]at e6
       subst e6
       rw[List.append_nil]at e3
       have hrun:=run_buildSlice (P:=P) w t e n (parts.map fun(i,x)=>(i,a.eval x)) rs ie z hu hie hz (by omega) hne (by rw[Array.toList_map];exact e1)
       obtain⟨t0,hP,ht⟩:=conc_fresh hC
       have hev1:Ev 1 1 σ w (upd σ w.heap.size t0) {w with heap:=w.heap.push (.cells rs e)}:=ev_alloc σ w _ _ 1 1
       have hev:EvT (fun t=>t=t0) σ w (upd σ w.heap.size t0) {w with heap:=w.heap.push (.cells rs e)}:=EvT.of hev1 (fun t h1 h2=>by omega)
       have hown:=own_blk (blk_alloc σ w rs e t0) e5 (by omega) (by rw[e3];exact e4.ev hev1 (Nat.le_refl 1))
       obtain⟨q1,q2⟩:=conc_row hC hev hP ht hown
       refine OpGives.val _ ?_ ⟨_,_,⟨_,rfl⟩,hev.mono (fun t h hp=>hP (h▸hp)),q1,q2⟩
       simp only[execOp,ho,Sem.run_bind,hrun,Result.andThen_ok,World.alloc]
       rfl
      ·cases h
     ·cases h
    ·cases h
   ·cases h
  ·cases h
 ·cases h
def row0X(P:Program)(H:List AB)(t:TypeId)(n:Nat)(parts:List (Nat×Operand)):Option (List AB):=
 match P.underlying t with
 |some (.slice e)=>match P.info? e,tyOf P 20 e,n,parts with
  |some ie,some T,0,[]=>some (H++ [.row T e []])
  |_,_,_,_=>none
 |_=>none
theorem row0_sound{t:TypeId}{n:Nat}{parts:Array (Nat×Operand)}{H':List AB}(hC:Conc E σ τ β ⟨tm,H⟩ a w)(ho:o.op= .buildSlice t n parts)(h:row0X P H t n parts.toList=some H'):OpOut P E σ β tm a w o H' (.row H.length):=by
 unfold row0X at h
 split at h
 ·rename_i e hu
  split at h
  ·rename_i ie T hie hT hps
   simp only[Option.some.injEq]at h
   subst h
   obtain⟨t0,hP,ht⟩:=conc_fresh hC
   have hparts:parts= #[]:=by cases parts;simp_all
   subst hparts
   have hrun:(Instr.buildSlice t 0 #[]).run P w= .ok (.slice (some ⟨w.heap.size,0,none⟩) 0 0) {w with heap:=w.heap.push (.cells #[] e)}:=by
    simp[Instr.buildSlice,run_underlying hu,sizeOf,typeInfo,hie,Instr.fill,newRow,newObj,Sem.run]
    have hz: ∀f:Nat→Value,Array.map f (Array.range 0)= #[]:=fun f=>by apply Array.ext';simp
    rw[hz]
   have hev1:Ev 1 1 σ w (upd σ w.heap.size t0) {w with heap:=w.heap.push (.cells #[] e)}:=ev_alloc σ w _ _ 1 1
   have hev:EvT (fun t=>t=t0) σ w (upd σ w.heap.size t0) {w with heap:=w.heap.push (.cells #[] e)}:=EvT.of hev1 (fun t h1 h2=>by omega)
   have hown:=own_blk (K:=T.kd) (xs:= []) (n:=0) (blk_alloc σ w #[] e t0) rfl (by omega) rfl
   obtain⟨q1,q2⟩:=conc_row hC hev hP ht hown
   refine OpGives.val _ ?_ ⟨_,_,⟨_,rfl⟩,hev.mono (fun t h hp=>hP (h▸hp)),q1,q2⟩
   simp[execOp,ho,hrun]
  ·cases h
 ·cases h
end
end Go.Am
/- The abstract machine,part 6: rows that grow,cuts. No statement of its own. -/
namespace Go.Am
open Go.Vk Go.RowKit
variable [Dr]
theorem run_app {α:Type} {P:Program} {K:Kd α} {w:World} {e st ot:TypeId} {σ:Gh} {t t2:Nat} {v:Value} {xs ys:List α} {A:Option Addr} {c:Nat} {z:Value} {bytes:Nat}
  (hO:Own K e σ t w v xs) (hR:Rd K σ t2 w A ys) (ht:P.underlying st=some (.slice e)) (hinfo:(P.info? e).map (fun i=>(i.zero,i.size,i.bytes))=some (some z,K.sz,bytes)) (hz:z.cells.size=K.sz)
  (hsz:0<K.sz) (hby:bytes≤128) (h1:1≤t) (hb:xs.length+ys.length≤1099511627776):
  ∃v1 w1 σ1,(Builtin.append_ #[st,st] ot #[v,.slice A ys.length c]).run P w= .ok v1 w1∧Ev t (t+1) σ w σ1 w1∧Own K e σ1 t w1 v1 (xs++ys):=by
 obtain⟨i0,hi,hzz⟩:=Option.map_eq_some_iff.1 hinfo
 simp only[Prod.mk.injEq]at hzz
 obtain⟨hz0,hz1,hz2⟩:=hzz
 obtain⟨cs,c1,c2,c3⟩:=hO
 have hbb:(xs.length+ys.length)*bytes≤140737488355328:=Nat.le_trans (Nat.mul_le_mul hb hby) (by decide)
 rcases Nat.eq_zero_or_pos ys.length with h0|h0
 ·obtain rfl:ys= []:=List.eq_nil_of_length_eq_zero h0
  refine⟨v,w,σ,?_,Ev.refl ..,cs,by simpa using c1,c2,by simpa using c3⟩
  rcases c1.2 with⟨rfl,hn⟩|⟨g,cap,cur,rfl,_,_,hnc,_⟩
  ·rcases A with _|ad
   ·simp[Builtin.append_,run_underlying ht,sizeOf,typeInfo,hi,Builtin.lenOf,Builtin.firstCells]
   ·simp[Builtin.append_,run_underlying ht,sizeOf,typeInfo,hi,Builtin.lenOf,Builtin.firstCells,loadCells,loadCellsFrom]
  ·rcases A with _|ad
   ·simp[Builtin.append_,run_underlying ht,sizeOf,typeInfo,hi,Builtin.lenOf,Builtin.firstCells,hnc,storeCells]
   ·simp[Builtin.append_,run_underlying ht,sizeOf,typeInfo,hi,Builtin.lenOf,Builtin.firstCells,hnc,storeCells,loadCells,loadCellsFrom]
 ·obtain⟨ad,rfl,hlt,htag,hcell⟩:=hR h0
  obtain⟨ds,d1,d2⟩:=Rd.cells hcell
  obtain⟨v1,w1,hr,h2,h3,_,h5⟩:=run_append_own_at (P:=P) w 0 st ot e i0 z K.sz bytes ht hi hz0 hz1 hz2 hz hsz v xs.length cs c1 ad ys.length c ds d1.len d2 d1.one (by simp only[maxLen];omega) hbb (Nat.zero_le _)
  have hev:Ev t (t+1) σ w (fun b=>if b<w.heap.size then σ b else t) w1:=ev_grown h3 (run_drawn _ hr) (fun g hg=>c2 g hg) t
  refine⟨v1,w1,_,hr,hev,cs++ds,by simpa using h2,fun g hg=> ?_,(c3.append d1).ev hev h1⟩
  rcases h5 with h5|h5
  ·have hv:=c2 g (by rw[←h5];exact hg)
   by_cases hgs:g<w.heap.size
   ·simp[hgs,hv]
   ·simp[hgs]
  ·rw[h5]at hg
   injection hg with hg
   subst hg
   simp
section
variable {P : Program} {E : Env} {σ σ1 : Gh} {τ : Nat → Nat} {w w1 : World} {β : List Value} {tm : List AV} {H : List AB} {a : Act} {o : Oper}
omit [Dr] in
theorem tag_pos{t:Nat}(h: ¬E.Kp t):1≤t:=by
 rcases Nat.eq_zero_or_pos t with h0|h0
 ·exact absurd (h0▸E.sub _ (.inl E.nought)) h
 ·exact h0
def srcX(H:List AB)(y:AV):Option ((T:Ty)×List T.Den):=
 match y with
 | .sv _ T ys=>some ⟨T,ys⟩
 | .row r=>match look H r with
  |some (.row T _ ys)=>some ⟨T,ys⟩
  |_=>none
 |_=>none
theorem src_rel{y:AV}{T:Ty}{ys:List T.Den}{u:Value}(hC:Conc E σ τ β ⟨tm,H⟩ a w)(h:srcX H y=some ⟨T,ys⟩)(hr:Rel E σ w β y u): ∃A c t,u= .slice A ys.length c∧ys.length≤c∧Rd T.kd σ t w A ys:=by
 cases y with
 |sv p T' ys'=>
  simp only[srcX,Option.some.injEq,Sigma.mk.injEq]at h
  obtain⟨rfl,h⟩:=h
  obtain rfl:=eq_of_heq h
  simp only[Rel]at hr
  obtain⟨A,c,t,e1,e2,_,_,e5⟩:=hr
  exact⟨A,c,t,e1,e2,e5⟩
 |row r=>
  simp only[srcX]at h
  split at h
  ·rename_i T' e ys' hx
   simp only[Option.some.injEq,Sigma.mk.injEq]at h
   obtain⟨rfl,h⟩:=h
   obtain rfl:=eq_of_heq h
   simp only[Rel]at hr
   obtain⟨A,c,e1,e2,_,e5⟩:=(show Own T'.kd e σ (τ r) w u ys' from hC.look hx hr.1).rd
   exact⟨A,c,_,e1,e2,e5⟩
  ·cases h
 |_=>simp[srcX]at h
def appendX(P:Program)(H:List AB)(st:TypeId)(x y:AV):Option (Bool×List AB):=
 match P.underlying st with
 |some (.slice e)=>match P.info? e,srcX H y with
  |some ie,some ⟨T,ys⟩=>match ie.zero,Nat.ble ie.bytes 128,Nat.ble 1 ie.size,Nat.beq ie.size T.sz with
   |some z,true,true,true=>match Nat.beq z.cells.size ie.size with
    |true=>match x with
     | .val (.slice none 0 0)=>some (decide (([]:List T.Den).length+ys.length≤1099511627776),H++ [.row T e ([]++ys)])
     | .row r=>match H[r]? with
      |some (.row T' e' xs)=>match tyEq T' T,natEq e' e with
       |some ⟨h⟩,some _=>some (decide ((castL h xs).length+ys.length≤1099511627776),H.set r .gone++ [.row T e (castL h xs++ys)])
       |_,_=>none
      |_=>none
     |_=>none
    |_=>none
   |_,_,_,_=>none
  |_,_=>none
 |_=>none
theorem append_sound {st:TypeId} {x y:Operand} {H':List AB} (hC:Conc E σ τ β ⟨tm,H⟩ a w) (ho:o.op= .call {callee:= .builtin .append,args:= #[x,y],argTypes:= #[st,st]})
  (h:appendX P H st (aeval tm x) (aeval tm y)=some (true,H')):OpOut P E σ β tm a w o H' (.row H.length):=by
 have hx:=aeval_rel hC x
 have hy:=aeval_rel hC y
 unfold appendX at h
 split at h
 ·rename_i e hu
  split at h
  ·rename_i ie T ys hie hsrc
   split at h
   ·rename_i z hz hby hsz1 hszT
    split at h
    ·rename_i hzs
     have hby:=Nat.le_of_ble_eq_true hby
     have hsz1:=Nat.le_of_ble_eq_true hsz1
     have hszT:=Nat.eq_of_beq_eq_true hszT
     have hzs:=Nat.eq_of_beq_eq_true hzs
     obtain⟨A,c,t2,e1,e2,e3⟩:=src_rel hC hsrc hy
     have hinfo:(P.info? e).map (fun i=>(i.zero,i.size,i.bytes))=some (some z,T.kd.sz,ie.bytes):=by
      rw[hie];simp only[Option.map_some,hz,hszT];rfl
     have hfin: ∀v v1 w1,a.eval x=v→(Builtin.append_ #[st,st] o.type #[v,.slice A ys.length c]).run P w= .ok v1 w1→(execOp a.eval o).run P w= .ok (.value v1) w1:=by
      intro v v1 w1 hv hr
      simp only[execOp,ho,resolve,invoke,builtin,Sem.run_bind,Sem.run_pure,Result.andThen_ok,List.map_toArray,List.map_cons,List.map_nil,hv,e1,hr]
     split at h
     ·rename_i hxv
      simp only[Option.some.injEq,Prod.mk.injEq]at h
      obtain⟨hlen,rfl⟩:=h
      have hx:Rel E σ w β (.val (.slice none 0 0)) (a.eval x):=hxv▸hx
      simp only[Rel]at hx
      obtain⟨t0,hP,ht⟩:=conc_fresh hC
      obtain⟨v1,w1,σ1,r1,r2,r3⟩:=run_app (ot:=o.type) (t:=t0) (Own.nil (K:=T.kd) (e:=e) (σ:=σ) (w:=w)) e3 hu hinfo (by rw[hzs,hszT];rfl) (show 0<T.sz by omega) hby (tag_pos hP) (of_decide_eq_true hlen)
      have hev:EvT (fun t=>t=t0) σ w σ1 w1:=EvT.of r2 (fun t h1 h2=>by omega)
      obtain⟨q1,q2⟩:=conc_row hC hev hP ht r3
      exact OpGives.val σ1 (hfin _ _ _ hx r1) ⟨_,_,⟨_,rfl⟩,hev.mono (fun t h hp=>hP (h▸hp)),q1,q2⟩
     ·rename_i r hxv
      have hx:Rel E σ w β (.row r) (a.eval x):=hxv▸hx
      simp only[Rel]at hx
      split at h
      ·rename_i T' e' xs hr
       split at h
       ·rename_i hT pe _ _
        obtain⟨hE⟩:=pe
        simp only[Option.some.injEq,Prod.mk.injEq]at h
        obtain⟨hlen,rfl⟩:=h
        subst hT hE
        have hP:=hC.apart r _ hr rfl
        obtain⟨v1,w1,σ1,r1,r2,r3⟩:=run_app (ot:=o.type) (show Own T'.kd e' σ (τ r) w _ xs from hC.heap r _ _ hr hx.1) e3 hu hinfo (by rw[hzs,hszT];rfl) (show 0<T'.sz by omega) hby (tag_pos hP) (of_decide_eq_true hlen)
        have hev:EvT (fun t=>t=τ r) σ w σ1 w1:=EvT.of r2 (fun t h1 h2=>by omega)
        have hp:=Conc.put (y:= .gone) hC hr rfl hx.1 hev trivial
        have hl:(H.set r .gone).length=H.length:=by simp
        obtain⟨q1,q2⟩:=conc_row (σ1:=σ1) (w1:=w1) (t:=τ r) hp EvT.refl hP (fun i y hy hk h=>by
         rw[List.getElem?_set]at hy
         by_cases hir:r=i
         ·rw[if_pos hir]at hy
          split at hy
          ·obtain rfl:=Option.some.inj hy
           cases hk
          ·cases hy
         ·rw[if_neg hir]at hy
          exact hir (hC.inj _ _ _ _ hr hy rfl hk h.symm)) r3
        rw[hl]at q2
        exact OpGives.val σ1 (hfin _ _ _ rfl r1) ⟨_,_,⟨_,rfl⟩,hev.mono (fun t h hp=>hP (h▸hp)),q1,q2⟩
       ·cases h
      ·cases h
     ·cases h
    ·cases h
   ·cases h
  ·cases h
 ·cases h
/-! ### cuts -/
def boundX(tm:List AV)(d:Int):Option Operand→Option Int
 |none=>some d
 |some y=>match aeval tm y with
  | .val (.int _ i)=>some i
  |_=>none
def cutX(P:Program)(tm:List AV)(t:TypeId)(x:AV)(lo hi:Option Operand):Option (Bool×AV):=
 match P.underlying t with
 |some (.slice e)=>match x with
  | .sv p T xs=>match(P.info? e).map (fun i=>Nat.beq i.size T.sz),boundX tm 0 lo,boundX tm xs.length hi with
   |some true,some l,some h=>some (decide (0≤l) && (decide (l≤h) && decide (h≤(xs.length:Int))),.sv p T ((xs.take h.toNat).drop l.toNat))
   |_,_,_=>none
  |_=>none
 |_=>none
theorem bound_is{y:Option Operand}{d:Nat}{i:Int}(hC:Conc E σ τ β ⟨tm,H⟩ a w)(h:boundX tm d y=some i)(h0:0≤i):BoundIs a.eval y d i.toNat:=by
 cases y with
 |none=>
  simp only[boundX,Option.some.injEq]at h
  subst h
  simp[BoundIs]
 |some y=>
  have hr:=aeval_rel hC y
  simp only[boundX]at h
  split at h
  ·rename_i k i' he
   simp only[Option.some.injEq]at h
   subst h
   have hr:Rel E σ w β (.val (.int k i')) (a.eval y):=he▸hr
   simp only[Rel]at hr
   exact⟨k,i',hr,by omega⟩
  ·cases h
theorem cut_sound{t:TypeId}{x:Operand}{lo hi:Option Operand}{y:AV}(hC:Conc E σ τ β ⟨tm,H⟩ a w)(ho:o.op= .slice t x lo hi none)(h:cutX P tm t (aeval tm x) lo hi=some (true,y)):OpOut P E σ β tm a w o H y:=by
 have hx:=aeval_rel hC x
 unfold cutX at h
 split at h
 ·rename_i e hu
  split at h
  ·rename_i p T xs hv
   have hx:Rel E σ w β (.sv p T xs) (a.eval x):=hv▸hx
   split at h
   ·rename_i l hh hsz hl hhi
    simp only[Option.some.injEq,Prod.mk.injEq,Bool.and_eq_true,decide_eq_true_eq]at h
    obtain⟨⟨h0,h1,h2⟩,rfl⟩:=h
    obtain⟨ti,hti,hbeq⟩:=Option.map_eq_some_iff.1 hsz
    have hsz:(P.info? e).map (·.size)=some T.sz:=by rw[hti];simpa using Nat.eq_of_beq_eq_true hbeq
    have hsz:(P.info? e).map (·.size)=some T.kd.sz:=hsz
    simp only[Rel]at hx
    obtain⟨A,c,t',e1,e2,e3,e4,e5⟩:=hx
    have hlen:((xs.take hh.toNat).drop l.toNat).length=hh.toNat - l.toNat:=by simp;omega
    have hr:=ex_slice (P:=P) (w:=w) (l:=l.toNat) (h:=hh.toNat) ho hu hsz e1 (bound_is hC hl h0) (bound_is hC hhi (by omega)) (by omega) (by omega)
    rw[←hlen]at hr
    refine OpOut.same hC hr ?_
    simp only[Rel]
    exact⟨_,_,t',rfl,by omega,e3,e4,(e5.take hh.toNat).drop l.toNat c (by simp;omega)⟩
   ·cases h
  ·cases h
 ·cases h
end
end Go.Am
