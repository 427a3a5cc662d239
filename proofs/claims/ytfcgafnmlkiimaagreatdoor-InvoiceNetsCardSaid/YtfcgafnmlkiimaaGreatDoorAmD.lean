/- The abstract machine,part 8: what is carried through a loop,or over a cut. No statement of its own. -/
import Derived.Test.YtfcgafnmlkiimaaGreatDoorAmC
import Derived.Maps.RangeRun
import Derived.LoopN
set_option linter.unusedSimpArgs false
set_option linter.unusedVariables false
namespace Go.Am
open Go.Vk Go.RowKit
variable [Dr]
section
variable {P : Program} {E : Env} {σ σ1 : Gh} {τ τ' : Nat → Nat} {w w1 : World} {β β' : List Value} {tm : List AV} {H : List AB} {a : Act}
/-! ### lists of relations -/
theorem RelL.of_get: ∀{xs:List AV} {us:List Value},us.length=xs.length→(∀(i:Nat) x u,xs[i]? =some x→us[i]? =some u→Rel E σ w β x u)→RelL E σ w β xs us
 | [],us,hl,_=>by simp only[RelL];exact List.eq_nil_of_length_eq_zero (by simpa using hl)
 |x::xs,[],hl,_=>by simp at hl
 |x::xs,u::us,hl,h=>by
  simp only[RelL]
  exact⟨u,us,rfl,h 0 x u rfl rfl,RelL.of_get (by simpa using hl) (fun i y v hy hv=>h (i+1) y v (by simpa using hy) (by simpa using hv))⟩
omit [Dr] in
theorem underL_get{n:Nat}: ∀{xs:List AV},AV.underL n xs→∀{i:Nat} {x:AV},xs[i]? =some x→x.under n
 | [],_,i,x,h=>by simp at h
 |y::ys,hu,0,x,h=>by
  simp only[List.getElem?_cons_zero,Option.some.injEq]at h
  subst h
  simp only[AV.underL]at hu;exact hu.1
 |y::ys,hu,i+1,x,h=>by
  simp only[AV.underL]at hu
  exact underL_get hu.2 (by simpa using h)
def AB.under(n:Nat):AB→Prop
 | .cells _ cs=>AV.underL n cs
 | .iter b _=>b<n
 | .arw a _ _=>a<n
 | .amp a _ _=>a<n
 | .rowD _ _ _ l=> ∀i b,l=some (i,b)→b<n
 | .mapD _ _ _ l=> ∀i b,l=some (i,b)→b<n
 | .lock x=>x.under n
 |_=>True
theorem BRel.under{t:Nat}{v:Value}{x:AB}(h:BRel E σ w β t v x):x.under β.length:=by
 induction x with
 |cells T cs=>obtain⟨n,vs,_,_,h3⟩:=h;exact RelL.under h3
 |iter b since=>obtain⟨r,n,_,_,_,h4⟩:=h;exact lt_of_get h4
 |arw a e ks=>obtain⟨bs,h1,_⟩:=h;exact lt_of_get h1
 |amp a m xs=>obtain⟨n,es,bs,_,_,_,h4,_⟩:=h;exact lt_of_get h4
 |rowD d et xs l=>obtain⟨L,_,_,h3,_⟩:=h;exact h3
 |mapD m d xs l=>obtain⟨n,es,L,_,_,_,_,_,h6,_⟩:=h;exact h6
 |lock x ih=>exact ih h
 |_=>trivial
omit [Dr] in
theorem lkO_less{l:Option (Nat×Nat)}{s:List Value}{u:Value}(hu: ∀i b,l=some (i,b)→b<β.length)(h:lkO (β++s) l u):lkO β l u:=by
 obtain⟨i,b,h1,h2⟩:=h
 rw[List.getElem?_append_left (hu i b h1)]at h2
 exact⟨i,b,h1,h2⟩
theorem BRel.less{t:Nat}{v:Value}{x:AB}{s:List Value}(h:BRel E σ w (β++s) t v x)(hu:x.under β.length):BRel E σ w β t v x:=by
 induction x with
 |cells T cs=>obtain⟨n,vs,h1,h2,h3⟩:=h;exact⟨n,vs,h1,h2,RelL.less h3 hu⟩
 |lock x ih=>exact ih h hu
 |row T e xs=>exact h
 |iter b since=>
  obtain⟨r,n,h1,h2,h3,h4⟩:=h
  simp only[AB.under]at hu
  rw[List.getElem?_append_left hu]at h4
  exact⟨r,n,h1,h2,h3,h4⟩
 |map m xs=>exact h
 |arena T C xs=>exact h
 |arw a et ks=>
  obtain⟨bs,h1,h2⟩:=h
  simp only[AB.under]at hu
  rw[List.getElem?_append_left hu]at h1
  exact⟨bs,h1,h2⟩
 |amp a m xs=>
  obtain⟨n,es,bs,h1,h2,h3,h4,h5⟩:=h
  simp only[AB.under]at hu
  rw[List.getElem?_append_left hu]at h4
  exact⟨n,es,bs,h1,h2,h3,h4,h5⟩
 |rowD d et xs l=>
  obtain⟨L,h1,h2,h3,h4⟩:=h
  exact⟨L,h1,h2,hu,h4.mono (fun _ _ _ h=>h) fun u h=>lkO_less hu h⟩
 |mapD m d xs l=>
  obtain⟨n,es,L,h1,h2,h3,h4,h5,h6,h7⟩:=h
  exact⟨n,es,L,h1,h2,h3,h4,h5,hu,h7.mono (fun _ _ _ h=>h) fun u h=>lkO_less hu h⟩
 |gone=>trivial
theorem conc_less {β0 s:List Value} {tm1:List AV} {H1:List AB} (hC:Conc E σ τ (β0++s) ⟨tm,H⟩ a w) (hl:tm1.length=tm.length) (hH:H1.length=β0.length)
  (ht: ∀(t:Nat) x,tm1[t]? =some x→x= .unk∨(tm[t]? =some x∧x.under β0.length))
  (hh: ∀(i:Nat) x,H1[i]? =some x→x.live=false∨(x.under β0.length∧∃y,H[i]? =some y∧(y=x∨y= .lock x∨x= .lock y))):Conc E σ τ β0 ⟨tm1,H1⟩ a w:=by
 have hlv: ∀(x y:AB),(y=x∨y= .lock x∨x= .lock y)→y.live=x.live:=by
  rintro x y (rfl|rfl|rfl)<;>rfl
 refine⟨hC.defers,RelL.of_get (by have:=hC.tmps.length;simp only at this⊢;omega) (fun i x u hx hu=> ?_),hH.symm,fun i x v hx hv=> ?_,fun i x hx hlx=> ?_,fun i j x y hx hy hlx hly he=> ?_⟩
 ·rcases ht i x hx with rfl|⟨h1,h2⟩
  ·simp[Rel]
  ·obtain⟨u',h3,h4⟩:=RelL.get hC.tmps h1
   rw[hu]at h3
   obtain rfl:=Option.some.inj h3
   exact Rel.less h4 h2
 ·simp only at hx
  rcases hh i x hx with h1|⟨h1,y,h2,h3⟩
  ·clear hv hx
   induction x with
   |gone=>trivial
   |lock x ih=>exact ih h1
   |cells T cs=>simp[AB.live]at h1
   |row T e xs=>simp[AB.live]at h1
   |map m xs=>simp[AB.live]at h1
   |rowD d et xs l=>simp[AB.live]at h1
   |mapD m d xs l=>simp[AB.live]at h1
   |arena T C xs=>simp[AB.live]at h1
   |arw a et ks=>simp[AB.live]at h1
   |amp a m xs=>simp[AB.live]at h1
   |iter b since=>simp[AB.live]at h1
  ·have hb:=hC.heap i y v h2 (by rw[List.getElem?_append_left (by rw[←hH];exact(List.getElem?_eq_some_iff.1 hx).1)];exact hv)
   have hb:BRel E σ w (β0++s) (τ i) v x:=by
    rcases h3 with rfl|rfl|rfl<;>exact hb
   exact hb.less h1
 ·simp only at hx
  rcases hh i x hx with h1|⟨_,y,h2,h3⟩
  ·rw[hlx]at h1;cases h1
  ·exact hC.apart i y h2 (by rw[hlv x y h3];exact hlx)
 ·simp only at hx hy
  rcases hh i x hx with h1|⟨_,x',h2,h3⟩
  ·rw[hlx]at h1;cases h1
  ·rcases hh j y hy with k1|⟨_,y',k2,k3⟩
   ·rw[hly]at k1;cases k1
   ·exact hC.inj i j x' y' h2 k2 (by rw[hlv x x' h3];exact hlx) (by rw[hlv y y' k3];exact hly) he
/-! ### what is carried -/
inductive Car where
 |sl (t:Tmp) (ag:Bool) (T:Ty)
 /-- a thing in a slot -/
 |dts (t:Tmp) (d:DT)
 /-- a block that stays where it is,and all that its cells own -/
 |dtb (b:Nat) (C:TypeId) (d:DT)
 /-- a row that stays where it is -/
 |rw (r:Nat) (T:Ty) (e:TypeId)
 /-- a map that stays where it is -/
 |mp (r:Nat) (m:MTy)
 /-- a map of things,a row of things,that stay where they are -/
 |mpD (r:Nat) (m:MTy) (d:DT)
 |rwD (r:Nat) (d:DT) (e:TypeId)
 /-- a block of n cells,of which nothing is said yet -/
 |opn (b:Nat) (C:TypeId) (n:Nat)
 /-- a block whose first cell may hold its own address,and n more of which nothing is said yet -/
 |opb (b:Nat) (C:TypeId) (n:Nat)
 /-- cells of such a block -/
 |cl (b off:Nat) (T:Ty)
 /-- cells of such a block,and what they own -/
 |dtc (b off:Nat) (d:DT)
@[reducible] def Car.Den:Car→Type
 | .sl _ _ T=>T.Den
 | .dts _ d=>d.Den
 | .dtb _ _ d=>d.Den
 | .rw _ T _=>List T.Den
 | .mp _ m=>Mp m.K m.V
 | .mpD _ m d=>Gp m.K d.Den
 | .rwD _ d _=>List d.Den
 | .opn _ _ _=>Unit
 | .opb _ _ _=>Unit
 | .cl _ _ T=>T.Den
 | .dtc _ _ d=>d.Den
@[reducible] def CarsDen:List Car→Type
 | []=>Unit
 | [c]=>c.Den
 |c::d::l=>c.Den×CarsDen (d::l)
def pack1:(c:Car)→List AV→List AB→Option (c.Den×List AB)
 | .sl t ag T,tm,H=>match tm[t]? with
  |some x=>match decV ag T x with
   |some y=>some (y,H)
   |none=>none
  |none=>none
 | .dts t d,tm,H=>match tm[t]? with
  |some c=>match packD d [c] H with
   |some (y,[],H')=>some (y,H')
   |_=>none
  |none=>none
 | .dtb b C d,tm,H=>match H[b]? with
  |some (.cells C' cs)=>match natEq C' C,packD d cs (H.set b .gone)with
   |some _,some (y,[],H')=>some (y,H')
   |_,_=>none
  |_=>none
 | .rw r T e,tm,H=>match H[r]? with
  |some (.row T' e' xs)=>match tyEq T' T,natEq e' e with
   |some ⟨h⟩,some _=>some (castL h xs,H.set r .gone)
   |_,_=>none
  |_=>none
 | .mp r m,tm,H=>match H[r]? with
  |some (.map m' xs)=>match mtyEq m' m with
   |some ⟨h⟩=>some (castM h xs,H.set r .gone)
   |none=>none
  |_=>none
 | .mpD r m d,tm,H=>match H[r]? with
  |some (.mapD m' d' xs none)=>match mtyEq m' m,dtEq d' d with
   |some ⟨h⟩,some ⟨k⟩=>some (castDG h k xs,H.set r .gone)
   |_,_=>none
  |_=>none
 | .rwD r d e,tm,H=>match H[r]? with
  |some (.rowD d' e' xs none)=>match dtEq d' d,natEq e' e with
   |some ⟨k⟩,some _=>some (castDL k xs,H.set r .gone)
   |_,_=>none
  |_=>none
 | .opn b C n,tm,H=>match H[b]? with
  |some (.cells C' cs)=>match natEq C' C,Nat.beq cs.length n with
   |some _,true=>some ((),H.set b (.lock (.cells C' cs)))
   |_,_=>none
  |_=>none
 | .opb b C n,tm,H=>match H[b]? with
  |some (.cells C' (.selfp q::cs))=>match natEq C' C,natEq q b,Nat.beq cs.length n with
   |some _,some _,true=>some ((),H.set b (.lock (.cells C' (.selfp q::cs))))
   |_,_,_=>none
  |_=>none
 | .cl b off T,tm,H=>match look H b with
  |some (.cells _ cs)=>match whole (dec T ((cs.drop off).take T.sz))with
   |some y=>some (y,H)
   |none=>none
  |_=>none
 | .dtc b off d,tm,H=>match look H b with
  |some (.cells _ cs)=>match packD d ((cs.drop off).take d.sz) H with
   |some (y,[],H')=>some (y,H')
   |_=>none
  |_=>none
def putB(b off:Nat)(ds:List AV)(H:List AB):List AB:=
 match H[b]? with
 |some (.cells C cs)=>H.set b (.cells C (putA cs off ds))
 |_=>H
def packC:(cs:List Car)→List AV→List AB→Option (CarsDen cs)
 | [],_,_=>some ()
 | [c],tm,H=>match pack1 c tm H with
  |some (x,_)=>some x
  |none=>none
 |c::d::l,tm,H=>match pack1 c tm H with
  |some (x,H')=>match packC (d::l) tm H' with
   |some y=>some (x,y)
   |none=>none
  |none=>none
def unpack1:(c:Car)→c.Den→List AV×List AB→List AV×List AB
 | .sl t ag T,y,s=>(s.1.set t (encV ag T y),s.2)
 | .dts t d,y,s=>(s.1.set t ((unpackD d y s.2).1.headD .unk),(unpackD d y s.2).2)
 | .dtb b C d,y,s=>(s.1,(unpackD d y (s.2.set b (.cells C (List.replicate d.sz .unk)))).2.set b (.cells C (unpackD d y (s.2.set b (.cells C (List.replicate d.sz .unk)))).1))
 | .rw r T e,xs,s=>(s.1,s.2.set r (.row T e xs))
 | .mp r m,xs,s=>(s.1,s.2.set r (.map m xs))
 | .mpD r m d,xs,s=>(s.1,s.2.set r (.mapD m d xs none))
 | .rwD r d e,xs,s=>(s.1,s.2.set r (.rowD d e xs none))
 | .opn b C n,_,s=>(s.1,s.2.set b (.cells C (List.replicate n .unk)))
 | .opb b C n,_,s=>(s.1,s.2.set b (.cells C (.selfp b::List.replicate n .unk)))
 | .cl b off T,y,s=>(s.1,putB b off (enc T y) s.2)
 | .dtc b off d,y,s=>(s.1,putB b off (unpackD d y s.2).1 (unpackD d y s.2).2)
def unpackC:(cs:List Car)→CarsDen cs→List AV×List AB→List AV×List AB
 | [],_,s=>s
 | [c],x,s=>unpack1 c x s
 |c::d::l,x,s=>unpackC (d::l) x.2 (unpack1 c x.1 s)
def Disj(τ τ':Nat→Nat)(H1 Hs:List AB):Prop:=
 ∀(i:Nat) x (j:Nat) y,H1[i]? =some x→x.live=true→Hs[j]? =some y→y.live=true→(∀b,y≠ .lock b)→τ i≠τ' j
structure Mid(E E':Env)(σ:Gh)(w:World)(a:Act)(τ:Nat→Nat)(β:List Value)(tm1:List AV)(H1:List AB)(τ':Nat→Nat)(β':List Value)(tm:List AV)(Hs:List AB)(n:Nat):Prop where
 base:Conc E σ τ β ⟨tm1,H1⟩ a w
 sub: ∀t,E.Kp t→E'.Kp t
 src:Conc E' σ τ' β' ⟨tm,Hs⟩ a w
 disj:Disj τ τ' H1 Hs
 same: ∀i,i<n→τ i=τ' i∧β[i]? =β'[i]?
 blks: ∀(i:Nat) x,i<n→H1[i]? =some x→x.live=true→∀y,Hs[i]? =some y→y.live=true→∃b,y= .lock b
 long:n≤H1.length
omit [Dr] in
theorem set_same{α:Type}{l:List α}{i:Nat}{x:α}(h:l[i]? =some x):l.set i x=l:=by
 obtain⟨hi,rfl⟩:=List.getElem?_eq_some_iff.1 h
 exact List.set_getElem_self hi
theorem Conc.setT{t:Nat}{av:AV}{u:Value}(hC:Conc E σ τ β ⟨tm,H⟩ a w)(hu:a.tmps.toList[t]? =some u)(h:Rel E σ w β av u):Conc E σ τ β ⟨tm.set t av,H⟩ a w:=
 ⟨hC.defers,by have:=RelL.set hC.tmps t h;rw[set_same hu]at this;exact this,hC.size,hC.heap,hC.apart,hC.inj⟩
def Car.ok(n:Nat):Car→Bool
 | .dtb b _ _=>Nat.blt b n
 | .rw b _ _=>Nat.blt b n
 | .mp b _=>Nat.blt b n
 | .mpD b _ _=>Nat.blt b n
 | .rwD b _ _=>Nat.blt b n
 | .opn b _ _=>Nat.blt b n
 | .opb b _ _=>Nat.blt b n
 | .cl b _ _=>Nat.blt b n
 | .dtc b _ _=>Nat.blt b n
 |_=>true
theorem mid_make {E':Env} {n b:Nat} {tm1:List AV} {H1 Hs Hs':List AB} {xS z:AB} (hM:Mid E E' σ w a τ β tm1 H1 τ' β' tm Hs n) (hbn:b<n) (hb:Hs[b]? =some xS) (hlS:xS.live=true) (hnS: ∀l,xS≠ .lock l)
  (hrel: ∀v,β'[b]? =some v→BRel E' σ w β' (τ' b) v xS→BRel E σ w β (τ' b) v z) (hs':Conc E' σ τ' β' ⟨tm,Hs'⟩ a w)
  (hsub: ∀(j:Nat) y,Hs'[j]? =some y→y.live=true→(Hs[j]? =some y∧j≠b)∨(j=b∧∃l,y= .lock l)):
  Mid E E' σ w a τ β tm1 (H1.set b z) τ' β' tm Hs' n:=by
 obtain⟨s1,s2⟩:=hM.same b hbn
 obtain⟨v,hv⟩: ∃v,β'[b]? =some v:=⟨_,List.getElem?_eq_getElem (by rw[hM.src.size];exact(List.getElem?_eq_some_iff.1 hb).1)⟩
 have hBR:=hrel v hv (hM.src.heap b _ v hb hv)
 have hset: ∀(i:Nat) (x:AB),(H1.set b z)[i]? =some x→(H1[i]? =some x∧i≠b)∨(i=b∧x=z):=by
  intro i x hx
  rw[List.getElem?_set]at hx
  by_cases hij:b=i
  ·rw[if_pos hij]at hx
   split at hx
   ·exact .inr ⟨hij.symm,(Option.some.inj hx).symm⟩
   ·cases hx
  ·rw[if_neg hij]at hx
   exact .inl ⟨hx,fun h=>hij h.symm⟩
 refine⟨⟨hM.base.defers,hM.base.tmps,by rw[hM.base.size];simp,fun i x u hx hu=> ?_,fun i x hx hl=> ?_,fun i j x u hx hu hl hk he=> ?_⟩,hM.sub,hs',fun i x j u hx hl hu hk hnl'=> ?_,hM.same,fun i x hi hx hl u hu hk=> ?_,by simpa using hM.long⟩
 ·rcases hset i x hx with⟨h1,h2⟩|⟨rfl,rfl⟩
  ·exact hM.base.heap i x u h1 hu
  ·rw[s2,hv]at hu
   obtain rfl:=Option.some.inj hu
   rw[s1];exact hBR
 ·rcases hset i x hx with⟨h1,h2⟩|⟨rfl,rfl⟩
  ·exact hM.base.apart i x h1 hl
  ·rw[s1];exact fun hp=>hM.src.apart _ _ hb hlS (hM.sub _ hp)
 ·rcases hset i x hx with⟨h1,h2⟩|⟨rfl,rfl⟩
  ·rcases hset j u hu with⟨k1,k2⟩|⟨rfl,rfl⟩
   ·exact hM.base.inj i j x u h1 k1 hl hk he
   ·rw[s1]at he
    exact absurd he (hM.disj i x _ _ h1 hl hb hlS hnS)
  ·rcases hset j u hu with⟨k1,k2⟩|⟨rfl,rfl⟩
   ·rw[s1]at he
    exact absurd he.symm (hM.disj j u _ _ k1 hk hb hlS hnS)
   ·rfl
 ·rcases hsub j u hu hk with⟨g1,g2⟩|⟨rfl,l,rfl⟩
  ·rcases hset i x hx with⟨h1,h2⟩|⟨rfl,rfl⟩
   ·exact hM.disj i x j u h1 hl g1 hk hnl'
   ·rw[s1];exact fun he=>g2 (hM.src.inj _ _ _ _ hb g1 hlS hk he).symm
  ·exact absurd rfl (hnl' l)
 ·rcases hsub i u hu hk with⟨g1,g2⟩|⟨rfl,l,rfl⟩
  ·rcases hset i x hx with⟨h1,h2⟩|⟨rfl,rfl⟩
   ·exact hM.blks i x hi h1 hl u g1 hk
   ·exact absurd rfl g2
  ·exact⟨l,rfl⟩
theorem mid_cell {E':Env} {n b off:Nat} {tm1:List AV} {H1 Hs:List AB} {ds:List AV} (hM:Mid E E' σ w a τ β tm1 H1 τ' β' tm Hs n)
  (hrel: ∀v,β[b]? =some v→∀(C:TypeId) (cs:List AV),H1[b]? =some (.cells C cs)→BRel E σ w β (τ b) v (.cells C cs)→BRel E σ w β (τ b) v (.cells C (putA cs off ds))):Mid E E' σ w a τ β tm1 (putB b off ds H1) τ' β' tm Hs n:=by
 unfold putB
 split
 case h_2=>exact hM
 rename_i C cs hb
 have hset: ∀(i:Nat) (x:AB),(H1.set b (.cells C (putA cs off ds)))[i]? =some x→(H1[i]? =some x∧i≠b)∨(i=b∧x= .cells C (putA cs off ds)):=by
  intro i x hx
  rw[List.getElem?_set]at hx
  by_cases hij:b=i
  ·rw[if_pos hij]at hx
   split at hx
   ·exact .inr ⟨hij.symm,(Option.some.inj hx).symm⟩
   ·cases hx
  ·rw[if_neg hij]at hx
   exact .inl ⟨hx,fun h=>hij h.symm⟩
 refine⟨⟨hM.base.defers,hM.base.tmps,by rw[hM.base.size];simp,fun i x u hx hu=> ?_,fun i x hx hl=> ?_,fun i j x u hx hu hl hk he=> ?_⟩,hM.sub,hM.src,fun i x j u hx hl hu hk hnl'=> ?_,hM.same,fun i x hi hx hl u hu hk=> ?_,by simpa using hM.long⟩
 ·rcases hset i x hx with⟨h1,h2⟩|⟨rfl,rfl⟩
  ·exact hM.base.heap i x u h1 hu
  ·exact hrel u hu C cs hb (hM.base.heap _ _ u hb hu)
 ·rcases hset i x hx with⟨h1,h2⟩|⟨rfl,rfl⟩
  ·exact hM.base.apart i x h1 hl
  ·exact hM.base.apart _ _ hb rfl
 ·rcases hset i x hx with⟨h1,h2⟩|⟨rfl,rfl⟩
  ·rcases hset j u hu with⟨k1,k2⟩|⟨rfl,rfl⟩
   ·exact hM.base.inj i j x u h1 k1 hl hk he
   ·exact hM.base.inj i _ x _ h1 hb hl rfl he
  ·rcases hset j u hu with⟨k1,k2⟩|⟨rfl,rfl⟩
   ·exact hM.base.inj _ j _ u hb k1 rfl hk he
   ·rfl
 ·rcases hset i x hx with⟨h1,h2⟩|⟨rfl,rfl⟩
  ·exact hM.disj i x j u h1 hl hu hk hnl'
  ·exact hM.disj _ _ j u hb rfl hu hk hnl'
 ·rcases hset i x hx with⟨h1,h2⟩|⟨rfl,rfl⟩
  ·exact hM.blks i x hi h1 hl u hu hk
  ·exact hM.blks _ _ hi hb rfl u hu hk
omit [Dr] in
theorem putCells_self: ∀(us:List Value) (i:Nat) (vs:Array Value),(∀(j:Nat) u,us[j]? =some u→vs[i+j]? =some u)→putCells vs i us=vs
 | [],i,vs,_=>rfl
 |u::us,i,vs,h=>by
  have h0:vs[i]? =some u:=h 0 u rfl
  have h1:vs.setIfInBounds i u=vs:=by
   apply Array.ext_getElem?
   intro j
   rw[Array.getElem?_setIfInBounds]
   by_cases hij:i=j
   ·subst hij
    rw[if_pos rfl,h0,if_pos (Array.getElem?_eq_some_iff.1 h0).1]
   ·rw[if_neg hij]
  simp only[putCells,h1]
  exact putCells_self us (i+1) vs (fun j u hu=>by rw[show i+1+j=i+(j+1)by omega];exact h (j+1) u (by simpa using hu))
omit [Dr] in
theorem lkO_none{u:Value}(h:lkO β none u):lkO β' none u:=by obtain⟨i,b,h,_⟩:=h;cases h
theorem brel_none{t:Nat}{v:Value}{m:MTy}{d:DT}{xs:Gp m.K d.Den}{E':Env}(h:BRel E' σ w β' t v (.mapD m d xs none)):BRel E σ w β t v (.mapD m d xs none):=by
 obtain⟨n,es,L,h1,h2,h3,h4,h5,h6,h7⟩:=h
 exact⟨n,es,L,h1,h2,h3,h4,h5,(fun i b h=>nomatch h),h7.mono (fun _ _ _ h=>h) fun u h=>lkO_none h⟩
theorem brelR_none{t:Nat}{v:Value}{d:DT}{e:TypeId}{xs:List d.Den}{E':Env}(h:BRel E' σ w β' t v (.rowD d e xs none)):BRel E σ w β t v (.rowD d e xs none):=by
 obtain⟨L,h1,h2,h3,h4⟩:=h
 exact⟨L,h1,h2,(fun i b h=>nomatch h),h4.mono (fun _ _ _ h=>h) fun u h=>lkO_none h⟩
end
section
variable {P : Program} {E E' : Env} {σ σ1 : Gh} {τ τ' : Nat → Nat} {w w1 : World} {β β' : List Value} {tm : List AV} {H : List AB} {a : Act}
structure Mvd(E:Env)(σ:Gh)(w:World)(a:Act)(tm:List AV)(τ:Nat→Nat)(β:List Value)(H:List AB)(τ':Nat→Nat)(Hs':List AB)(τ2:Nat→Nat)(β2:List Value)(H2:List AB):Prop where
 conc:Conc E σ τ2 β2 ⟨tm,H2⟩ a w
 more: ∃s,β2=β++s
 tags: ∀i,i<H.length→τ2 i=τ i
 heap: ∀i,i<H.length→H2[i]? =H[i]?
 long:H.length≤H2.length
 disj:Disj τ2 τ' H2 Hs'
theorem Mvd.trans{H1 H2 Hs1 Hs2:List AB}{τ1 τ2:Nat→Nat}{β1 β2:List Value}(h:Mvd E σ w a tm τ β H τ' Hs1 τ1 β1 H1)(k:Mvd E σ w a tm τ1 β1 H1 τ' Hs2 τ2 β2 H2):Mvd E σ w a tm τ β H τ' Hs2 τ2 β2 H2:=
 ⟨k.conc,by obtain⟨s,rfl⟩:=h.more;obtain⟨s',rfl⟩:=k.more;exact⟨s++s',by simp⟩,fun i hi=>(k.tags i (Nat.lt_of_lt_of_le hi h.long)).trans (h.tags i hi),fun i hi=>(k.heap i (Nat.lt_of_lt_of_le hi h.long)).trans (h.heap i hi),Nat.le_trans h.long k.long,k.disj⟩
theorem mvd_new {x:AB} {v:Value} {t:Nat} {Hs Hs':List AB} (hC:Conc E σ τ β ⟨tm,H⟩ a w) (hP: ¬E.Kp t) (ht: ∀(i:Nat) (y:AB),H[i]? =some y→y.live=true→τ i≠t) (hb:BRel E σ w (β++ [v]) t v x)
  (hd:Disj τ τ' H Hs) (hsub: ∀(j:Nat) y,Hs'[j]? =some y→y.live=true→Hs[j]? =some y∧t≠τ' j):Mvd E σ w a tm τ β H τ' Hs' (updT τ H.length t) (β++ [v]) (H++ [x]):=by
 refine⟨conc_new hC EvT.refl hP ht hb,⟨_,rfl⟩,fun i hi=>by simp only[updT,Nat.ne_of_lt hi,if_false],fun i hi=>List.getElem?_append_left hi,by simp,fun i y j z hy hl hz hk hnl=> ?_⟩
 obtain⟨z1,z2⟩:=hsub j z hz hk
 rcases Nat.lt_or_ge i H.length with hlt|hge
 ·rw[List.getElem?_append_left hlt]at hy
  simp only[updT,Nat.ne_of_lt hlt,if_false]
  exact hd i y j z hy hl z1 hk hnl
 ·have h0:i=H.length:=by
   have:=(List.getElem?_eq_some_iff.1 hy).1
   simp at this
   omega
  subst h0
  simp only[updT,if_true]
  exact z2
theorem packD_len: ∀{d:DT} {cs l:List AV} {H H':List AB} {y:d.Den} {us:List Value},packD d cs H=some (y,l,H')→RelL E σ w β cs us→∃us1 us2,us=us1++us2∧us1.length=d.sz∧RelL E σ w β l us2
 | .flat T,cs,l,H,H',y,us,h,hr=>by
  simp only[packD]at h
  split at h
  ·rename_i hdec
   simp only[Option.some.injEq,Prod.mk.injEq]at h
   obtain⟨_,rfl,_⟩:=h
   obtain⟨c,d',rfl,e2,e3⟩:=dec_rel T hdec hr
   exact⟨c,d',rfl,repTy_len T e2,e3⟩
  ·cases h
 | .row T e,[],l,H,H',y,us,h,hr=>by simp[packD]at h
 | .row T e,c::cs,l,H,H',y,us,h,hr=>by
  simp only[RelL]at hr
  obtain⟨u,us,rfl,hu,hr⟩:=hr
  have:cs=l:=by
   simp only[packD]at h
   split at h
   ·simp only[Option.some.injEq,Prod.mk.injEq]at h;exact h.2.1
   ·split at h
    ·split at h
     ·simp only[Option.some.injEq,Prod.mk.injEq]at h;exact h.2.1
     ·cases h
    ·cases h
   ·cases h
  subst this
  exact⟨[u],us,rfl,rfl,hr⟩
 | .map m,[],l,H,H',y,us,h,hr=>by simp[packD]at h
 | .map m,c::cs,l,H,H',y,us,h,hr=>by
  simp only[RelL]at hr
  obtain⟨u,us,rfl,hu,hr⟩:=hr
  have:cs=l:=by
   simp only[packD]at h
   split at h
   ·split at h
    ·split at h
     ·simp only[Option.some.injEq,Prod.mk.injEq]at h;exact h.2.1
     ·cases h
    ·cases h
   ·cases h
  subst this
  exact⟨[u],us,rfl,rfl,hr⟩
 | .pair p q,cs,l,H,H',y,us,h,hr=>by
  simp only[packD]at h
  split at h
  ·rename_i h1
   split at h
   ·rename_i h2
    simp only[Option.some.injEq,Prod.mk.injEq]at h
    obtain⟨_,rfl,_⟩:=h
    obtain⟨us1,us2,rfl,e1,e2⟩:=packD_len h1 hr
    obtain⟨us3,us4,rfl,f1,f2⟩:=packD_len h2 e2
    exact⟨us1++us3,us4,by simp,by simp[DT.sz,e1,f1],f2⟩
   ·cases h
  ·cases h
 | .ptr C d,[],l,H,H',y,us,h,hr=>by simp[packD]at h
 | .ptr C d,c::cs,l,H,H',y,us,h,hr=>by
  simp only[RelL]at hr
  obtain⟨u,us,rfl,hu,hr⟩:=hr
  have:cs=l:=by
   simp only[packD]at h
   split at h
   ·split at h
    ·split at h
     ·simp only[Option.some.injEq,Prod.mk.injEq]at h;exact h.2.1
     ·cases h
    ·cases h
   ·cases h
  subst this
  exact⟨[u],us,rfl,rfl,hr⟩
 | .rowD d e,[],l,H,H',y,us,h,hr=>by simp[packD]at h
 | .rowD d e,c::cs,l,H,H',y,us,h,hr=>by
  simp only[RelL]at hr
  obtain⟨u,us,rfl,hu,hr⟩:=hr
  have:cs=l:=by
   simp only[packD]at h
   split at h
   ·simp only[Option.some.injEq,Prod.mk.injEq]at h;exact h.2.1
   ·split at h
    ·split at h
     ·simp only[Option.some.injEq,Prod.mk.injEq]at h;exact h.2.1
     ·cases h
    ·cases h
   ·cases h
  subst this
  exact⟨[u],us,rfl,rfl,hr⟩
 | .opq o,[],l,H,H',y,us,h,hr=>by simp[packD]at h
 | .opq o,[_],l,H,H',y,us,h,hr=>by simp[packD]at h
 | .opq o,c1::c2::cs,l,H,H',y,us,h,hr=>by
  simp only[RelL]at hr
  obtain⟨u1,_,rfl,hu1,u2,us,rfl,hu2,hr⟩:=hr
  simp only[packD]at h
  split at h
  case h_2=>cases h
  simp only[Option.some.injEq,Prod.mk.injEq]at h
  obtain⟨_,rfl,_⟩:=h
  exact⟨[u1,u2],us,rfl,rfl,hr⟩
 | .mapD m d,[],l,H,H',y,us,h,hr=>by simp[packD]at h
 | .mapD m d,c::cs,l,H,H',y,us,h,hr=>by
  simp only[RelL]at hr
  obtain⟨u,us,rfl,hu,hr⟩:=hr
  have:cs=l:=by
   simp only[packD]at h
   split at h
   ·split at h
    ·split at h
     ·simp only[Option.some.injEq,Prod.mk.injEq]at h;exact h.2.1
     ·cases h
    ·cases h
   ·cases h
  subst this
  exact⟨[u],us,rfl,rfl,hr⟩
theorem moveO {a':Act} {tms:List AV} {o:OqK} {c1 c2:AV} {u1 u2:Value} {Hs Hs':List AB} {x:OqDen o} {τ:Nat→Nat} {β:List Value} {H:List AB} (h:packO o c1 c2 Hs=some (x,Hs')) (hS:Conc E' σ τ' β' ⟨tms,Hs⟩ a' w) (hu1:Rel E' σ w β' c1 u1) (hu2:Rel E' σ w β' c2 u2) (hC:Conc E σ τ β ⟨tm,H⟩ a w) (hd:Disj τ τ' H Hs)
  (hap: ∀(j:Nat) x,Hs[j]? =some x→x.live=true→(∀y,Hs'[j]? =some y→y.live=false)→¬E.Kp (τ' j)): ∃τ2 β2,Mvd E σ w a tm τ β H τ' Hs' τ2 β2 (unpackD (.opq o) x H).2∧RelL E σ w β2 (unpackD (.opq o) x H).1 [u1,u2]:=by
 have hsz:=hC.size
 simp only at hsz
 have fin: ∀{v1:Value},u1.oneCell'=true→u2.oneCell'=true→RelL E σ w (((β++ [v1])++ [u1])++ [u2]) [.row (H.length+1),.map (H.length+2)] [u1,u2]:=fun h1 h2=>by
  simp only[RelL,Rel]
  refine⟨u1,_,rfl,⟨?_,h1⟩,u2,[],rfl,⟨?_,h2⟩,rfl⟩
  ·rw[←hsz,List.getElem?_append_left (by simp),List.getElem?_append_right (by simp)];simp
  ·rw[←hsz,List.getElem?_append_right (by simp)];simp
 have happ:((H++ [AB.arena o.T o.C x.1])++ [AB.arw H.length o.e x.2.1])++ [AB.amp H.length o.m x.2.2]=(unpackD (.opq o) x H).2:=by simp[unpackD]
 rw[←happ]
 unfold packO at h
 split at h
 ·rename_i r q
  split at h
  case h_2=>cases h
  rename_i a1 e ks a2 m mp hr hq
  split at h
  case h_2=>cases h
  rename_i T C xs ha
  split at h
  case h_2=>cases h
  rename_i pa pe h1 h2 pC _ _ _ _ _
  obtain⟨haa⟩:=pa
  obtain⟨hee⟩:=pe
  obtain⟨hCC⟩:=pC
  simp only[Option.some.injEq,Prod.mk.injEq]at h
  obtain⟨rfl,rfl⟩:=h
  subst haa
  obtain⟨oT,oC,oe,om⟩:=o
  simp only at hee hCC h1 h2
  subst hee hCC h1 h2
  simp only[Rel]at hu1 hu2
  obtain⟨bs,p1,p2,p3⟩:=(show BRel E' σ w β' (τ' r) u1 (.arw a2 e ks)from hS.heap r _ _ hr hu1.1)
  obtain⟨n,es,bs2,rfl,q2,q3,q4,q5,q6⟩:=(show BRel E' σ w β' (τ' q) u2 (.amp a2 m mp)from hS.heap q _ _ hq hu2.1)
  have hbb:bs2=bs:=ptrs_inj (Option.some.inj (q4.symm.trans p1))
  subst hbb
  have hA:BRel E' σ w β' (τ' a2) (ptrs bs2) (.arena T C xs):=hS.heap a2 _ _ ha p1
  have n1:r≠q:=fun e=>by subst e;rw[hr]at hq;simp at hq
  have n2:r≠a2:=fun e=>by subst e;rw[hr]at ha;simp at ha
  have n3:q≠a2:=fun e=>by subst e;rw[hq]at ha;simp at ha
  have hr1:=gone_out hr n2.symm
  have hq1:=gone_out (gone_out hq n3.symm) n1
  have dead: ∀(i:Nat),(i=r∨i=q∨i=a2)→∀z,(((Hs.set a2 AB.gone).set r .gone).set q .gone)[i]? =some z→z.live=false:=fun i hi z hz=>by
   have hi2:i<Hs.length:=by
    have:=(List.getElem?_eq_some_iff.1 hz).1
    simpa using this
   rw[List.getElem?_set,List.getElem?_set,List.getElem?_set]at hz
   have:z= .gone:=by
    rcases hi with rfl|rfl|rfl
    ·by_cases e1:q=i<;>simp_all
    ·simp_all
    ·by_cases e1:q=i<;>by_cases e2:r=i<;>simp_all
   subst this
   rfl
  have hβ1:(β++ [ptrs bs2])[H.length]? =some (ptrs bs2):=by rw[←hsz];simp
  have hβ2:((β++ [ptrs bs2])++ [u1])[H.length]? =some (ptrs bs2):=get_pre ⟨_,rfl⟩ hβ1
  have m1:=mvd_new (τ':=τ') (Hs:=Hs) (Hs':=Hs.set a2 .gone) (x:= .arena T C xs) (v:=ptrs bs2) (t:=τ' a2) hC (hap a2 _ ha rfl (dead a2 (.inr (.inr rfl)))) (fun i y hy hl he=>hd i y a2 _ hy hl ha rfl (fun b=>by simp) he) hA hd (fun j y hy hl=>by
   obtain⟨g1,g2⟩:=gone_get hy hl
   exact⟨g1,fun he=>g2 (hS.inj _ _ _ _ ha g1 rfl hl he).symm⟩)
  have m2:=mvd_new (τ':=τ') (Hs':=(Hs.set a2 .gone).set r .gone) (x:= .arw H.length e ks) (v:=u1) (t:=τ' r) m1.conc (hap r _ hr rfl (dead r (.inl rfl))) (fun i y hy hl he=>m1.disj i y r _ hy hl hr1 rfl (fun b=>by simp) he) ⟨bs2,get_pre ⟨_,rfl⟩ hβ1,p2,p3⟩ m1.disj (fun j y hy hl=>by
   obtain⟨g1,g2⟩:=gone_get hy hl
   exact⟨g1,fun he=>g2 (hS.inj _ _ _ _ hr (gone_get g1 hl).1 rfl hl he).symm⟩)
  have m12:=m1.trans m2
  have m3:=mvd_new (τ':=τ') (Hs':=((Hs.set a2 .gone).set r .gone).set q .gone) (x:= .amp H.length m mp) (v:= .map (some n)) (t:=τ' q) m12.conc (hap q _ hq rfl (dead q (.inr (.inl rfl)))) (fun i y hy hl he=>m12.disj i y q _ hy hl hq1 rfl (fun b=>by simp) he) ⟨n,es,bs2,rfl,q2,q3,get_pre ⟨_,rfl⟩ hβ2,q5,q6⟩ m12.disj (fun j y hy hl=>by
   obtain⟨g1,g2⟩:=gone_get hy hl
   exact⟨g1,fun he=>g2 (hS.inj _ _ _ _ hq (gone_get (gone_get g1 hl).1 hl).1 rfl hl he).symm⟩)
  exact⟨_,_,m12.trans m3,fin hu1.2 rfl⟩
 ·rename_i q
  split at h
  case h_2=>cases h
  rename_i m d hq
  simp only[Option.some.injEq,Prod.mk.injEq]at h
  obtain⟨rfl,rfl⟩:=h
  simp only[Rel]at hu1 hu2
  subst hu1
  obtain⟨n,es,L,rfl,k2,k3,k4,k5,_,k7⟩:=(show BRel E' σ w β' (τ' q) u2 (.mapD m d [] none)from hS.heap q _ _ hq hu2.1)
  have hL:L= []:=by cases L with
   |nil=>rfl
   |cons _ _=>simp at k5
  subst hL
  obtain⟨r1,hr1,hr2⟩:=Gh.fresh τ E.bnd H.length
  obtain⟨r2,hr3,hr4⟩:=Gh.fresh τ' r1 Hs.length
  have ht: ∀(i:Nat) (y:AB),H[i]? =some y→y.live=true→τ i<r2:=fun i y hy _=>by
   have:=hr2 i (List.getElem?_eq_some_iff.1 hy).1
   omega
  have ht': ∀(j:Nat) (y:AB),Hs[j]? =some y→y.live=true→τ' j<r2:=fun j y hy _=>hr4 j (List.getElem?_eq_some_iff.1 hy).1
  have hβ1:(β++ [ptrs []])[H.length]? =some (ptrs []):=by rw[←hsz];simp
  have hβ2:((β++ [ptrs []])++ [Value.slice none 0 0])[H.length]? =some (ptrs []):=get_pre ⟨_,rfl⟩ hβ1
  have m1:=mvd_new (τ':=τ') (Hs:=Hs) (Hs':=Hs) (x:= .arena o.T o.C []) (v:=ptrs []) (t:=r2) hC (fun hp=>by have:=E.low _ hp;omega) (fun i y hy hl he=>by have:=ht i y hy hl;omega) ⟨[],rfl,rfl,List.nodup_nil,fun k m hk=>by simp at hk⟩ hd (fun j y hy hl=>⟨hy,fun he=>by have:=ht' j y hy hl;omega⟩)
  have m2:=mvd_new (τ':=τ') (Hs':=Hs) (x:= .arw H.length o.e []) (v:= .slice none 0 0) (t:=r2+1) m1.conc (fun hp=>by have:=E.low _ hp;omega) (fun i y hy hl he=>by
   rcases Nat.lt_or_ge i H.length with hi|hi
   ·rw[List.getElem?_append_left hi]at hy
    have:=ht i y hy hl
    simp only[updT,Nat.ne_of_lt hi,if_false]at he
    omega
   ·have h0:i=H.length:=by
     have:=(List.getElem?_eq_some_iff.1 hy).1
     simp at this
     omega
    subst h0
    simp only[updT,if_true]at he
    omega) ⟨[],get_pre ⟨_,rfl⟩ hβ1,fun k hk=>by simp at hk,Own.nil⟩ m1.disj (fun j y hy hl=>⟨hy,fun he=>by have:=ht' j y hy hl;omega⟩)
  have m12:=m1.trans m2
  have hgone: ∀y,(Hs.set q .gone)[q]? =some y→y.live=false:=fun y hy=>gone_dead hq hy
  have m3:=mvd_new (τ':=τ') (Hs':=Hs.set q .gone) (x:= .amp H.length o.m []) (v:= .map (some n)) (t:=τ' q) m12.conc (hap q _ hq rfl hgone) (fun i y hy hl he=>m12.disj i y q _ hy hl hq rfl (fun b=>by simp) he) ⟨n,es,[],rfl,k2,k3,get_pre ⟨_,rfl⟩ hβ2,by rw[k4];rfl,fun k i hk=>by simp at hk⟩ m12.disj (fun j y hy hl=>by
   obtain⟨g1,g2⟩:=gone_get hy hl
   exact⟨g1,fun he=>g2 (hS.inj _ _ _ _ hq g1 rfl hl he).symm⟩)
  exact⟨_,_,m12.trans m3,fin rfl rfl⟩
 ·cases h
theorem moveD{a':Act}{tms:List AV}: ∀(d:DT) {cs l:List AV} {us:List Value} {Hs Hs':List AB} {y:d.Den} {τ:Nat→Nat} {β:List Value} {H:List AB},packD d cs Hs=some (y,l,Hs')→Conc E' σ τ' β' ⟨tms,Hs⟩ a' w→RelL E' σ w β' cs us→Conc E σ τ β ⟨tm,H⟩ a w→Disj τ τ' H Hs→
  (∀(j:Nat) x,Hs[j]? =some x→x.live=true→(∀y,Hs'[j]? =some y→y.live=false)→¬E.Kp (τ' j))→
  ∃τ2 β2 us1 us2,us=us1++us2∧us1.length=d.sz∧RelL E' σ w β' l us2∧Mvd E σ w a tm τ β H τ' Hs' τ2 β2 (unpackD d y H).2∧RelL E σ w β2 (unpackD d y H).1 us1
 | .flat T,cs,l,us,Hs,Hs',y,τ,β,H,h,hS,hr,hC,hd,hap=>by
  simp only[packD]at h
  split at h
  ·rename_i y' l' hdec
   simp only[Option.some.injEq,Prod.mk.injEq]at h
   obtain⟨rfl,rfl,rfl⟩:=h
   obtain⟨c,d',rfl,e2,e3⟩:=dec_rel T hdec hr
   exact⟨τ,β,c,d',rfl,repTy_len T e2,e3,⟨hC,⟨[],by simp⟩,fun _ _=>rfl,fun _ _=>rfl,Nat.le_refl _,hd⟩,enc_rel T e2⟩
  ·cases h
 | .row T e,[],l,us,Hs,Hs',y,τ,β,H,h,hS,hr,hC,hd,hap=>by simp[packD]at h
 | .row T e,c::cs,l,us,Hs,Hs',y,τ,β,H,h,hS,hr,hC,hd,hap=>by
  simp only[RelL]at hr
  obtain⟨u,us,rfl,hu,hr⟩:=hr
  simp only[packD]at h
  split at h
  ·simp only[Option.some.injEq,Prod.mk.injEq]at h
   obtain⟨rfl,rfl,rfl⟩:=h
   simp only[Rel]at hu
   subst hu
   obtain⟨r1,hr1,hr2⟩:=Gh.fresh τ E.bnd H.length
   obtain⟨r2,hr3,hr4⟩:=Gh.fresh τ' r1 Hs.length
   have ht: ∀(i:Nat) (y:AB),H[i]? =some y→y.live=true→τ i≠r2:=fun i y hy _ he=>by
    have:=hr2 i (List.getElem?_eq_some_iff.1 hy).1
    omega
   refine⟨_,_,[_],us,rfl,rfl,hr,mvd_new (x:= .row T e []) (v:= .slice none 0 0) (t:=r2) hC (fun hp=>by have:=E.low _ hp;omega) ht Own.nil hd (fun j y hy hl=>⟨hy,fun he=> ?_⟩),?_⟩
   ·have:=hr4 j (List.getElem?_eq_some_iff.1 hy).1
    omega
   ·simp only[unpackD,RelL,Rel]
    refine⟨_,[],rfl,⟨?_,rfl⟩,rfl⟩
    have hsz:=hC.size
    simp only at hsz
    rw[List.getElem?_append_right (by omega),hsz,Nat.sub_self]
    rfl
  ·rename_i r
   split at h
   ·rename_i T' e' xs hx
    split at h
    ·rename_i hT pe _ _
     obtain⟨hE⟩:=pe
     simp only[Option.some.injEq,Prod.mk.injEq]at h
     obtain⟨rfl,rfl,rfl⟩:=h
     subst hT hE
     simp only[Rel]at hu
     have hown:Own T'.kd e' σ (τ' r) w u xs:=hS.heap r _ _ hx hu.1
     have hgone: ∀y,(Hs.set r .gone)[r]? =some y→y.live=false:=fun y hy=>by
      rw[List.getElem?_set,if_pos rfl,if_pos (List.getElem?_eq_some_iff.1 hx).1]at hy
      obtain rfl:=Option.some.inj hy
      rfl
     refine⟨_,_,[u],us,rfl,rfl,hr,mvd_new (x:= .row T' e' xs) (v:=u) (t:=τ' r) hC (hap r _ hx rfl hgone) (fun i y hy hl he=>hd i y r _ hy hl hx rfl (fun b=>by simp) he) hown hd (fun j y hy hl=> ?_),?_⟩
     ·obtain⟨g1,g2⟩:=gone_get hy hl
      exact⟨g1,fun he=>g2 (hS.inj _ _ _ _ hx g1 rfl hl he).symm⟩
     ·simp only[unpackD,RelL,Rel]
      refine⟨_,[],rfl,⟨?_,hu.2⟩,rfl⟩
      have hsz:=hC.size
      simp only at hsz
      rw[List.getElem?_append_right (by omega),hsz,Nat.sub_self]
      rfl
    ·cases h
   ·cases h
  ·cases h
 | .map m,[],l,us,Hs,Hs',y,τ,β,H,h,hS,hr,hC,hd,hap=>by simp[packD]at h
 | .map m,c::cs,l,us,Hs,Hs',y,τ,β,H,h,hS,hr,hC,hd,hap=>by
  simp only[RelL]at hr
  obtain⟨u,us,rfl,hu,hr⟩:=hr
  simp only[packD]at h
  split at h
  ·rename_i r
   split at h
   ·rename_i m' xs hx
    split at h
    ·rename_i hm _
     simp only[Option.some.injEq,Prod.mk.injEq]at h
     obtain⟨rfl,rfl,rfl⟩:=h
     subst hm
     simp only[Rel]at hu
     have hown:BRel E' σ w β' (τ' r) u (.map m' xs):=hS.heap r _ _ hx hu.1
     have hgone: ∀y,(Hs.set r .gone)[r]? =some y→y.live=false:=fun y hy=>by
      rw[List.getElem?_set,if_pos rfl,if_pos (List.getElem?_eq_some_iff.1 hx).1]at hy
      obtain rfl:=Option.some.inj hy
      rfl
     refine⟨_,_,[u],us,rfl,rfl,hr,mvd_new (x:= .map m' xs) (v:=u) (t:=τ' r) hC (hap r _ hx rfl hgone) (fun i y hy hl he=>hd i y r _ hy hl hx rfl (fun b=>by simp) he) hown hd (fun j y hy hl=> ?_),?_⟩
     ·obtain⟨g1,g2⟩:=gone_get hy hl
      exact⟨g1,fun he=>g2 (hS.inj _ _ _ _ hx g1 rfl hl he).symm⟩
     ·simp only[unpackD,RelL,Rel]
      refine⟨_,[],rfl,⟨?_,hu.2⟩,rfl⟩
      have hsz:=hC.size
      simp only at hsz
      rw[List.getElem?_append_right (by omega),hsz,Nat.sub_self]
      rfl
    ·cases h
   ·cases h
  ·cases h
 | .pair p q,cs,l,us,Hs,Hs',y,τ,β,H,h,hS,hr,hC,hd,hap=>by
  simp only[packD]at h
  split at h
  ·rename_i x l1 H1 h1
   split at h
   ·rename_i z l2 H2 h2
    simp only[Option.some.injEq,Prod.mk.injEq]at h
    obtain⟨rfl,rfl,rfl⟩:=h
    have g1:=packD_gone h1
    have g2:=packD_gone h2
    obtain⟨τ2,β2,us1,us2,rfl,e1,e2,e3,e4⟩:=moveD p h1 hS hr hC hd (fun j x hx hl hg=>hap j x hx hl (fun y hy=>by
     cases hyl:y.live with
     |false=>rfl
     |true=>have:=hg y (g2.get hy hyl);rw[hyl]at this;cases this))
    obtain⟨τ3,β3,us3,us4,rfl,f1,f2,f3,f4⟩:=moveD q h2 (conc_Gone hS g1) e2 e3.conc e3.disj (fun j x hx hl hg=>hap j x (g1.get hx hl) hl hg)
    refine⟨τ3,β3,us1++us3,us4,by simp,by simp[DT.sz,e1,f1],f2,e3.trans f3,?_⟩
    exact RelL.append (RelL.more f3.more e4) f4
   ·cases h
  ·cases h
 | .ptr C d,[],l,us,Hs,Hs',y,τ,β,H,h,hS,hr,hC,hd,hap=>by simp[packD]at h
 | .ptr C d,c::cs,l,us,Hs,Hs',y,τ,β,H,h,hS,hr,hC,hd,hap=>by
  simp only[RelL]at hr
  obtain⟨u,us,rfl,hu,hr⟩:=hr
  simp only[packD]at h
  split at h
  ·rename_i b
   split at h
   ·rename_i C' cs1 hx
    split at h
    ·rename_i pC y1 H1 _ h2
     obtain⟨hCC⟩:=pC
     subst hCC
     simp only[Option.some.injEq,Prod.mk.injEq]at h
     obtain⟨rfl,rfl,rfl⟩:=h
     simp only[Rel]at hu
     obtain⟨n,hu1,rfl⟩:=hu
     obtain⟨n',vs,e1,e2,e3⟩:=hS.heap b _ _ hx hu1
     simp only[Value.pointer.injEq,Option.some.injEq,Addr.mk.injEq]at e1
     obtain⟨rfl,_⟩:=e1
     have g1:Gone Hs (Hs.set b .gone):= .set hx (fun y=>by simp)
     have g2:=packD_gone h2
     have hgone: ∀y,H1[b]? =some y→y.live=false:=fun y hy=>by
      cases hyl:y.live with
      |false=>rfl
      |true=>
       have:=g2.get hy hyl
       rw[List.getElem?_set,if_pos rfl,if_pos (List.getElem?_eq_some_iff.1 hx).1]at this
       obtain rfl:=Option.some.inj this
       cases hyl
     have hlen:vs.length=d.sz:=by
      obtain⟨us1,us2,k1,k2,k3⟩:=packD_len h2 e3
      simp only[RelL]at k3
      subst k3
      simpa[k1]using k2
     have hmv:=mvd_new (τ':=τ') (Hs:=Hs) (Hs':=Hs.set b .gone) (x:= .cells C' (List.replicate d.sz .unk)) (v:= .pointer (some ⟨n,0,none⟩)) (t:=τ' b) hC (hap b _ hx rfl hgone) (fun i y hy hl he=>hd i y b _ hy hl hx rfl (fun b=>by simp) he)
      ⟨n,vs,rfl,e2,relL_unk hlen⟩ hd (fun j y hy hl=>by
       obtain⟨g1,g2⟩:=gone_get hy hl
       exact⟨g1,fun he=>g2 (hS.inj _ _ _ _ hx g1 rfl hl he).symm⟩)
     obtain⟨τ3,β3,us3,us4,k1,f1,f2,f3,f4⟩:=moveD d h2 (conc_Gone hS g1) e3 hmv.conc hmv.disj (fun j x hx hl hg=>hap j x (g1.get hx hl) hl hg)
     simp only[RelL]at f2
     subst f2
     rw[List.append_nil]at k1
     subst k1
     have hall:=hmv.trans f3
     have hsz:=hC.size
     simp only at hsz
     have hlt:H.length< (H++ [AB.cells C' (List.replicate d.sz .unk)]).length:=by simp
     have hb1:(unpackD d y1 (H++ [.cells C' (List.replicate d.sz .unk)])).2[H.length]? =some (.cells C' (List.replicate d.sz .unk)):=by
      rw[f3.heap _ hlt,List.getElem?_append_right (Nat.le_refl _),Nat.sub_self]
      rfl
     have hb2:β3[H.length]? =some (.pointer (some ⟨n,0,none⟩)):=by
      obtain⟨s,rfl⟩:=f3.more
      rw[List.append_assoc,List.getElem?_append_right (by omega),hsz,Nat.sub_self]
      rfl
     have hb3:τ3 H.length=τ' b:=by
      rw[f3.tags _ hlt];simp[updT]
     refine⟨τ3,β3,[_],us,rfl,rfl,hr,⟨conc_refine hall.conc hb1 hb2 (by rw[hb3];exact e2) f4,hall.more,hall.tags,fun i hi=> ?_,by simp only[unpackD,List.length_set];exact hall.long,?_⟩,?_⟩
     ·simp only[unpackD]
      rw[List.getElem?_set,if_neg (fun h=>by omega)]
      exact hall.heap i hi
     ·intro i x j z hx' hl' hz hk hnl
      simp only[unpackD]at hx'
      rw[List.getElem?_set]at hx'
      by_cases hi:H.length=i
      ·subst hi
       exact hall.disj _ _ j z hb1 rfl hz hk hnl
      ·rw[if_neg hi]at hx'
       exact hall.disj i x j z hx' hl' hz hk hnl
     ·simp only[unpackD,RelL,Rel]
      exact⟨_,[],rfl,⟨n,hb2,rfl⟩,rfl⟩
    ·cases h
   ·cases h
  ·cases h
 | .rowD d e,[],l,us,Hs,Hs',y,τ,β,H,h,hS,hr,hC,hd,hap=>by simp[packD]at h
 | .rowD d e,c::cs,l,us,Hs,Hs',y,τ,β,H,h,hS,hr,hC,hd,hap=>by
  simp only[RelL]at hr
  obtain⟨u,us,rfl,hu,hr⟩:=hr
  simp only[packD]at h
  split at h
  ·simp only[Option.some.injEq,Prod.mk.injEq]at h
   obtain⟨rfl,rfl,rfl⟩:=h
   simp only[Rel]at hu
   subst hu
   obtain⟨r1,hr1,hr2⟩:=Gh.fresh τ E.bnd H.length
   obtain⟨r2,hr3,hr4⟩:=Gh.fresh τ' r1 Hs.length
   have ht: ∀(i:Nat) (y:AB),H[i]? =some y→y.live=true→τ i≠r2:=fun i y hy _ he=>by
    have:=hr2 i (List.getElem?_eq_some_iff.1 hy).1
    omega
   refine⟨_,_,[_],us,rfl,rfl,hr,mvd_new (x:= .rowD d e [] none) (v:= .slice none 0 0) (t:=r2) hC (fun hp=>by have:=E.low _ hp;omega) ht ⟨[],Own.nil,rfl,(fun i b h=>nomatch h),fun i u x G h=>by simp at h,fun i u x G h=>by simp at h,fun p h=>by simp at h,fun i p h=>by simp at h,fun i j p q g h=>by simp at h⟩ hd (fun j y hy hl=>⟨hy,fun he=> ?_⟩),?_⟩
   ·have:=hr4 j (List.getElem?_eq_some_iff.1 hy).1
    omega
   ·simp only[unpackD,RelL,Rel]
    refine⟨_,[],rfl,⟨?_,rfl⟩,rfl⟩
    have hsz:=hC.size
    simp only at hsz
    rw[List.getElem?_append_right (by omega),hsz,Nat.sub_self]
    rfl
  ·rename_i r
   split at h
   ·rename_i d' e' xs hx
    split at h
    ·rename_i hT pe _ _
     obtain⟨hE⟩:=pe
     simp only[Option.some.injEq,Prod.mk.injEq]at h
     obtain⟨rfl,rfl,rfl⟩:=h
     subst hT hE
     simp only[Rel]at hu
     have hown:BRel E' σ w β' (τ' r) u (.rowD d' e' xs none):=hS.heap r _ _ hx hu.1
     have hgone: ∀y,(Hs.set r .gone)[r]? =some y→y.live=false:=fun y hy=>by
      rw[List.getElem?_set,if_pos rfl,if_pos (List.getElem?_eq_some_iff.1 hx).1]at hy
      obtain rfl:=Option.some.inj hy
      rfl
     refine⟨_,_,[u],us,rfl,rfl,hr,mvd_new (x:= .rowD d' e' xs none) (v:=u) (t:=τ' r) hC (hap r _ hx rfl hgone) (fun i y hy hl he=>hd i y r _ hy hl hx rfl (fun b=>by simp) he) (brelR_none hown) hd (fun j y hy hl=> ?_),?_⟩
     ·obtain⟨g1,g2⟩:=gone_get hy hl
      exact⟨g1,fun he=>g2 (hS.inj _ _ _ _ hx g1 rfl hl he).symm⟩
     ·simp only[unpackD,RelL,Rel]
      refine⟨_,[],rfl,⟨?_,hu.2⟩,rfl⟩
      have hsz:=hC.size
      simp only at hsz
      rw[List.getElem?_append_right (by omega),hsz,Nat.sub_self]
      rfl
    ·cases h
   ·cases h
  ·cases h
 | .opq o,[],l,us,Hs,Hs',y,τ,β,H,h,hS,hr,hC,hd,hap=>by simp[packD]at h
 | .opq o,[_],l,us,Hs,Hs',y,τ,β,H,h,hS,hr,hC,hd,hap=>by simp[packD]at h
 | .opq o,c1::c2::cs,l,us,Hs,Hs',y,τ,β,H,h,hS,hr,hC,hd,hap=>by
  simp only[RelL]at hr
  obtain⟨u1,_,rfl,hu1,u2,us,rfl,hu2,hr⟩:=hr
  simp only[packD]at h
  split at h
  case h_2=>cases h
  rename_i x' H1 hq
  simp only[Option.some.injEq,Prod.mk.injEq]at h
  obtain⟨rfl,rfl,rfl⟩:=h
  obtain⟨τ2,β2,k1,k2⟩:=moveO hq hS hu1 hu2 hC hd hap
  exact⟨τ2,β2,[u1,u2],us,rfl,rfl,hr,k1,k2⟩
 | .mapD m d,[],l,us,Hs,Hs',y,τ,β,H,h,hS,hr,hC,hd,hap=>by simp[packD]at h
 | .mapD m d,c::cs,l,us,Hs,Hs',y,τ,β,H,h,hS,hr,hC,hd,hap=>by
  simp only[RelL]at hr
  obtain⟨u,us,rfl,hu,hr⟩:=hr
  simp only[packD]at h
  split at h
  ·rename_i r
   split at h
   ·rename_i m' d' xs hx
    split at h
    ·rename_i hm hdd _ _
     simp only[Option.some.injEq,Prod.mk.injEq]at h
     obtain⟨rfl,rfl,rfl⟩:=h
     subst hm hdd
     simp only[Rel]at hu
     have hown:BRel E' σ w β' (τ' r) u (.mapD m' d' xs none):=hS.heap r _ _ hx hu.1
     have hgone: ∀y,(Hs.set r .gone)[r]? =some y→y.live=false:=fun y hy=>by
      rw[List.getElem?_set,if_pos rfl,if_pos (List.getElem?_eq_some_iff.1 hx).1]at hy
      obtain rfl:=Option.some.inj hy
      rfl
     refine⟨_,_,[u],us,rfl,rfl,hr,mvd_new (x:= .mapD m' d' xs none) (v:=u) (t:=τ' r) hC (hap r _ hx rfl hgone) (fun i y hy hl he=>hd i y r _ hy hl hx rfl (fun b=>by simp) he) (brel_none hown) hd (fun j y hy hl=> ?_),?_⟩
     ·obtain⟨g1,g2⟩:=gone_get hy hl
      exact⟨g1,fun he=>g2 (hS.inj _ _ _ _ hx g1 rfl hl he).symm⟩
     ·simp only[unpackD,RelL,Rel]
      refine⟨_,[],rfl,⟨?_,hu.2⟩,rfl⟩
      have hsz:=hC.size
      simp only at hsz
      rw[List.getElem?_append_right (by omega),hsz,Nat.sub_self]
      rfl
    ·cases h
   ·cases h
  ·cases h
theorem mid_mvd{n:Nat}{tm1:List AV}{H1 H2 Hs Hs':List AB}{τ2:Nat→Nat}{β2:List Value}(hM:Mid E E' σ w a τ β tm1 H1 τ' β' tm Hs n)(hg:Gone Hs Hs')(hv:Mvd E σ w a tm1 τ β H1 τ' Hs' τ2 β2 H2):Mid E E' σ w a τ2 β2 tm1 H2 τ' β' tm Hs' n:=by
 have hlong:=hM.long
 have hlen:=hM.base.size
 simp only at hlen
 refine⟨hv.conc,hM.sub,conc_Gone hM.src hg,hv.disj,fun i hi=> ?_,fun i x hi hx hl y hy hk=> ?_,Nat.le_trans hlong hv.long⟩
 ·obtain⟨s1,s2⟩:=hM.same i hi
  obtain⟨s,hs⟩:=hv.more
  exact⟨(hv.tags i (by omega)).trans s1,by rw[hs,List.getElem?_append_left (by omega)];exact s2⟩
 ·rw[hv.heap i (by omega)]at hx
  exact hM.blks i x hi hx hl y (hg.get hy hk) hk
theorem mid_hap{n:Nat}{tm1:List AV}{H1 Hs:List AB}(hM:Mid E E' σ w a τ β tm1 H1 τ' β' tm Hs n): ∀(j:Nat) x,Hs[j]? =some x→x.live=true→¬E.Kp (τ' j):=fun j x hx hl hp=>hM.src.apart j x hx hl (hM.sub _ hp)
theorem mid_set {n b:Nat} {tm1:List AV} {H1 Hs:List AB} {z z':AB} (hM:Mid E E' σ w a τ β tm1 H1 τ' β' tm Hs n) (hb:H1[b]? =some z) (hz:z.live=true)
  (hrel: ∀v,β[b]? =some v→BRel E σ w β (τ b) v z→BRel E σ w β (τ b) v z'):Mid E E' σ w a τ β tm1 (H1.set b z') τ' β' tm Hs n:=by
 have hset: ∀(i:Nat) (x:AB),(H1.set b z')[i]? =some x→(H1[i]? =some x∧i≠b)∨(i=b∧x=z'):=by
  intro i x hx
  rw[List.getElem?_set]at hx
  by_cases hij:b=i
  ·rw[if_pos hij]at hx
   split at hx
   ·exact .inr ⟨hij.symm,(Option.some.inj hx).symm⟩
   ·cases hx
  ·rw[if_neg hij]at hx
   exact .inl ⟨hx,fun h=>hij h.symm⟩
 refine⟨⟨hM.base.defers,hM.base.tmps,by rw[hM.base.size];simp,fun i x u hx hu=> ?_,fun i x hx hl=> ?_,fun i j x u hx hu hl hk he=> ?_⟩,hM.sub,hM.src,fun i x j u hx hl hu hk hnl'=> ?_,hM.same,fun i x hi hx hl u hu hk=> ?_,by simpa using hM.long⟩
 ·rcases hset i x hx with⟨h1,h2⟩|⟨rfl,rfl⟩
  ·exact hM.base.heap i x u h1 hu
  ·exact hrel u hu (hM.base.heap _ _ u hb hu)
 ·rcases hset i x hx with⟨h1,h2⟩|⟨rfl,rfl⟩
  ·exact hM.base.apart i x h1 hl
  ·exact hM.base.apart _ _ hb hz
 ·rcases hset i x hx with⟨h1,h2⟩|⟨rfl,rfl⟩
  ·rcases hset j u hu with⟨k1,k2⟩|⟨rfl,rfl⟩
   ·exact hM.base.inj i j x u h1 k1 hl hk he
   ·exact hM.base.inj i _ x _ h1 hb hl hz he
  ·rcases hset j u hu with⟨k1,k2⟩|⟨rfl,rfl⟩
   ·exact hM.base.inj _ j _ u hb k1 hz hk he
   ·rfl
 ·rcases hset i x hx with⟨h1,h2⟩|⟨rfl,rfl⟩
  ·exact hM.disj i x j u h1 hl hu hk hnl'
  ·exact hM.disj _ _ j u hb hz hu hk hnl'
 ·rcases hset i x hx with⟨h1,h2⟩|⟨rfl,rfl⟩
  ·exact hM.blks i x hi h1 hl u hu hk
  ·exact hM.blks _ _ hi hb hz u hu hk
theorem mid_step{E':Env}{n:Nat}{tm1:List AV}{H1 Hs Hs':List AB}{c:Car}{x:c.Den}(hM:Mid E E' σ w a τ β tm1 H1 τ' β' tm Hs n)(hok:c.ok n=true)(h:pack1 c tm Hs=some (x,Hs')):
  ∃τ2 β2,(∃s,β2=β++s)∧Mid E E' σ w a τ2 β2 (unpack1 c x (tm1,H1)).1 (unpack1 c x (tm1,H1)).2 τ' β' tm Hs' n:=by
 have hlen:=hM.base.size
 have hlong:=hM.long
 simp only at hlen
 cases c with
 |sl t ag T=>
  simp only[pack1]at h
  split at h
  ·rename_i z hz
   split at h
   ·rename_i y hy
    simp only[Option.some.injEq,Prod.mk.injEq]at h
    obtain⟨rfl,rfl⟩:=h
    obtain⟨u,h1,h2⟩:=RelL.get hM.src.tmps hz
    exact⟨τ,β,⟨[],by simp⟩,hM.base.setT h1 (encV_rel (decV_rel h2 hy)),hM.sub,hM.src,hM.disj,hM.same,hM.blks,hM.long⟩
   ·cases h
  ·cases h
 |dts t d=>
  simp only[pack1]at h
  split at h
  case h_2=>cases h
  rename_i c hz
  split at h
  case h_2=>cases h
  rename_i y Hs1 hp
  simp only[Option.some.injEq,Prod.mk.injEq]at h
  obtain⟨rfl,rfl⟩:=h
  obtain⟨u,h1,h2⟩:=RelL.get hM.src.tmps hz
  obtain⟨τ2,β2,us1,us2,e1,e2,e3,e4,e5⟩:=moveD d hp hM.src (us:= [u]) (by simp only[RelL];exact⟨u,[],rfl,h2,rfl⟩) hM.base hM.disj (fun j x hx hl _=>mid_hap hM j x hx hl)
  simp only[RelL]at e3
  subst e3
  rw[List.append_nil]at e1
  subst e1
  have hM2:=mid_mvd hM (packD_gone hp) e4
  refine⟨τ2,β2,e4.more,hM2.base.setT h1 ?_,hM2.sub,hM2.src,hM2.disj,hM2.same,hM2.blks,hM2.long⟩
  cases hu:(unpackD d y H1).1 with
  |nil=>rw[hu]at e5;simp[RelL]at e5
  |cons c' l=>
   rw[hu]at e5
   simp only[RelL]at e5
   obtain⟨v,r,f1,f2,_⟩:=e5
   injection f1 with f1 _
   subst f1
   exact f2
 |dtb b C d=>
  simp only[pack1]at h
  split at h
  case h_2=>cases h
  rename_i C' cs hb
  split at h
  case h_2=>cases h
  rename_i pe y Hs1 hCe hp
  obtain⟨hE⟩:=pe
  simp only[Option.some.injEq,Prod.mk.injEq]at h
  obtain⟨rfl,rfl⟩:=h
  subst hE
  have hbn:b<n:=Nat.le_of_ble_eq_true hok
  obtain⟨s1,s2⟩:=hM.same b hbn
  obtain⟨v,hv⟩: ∃v,β'[b]? =some v:=⟨_,List.getElem?_eq_getElem (by rw[hM.src.size];exact(List.getElem?_eq_some_iff.1 hb).1)⟩
  obtain⟨n',vs,e1,e2,e3⟩:=hM.src.heap b _ v hb hv
  have hvl:vs.length=d.sz:=by
   obtain⟨us1,us2,k1,k2,k3⟩:=packD_len hp e3
   simp only[RelL]at k3
   subst k3
   simpa[k1]using k2
  have hM1:=mid_make (z:= .cells C' (List.replicate d.sz .unk)) (Hs':=Hs.set b .gone) hM hbn hb rfl (fun l=>by simp) (fun v' hv' hB=>by
   obtain⟨n2,vs2,f1,f2,f3⟩:=hB
   rw[hv]at hv'
   obtain rfl:=Option.some.inj hv'
   rw[e1]at f1
   simp only[Value.pointer.injEq,Option.some.injEq,Addr.mk.injEq]at f1
   obtain⟨rfl,_⟩:=f1
   exact⟨n',vs2,e1,f2,relL_unk (by
    have:=e2.2.symm.trans f2.2
    have hvv:vs=vs2:=by simpa using this
    rw[←hvv];exact hvl)⟩) (conc_gone hM.src) (fun j y hy hl=> .inl (gone_get hy hl))
  obtain⟨τ2,β2,us1,us2,f1,f2,f3,f4,f5⟩:=moveD d hp hM1.src e3 hM1.base hM1.disj (fun j x hx hl _=>mid_hap hM1 j x hx hl)
  simp only[RelL]at f3
  subst f3
  rw[List.append_nil]at f1
  subst f1
  have hM2:=mid_mvd hM1 (packD_gone hp) f4
  have hb1:(H1.set b (.cells C' (List.replicate d.sz .unk)))[b]? =some (.cells C' (List.replicate d.sz .unk)):=by
   rw[List.getElem?_set,if_pos rfl,if_pos (by omega)]
  have hb2:(unpackD d y (H1.set b (.cells C' (List.replicate d.sz .unk)))).2[b]? =some (.cells C' (List.replicate d.sz .unk)):=by
   rw[f4.heap b (by simp;omega)];exact hb1
  refine⟨τ2,β2,f4.more,?_⟩
  refine mid_set hM2 hb2 rfl (fun v' hv' hB=> ?_)
  obtain⟨n2,vs2,g1,g2,g3⟩:=hB
  obtain⟨s,hs⟩:=f4.more
  rw[hs,List.getElem?_append_left (by omega),s2,hv]at hv'
  obtain rfl:=Option.some.inj hv'
  rw[e1]at g1
  simp only[Value.pointer.injEq,Option.some.injEq,Addr.mk.injEq]at g1
  obtain⟨rfl,_⟩:=g1
  have hvv:vs=vs2:=by
   have:=e2.2.symm.trans g2.2
   simpa using this
  subst hvv
  exact⟨n',vs,e1,g2,f5⟩
 |rw r T e=>
  simp only[pack1]at h
  split at h
  ·rename_i T' e' xs hr
   split at h
   ·rename_i hT pe _ _
    obtain⟨hE⟩:=pe
    simp only[Option.some.injEq,Prod.mk.injEq]at h
    obtain⟨rfl,rfl⟩:=h
    subst hT hE
    exact⟨τ,β,⟨[],by simp⟩,mid_make hM (Nat.le_of_ble_eq_true hok) hr rfl (fun l=>by simp) (fun v _ hB=>hB) (conc_gone hM.src) (fun j y hy hl=> .inl (gone_get hy hl))⟩
   ·cases h
  ·cases h
 |mp r m=>
  simp only[pack1]at h
  split at h
  ·rename_i m' xs hr
   split at h
   ·rename_i hT _
    simp only[Option.some.injEq,Prod.mk.injEq]at h
    obtain⟨rfl,rfl⟩:=h
    subst hT
    exact⟨τ,β,⟨[],by simp⟩,mid_make hM (Nat.le_of_ble_eq_true hok) hr rfl (fun l=>by simp) (fun v _ hB=>hB) (conc_gone hM.src) (fun j y hy hl=> .inl (gone_get hy hl))⟩
   ·cases h
  ·cases h
 |mpD r m d=>
  simp only[pack1]at h
  split at h
  ·rename_i m' d' xs hr
   split at h
   ·rename_i hT hK _ _
    simp only[Option.some.injEq,Prod.mk.injEq]at h
    obtain⟨rfl,rfl⟩:=h
    subst hT hK
    exact⟨τ,β,⟨[],by simp⟩,mid_make hM (Nat.le_of_ble_eq_true hok) hr rfl (fun l=>by simp) (fun v _ hB=>brel_none hB) (conc_gone hM.src) (fun j y hy hl=> .inl (gone_get hy hl))⟩
   ·cases h
  ·cases h
 |rwD r d e=>
  simp only[pack1]at h
  split at h
  ·rename_i d' e' xs hr
   split at h
   ·rename_i hK pe _ _
    obtain⟨hE⟩:=pe
    simp only[Option.some.injEq,Prod.mk.injEq]at h
    obtain⟨rfl,rfl⟩:=h
    subst hK hE
    exact⟨τ,β,⟨[],by simp⟩,mid_make hM (Nat.le_of_ble_eq_true hok) hr rfl (fun l=>by simp) (fun v _ hB=>brelR_none hB) (conc_gone hM.src) (fun j y hy hl=> .inl (gone_get hy hl))⟩
   ·cases h
  ·cases h
 |opn b C m=>
  simp only[pack1]at h
  split at h
  ·rename_i C' cs hb
   split at h
   ·rename_i pe hC' hlen'
    obtain⟨hE⟩:=pe
    simp only[Option.some.injEq,Prod.mk.injEq]at h
    obtain⟨_,rfl⟩:=h
    subst hE
    have hlen':=Nat.eq_of_beq_eq_true hlen'
    have hget: ∀(j:Nat) (y:AB),(Hs.set b (.lock (.cells C' cs)))[j]? =some y→(Hs[j]? =some y∧j≠b)∨(j=b∧y= .lock (.cells C' cs)):=by
     intro j y hy
     rw[List.getElem?_set]at hy
     by_cases hij:b=j
     ·rw[if_pos hij]at hy
      split at hy
      ·exact .inr ⟨hij.symm,(Option.some.inj hy).symm⟩
      ·cases hy
     ·rw[if_neg hij]at hy
      exact .inl ⟨hy,fun h=>hij h.symm⟩
    have hsrc:Conc E' σ τ' β' ⟨tm,Hs.set b (.lock (.cells C' cs))⟩ a w:=by
     refine⟨hM.src.defers,hM.src.tmps,by rw[hM.src.size];simp,fun i x u hx hu=> ?_,fun i x hx hl=> ?_,fun i j x u hx hu hl hk he=> ?_⟩
     ·rcases hget i x hx with⟨h1,_⟩|⟨rfl,rfl⟩
      ·exact hM.src.heap i _ u h1 hu
      ·have hq:=hM.src.heap _ (.cells C' cs) u hb hu
       exact hq
     ·rcases hget i x hx with⟨h1,_⟩|⟨rfl,rfl⟩
      ·exact hM.src.apart i _ h1 hl
      ·exact hM.src.apart _ _ hb rfl
     ·rcases hget i x hx with⟨h1,_⟩|⟨rfl,rfl⟩
      ·rcases hget j u hu with⟨k1,_⟩|⟨rfl,rfl⟩
       ·exact hM.src.inj i j _ _ h1 k1 hl hk he
       ·exact hM.src.inj i _ _ _ h1 hb hl rfl he
      ·rcases hget j u hu with⟨k1,_⟩|⟨rfl,rfl⟩
       ·exact hM.src.inj _ j _ _ hb k1 rfl hk he
       ·rfl
    refine⟨τ,β,⟨[],by simp⟩,mid_make hM (Nat.le_of_ble_eq_true hok) hb rfl (fun l=>by simp) (fun v _ hB=> ?_) hsrc (fun j y hy hl=> ?_)⟩
    ·obtain⟨n',vs,e1,e2,e3⟩:=hB
     exact⟨n',vs,e1,e2,relL_unk (by rw[e3.length,hlen'])⟩
    ·rcases hget j y hy with h1|⟨h1,h2⟩
     ·exact .inl h1
     ·exact .inr ⟨h1,_,h2⟩
   ·cases h
  ·cases h
 |opb b C m=>
  simp only[pack1]at h
  split at h
  ·rename_i C' q cs hb
   split at h
   ·rename_i pe pq hC' hq' hlen'
    obtain⟨hE⟩:=pe
    obtain⟨hQ⟩:=pq
    simp only[Option.some.injEq,Prod.mk.injEq]at h
    obtain⟨_,rfl⟩:=h
    subst hE
    subst hQ
    have hlen':=Nat.eq_of_beq_eq_true hlen'
    have hget: ∀(j:Nat) (y:AB),(Hs.set q (.lock (.cells C' (.selfp q::cs))))[j]? =some y→(Hs[j]? =some y∧j≠q)∨(j=q∧y= .lock (.cells C' (.selfp q::cs))):=by
     intro j y hy
     rw[List.getElem?_set]at hy
     by_cases hij:q=j
     ·rw[if_pos hij]at hy
      split at hy
      ·exact .inr ⟨hij.symm,(Option.some.inj hy).symm⟩
      ·cases hy
     ·rw[if_neg hij]at hy
      exact .inl ⟨hy,fun h=>hij h.symm⟩
    have hsrc:Conc E' σ τ' β' ⟨tm,Hs.set q (.lock (.cells C' (.selfp q::cs)))⟩ a w:=by
     refine⟨hM.src.defers,hM.src.tmps,by rw[hM.src.size];simp,fun i x u hx hu=> ?_,fun i x hx hl=> ?_,fun i j x u hx hu hl hk he=> ?_⟩
     ·rcases hget i x hx with⟨h1,_⟩|⟨rfl,rfl⟩
      ·exact hM.src.heap i _ u h1 hu
      ·have hq:=hM.src.heap _ (.cells C' (.selfp _::cs)) u hb hu
       exact hq
     ·rcases hget i x hx with⟨h1,_⟩|⟨rfl,rfl⟩
      ·exact hM.src.apart i _ h1 hl
      ·exact hM.src.apart _ _ hb rfl
     ·rcases hget i x hx with⟨h1,_⟩|⟨rfl,rfl⟩
      ·rcases hget j u hu with⟨k1,_⟩|⟨rfl,rfl⟩
       ·exact hM.src.inj i j _ _ h1 k1 hl hk he
       ·exact hM.src.inj i _ _ _ h1 hb hl rfl he
      ·rcases hget j u hu with⟨k1,_⟩|⟨rfl,rfl⟩
       ·exact hM.src.inj _ j _ _ hb k1 rfl hk he
       ·rfl
    refine⟨τ,β,⟨[],by simp⟩,mid_make hM (Nat.le_of_ble_eq_true hok) hb rfl (fun l=>by simp) (fun v _ hB=> ?_) hsrc (fun j y hy hl=> ?_)⟩
    ·obtain⟨n',vs,e1,e2,e3⟩:=hB
     simp only[RelL]at e3
     obtain⟨u0,us,rfl,h0,h1⟩:=e3
     simp only[Rel]at h0
     obtain⟨m0,g1,g2⟩:=h0
     refine⟨n',_,e1,e2,?_⟩
     simp only[RelL]
     exact⟨u0,us,rfl,by simp only[Rel];exact⟨m0,(hM.same _ (Nat.le_of_ble_eq_true hok)).2.trans g1,g2⟩,relL_unk (by rw[h1.length,hlen'])⟩
    ·rcases hget j y hy with h1|⟨h1,h2⟩
     ·exact .inl h1
     ·exact .inr ⟨h1,_,h2⟩
   ·cases h
  ·cases h
 |cl b off T=>
  simp only[pack1]at h
  split at h
  ·rename_i C' cs hb
   split at h
   ·rename_i y hy
    simp only[Option.some.injEq,Prod.mk.injEq]at h
    obtain⟨rfl,rfl⟩:=h
    obtain⟨s1,s2⟩:=hM.same b (Nat.le_of_ble_eq_true hok)
    refine⟨τ,β,⟨[],by simp⟩,mid_cell hM (fun v hv C cs1 hb1 hB=> ?_)⟩
    obtain⟨n1,vs1,e1,e2,e3⟩:=hB
    obtain⟨n2,vs2,f1,f2,f3⟩:=hM.src.look hb (by rw[←s2];exact hv)
    rw[e1]at f1
    simp only[Value.pointer.injEq,Option.some.injEq,Addr.mk.injEq]at f1
    obtain⟨rfl,_⟩:=f1
    have hvs:vs1=vs2:=by
     have:=e2.2.symm.trans f2.2
     exact(show vs1=vs2∧C=C' by simpa using this).1
    subst hvs
    refine⟨n1,vs1,e1,e2,?_⟩
    have hrep:=dec_whole hy (RelL.take T.sz (RelL.drop off f3))
    have h3:=putA_rel (E:=E) off (vs:=vs1.toArray) (by simpa using e3) (enc_rel (E:=E) (β:=β) T hrep)
    rw[putCells_self]at h3
    ·simpa using h3
    ·intro j u hu
     rw[List.getElem?_take]at hu
     split at hu
     ·rw[List.getElem?_drop]at hu
      simpa using hu
     ·cases hu
   ·cases h
  ·cases h
 |dtc b off d=>
  simp only[pack1]at h
  split at h
  case h_2=>cases h
  rename_i C' cs hb
  split at h
  case h_2=>cases h
  rename_i y Hs1 hp
  simp only[Option.some.injEq,Prod.mk.injEq]at h
  obtain⟨rfl,rfl⟩:=h
  have hbn:b<n:=Nat.le_of_ble_eq_true hok
  obtain⟨s1,s2⟩:=hM.same b hbn
  cases hv:β'[b]? with
  |none=>
   have h0:=hM.base.size
   have h1:b<β.length:=by omega
   rw[←s2,List.getElem?_eq_getElem h1]at hv
   cases hv
  |some v=>
  obtain⟨n2,vs2,f1,f2,f3⟩:=hM.src.look hb hv
  obtain⟨τ2,β2,us1,us2,e1,e2,e3,e4,e5⟩:=moveD d hp hM.src (RelL.take d.sz (RelL.drop off f3)) hM.base hM.disj (fun j x hx hl _=>mid_hap hM j x hx hl)
  simp only[RelL]at e3
  subst e3
  rw[List.append_nil]at e1
  have hM2:=mid_mvd hM (packD_gone hp) e4
  refine⟨τ2,β2,e4.more,mid_cell hM2 (fun v1 hv1 C cs1 hb1 hB=> ?_)⟩
  obtain⟨n1,vs1,g1,g2,g3⟩:=hB
  obtain⟨s,hs⟩:=e4.more
  rw[hs,List.getElem?_append_left (by omega),s2,hv]at hv1
  obtain rfl:=Option.some.inj hv1
  rw[f1]at g1
  simp only[Value.pointer.injEq,Option.some.injEq,Addr.mk.injEq]at g1
  obtain⟨rfl,_⟩:=g1
  have hvs:vs1=vs2:=by
   have:=g2.2.symm.trans f2.2
   exact(show vs1=vs2∧C=C' by simpa using this).1
  subst hvs
  refine⟨n2,vs1,f1,g2,?_⟩
  have h3:=putA_rel (E:=E) (β:=β2) off (vs:=vs1.toArray) (by simpa using g3) e5
  rw[putCells_self]at h3
  ·simpa using h3
  ·intro j u hu
   rw[←e1,List.getElem?_take]at hu
   split at hu
   ·rw[List.getElem?_drop]at hu
    simpa using hu
   ·cases hu
theorem mid_all{E':Env}: ∀{cs:List Car} {n:Nat} {τ:Nat→Nat} {β:List Value} {tm1:List AV} {H1 Hs:List AB} {x:CarsDen cs},Mid E E' σ w a τ β tm1 H1 τ' β' tm Hs n→cs.all (Car.ok n)=true→packC cs tm Hs=some x→
  ∃τ2 β2,(∃s,β2=β++s)∧Conc E σ τ2 β2 ⟨(unpackC cs x (tm1,H1)).1,(unpackC cs x (tm1,H1)).2⟩ a w
 | [],n,τ,β,tm1,H1,Hs,x,hM,_,_=>⟨τ,β,⟨[],by simp⟩,hM.base⟩
 | [c],n,τ,β,tm1,H1,Hs,x,hM,hok,h=>by
  simp only[packC]at h
  split at h
  ·rename_i y Hs' hp
   obtain rfl:=Option.some.inj h
   obtain⟨τ2,β2,h1,h2⟩:=mid_step hM (by simpa using hok) hp
   exact⟨τ2,β2,h1,h2.base⟩
  ·cases h
 |c::d::l,n,τ,β,tm1,H1,Hs,x,hM,hok,h=>by
  simp only[packC]at h
  simp only[List.all_cons,Bool.and_eq_true]at hok
  split at h
  ·rename_i y Hs' hp
   split at h
   ·rename_i z hz
    obtain rfl:=Option.some.inj h
    obtain⟨τ2,β2,h1,h2⟩:=mid_step hM hok.1 hp
    obtain⟨τ3,β3,h3,h4⟩:=mid_all h2 (by simp only[List.all_cons,Bool.and_eq_true];exact hok.2) hz
    obtain⟨s,rfl⟩:=h1
    obtain⟨s',rfl⟩:=h3
    exact⟨τ3,_,⟨s++s',by simp⟩,h4⟩
   ·cases h
  ·cases h
end
end Go.Am
/- The abstract machine,part 29: loops over what comes in any order. No statement of its own. -/
namespace Go.Am
open Go.Vk Go.RowKit
def ordF{E S B:Type}(step:Option E→S→Option (S⊕B)):List E→S→Option B
 | [],s=>match step none s with
  |some (.inr b)=>some b
  |_=>none
 |x::l,s=>match step (some x) s with
  |some (.inl s')=>ordF step l s'
  |some (.inr b)=>some b
  |none=>none
open Classical in
noncomputable def anyOrd{E X:Type}(xs:List E)(F:List E→Option X):Option X:=
 if h: ∃x,∀l,l.Perm xs→F l=some x then some h.choose else none
theorem anyOrd_some{E X:Type}{xs:List E}{F:List E→Option X}{x:X}(h:anyOrd xs F=some x): ∀l,l.Perm xs→F l=some x:=by
 unfold anyOrd at h
 split at h
 ·rename_i hx
  obtain rfl:=Option.some.inj h
  exact hx.choose_spec
 ·cases h
theorem anyOrd_of{E X:Type}{xs:List E}{F:List E→Option X}{x:X}(h: ∀l,l.Perm xs→F l=some x):anyOrd xs F=some x:=by
 have hx: ∃x,∀l,l.Perm xs→F l=some x:=⟨x,h⟩
 unfold anyOrd
 rw[dif_pos hx]
 have:=hx.choose_spec xs (.refl _)
 rw[h xs (.refl _)]at this
 exact congrArg some (Option.some.inj this).symm
theorem wp_each {P:Program} {E S B:Type} {r y:Code} {step:Option E→S→Option (S⊕B)} {K:B→Prop} {Q:Exit→Act→World→Prop} (Rel:List E→S→Act→World→Prop) (Over:S→Act→World→Prop) (Pick:E→List E→S→Act→World→Prop)
  (hr: ∀rest s a w,Rel rest s a w→r.wp P (fun e a' w'=>e= .normal∧((rest= []∧Over s a' w')∨∃x rest',(x::rest').Perm rest∧Pick x rest' s a' w')) a w)
  (hover: ∀s a w,Over s a w→∀b,step none s=some (.inr b)→K b→y.wp P (Exit.then (fun _ _=>False) Q) a w)
  (hpick: ∀x rest s a w,Pick x rest s a w→∀o,step (some x) s=some o→y.wp P (Exit.then (fun a' w'=> ∃s',o= .inl s'∧Rel rest s' a' w') (fun e a' w'=> ∃b,o= .inr b∧(K b→Q e a' w'))) a w):
  ∀(n:Nat) (xs:List E) (s0:S) (a:Act) (w:World),xs.length=n→Rel xs s0 a w→(∀l,l.Perm xs→∃b,ordF step l s0=some b∧K b)→LoopWp P (.seq r y) Q a w:=by
 intro n
 induction n with
 |zero=>
  intro xs s0 a w hn h0 hall
  obtain rfl:=List.eq_nil_of_length_eq_zero hn
  refine loopWp_step (wp_seq (Code.wp_mono ?_ (hr _ _ _ _ h0)))
  rintro e a' w' ⟨rfl,h⟩
  rcases h with⟨_,h⟩|⟨x,rest',hp,_⟩
  ·obtain⟨b,hb,hK⟩:=hall [] (.refl _)
   simp only[ordF]at hb
   split at hb
   ·rename_i b' hs
    obtain rfl:=Option.some.inj hb
    show y.wp P _ a' w'
    refine Code.wp_mono ?_ (hover _ _ _ h _ hs hK)
    intro e a'' w'' q
    cases e with
    |normal=>exact q.elim
    |_=>exact q
   ·cases hb
  ·have:=hp.length_eq
   simp at this
 |succ n ih=>
  intro xs s0 a w hn h0 hall
  refine loopWp_step (wp_seq (Code.wp_mono ?_ (hr _ _ _ _ h0)))
  rintro e a' w' ⟨rfl,h⟩
  rcases h with⟨rfl,_⟩|⟨x,rest',hp,h⟩
  ·simp at hn
  ·have hl:rest'.length=n:=by have:=hp.length_eq;simp at this;omega
   cases hs:step (some x) s0 with
   |none=>
    obtain⟨b,hb,_⟩:=hall _ hp
    simp[ordF,hs]at hb
   |some o=>
    show y.wp P _ a' w'
    refine Code.wp_mono ?_ (hpick _ _ _ _ _ h _ hs)
    intro e a'' w'' q
    cases e with
    |normal=>
     obtain⟨s',rfl,q⟩:=q
     refine ih rest' s' a'' w'' hl q (fun l hl=> ?_)
     obtain⟨b,hb,hK⟩:=hall (x::l) ((hl.cons x).trans hp)
     simp only[ordF,hs]at hb
     exact⟨b,hb,hK⟩
    |_=>
     obtain⟨b,rfl,q⟩:=q
     obtain⟨b',hb,hK⟩:=hall _ hp
     simp only[ordF,hs,Option.some.injEq]at hb
     subst hb
     exact q hK
end Go.Am
/- The abstract machine,part 30: blocks that are protected for a while. No statement of its own. -/
namespace Go.Am
open Go.Vk Go.RowKit
variable [Dr]
def Env.add(E:Env)(g:Prop)(t1 t2:Nat):Env:=
 ⟨E.Pr,fun t=>E.It t∨(g∧(t=t1∨t=t2)),fun t=>E.Kp t∨t=t1∨t=t2,E.bnd+t1+t2+1,E.nought,fun t h=>by
  rcases h with h|h|⟨_,h⟩
  ·exact .inl (E.sub t (.inl h))
  ·exact .inl (E.sub t (.inr h))
  ·exact .inr h,fun t h=>by
  rcases h with h|rfl|rfl
  ·have:=E.low t h;omega
  ·omega
  ·omega⟩
section
variable {E : Env} {σ : Gh} {τ : Nat → Nat} {w : World} {β : List Value} {tm : List AV} {H : List AB} {a : Act}
theorem conc_prot{b i:Nat}{x y:AB}{g:Prop}(hC:Conc E σ τ β ⟨tm,H⟩ a w)(hb:H[b]? =some x)(hx:x.live=true)(hi:H[i]? =some y)(hy:y.live=true):
  Conc (E.add g (τ b) (τ i)) σ τ β ⟨tm,(H.set b (.lock .gone)).set i (.lock .gone)⟩ a w:=by
 have hE:(∀t,E.Pr t→(E.add g (τ b) (τ i)).Pr t)∧∀t,E.It t→(E.add g (τ b) (τ i)).It t:=⟨fun t h=>h,fun t h=> .inl h⟩
 have hg:=conc_kill (i:=i) (z:= .lock .gone) (conc_kill (i:=b) (z:= .lock .gone) hC rfl) rfl
 refine⟨hg.defers,RelL.env hE hg.tmps,hg.size,fun j z v hz hv=>BRel.env hE (hg.heap j z v hz hv),fun j z hz hl h=> ?_,hg.inj⟩
 simp only at hz
 obtain⟨h1,h2⟩:=kill_get rfl hz hl
 obtain⟨h3,h4⟩:=kill_get rfl h1 hl
 rcases h with h|h|h
 ·exact hC.apart j z h3 hl h
 ·exact h4 (hC.inj j b z x h3 hb hl hx h)
 ·exact h2 (hC.inj j i z y h3 hi hl hy h)
theorem conc_gen{t1 t2:Nat}{g:Prop}(hC:Conc (E.add False t1 t2) σ τ β ⟨tm,H⟩ a w):Conc (E.add g t1 t2) σ τ β ⟨tm,H⟩ a w:=by
 have hE:(∀t,(E.add False t1 t2).Pr t→(E.add g t1 t2).Pr t)∧∀t,(E.add False t1 t2).It t→(E.add g t1 t2).It t:=⟨fun t h=>h,fun t h=>h.imp id fun h=>h.1.elim⟩
 exact⟨hC.defers,RelL.env hE hC.tmps,hC.size,fun j z v hz hv=>BRel.env hE (hC.heap j z v hz hv),hC.apart,hC.inj⟩
omit [Dr] in
theorem rng_add{t1 t2 t:Nat}{g:Prop}(h:Rng (E.add g t1 t2) t):Rng E t∧t≠t1∧t≠t2:=
 ⟨fun hk=>h (.inl hk),fun e=>h (.inr (.inl e)),fun e=>h (.inr (.inr e))⟩
end
end Go.Am
/- The abstract machine,part 33: what a loop over a map goes through. No statement of its own. -/
namespace Go.Am
open Go.Vk Go.RowKit
variable [Dr]
structure RngI where
 tI:Tmp
 i:Nat
 b:Nat
 dN:Tmp
 dB:Tmp
 m:MTy
 va:Bool
 V:Ty
 xs:Mp m.K V
 z:Bool
 c:Bool
def rngX(r:Code)(tm:List AV)(H:List AB):Option RngI:=
 match r with
 | .region _ ⟨[o1,o2]⟩ false=>match o1.op,o1.dst,o1.guard,o2.op,o2.dst,o2.guard with
  | .next (.tmp tI) false,some dN,none,.extract (.tmp d2) 0,some dB,none=>match Nat.beq d2 dN,tm[tI]? with
   |true,some (.map i)=>match H[i]? with
    |some (.iter b since)=>match look H b with
     |some (.map m xs)=>some ⟨tI,i,b,dN,dB,m,m.va,m.V,xs,false,Nat.beq since xs.length⟩
     |some (.mapD m (.flat V) xs none)=>some ⟨tI,i,b,dN,dB,m,m.va,V,xs,true,Nat.beq since xs.length⟩
     |_=>none
    |_=>none
   |_,_=>none
  |_,_,_,_,_,_=>none
 |_=>none
def RngI.val(R:RngI)(x:R.V.Den):AV:=
 match R.z with
 |true=>encV R.va R.V x
 |false=>encA R.va R.V x
def RngI.put(R:RngI)(o:Option (R.m.K.Den×R.V.Den))(tm:List AV):List AV:=
 match o with
 |some p=>((tm.set R.tI (.it R.i (encA R.m.ka R.m.K p.1) (R.val p.2))).set R.dN .unk).set R.dB (.val (.bool true))
 |none=>(tm.set R.dN .unk).set R.dB (.val (.bool false))
def AB.noit:AB→Bool
 | .cells _ cs=>AV.noitL cs
 | .lock x=>x.noit
 |_=>true
/-! ### lists side by side -/
inductive Fa2{A B:Type}(R:A→B→Prop):List A→List B→Prop
 |nil:Fa2 R [] []
 |cons {x:A} {y:B} {l:List A} {k:List B}:R x y→Fa2 R l k→Fa2 R (x::l) (y::k)
omit [Dr] in
theorem Fa2.mono{A B:Type}{R R':A→B→Prop}(h: ∀x y,R x y→R' x y): ∀{l:List A} {k:List B},Fa2 R l k→Fa2 R' l k
 |_,_,.nil=> .nil
 |_,_,.cons h1 h2=> .cons (h _ _ h1) (Fa2.mono h h2)
omit [Dr] in
theorem Fa2.split{A B:Type}{R:A→B→Prop}{e:A}{l2:List A}: ∀{l1:List A} {k:List B},Fa2 R (l1++e::l2) k→∃r1 x r2,k=r1++x::r2∧R e x∧Fa2 R (l1++l2) (r1++r2)
 | [],_,.cons h1 h2=>⟨[],_,_,rfl,h1,h2⟩
 |y::l1,_,.cons h1 h2=>by
  obtain⟨r1,x,r2,rfl,h3,h4⟩:=Fa2.split (l1:=l1) h2
  exact⟨_::r1,x,r2,rfl,h3,.cons h1 h4⟩
/-! ### entries -/
omit [Dr] in
theorem ents_fa{K V:Ty}{ka va:Bool}: ∀(xs:Mp K V) (j:Nat),Fa2 (fun(e:MapEntry) (p:K.Den×V.Den)=>e.key=valF ka K p.1∧e.val=valF va V p.2) (ents ka K va V j xs) (xs.filterMap id)
 | [],j=> .nil
 |none::l,j=>ents_fa l (j+1)
 |some (k,v)::l,j=> .cons ⟨rfl,rfl⟩ (ents_fa l (j+1))
omit [Dr] in
theorem gents_fa{K:Ty}{B:Type}{ka:Bool}{enc:B→Value}: ∀(xs:Gp K B) (j:Nat),Fa2 (fun(e:MapEntry) (p:K.Den×B)=>e.key=valF ka K p.1∧e.val=enc p.2∧∃i:Nat,xs[i]? =some (some p)) (gents ka K enc j xs) (xs.filterMap id)
 | [],j=> .nil
 |none::l,j=>(gents_fa l (j+1)).mono fun e p ⟨h1,h2,i,h3⟩=>⟨h1,h2,i+1,by simpa using h3⟩
 |some (k,v)::l,j=> .cons ⟨rfl,rfl,0,rfl⟩ ((gents_fa l (j+1)).mono fun e p ⟨h1,h2,i,h3⟩=>⟨h1,h2,i+1,by simpa using h3⟩)
omit [Dr] in
theorem ents_nodup{K V:Ty}{ka va:Bool}: ∀(xs:Mp K V) (j:Nat),((ents ka K va V j xs).map (·.born)).Nodup
 | [],j=>by simp[ents]
 |none::l,j=>ents_nodup l (j+1)
 |some (k,v)::l,j=>by
  simp only[ents,List.map_cons,List.nodup_cons]
  refine⟨fun h=> ?_,ents_nodup l (j+1)⟩
  obtain⟨e,h1,h2⟩:=List.mem_map.1 h
  have:=(ents_born h1).1
  omega
omit [Dr] in
theorem gents_nodup{K:Ty}{B:Type}{ka:Bool}{enc:B→Value}: ∀(xs:Gp K B) (j:Nat),((gents ka K enc j xs).map (·.born)).Nodup
 | [],j=>by simp[gents]
 |none::l,j=>gents_nodup l (j+1)
 |some (k,v)::l,j=>by
  simp only[gents,List.map_cons,List.nodup_cons]
  refine⟨fun h=> ?_,gents_nodup l (j+1)⟩
  obtain⟨e,h1,h2⟩:=List.mem_map.1 h
  have:=(gents_born h1).1
  omega
omit [Dr] in
theorem Fa2.mapR{A B C:Type}{R:A→B→Prop}{S:A→C→Prop}{f:B→C}(h: ∀x y,R x y→S x (f y)): ∀{l:List A} {k:List B},Fa2 R l k→Fa2 S l (k.map f)
 |_,_,.nil=> .nil
 |_,_,.cons h1 h2=> .cons (h _ _ h1) (Fa2.mapR h h2)
omit [Dr] in
theorem filterMap_map{K:Ty}{B C:Type}(f:B→C): ∀(L:Gp K B),(L.map (Option.map fun p=>(p.1,f p.2))).filterMap id=(L.filterMap id).map fun p=>(p.1,f p.2)
 | []=>rfl
 |none::l=>by simpa using filterMap_map f l
 |some (k,v)::l=>by
  have:=filterMap_map f l
  simp only[List.map_cons,Option.map_some,List.filterMap_cons,id_eq]
  rw[this]
omit [Dr] in
theorem left_push{es:Array MapEntry}{seen:Array Nat}{e:MapEntry}(hn:(es.toList.map (·.born)).Nodup)(he:e∈(leftOf es seen).toList): ∃l1 l2,(leftOf es seen).toList=l1++e::l2∧(leftOf es (seen.push e.born)).toList=l1++l2:=by
 have hl:(leftOf es seen).toList=es.toList.filter (fun x=> !seen.contains x.born):=by simp[leftOf]
 have hl':(leftOf es (seen.push e.born)).toList=(leftOf es seen).toList.filter (fun x=> !(x.born==e.born)):=by
  rw[hl,List.filter_filter]
  simp only[leftOf,Array.toList_filter]
  congr 1
  funext x
  simp only[Array.contains_push,Bool.not_or,Bool.and_comm]
 have hsub:((leftOf es seen).toList.map (·.born)).Nodup:=by
  rw[hl]
  exact List.Nodup.sublist (List.Sublist.map _ List.filter_sublist) hn
 obtain⟨l1,l2,h⟩:=List.append_of_mem he
 refine⟨l1,l2,h,?_⟩
 rw[hl',h,List.filter_append,List.filter_cons]
 rw[h]at hsub
 simp only[List.map_append,List.map_cons]at hsub
 rw[List.nodup_append]at hsub
 obtain⟨n1,n2,n3⟩:=hsub
 rw[List.nodup_cons]at n2
 have f1:l1.filter (fun x=> !(x.born==e.born))=l1:=List.filter_eq_self.2 fun x hx=>by
  have:=n3 x.born (List.mem_map.2 ⟨x,hx,rfl⟩) e.born (by simp)
  simpa using this
 have f2:l2.filter (fun x=> !(x.born==e.born))=l2:=List.filter_eq_self.2 fun x hx=>by
  have:x.born≠e.born:=fun h=>n2.1 (List.mem_map.2 ⟨x,hx,h⟩)
  simpa using this
 simp[f1,f2]
def RngK(R:RngI)(xb:AB):Prop:=
 ∀(E:Env) (σ:Gh) (w:World) (β:List Value) (t:Nat) (v:Value),BRel E σ w β t v xb→∃(n:Nat) (es:Array MapEntry),v= .map (some n)∧w.heap[n]? =some (.map es R.xs.length)∧σ n=t∧(∀e∈es.toList,e.born<R.xs.length)∧(es.toList.map (·.born)).Nodup∧
  Fa2 (fun(e:MapEntry) (p:R.m.K.Den×R.V.Den)=>e.key=valF R.m.ka R.m.K p.1∧∀(C:Nat→Prop) (E1:Env) (σ1:Gh) (w1:World) (β1:List Value),¬C 0→EvT C σ w σ1 w1→Rel E1 σ1 w1 β1 (R.val p.2) e.val) es.toList (R.xs.filterMap _root_.id)
theorem rngX_some{r:Code}{tm:List AV}{H:List AB}{R:RngI}(h:rngX r tm H=some R): ∃id o1 o2,r= .region id (List.toArray [o1,o2]) false∧o1.op= .next (.tmp R.tI) false∧o1.dst=some R.dN∧o1.guard=none∧o2.op= .extract (.tmp R.dN) 0∧o2.dst=some R.dB∧o2.guard=none∧
  tm[R.tI]? =some (.map R.i)∧∃since,H[R.i]? =some (.iter R.b since)∧R.c=Nat.beq since R.xs.length∧∃xb,look H R.b=some xb∧xb.live=true∧(∀x s,xb≠ .iter x s)∧(∀x,xb≠ .lock x)∧RngK R xb:=by
 unfold rngX at h
 split at h
 case h_2=>cases h
 rename_i id o1 o2
 split at h
 case h_2=>cases h
 rename_i tI dN d2 dB g1 g2 g3 g4 g5 g6
 split at h
 case h_2=>cases h
 rename_i i hd ht
 obtain rfl:=Nat.eq_of_beq_eq_true hd
 split at h
 case h_2=>cases h
 rename_i b since hi
 split at h
 ·rename_i m xs hb
  obtain rfl:=Option.some.inj h
  refine⟨id,o1,o2,rfl,g1,g2,g3,g4,g5,g6,ht,since,hi,rfl,_,hb,rfl,fun _ _=>by simp,fun _=>by simp,fun E σ w β t v hB=> ?_⟩
  obtain⟨n',es,q1,q2,q3,q4⟩:=hB
  refine⟨n',es,q1,q2,q3,fun e he=> ?_,by rw[q4];exact ents_nodup _ _,?_⟩
  ·rw[q4]at he
   have:=(ents_born he).2
   simp only at this⊢
   omega
  ·rw[q4]
   refine(ents_fa xs 0).mono fun e p ⟨e1,e2⟩=>⟨e1,fun C E1 σ1 w1 β1 h0 hev=> ?_⟩
   rw[e2]
   simp only[RngI.val]
   exact encA_rel
 ·rename_i m V xs hb
  obtain rfl:=Option.some.inj h
  refine⟨id,o1,o2,rfl,g1,g2,g3,g4,g5,g6,ht,since,hi,rfl,_,hb,rfl,fun _ _=>by simp,fun _=>by simp,fun E σ w β t v hB=> ?_⟩
  obtain⟨n',es,L,q1,q2,q3,q4,q5,_,q6⟩:=hB
  refine⟨n',es,q1,q2,q3,fun e he=> ?_,by rw[q4];exact gents_nodup _ _,?_⟩
  ·rw[q4]at he
   have:=(gents_born he).2
   simp only at this⊢
   rw[q5]
   simp only[List.length_map]
   omega
  ·have hx:xs.filterMap _root_.id=(L.filterMap _root_.id).map fun p=>(p.1,p.2.2.1):=by
    rw[q5]
    exact filterMap_map (fun p:Value×V.Den×List Nat=>p.2.1) L
   simp only
   rw[hx,q4]
   refine(gents_fa L 0).mapR fun e p ⟨e1,e2,i,e3⟩=>⟨e1,fun C E1 σ1 w1 β1 h0 hev=> ?_⟩
   rw[e2]
   simp only[RngI.val]
   obtain⟨cs,r1,r2⟩:=q6.own i p.2.1 p.2.2.1 p.2.2.2 (by rw[List.getElem?_map,e3];rfl) nolent
   simp only[RepD]at r2
   obtain⟨hi,e1⟩:=hev.ev1 h0
   exact encV_rel ⟨cs,repTy_ev V r2.1 e1 (Nat.le_refl 1),r1⟩
 ·cases h
end Go.Am
/- The abstract machine,part 9: code,loops. No statement of its own. -/
namespace Go.Am
open Go.Vk Go.RowKit
variable [Dr]
def asgC:Code→List Tmp
 | .region _ ops _=>dsts ops.toList ops.toList
 | .seq x y=>asgC x++asgC y
 | .cond c x y=>(match c with| .tmp t=> [t]|_=> [])++(asgC x++asgC y)
 | .block _ x=>asgC x
 | .loop x=>asgC x
 | .scope x=>asgC x
 |_=> []
def firstReg:Code→Nat
 | .region id _ _=>id
 | .seq x _=>firstReg x
 | .cond _ x _=>firstReg x
 | .block _ x=>firstReg x
 | .loop x=>firstReg x
 | .scope x=>firstReg x
 |_=>0
def frzD:DT→List AV→List AB→Option (List AV×List AV×List AB)
 | .flat T,cs,H=>match frzL (cs.take T.sz) H with
  |some (l,H')=>some (l,cs.drop T.sz,H')
  |none=>none
 | .pair p q,cs,H=>match frzD p cs H with
  |some (x,l,H1)=>match frzD q l H1 with
   |some (y,l',H2)=>some (x++y,l',H2)
   |none=>none
  |none=>none
 | .row _ _,c::cs,H=>some ([c],cs,H)
 | .map _,c::cs,H=>some ([c],cs,H)
 | .ptr _ _,c::cs,H=>some ([c],cs,H)
 | .rowD _ _,c::cs,H=>some ([c],cs,H)
 | .mapD _ _,c::cs,H=>some ([c],cs,H)
 | .opq _,c1::c2::cs,H=>some ([c1,c2],cs,H)
 | .opq _,[_],_=>none
 |_,[],_=>none
def frzB(b:Nat)(d:DT)(H:List AB):Option (List AB):=
 match(H[b]? :Option AB)with
 |some (.cells C cs)=>match frzD d cs H with
  |some (cs',[],H1)=>match(H1[b]? :Option AB)with
   |some (.cells C' _)=>match natEq C' C with
    |some _=>some (H1.set b (.cells C cs'))
    |none=>none
   |_=>none
  |_=>none
 |_=>none
def rowIn(H:List AB)(b:Nat):Bool:=
 match H[b]? with
 |some (.cells _ cs)=>cs.any fun c=>match c with
  | .row _=>true
  |_=>false
 |_=>false
def frzC:List Car→List AB→List AB
 | [],H=>H
 | .dtb b _ d::l,H=>match rowIn H b with
  |true=>frzC l ((frzB b d H).getD H)
  |false=>frzC l H
 |_::l,H=>frzC l H
section
variable {P : Program} {E E' : Env} {σ σ1 : Gh} {τ τ' : Nat → Nat} {w w1 : World} {β β' : List Value} {tm : List AV} {H : List AB} {a : Act}
theorem frzD_sound: ∀{d:DT} {cs x l:List AV} {H H':List AB} {σ:Gh} {us:List Value},frzD d cs H=some (x,l,H')→Conc E σ τ β ⟨tm,H⟩ a w→RelL E σ w β cs us→
  HPres H H'∧∃σ',EvT (Rng E) σ w σ' w∧Conc E σ' τ β ⟨tm,H'⟩ a w∧∃us1 us2,us=us1++us2∧RelL E σ' w β x us1∧RelL E σ' w β l us2
 | .flat T,cs,x,l,H,H',σ,us,h,hC,hr=>by
  have hP: ∀t,(E.Pr t∨E.It t)→¬Rng E t:=fun t ht h=>h (E.sub t ht)
  simp only[frzD]at h
  split at h
  ·rename_i l1 H1 hf
   simp only[Option.some.injEq,Prod.mk.injEq]at h
   obtain⟨rfl,rfl,rfl⟩:=h
   obtain⟨g0,σ2,g1,g2,g3⟩:=frzL_sound hf hC (RelL.take T.sz hr)
   exact⟨g0,σ2,g1,g2,_,_,(List.take_append_drop T.sz us).symm,g3,RelL.ev g1 hP (RelL.drop T.sz hr)⟩
  ·cases h
 | .pair p q,cs,x,l,H,H',σ,us,h,hC,hr=>by
  have hP: ∀t,(E.Pr t∨E.It t)→¬Rng E t:=fun t ht h=>h (E.sub t ht)
  simp only[frzD]at h
  split at h
  ·rename_i x1 l1 H1 h1
   split at h
   ·rename_i y l2 H2 h2
    simp only[Option.some.injEq,Prod.mk.injEq]at h
    obtain⟨rfl,rfl,rfl⟩:=h
    obtain⟨g0,σ1,g1,g2,us1,us2,rfl,g3,g4⟩:=frzD_sound h1 hC hr
    obtain⟨f0,σ2,f1,f2,us3,us4,rfl,f3,f4⟩:=frzD_sound h2 g2 g4
    exact⟨g0.trans f0,σ2,g1.trans f1,f2,us1++us3,us4,by simp,RelL.append (RelL.ev f1 hP g3) f3,f4⟩
   ·cases h
  ·cases h
 | .row _ _,[],x,l,H,H',σ,us,h,hC,hr=>by simp[frzD]at h
 | .map _,[],x,l,H,H',σ,us,h,hC,hr=>by simp[frzD]at h
 | .ptr _ _,[],x,l,H,H',σ,us,h,hC,hr=>by simp[frzD]at h
 | .rowD _ _,[],x,l,H,H',σ,us,h,hC,hr=>by simp[frzD]at h
 | .mapD _ _,[],x,l,H,H',σ,us,h,hC,hr=>by simp[frzD]at h
 | .opq _,[],x,l,H,H',σ,us,h,hC,hr=>by simp[frzD]at h
 | .opq _,[_],x,l,H,H',σ,us,h,hC,hr=>by simp[frzD]at h
 | .row _ _,c::cs,x,l,H,H',σ,us,h,hC,hr=>by
  simp only[frzD,Option.some.injEq,Prod.mk.injEq]at h
  obtain⟨rfl,rfl,rfl⟩:=h
  simp only[RelL]at hr
  obtain⟨v,u,rfl,h2,h3⟩:=hr
  exact⟨.refl _,σ,.refl,hC,[v],u,rfl,by simp only[RelL];exact⟨v,[],rfl,h2,rfl⟩,h3⟩
 | .map _,c::cs,x,l,H,H',σ,us,h,hC,hr=>by
  simp only[frzD,Option.some.injEq,Prod.mk.injEq]at h
  obtain⟨rfl,rfl,rfl⟩:=h
  simp only[RelL]at hr
  obtain⟨v,u,rfl,h2,h3⟩:=hr
  exact⟨.refl _,σ,.refl,hC,[v],u,rfl,by simp only[RelL];exact⟨v,[],rfl,h2,rfl⟩,h3⟩
 | .ptr _ _,c::cs,x,l,H,H',σ,us,h,hC,hr=>by
  simp only[frzD,Option.some.injEq,Prod.mk.injEq]at h
  obtain⟨rfl,rfl,rfl⟩:=h
  simp only[RelL]at hr
  obtain⟨v,u,rfl,h2,h3⟩:=hr
  exact⟨.refl _,σ,.refl,hC,[v],u,rfl,by simp only[RelL];exact⟨v,[],rfl,h2,rfl⟩,h3⟩
 | .rowD _ _,c::cs,x,l,H,H',σ,us,h,hC,hr=>by
  simp only[frzD,Option.some.injEq,Prod.mk.injEq]at h
  obtain⟨rfl,rfl,rfl⟩:=h
  simp only[RelL]at hr
  obtain⟨v,u,rfl,h2,h3⟩:=hr
  exact⟨.refl _,σ,.refl,hC,[v],u,rfl,by simp only[RelL];exact⟨v,[],rfl,h2,rfl⟩,h3⟩
 | .opq _,c1::c2::cs,x,l,H,H',σ,us,h,hC,hr=>by
  simp only[frzD,Option.some.injEq,Prod.mk.injEq]at h
  obtain⟨rfl,rfl,rfl⟩:=h
  simp only[RelL]at hr
  obtain⟨v,_,rfl,h2,v2,u,rfl,h3,h4⟩:=hr
  exact⟨.refl _,σ,.refl,hC,[v,v2],u,rfl,by simp only[RelL];exact⟨v,_,rfl,h2,v2,[],rfl,h3,rfl⟩,h4⟩
 | .mapD _ _,c::cs,x,l,H,H',σ,us,h,hC,hr=>by
  simp only[frzD,Option.some.injEq,Prod.mk.injEq]at h
  obtain⟨rfl,rfl,rfl⟩:=h
  simp only[RelL]at hr
  obtain⟨v,u,rfl,h2,h3⟩:=hr
  exact⟨.refl _,σ,.refl,hC,[v],u,rfl,by simp only[RelL];exact⟨v,[],rfl,h2,rfl⟩,h3⟩
theorem frzB_sound{b:Nat}{d:DT}{H':List AB}(h:frzB b d H=some H')(hC:Conc E σ τ β ⟨tm,H⟩ a w):HPres H H'∧∃σ',EvT (Rng E) σ w σ' w∧Conc E σ' τ β ⟨tm,H'⟩ a w:=by
 unfold frzB at h
 split at h
 case h_2=>cases h
 rename_i C cs hb
 split at h
 case h_2=>cases h
 rename_i cs' H1 hf
 split at h
 case h_2=>cases h
 rename_i C' cs0 hb1
 split at h
 case h_2=>cases h
 rename_i pC _
 obtain⟨hCC⟩:=pC
 subst hCC
 obtain rfl:=Option.some.inj h
 obtain⟨v,hv⟩: ∃v,β[b]? =some v:=⟨_,List.getElem?_eq_getElem (by rw[hC.size];exact(List.getElem?_eq_some_iff.1 hb).1)⟩
 obtain⟨n,vs,e1,e2,e3⟩:=hC.heap b _ v hb hv
 obtain⟨g0,σ1,g1,g2,us1,us2,rfl,g3,g4⟩:=frzD_sound hf hC e3
 simp only[RelL]at g4
 subst g4
 rw[List.append_nil]at e2
 subst e1
 obtain⟨n',vs',k1,k2,k3⟩:=g2.heap b _ _ hb1 hv
 simp only[Value.pointer.injEq,Option.some.injEq,Addr.mk.injEq]at k1
 obtain⟨rfl,_⟩:=k1
 have hvs:us1=vs':=by
  have:=e2.2.symm.trans k2.2
  simpa using this
 subst hvs
 exact⟨g0.trans (.set hb1 (fun y=>by simp)),σ1,g1,conc_refine g2 hb1 hv k2 g3⟩
theorem frzC_sound: ∀(cs:List Car) {σ:Gh} {H:List AB},Conc E σ τ β ⟨tm,H⟩ a w→HPres H (frzC cs H)∧∃σ',EvT (Rng E) σ w σ' w∧Conc E σ' τ β ⟨tm,frzC cs H⟩ a w
 | [],σ,H,hC=>⟨.refl _,σ,.refl,hC⟩
 |c::l,σ,H,hC=>by
  cases c with
  |dtb b C d=>
   simp only[frzC]
   split
   ·cases hf:frzB b d H with
    |none=>exact frzC_sound l hC
    |some H1=>
     obtain⟨p1,σ1,p2,p3⟩:=frzB_sound hf hC
     obtain⟨q1,σ2,q2,q3⟩:=frzC_sound l p3
     exact⟨p1.trans q1,σ2,p2.trans q2,q3⟩
   ·exact frzC_sound l hC
  |_=>exact frzC_sound l hC
end
inductive XK where
 |exit (id:Nat)
 |ret
 |norm
def XK.out:XK→Exit
 | .exit id=> .exit id
 | .ret=> .ret
 | .norm=> .normal
def XK.is:XK→Exit→Bool
 | .exit id,.exit id'=>Nat.beq id id'
 | .ret,.ret=>true
 | .norm,.normal=>true
 |_,_=>false
omit [Dr] in
theorem XK.is_out{x:XK}{e:Exit}(h:x.is e=true):e=x.out:=by
 cases x<;>cases e<;>simp only[XK.is]at h<;>try (cases h;done)
 ·rw[Nat.eq_of_beq_eq_true h];rfl
 ·rfl
 ·rfl
@[reducible] def ExDen:List (XK×List Car)→Type
 | []=>Empty
 | [x]=>CarsDen x.2
 |x::y::l=>CarsDen x.2⊕ExDen (y::l)
def packE:(es:List (XK×List Car))→Exit→List AV→List AB→Option (ExDen es)
 | [],_,_,_=>none
 | [x],e,tm,H=>match x.1.is e with
  |true=>packC x.2 tm (frzC x.2 H)
  |false=>none
 |x::y::l,e,tm,H=>match x.1.is e with
  |true=>match packC x.2 tm (frzC x.2 H)with
   |some z=>some (.inl z)
   |none=>none
  |false=>match packE (y::l) e tm H with
   |some z=>some (.inr z)
   |none=>none
def elimE:(es:List (XK×List Car))→(X:Type)→ExDen es→List AV×List AB→(Exit→List AV→List AB→Option X)→Option X
 | [],_,b,_,_=>nomatch b
 | [x],X,b,s,k=>k x.1.out (unpackC x.2 b s).1 (unpackC x.2 b s).2
 |x::y::l,X,b,s,k=>match b with
  | .inl z=>k x.1.out (unpackC x.2 z s).1 (unpackC x.2 z s).2
  | .inr z=>elimE (y::l) X z s k
structure LAnn where
 kind:Nat
 id:Nat
 cs:List Car
 es:List (XK×List Car)
 un:Nat
def findA(kind id:Nat):List LAnn→Option LAnn
 | []=>none
 |x::l=>match Nat.beq x.kind kind && Nat.beq x.id id with
  |true=>some x
  |false=>findA kind id l
def killT:List Tmp→List AV→List AV
 | [],tm=>tm
 |t::l,tm=>killT l (tm.set t .unk)
def usedB:Nat→Nat→List AB→List Nat
 |0,b,_=> [b]
 |n+1,b,H=>b::match H[b]? with
  |some (.cells _ cs)=>cs.flatMap fun c=>match headB c with
   |some r=>usedB n r H
   |none=> []
  |some (.mapD _ _ _ (some (_,r)))=>usedB n r H
  |some (.rowD _ _ _ (some (_,r)))=>usedB n r H
  |some (.arw a _ _)=> [a]
  |some (.amp a _ _)=> [a]
  |_=> []
def usedL(cs:List AV)(H:List AB):List Nat:=cs.flatMap fun c=>match headB c with
 |some r=>usedB 8 r H
 |none=> []
def usedC(tm:List AV)(H:List AB):List Car→List Nat
 | []=> []
 | .dts t _::l=>match tm[t]? with
  |some c=>usedL [c] H++usedC tm H l
  |none=>usedC tm H l
 | .dtb b _ _::l=>b::(usedB 8 b H++usedC tm H l)
 | .rw b _ _::l=>b::usedC tm H l
 | .mp b _::l=>b::usedC tm H l
 | .mpD b _ _::l=>b::(usedB 8 b H++usedC tm H l)
 | .rwD b _ _::l=>b::(usedB 8 b H++usedC tm H l)
 | .opn b _ _::l=>b::usedC tm H l
 | .opb b _ _::l=>b::usedC tm H l
 | .cl b _ _::l=>b::usedC tm H l
 | .dtc b off d::l=>b::match look H b with
  |some (.cells _ cs)=>usedL ((cs.drop off).take d.sz) H++usedC tm H l
  |_=>usedC tm H l
 | .sl _ _ _::l=>usedC tm H l
/-! ### what is lent goes back -/
def lentB:AB→Bool
 | .mapD _ _ _ (some _)=>true
 | .rowD _ _ _ (some _)=>true
 |_=>false
def settleN(f:Nat→Bool):Nat→List AB→List AB
 |0,H=>H
 |n+1,H=>match H[n]? with
  |some x=>match lentB x && f n with
   |true=>settleN f n ((settle n H).getD H)
   |false=>settleN f n H
  |none=>settleN f n H
def settleF(f:Nat→Bool)(H:List AB):List AB:=
 match H.any lentB with
 |true=>settleN f H.length H
 |false=>H
def settleAll(H:List AB):List AB:=settleF (fun _=>true) H
def unlocked(H:List AB)(b:Nat):Bool:=
 match H[b]? with
 |some (.lock _)=>false
 |some _=>true
 |none=>false
def isIn(n:Nat):List Nat→Bool
 | []=>false
 |x::l=>Nat.beq x n||isIn n l
def goneI(us:List Nat):Nat→List AB→List AB
 |_,[]=> []
 |i,x::l=>(match isIn i us with|true=> .gone|false=>x)::goneI us (i+1) l
def lockI(us:List Nat):Nat→List AB→List AB
 |_,[]=> []
 |i,x::l=>(match isIn i us with|true=>x|false=> .lock x)::lockI us (i+1) l
def carOk(n:Nat)(H:List AB)(ds:List Tmp):Car→Bool
 | .sl t _ _=>isIn t ds
 | .dts t _=>isIn t ds
 | .dtb b _ _=>Nat.blt b n && unlocked H b
 | .rw b _ _=>Nat.blt b n && unlocked H b
 | .mp b _=>Nat.blt b n && unlocked H b
 | .mpD b _ _=>Nat.blt b n && unlocked H b
 | .rwD b _ _=>Nat.blt b n && unlocked H b
 | .opn b _ _=>Nat.blt b n && unlocked H b
 | .opb b _ _=>Nat.blt b n && unlocked H b
 | .cl b _ _=>Nat.blt b n && unlocked H b
 | .dtc b _ _=>Nat.blt b n && unlocked H b
def joinW(an:List LAnn)(kind key:Nat)(ds:List Tmp)(tm:List AV)(H:List AB)(X:Type)(k:Exit→List AV→List AB→Option X)(body:(Y:Type)→List AB→(Exit→List AV→List AB→Option Y)→Option Y):Option X:=
 match findA kind key an with
 |none=>body X H k
 |some A=>match A.es.all (fun e=>e.2.all (carOk H.length H ds)),(usedC tm H A.cs).all (unlocked H)with
  |true,true=>(body (ExDen A.es) (lockI (usedC tm H A.cs) 0 H) (fun e tm H=>packE A.es e tm (settleAll H))).bind fun b=>elimE A.es X b (killT ds tm,goneI (usedC tm H A.cs) 0 H) k
  |_,_=>none
def roundsX{X:Type}(f:List AV→List AB→(Exit→List AV→List AB→Option X)→Option X):Nat→List AV→List AB→(Exit→List AV→List AB→Option X)→Option X
 |0,_,_,_=>none
 |n+1,tm,H,k=>f tm H fun e tm H=>match e with
  | .normal=>roundsX f n tm H k
  |e=>k e tm H
def condKey:Operand→Nat
 | .tmp t=>t
 |_=>0
def rngH(R:RngI)(H:List AB):List AB:=(H.set R.b (.lock .gone)).set R.i (.lock .gone)
def rngS(R:RngI)(y:Code):List Tmp:=R.dN::R.dB::asgC y
def rngOk(R:RngI)(tm:List AV)(H:List AB)(ds:List Tmp):Bool:=
 (!(isIn R.tI ds)) && ((Nat.blt R.dN tm.length && Nat.blt R.dB tm.length) && (AV.noitL tm && (H.all AB.noit && unlocked H R.b)))
noncomputable def exec(P:Program)(hs:List (Hnd P))(an:List LAnn)(X:Type):Code→List AV→List AB→(Exit→List AV→List AB→Option X)→Option X
 | .skip,tm,H,k=>k .normal tm H
 | .region id ops draw,tm,H,k=>joinW an 3 id (dsts ops.toList ops.toList) tm H X k fun Y H k=>match draw with
  |false=>regX P hs ops.toList Y ops.toList tm H (k .normal)
  |true=>regD P hs ops.toList Y tm H (k .normal)
 | .seq x y,tm,H,k=>exec P hs an X x tm H fun e tm H=>match e with
  | .normal=>exec P hs an X y tm H k
  |e=>k e tm H
 | .cond c x y,tm,H,k=>joinW an 1 (condKey c) (asgC (.cond c x y)) tm H X k fun Y H k=>match c with
  | .tmp t=>match tm[t]? with
   |some (.val (.bool b))=>bifA b (exec P hs an Y x (tm.set t (.val (.bool true))) H k) (exec P hs an Y y (tm.set t (.val (.bool false))) H k)
   |_=>none
  | .const (.bool b)=>bifA b (exec P hs an Y x tm H k) (exec P hs an Y y tm H k)
  |_=>none
 | .block id x,tm,H,k=>joinW an 2 id (asgC x) tm H X k fun Y H k=>exec P hs an Y x tm H fun e tm H=>match e with
  | .exit id'=>match Nat.beq id' id with
   |true=>k .normal tm H
   |false=>k (.exit id') tm H
  |e=>k e tm H
 | .exit id,tm,H,k=>k (.exit id) tm H
 | .goto l,tm,H,k=>k (.goto l) tm H
 | .ret,tm,H,k=>k .ret tm H
 | .loop x,tm,H,k=>match findA 5 (firstReg x) an with
  |some A=>match x with
   | .seq r y=>(fun H=>match rngX r tm H with
    |some R=>match A.cs.all (carOk H.length (rngH R H) (rngS R y)),A.es.all (fun e=>e.2.all (carOk H.length (rngH R H) (rngS R y))),(usedC tm (rngH R H) A.cs).all (unlocked (rngH R H)),rngOk R tm H (rngS R y)with
     |true,true,true,true=>match packC A.cs tm (lockI (usedC tm (rngH R H) A.cs) 0 (rngH R H))with
      |none=>none
      |some s0=>bifA R.c (anyOrd (R.xs.filterMap id) fun l=>(ordF (fun o s=>optS o (fun p=>exec P hs an (CarsDen A.cs⊕ExDen A.es) y (R.put (some p) (unpackC A.cs s (killT (rngS R y) tm,(goneI (usedC tm (rngH R H) A.cs) 0 (rngH R H)).map .lock)).1) (unpackC A.cs s (killT (rngS R y) tm,(goneI (usedC tm (rngH R H) A.cs) 0 (rngH R H)).map .lock)).2
        fun e tm' H'=>match e with
         | .normal=>match packC A.cs tm' (frzC A.cs (settleAll H'))with
          |some s'=>some (.inl s')
          |none=>none
         |e=>match packE A.es e tm' (settleAll H')with
          |some b=>some (.inr b)
          |none=>none) (exec P hs an (CarsDen A.cs⊕ExDen A.es) y (R.put none (unpackC A.cs s (killT (rngS R y) tm,(goneI (usedC tm (rngH R H) A.cs) 0 (rngH R H)).map .lock)).1) (unpackC A.cs s (killT (rngS R y) tm,(goneI (usedC tm (rngH R H) A.cs) 0 (rngH R H)).map .lock)).2
        fun e tm' H'=>match e with
         | .normal=>match packC A.cs tm' (frzC A.cs (settleAll H'))with
          |some s'=>some (.inl s')
          |none=>none
         |e=>match packE A.es e tm' (settleAll H')with
          |some b=>some (.inr b)
          |none=>none)) l s0).bind fun b=>elimE A.es X b (killT (rngS R y) tm,(goneI (usedC tm (rngH R H) A.cs) 0 (rngH R H)).set R.b ((H[R.b]?).getD .gone)) k) none
     |_,_,_,_=>none
    |none=>none) (frzC A.cs (settleF (fun b=>isIn b (usedC tm H A.cs)) H))
   |_=>none
  |none=>match findA 0 (firstReg x) an with
   |none=>none
   |some A=>match A.un with
    |n+1=>roundsX (exec P hs an X x) (n+1) tm H k
    |0=>(fun H=>
     let us:=usedC tm H A.cs
     match A.cs.all (carOk H.length H (asgC x)),A.es.all (fun e=>e.2.all (carOk H.length H (asgC x))),us.all (unlocked H)with
     |true,true,true=>match packC A.cs tm (lockI us 0 H)with
      |none=>none
      |some s0=>
       (loopO (fun s=>exec P hs an (CarsDen A.cs⊕ExDen A.es) x (unpackC A.cs s (killT (asgC x) tm,(goneI us 0 H).map .lock)).1 (unpackC A.cs s (killT (asgC x) tm,(goneI us 0 H).map .lock)).2
        fun e tm' H'=>match e with
         | .normal=>match packC A.cs tm' (frzC A.cs (settleAll H'))with
          |some s'=>some (.inl s')
          |none=>none
         |e=>match packE A.es e tm' (settleAll H')with
          |some b=>some (.inr b)
          |none=>none) s0).bind fun b=>elimE A.es X b (killT (asgC x) tm,goneI us 0 H) k
     |_,_,_=>none) (frzC A.cs (settleF (fun b=>isIn b (usedC tm H A.cs)) H))
 |_,_,_,_=>none
section
variable {P : Program} {E : Env} {σ σ1 : Gh} {τ τ' : Nat → Nat} {w w1 : World} {β β' : List Value} {tm : List AV} {H : List AB} {a : Act}
omit [Dr] in
theorem isIn_mem{n:Nat}: ∀{l:List Nat},isIn n l=true↔n∈l
 | []=>by simp[isIn]
 |x::l=>by
  simp only[isIn,Bool.or_eq_true,List.mem_cons,isIn_mem (l:=l)]
  constructor
  ·rintro(h|h)
   ·exact .inl (Nat.eq_of_beq_eq_true h).symm
   ·exact .inr h
  ·rintro(rfl|h)
   ·exact .inl (by simp)
   ·exact .inr h
omit [Dr] in
theorem goneI_len(us:List Nat): ∀(l:List AB) (i:Nat),(goneI us i l).length=l.length
 | [],i=>rfl
 |x::l,i=>by simp[goneI,goneI_len us l]
omit [Dr] in
theorem lockI_len(us:List Nat): ∀(l:List AB) (i:Nat),(lockI us i l).length=l.length
 | [],i=>rfl
 |x::l,i=>by simp[lockI,lockI_len us l]
omit [Dr] in
theorem goneI_get(us:List Nat): ∀(l:List AB) (i j:Nat),(goneI us i l)[j]? =(l[j]?).map (fun x=>if(i+j)∈us then .gone else x)
 | [],i,j=>by simp[goneI]
 |x::l,i,0=>by
  simp only[goneI,List.getElem?_cons_zero,Option.map_some,Nat.add_zero,Option.some.injEq]
  by_cases h:i∈us
  ·rw[isIn_mem.2 h];simp[h]
  ·have:isIn i us=false:=by
    cases hb:isIn i us with
    |false=>rfl
    |true=>exact absurd (isIn_mem.1 hb) h
   rw[this];simp[h]
 |x::l,i,j+1=>by
  simp only[goneI,List.getElem?_cons_succ]
  rw[goneI_get us l (i+1) j]
  congr 1
  funext y
  rw[show i+1+j=i+(j+1)by omega]
omit [Dr] in
theorem lockI_get(us:List Nat): ∀(l:List AB) (i j:Nat),(lockI us i l)[j]? =(l[j]?).map (fun x=>if(i+j)∈us then x else .lock x)
 | [],i,j=>by simp[lockI]
 |x::l,i,0=>by
  simp only[lockI,List.getElem?_cons_zero,Option.map_some,Nat.add_zero,Option.some.injEq]
  by_cases h:i∈us
  ·rw[isIn_mem.2 h];simp[h]
  ·have:isIn i us=false:=by
    cases hb:isIn i us with
    |false=>rfl
    |true=>exact absurd (isIn_mem.1 hb) h
   rw[this];simp[h]
 |x::l,i,j+1=>by
  simp only[lockI,List.getElem?_cons_succ]
  rw[lockI_get us l (i+1) j]
  congr 1
  funext y
  rw[show i+1+j=i+(j+1)by omega]
omit [Dr] in
theorem killT_len: ∀(ks:List Tmp) (tm:List AV),(killT ks tm).length=tm.length
 | [],tm=>rfl
 |t::l,tm=>by simp only[killT];rw[killT_len l];simp
omit [Dr] in
theorem killT_get: ∀(ks:List Tmp) (tm:List AV) (t:Nat) (x:AV),(killT ks tm)[t]? =some x→x= .unk∨(tm[t]? =some x∧t∉ks)
 | [],tm,t,x,h=> .inr ⟨h,by simp⟩
 |s::l,tm,t,x,h=>by
  simp only[killT]at h
  rcases killT_get l _ t x h with h1|⟨h1,h2⟩
  ·exact .inl h1
  ·rw[List.getElem?_set]at h1
   by_cases hst:s=t
   ·rw[if_pos hst]at h1
    split at h1
    ·exact .inl (Option.some.inj h1).symm
    ·cases h1
   ·rw[if_neg hst]at h1
    exact .inr ⟨h1,by simp only[List.mem_cons,not_or];exact⟨fun h=>hst h.symm,h2⟩⟩
omit [Dr] in
theorem killT_other: ∀(ks:List Tmp) (tm:List AV) (t:Nat),t∉ks→(killT ks tm)[t]? =tm[t]?
 | [],tm,t,_=>rfl
 |s::l,tm,t,h=>by
  simp only[List.mem_cons,not_or]at h
  simp only[killT]
  rw[killT_other l _ t h.2,List.getElem?_set,if_neg (fun e=>h.1 e.symm)]
theorem settleN_sound{f:Nat→Bool}: ∀(n:Nat) {σ:Gh} {τ:Nat→Nat} {H:List AB},Conc E σ τ β ⟨tm,H⟩ a w→HPres H (settleN f n H)∧∃σ' τ',EvT (Rng E) σ w σ' w∧Conc E σ' τ' β ⟨tm,settleN f n H⟩ a w
 |0,σ,τ,H,hC=>⟨.refl _,σ,τ,.refl,hC⟩
 |n+1,σ,τ,H,hC=>by
  simp only[settleN]
  split
  ·split
   ·cases hs:settle n H with
    |none=>exact settleN_sound n hC
    |some H1=>
     obtain⟨p1,σ1,τ1,p2,p3⟩:=settle_sound hC hs
     obtain⟨q1,σ2,τ2,q2,q3⟩:=settleN_sound n p3
     exact⟨p1.trans q1,σ2,τ2,p2.trans q2,q3⟩
   ·exact settleN_sound n hC
  ·exact settleN_sound n hC
theorem settleF_sound{f:Nat→Bool}(hC:Conc E σ τ β ⟨tm,H⟩ a w):HPres H (settleF f H)∧∃σ' τ',EvT (Rng E) σ w σ' w∧Conc E σ' τ' β ⟨tm,settleF f H⟩ a w:=by
 unfold settleF
 split
 ·exact settleN_sound _ hC
 ·exact⟨.refl _,σ,τ,.refl,hC⟩
theorem prep_sound{f:Nat→Bool}(cs:List Car)(hC:Conc E σ τ β ⟨tm,H⟩ a w):HPres H (frzC cs (settleF f H))∧∃σ' τ',EvT (Rng E) σ w σ' w∧Conc E σ' τ' β ⟨tm,frzC cs (settleF f H)⟩ a w:=by
 obtain⟨p1,σ1,τ1,p2,p3⟩:=settleF_sound (f:=f) hC
 obtain⟨q1,σ2,q2,q3⟩:=frzC_sound cs p3
 exact⟨p1.trans q1,σ2,τ1,p2.trans q2,q3⟩
theorem Went.frz{ds:List Tmp}{tm':List AV}{H':List AB}{σ':Gh}{w':World}{a':Act}(cs:List Car)(hW:Went E ds σ β w tm H σ' β' w' tm' H')(hC:Conc E σ' τ' β' ⟨tm',H'⟩ a' w'): ∃H2 σ2,frzC cs H'=H2∧Went E ds σ β w tm H σ2 β' w' tm' H2∧Conc E σ2 τ' β' ⟨tm',H2⟩ a' w':=by
 obtain⟨p1,σ1,p2,p3⟩:=frzC_sound cs hC
 exact⟨_,σ1,rfl,hW.trans ⟨p2,⟨[],by simp⟩,p1,.refl⟩,p3⟩
theorem Went.settle{ds:List Tmp}{tm':List AV}{H':List AB}{σ':Gh}{w':World}{a':Act}(hW:Went E ds σ β w tm H σ' β' w' tm' H')(hC:Conc E σ' τ' β' ⟨tm',H'⟩ a' w'): ∃H2 σ2 τ2,settleAll H'=H2∧Went E ds σ β w tm H σ2 β' w' tm' H2∧Conc E σ2 τ2 β' ⟨tm',H2⟩ a' w':=by
 obtain⟨p1,σ1,τ1,p2,p3⟩:=settleF_sound (f:=fun _=>true) hC
 exact⟨_,σ1,τ1,rfl,hW.trans ⟨p2,⟨[],by simp⟩,p1,.refl⟩,p3⟩
theorem mid_of {β0 s:List Value} {tm1:List AV} {H1:List AB} (hC:Conc E σ τ (β0++s) ⟨tm,H⟩ a w) (hl:tm1.length=tm.length) (hH:H1.length=β0.length)
  (ht: ∀(t:Nat) x,tm1[t]? =some x→x= .unk∨(tm[t]? =some x∧x.under β0.length))
  (hh: ∀(i:Nat) x,H1[i]? =some x→x.live=false∨(x.under β0.length∧∃z,H[i]? =some (.lock z)∧(x= .lock z∨x=z))):
  Mid E E σ w a τ β0 tm1 H1 τ (β0++s) tm H β0.length:=by
 have hb:Conc E σ τ β0 ⟨tm1,H1⟩ a w:=conc_less hC hl hH ht (fun i x hx=>by
  rcases hh i x hx with h|⟨h1,z,h2,h3⟩
  ·exact .inl h
  ·exact .inr ⟨h1,_,h2,by rcases h3 with rfl|rfl<;>simp⟩)
 refine⟨hb,fun _ h=>h,hC,fun i x j y hx hlx hy hly hnl he=> ?_,fun i hi=>⟨rfl,(List.getElem?_append_left hi).symm⟩,fun i x hi hx hlx y hy hly=> ?_,by omega⟩
 ·rcases hh i x hx with h|⟨h1,z,h2,h3⟩
  ·rw[hlx]at h;cases h
  ·have hlz:(AB.lock z).live=true:=by rcases h3 with rfl|rfl<;>exact hlx
   have:=hC.inj i j _ y h2 hy hlz hly he
   subst this
   rw[h2]at hy
   exact hnl z (Option.some.inj hy).symm
 ·rcases hh i x hx with h|⟨h1,z,h2,h3⟩
  ·rw[hlx]at h;cases h
  ·rw[h2]at hy
   exact⟨z,(Option.some.inj hy).symm⟩
theorem mid_in{us:List Nat}{tm1:List AV}(hC:Conc E σ τ β ⟨tm,H⟩ a w)(hl:tm1.length=tm.length)(ht: ∀(t:Nat) x,tm1[t]? =some x→x= .unk∨tm[t]? =some x):
  Mid E E σ w a τ β tm1 ((goneI us 0 H).map .lock) τ β tm (lockI us 0 H) β.length:=by
 have hC':Conc E σ τ (β++ []) ⟨tm,H⟩ a w:=by rw[List.append_nil];exact hC
 have hsz:=hC.size
 simp only at hsz
 have hu: ∀(i:Nat) x,H[i]? =some x→x.under β.length:=fun i x hx=>by
  obtain⟨v,hv⟩: ∃v,β[i]? =some v:=⟨_,List.getElem?_eq_getElem (by rw[hsz];exact(List.getElem?_eq_some_iff.1 hx).1)⟩
  exact(hC.heap i x v hx hv).under
 have hut: ∀(t:Nat) x,tm[t]? =some x→x.under β.length:=fun t x hx=>underL_get (RelL.under hC.tmps) hx
 have hg: ∀(i:Nat) x,((goneI us 0 H).map AB.lock)[i]? =some x→x.live=false∨(i∉us∧∃y,H[i]? =some y∧x= .lock y):=by
  intro i x hx
  rw[List.getElem?_map,goneI_get,Nat.zero_add]at hx
  cases hy:H[i]? with
  |none=>rw[hy]at hx;simp at hx
  |some y=>
   rw[hy]at hx
   simp only[Option.map_some,Option.some.injEq]at hx
   by_cases hi:i∈us
   ·rw[if_pos hi]at hx;subst hx;exact .inl rfl
   ·rw[if_neg hi]at hx;exact .inr ⟨hi,y,rfl,hx.symm⟩
 have hk: ∀(i:Nat) x,(lockI us 0 H)[i]? =some x→∃y,H[i]? =some y∧((i∈us∧x=y)∨(i∉us∧x= .lock y)):=by
  intro i x hx
  rw[lockI_get,Nat.zero_add]at hx
  cases hy:H[i]? with
  |none=>rw[hy]at hx;simp at hx
  |some y=>
   rw[hy]at hx
   simp only[Option.map_some,Option.some.injEq]at hx
   by_cases hi:i∈us
   ·rw[if_pos hi]at hx;exact⟨y,rfl,.inl ⟨hi,hx.symm⟩⟩
   ·rw[if_neg hi]at hx;exact⟨y,rfl,.inr ⟨hi,hx.symm⟩⟩
 have h1:Conc E σ τ β ⟨tm1,(goneI us 0 H).map .lock⟩ a w:=conc_less hC' hl (by simp[goneI_len,hsz])
  (fun t x hx=>(ht t x hx).imp id (fun h=>⟨h,hut t x h⟩)) (fun i x hx=>(hg i x hx).imp id (fun⟨_,y,h2,h3⟩=>⟨by rw[h3];exact hu i y h2,y,h2,.inr (.inr h3)⟩))
 have h2:Conc E σ τ β ⟨tm,lockI us 0 H⟩ a w:=conc_less hC' rfl (by simp[lockI_len,hsz])
  (fun t x hx=> .inr ⟨hx,hut t x hx⟩) (fun i x hx=>by
   obtain⟨y,h3,h4⟩:=hk i x hx
   rcases h4 with⟨_,rfl⟩|⟨_,rfl⟩
   ·exact .inr ⟨hu i _ h3,_,h3,.inl rfl⟩
   ·exact .inr ⟨show y.under β.length from hu i y h3,y,h3,.inr (.inr rfl)⟩)
 refine⟨h1,fun _ h=>h,h2,fun i x j y hx hlx hy hly hnl he=> ?_,fun i hi=>⟨rfl,rfl⟩,fun i x hi hx hlx y hy hly=> ?_,by simp[goneI_len,hsz]⟩
 ·rcases hg i x hx with h|⟨hi,z,h3,rfl⟩
  ·rw[hlx]at h;cases h
  ·obtain⟨u,h4,h5⟩:=hk j y hy
   rcases h5 with⟨hj,rfl⟩|⟨hj,rfl⟩
   ·have:=hC.inj i j z _ h3 h4 hlx hly he
    subst this
    exact hi hj
   ·exact hnl _ rfl
 ·rcases hg i x hx with h|⟨hi',z,h3,rfl⟩
  ·rw[hlx]at h;cases h
  ·obtain⟨u,h4,h5⟩:=hk i y hy
   rcases h5 with⟨hj,rfl⟩|⟨hj,rfl⟩
   ·exact absurd hj hi'
   ·exact⟨_,rfl⟩
end
end Go.Am
/- The abstract machine,part 10: code is walked as it says. No statement of its own. -/
namespace Go.Am
open Go.Vk Go.RowKit
variable [Dr]
section
variable {P : Program} {E : Env} {hs : List (Hnd P)} {an : List LAnn}
omit [Dr] in
theorem set_keep{n b:Nat}{H s2:List AB}{y0:AB}(hok:(Nat.blt b n && unlocked H b)=true):s2.length≤(s2.set b y0).length∧∀(i:Nat) z y,H[i]? =some (.lock z)→s2[i]? =some y→(s2.set b y0)[i]? =some y:=by
 refine⟨by simp,fun i z y hl h=> ?_⟩
 simp only[Bool.and_eq_true]at hok
 rw[List.getElem?_set]
 by_cases hb:b=i
 ·subst hb
  have:=hok.2
  unfold unlocked at this
  rw[hl]at this
  cases this
 ·rw[if_neg hb];exact h
omit [Dr] in
theorem putB_keep{n b off:Nat}{ds:List AV}{H s2:List AB}(hok:(Nat.blt b n && unlocked H b)=true):s2.length≤(putB b off ds s2).length∧∀(i:Nat) z y,H[i]? =some (.lock z)→s2[i]? =some y→(putB b off ds s2)[i]? =some y:=by
 unfold putB
 split
 ·exact set_keep hok
 ·exact⟨Nat.le_refl _,fun _ _ _ _ h=>h⟩
omit [Dr] in
theorem putB_len{b off:Nat}{ds:List AV}{s2:List AB}:(putB b off ds s2).length=s2.length:=by
 unfold putB;split<;>simp
omit [Dr] in
theorem putB_other{b off i:Nat}{ds:List AV}{s2:List AB}(h:i≠b):(putB b off ds s2)[i]? =s2[i]? :=by
 unfold putB
 split
 ·rw[List.getElem?_set,if_neg (fun e=>h e.symm)]
 ·rfl
omit [Dr] in
theorem unpack1_pres{n:Nat}{H:List AB}{ds:List Tmp}{c:Car}{x:c.Den}{s:List AV×List AB}(hok:carOk n H ds c=true):
  TPres ds s.1 (unpack1 c x s).1∧s.2.length≤(unpack1 c x s).2.length∧∀(i:Nat) z y,H[i]? =some (.lock z)→s.2[i]? =some y→(unpack1 c x s).2[i]? =some y:=by
 cases c with
 |sl t ag T=>
  exact⟨TPres.put (d:=some t) (fun u hu=>by injection hu with hu;subst hu;exact isIn_mem.1 hok),Nat.le_refl _,fun i z y _ h=>h⟩
 |dts t d=>
  obtain⟨h1,h2⟩:=unpackD_pre d x s.2
  exact⟨TPres.put (d:=some t) (fun u hu=>by injection hu with hu;subst hu;exact isIn_mem.1 hok),h1,fun i z y _ h=>(h2 i (List.getElem?_eq_some_iff.1 h).1).trans h⟩
 |dtb b C d=>
  obtain⟨h1,h2⟩:=unpackD_pre d x (s.2.set b (.cells C (List.replicate d.sz .unk)))
  simp only[List.length_set]at h1 h2
  obtain⟨g1,g2⟩:=set_keep (n:=n) (H:=H) (b:=b) (y0:= .cells C (List.replicate d.sz .unk)) (s2:=s.2) hok
  obtain⟨k1,k2⟩:=set_keep (n:=n) (H:=H) (b:=b) (y0:= .cells C (unpackD d x (s.2.set b (.cells C (List.replicate d.sz .unk)))).1) (s2:=(unpackD d x (s.2.set b (.cells C (List.replicate d.sz .unk)))).2) hok
  refine⟨.refl,Nat.le_trans h1 k1,fun i z y hl h=>k2 i z y hl ?_⟩
  rw[h2 i (List.getElem?_eq_some_iff.1 h).1]
  exact g2 i z y hl h
 |rw r T e=>exact⟨.refl,set_keep (n:=n) (H:=H) hok⟩
 |mp r m=>exact⟨.refl,set_keep (n:=n) (H:=H) hok⟩
 |mpD r m d=>exact⟨.refl,set_keep (n:=n) (H:=H) hok⟩
 |rwD r d e=>exact⟨.refl,set_keep (n:=n) (H:=H) hok⟩
 |opn b C m=>exact⟨.refl,set_keep (n:=n) (H:=H) hok⟩
 |opb b C m=>exact⟨.refl,set_keep (n:=n) (H:=H) hok⟩
 |cl b off T=>exact⟨.refl,putB_keep (n:=n) (H:=H) hok⟩
 |dtc b off d=>
  obtain⟨h1,h2⟩:=unpackD_pre d x s.2
  obtain⟨k1,k2⟩:=putB_keep (n:=n) (H:=H) (off:=off) (ds:=(unpackD d x s.2).1) (s2:=(unpackD d x s.2).2) hok
  exact⟨.refl,Nat.le_trans h1 k1,fun i z y hl h=>k2 i z y hl ((h2 i (List.getElem?_eq_some_iff.1 h).1).trans h)⟩
omit [Dr] in
theorem unpack_pres{n:Nat}{H:List AB}{ds:List Tmp}: ∀{cs:List Car} {x:CarsDen cs} {s:List AV×List AB},cs.all (carOk n H ds)=true→
  TPres ds s.1 (unpackC cs x s).1∧s.2.length≤(unpackC cs x s).2.length∧∀(i:Nat) z y,H[i]? =some (.lock z)→s.2[i]? =some y→(unpackC cs x s).2[i]? =some y
 | [],x,s,_=>⟨.refl,Nat.le_refl _,fun _ _ _ _ h=>h⟩
 | [c],x,s,h=>unpack1_pres (by simpa using h)
 |c::d::l,x,s,h=>by
  simp only[List.all_cons,Bool.and_eq_true]at h
  obtain⟨h1,h2,h3⟩:=unpack1_pres (x:=x.1) (s:=s) h.1
  obtain⟨k1,k2,k3⟩:=unpack_pres (cs:=d::l) (x:=x.2) (s:=unpack1 c x.1 s) (by simp only[List.all_cons,Bool.and_eq_true];exact h.2)
  exact⟨h1.trans k1,Nat.le_trans h2 k2,fun i z y hl hy=>k3 i z y hl (h3 i z y hl hy)⟩
def blksOf:List Car→List Nat
 | []=> []
 | .dtb b _ _::l=>b::blksOf l
 | .rw b _ _::l=>b::blksOf l
 | .mp b _::l=>b::blksOf l
 | .mpD b _ _::l=>b::blksOf l
 | .rwD b _ _::l=>b::blksOf l
 | .opn b _ _::l=>b::blksOf l
 | .opb b _ _::l=>b::blksOf l
 | .cl b _ _::l=>b::blksOf l
 | .dtc b _ _::l=>b::blksOf l
 |_::l=>blksOf l
omit [Dr] in
theorem blks_used{tm:List AV}{H:List AB}{b:Nat}: ∀{cs:List Car},b∈blksOf cs→b∈usedC tm H cs
 | [],h=>by simp[blksOf]at h
 | .sl t ag T::l,h=>by simp only[blksOf]at h;simp only[usedC];exact blks_used h
 | .dts t d::l,h=>by
  simp only[blksOf]at h
  simp only[usedC]
  split
  ·exact List.mem_append_right _ (blks_used h)
  ·exact blks_used h
 | .dtb b' C T::l,h=>by
  simp only[blksOf,List.mem_cons]at h
  simp only[usedC,List.mem_cons]
  exact h.imp id fun h=>List.mem_append_right _ (blks_used h)
 | .rw b' C T::l,h=>by
  simp only[blksOf,List.mem_cons]at h
  simp only[usedC,List.mem_cons]
  exact h.imp id blks_used
 | .mp b' m::l,h=>by
  simp only[blksOf,List.mem_cons]at h
  simp only[usedC,List.mem_cons]
  exact h.imp id blks_used
 | .mpD b' m d::l,h=>by
  simp only[blksOf,List.mem_cons]at h
  simp only[usedC,List.mem_cons]
  exact h.imp id fun h=>List.mem_append_right _ (blks_used h)
 | .rwD b' d e::l,h=>by
  simp only[blksOf,List.mem_cons]at h
  simp only[usedC,List.mem_cons]
  exact h.imp id fun h=>List.mem_append_right _ (blks_used h)
 | .opn b' C T::l,h=>by
  simp only[blksOf,List.mem_cons]at h
  simp only[usedC,List.mem_cons]
  exact h.imp id blks_used
 | .opb b' C T::l,h=>by
  simp only[blksOf,List.mem_cons]at h
  simp only[usedC,List.mem_cons]
  exact h.imp id blks_used
 | .cl b' C T::l,h=>by
  simp only[blksOf,List.mem_cons]at h
  simp only[usedC,List.mem_cons]
  exact h.imp id blks_used
 | .dtc b' C T::l,h=>by
  simp only[blksOf,List.mem_cons]at h
  simp only[usedC,List.mem_cons]
  refine h.imp id fun h=> ?_
  have:=blks_used (tm:=tm) (H:=H) h
  split
  ·exact List.mem_append_right _ this
  ·exact this
omit [Dr] in
theorem unpack1_keep{c:Car}{x:c.Den}{s:List AV×List AB}{i:Nat}(hb:i∉blksOf [c])(hi:i<s.2.length):(unpack1 c x s).2[i]? =s.2[i]? ∧i< (unpack1 c x s).2.length:=by
 cases c with
 |sl t ag T=>exact⟨rfl,hi⟩
 |dts t d=>
  obtain⟨h1,h2⟩:=unpackD_pre d x s.2
  exact⟨h2 i hi,Nat.lt_of_lt_of_le hi h1⟩
 |dtb b C d=>
  simp only[blksOf,List.mem_singleton]at hb
  simp only[unpack1]
  obtain⟨h1,h2⟩:=unpackD_pre d x (s.2.set b (.cells C (List.replicate d.sz .unk)))
  simp only[List.length_set]at h1 h2
  refine⟨?_,by simp only[List.length_set];omega⟩
  rw[List.getElem?_set,if_neg (fun h=>hb h.symm),h2 i hi,List.getElem?_set,if_neg (fun h=>hb h.symm)]
 |rw b T e=>
  simp only[blksOf,List.mem_singleton]at hb
  simp only[unpack1]
  refine⟨?_,by simpa using hi⟩
  rw[List.getElem?_set,if_neg (fun h=>hb h.symm)]
 |mp b m=>
  simp only[blksOf,List.mem_singleton]at hb
  simp only[unpack1]
  refine⟨?_,by simpa using hi⟩
  rw[List.getElem?_set,if_neg (fun h=>hb h.symm)]
 |mpD b m d=>
  simp only[blksOf,List.mem_singleton]at hb
  simp only[unpack1]
  refine⟨?_,by simpa using hi⟩
  rw[List.getElem?_set,if_neg (fun h=>hb h.symm)]
 |rwD b d e=>
  simp only[blksOf,List.mem_singleton]at hb
  simp only[unpack1]
  refine⟨?_,by simpa using hi⟩
  rw[List.getElem?_set,if_neg (fun h=>hb h.symm)]
 |opn b C m=>
  simp only[blksOf,List.mem_singleton]at hb
  simp only[unpack1]
  refine⟨?_,by simpa using hi⟩
  rw[List.getElem?_set,if_neg (fun h=>hb h.symm)]
 |opb b C m=>
  simp only[blksOf,List.mem_singleton]at hb
  simp only[unpack1]
  refine⟨?_,by simpa using hi⟩
  rw[List.getElem?_set,if_neg (fun h=>hb h.symm)]
 |cl b off T=>
  simp only[blksOf,List.mem_singleton]at hb
  simp only[unpack1]
  exact⟨putB_other hb,by rw[putB_len];exact hi⟩
 |dtc b off d=>
  simp only[blksOf,List.mem_singleton]at hb
  simp only[unpack1]
  obtain⟨h1,h2⟩:=unpackD_pre d x s.2
  refine⟨?_,by rw[putB_len];omega⟩
  rw[putB_other hb]
  exact h2 i hi
omit [Dr] in
theorem unpack_keep{i:Nat}: ∀{cs:List Car} {x:CarsDen cs} {s:List AV×List AB},i∉blksOf cs→i<s.2.length→(unpackC cs x s).2[i]? =s.2[i]?
 | [],x,s,_,_=>rfl
 | [c],x,s,hb,hi=>(unpack1_keep hb hi).1
 |c::d::l,x,s,hb,hi=>by
  have hc:i∉blksOf [c]:=fun h=>hb (by cases c<;>simp_all[blksOf])
  have hd:i∉blksOf (d::l):=fun h=>hb (by cases c<;>simp_all[blksOf])
  obtain⟨h1,h2⟩:=unpack1_keep (x:=x.1) (s:=s) hc hi
  have:=unpack_keep (cs:=d::l) (x:=x.2) (s:=unpack1 c x.1 s) hd h2
  simp only[unpackC]
  rw[this,h1]
omit [Dr] in
theorem packE_sound{e:Exit}{tm:List AV}{H:List AB}: ∀{es:List (XK×List Car)} {b:ExDen es},packE es e tm H=some b→∃xc∈es,e=xc.1.out∧∃z,packC xc.2 tm (frzC xc.2 H)=some z∧
  ∀(X:Type) (s:List AV×List AB) (k:Exit→List AV→List AB→Option X),elimE es X b s k=k e (unpackC xc.2 z s).1 (unpackC xc.2 z s).2
 | [],b,h=>by simp[packE]at h
 | [x],b,h=>by
  simp only[packE]at h
  split at h
  ·rename_i hi
   have:=XK.is_out hi
   subst this
   exact⟨x,by simp,rfl,b,h,fun X s k=>rfl⟩
  ·cases h
 |x::y::l,b,h=>by
  simp only[packE]at h
  split at h
  ·rename_i hi
   have:=XK.is_out hi
   subst this
   split at h
   ·rename_i z hz
    obtain rfl:=Option.some.inj h
    exact⟨x,by simp,rfl,z,hz,fun X s k=>rfl⟩
   ·cases h
  ·split at h
   ·rename_i z hz
    obtain rfl:=Option.some.inj h
    obtain⟨xc,h1,h2,z',h3,h4⟩:=packE_sound hz
    exact⟨xc,List.mem_cons_of_mem _ h1,h2,z',h3,fun X s k=>h4 X s k⟩
   ·cases h
omit [Dr] in
theorem carOk_ok{n:Nat}{H:List AB}{ds:List Tmp}{cs:List Car}(h:cs.all (carOk n H ds)=true):cs.all (Car.ok n)=true:=by
 rw[List.all_eq_true]at h⊢
 intro c hc
 have:=h c hc
 cases c<;>simp_all[carOk,Car.ok]
theorem join_sound {kind key:Nat} {ds:List Tmp} {tm:List AV} {H:List AB} {σ:Gh} {τ:Nat→Nat} {β:List Value} {a:Act} {w:World} {X:Type} {x:X} {k:Exit→List AV→List AB→Option X} {body:(Y:Type)→List AB→(Exit→List AV→List AB→Option Y)→Option Y} {Q:Exit→Act→World→Prop} {G:Prop}
  (h:joinW an kind key ds tm H X k body=some x) (hC:Conc E σ τ β ⟨tm,H⟩ a w)
  (hb: ∀(Y:Type) (y:Y) (H:List AB) (k:Exit→List AV→List AB→Option Y),body Y H k=some y→Conc E σ τ β ⟨tm,H⟩ a w→(∀e tm' H' σ' τ' β' a' w',k e tm' H'=some y→Went E ds σ β w tm H σ' β' w' tm' H'→Conc E σ' τ' β' ⟨tm',H'⟩ a' w'→Q e a' w')→G)
  (hQ: ∀e tm' H' σ' τ' β' a' w',k e tm' H'=some x→Went E ds σ β w tm H σ' β' w' tm' H'→Conc E σ' τ' β' ⟨tm',H'⟩ a' w'→Q e a' w'):G:=by
 unfold joinW at h
 split at h
 ·exact hb X x H k h hC hQ
 rename_i A hA
 split at h
 case h_2=>cases h
 rename_i hok2 hun
 obtain⟨b,hb',hel⟩:=Option.bind_eq_some_iff.1 h
 have hsz:=hC.size
 simp only at hsz
 have hutm: ∀(t:Nat) x,tm[t]? =some x→x.under β.length:=fun t x hx=>underL_get (RelL.under hC.tmps) hx
 have huh: ∀(i:Nat) x,H[i]? =some x→x.under β.length:=fun i x hx=>by
  obtain⟨v,hv⟩: ∃v,β[i]? =some v:=⟨_,List.getElem?_eq_getElem (by rw[hsz];exact(List.getElem?_eq_some_iff.1 hx).1)⟩
  exact(hC.heap i x v hx hv).under
 have hgone: ∀(i:Nat) y,(goneI (usedC tm H A.cs) 0 H)[i]? =some y→y.live=false∨(i∉usedC tm H A.cs∧H[i]? =some y):=by
  intro i y hy
  rw[goneI_get,Nat.zero_add]at hy
  cases hz:H[i]? with
  |none=>rw[hz]at hy;simp at hy
  |some z=>
   rw[hz]at hy
   simp only[Option.map_some,Option.some.injEq]at hy
   by_cases hi:i∈usedC tm H A.cs
   ·rw[if_pos hi]at hy;subst hy;exact .inl rfl
   ·rw[if_neg hi]at hy;exact .inr ⟨hi,by rw[hy]⟩
 have hsrc:=(mid_in (us:=usedC tm H A.cs) (tm1:=tm) hC rfl (fun t x hx=> .inr hx)).src
 refine hb _ b _ _ hb' hsrc (fun e tm' H' σ' τ' β' a' w' hk hW hC'=> ?_)
 obtain⟨H',σ',τ',hse,hW,hC'⟩:=hW.settle hC'
 rw[hse]at hk
 clear hse
 obtain⟨s2,rfl⟩:=hW.more
 obtain⟨xc,x1,x2,z,x3,x4⟩:=packE_sound hk
 obtain⟨H',σ',hfe,hW,hC'⟩:=hW.frz xc.2 hC'
 rw[hfe]at x3
 rw[x4]at hel
 have htm: ∀(t:Nat) x,(killT ds tm)[t]? =some x→x= .unk∨(tm'[t]? =some x∧x.under β.length):=by
  intro t x hx
  rcases killT_get _ _ t x hx with h1|⟨h1,h2⟩
  ·exact .inl h1
  ·exact .inr ⟨by rw[hW.tmps.2 t h2];exact h1,hutm t x h1⟩
 have hlen:(killT ds tm).length=tm'.length:=by rw[hW.tmps.1];exact killT_len _ _
 have hlock: ∀(i:Nat) y,i∉usedC tm H A.cs→H[i]? =some y→H'[i]? =some (.lock y):=by
  intro i y hi hy
  refine hW.heap.2 i y ?_
  rw[lockI_get,Nat.zero_add,hy]
  simp[hi]
 have hokx:xc.2.all (carOk H.length H ds)=true:=List.all_eq_true.1 hok2 xc x1
 have hM:=mid_of (tm1:=killT ds tm) (H1:=goneI (usedC tm H A.cs) 0 H) hC' hlen (by rw[goneI_len,hsz]) htm (fun i y hy=>by
  rcases hgone i y hy with h1|⟨h1,h2⟩
  ·exact .inl h1
  ·exact .inr ⟨huh i y h2,y,hlock i y h1 h2,.inr rfl⟩)
 rw[hsz]at hM
 obtain⟨τ3,β3,y1,y2⟩:=mid_all hM (carOk_ok hokx) x3
 refine hQ _ _ _ _ _ _ _ _ hel ⟨hW.ev,y1,⟨?_,fun i z' hz'=> ?_⟩,?_⟩ y2
 ·have:=(unpack_pres (x:=z) (s:=(killT ds tm,goneI (usedC tm H A.cs) 0 H)) hokx).2.1
  simp only[goneI_len]at this
  exact this
 ·refine(unpack_pres (x:=z) (s:=(killT ds tm,goneI (usedC tm H A.cs) 0 H)) hokx).2.2 i z' _ hz' ?_
  simp only
  rw[goneI_get,Nat.zero_add,hz']
  have hni:i∉usedC tm H A.cs:=fun hi=>by
   have:=List.all_eq_true.1 hun i hi
   unfold unlocked at this
   rw[hz']at this
   cases this
  simp[hni]
 ·have h1:=(unpack_pres (x:=z) (s:=(killT ds tm,goneI (usedC tm H A.cs) 0 H)) hokx).1
  refine⟨by rw[h1.1];exact killT_len _ _,fun t ht=> ?_⟩
  rw[h1.2 t ht]
  exact killT_other _ _ t ht
omit [Dr] in
theorem noitL_get: ∀{xs:List AV} {i:Nat} {x:AV},AV.noitL xs=true→xs[i]? =some x→x.noit=true
 | [],i,x,_,h=>by simp at h
 |y::ys,0,x,hn,h=>by
  simp only[AV.noitL,Bool.and_eq_true]at hn
  simp only[List.getElem?_cons_zero,Option.some.injEq]at h
  exact h▸hn.1
 |y::ys,i+1,x,hn,h=>by
  simp only[AV.noitL,Bool.and_eq_true]at hn
  exact noitL_get hn.2 (by simpa using h)
theorem BRel.envN{E':Env}{t:Nat}{v:Value}{x:AB}{σ:Gh}{w:World}{β:List Value}(hE: ∀t,E.Pr t→E'.Pr t)(hn:x.noit=true)(h:BRel E σ w β t v x):BRel E' σ w β t v x:=by
 induction x with
 |cells T cs=>
  obtain⟨n,vs,h1,h2,h3⟩:=h
  exact⟨n,vs,h1,h2,RelL.envN hE hn h3⟩
 |row T et xs=>exact h
 |iter b since=>exact h
 |map m xs=>exact h
 |rowD d et xs l=>exact h
 |mapD m d xs l=>exact h
 |arena T C xs=>exact h
 |arw a et ks=>exact h
 |amp a m xs=>exact h
 |gone=>trivial
 |lock x ih=>exact ih hn h
omit [Dr] in
theorem rngH_get{R:RngI}{H:List AB}{i:Nat}{x:AB}(h:(rngH R H)[i]? =some x)(hl:x.live=true):H[i]? =some x∧i≠R.b∧i≠R.i:=by
 obtain⟨h1,h2⟩:=kill_get rfl h hl
 obtain⟨h3,h4⟩:=kill_get rfl h1 hl
 exact⟨h3,h4,h2⟩
theorem conc_tag{E:Env}{σ:Gh}{τ:Nat→Nat}{β:List Value}{tm:List AV}{H:List AB}{a:Act}{w:World}{b t:Nat}(hC:Conc E σ τ β ⟨tm,H⟩ a w)(hb: ∀y,H[b]? =some y→y.live=false):Conc E σ (updT τ b t) β ⟨tm,H⟩ a w:=by
 have hu: ∀(i:Nat) y,H[i]? =some y→y.live=true→updT τ b t i=τ i:=fun i y hy hl=>by
  simp only[updT]
  rw[if_neg (fun e=>by rw[hb y (e▸hy)]at hl;cases hl)]
 refine⟨hC.defers,hC.tmps,hC.size,fun i y v hy hv=> ?_,fun i y hy hl=>by rw[hu i y hy hl];exact hC.apart i y hy hl,fun i j y z hy hz hl hk he=> ?_⟩
 ·cases hl:y.live with
  |false=>exact brel_dead hl
  |true=>rw[hu i y hy hl];exact hC.heap i y v hy hv
 ·rw[hu i y hy hl,hu j z hz hk]at he
  exact hC.inj i j y z hy hz hl hk he
theorem mid_ofP {E2:Env} {σ:Gh} {τ:Nat→Nat} {β0 s:List Value} {tm tm1:List AV} {H H1:List AB} {a:Act} {w:World} (hC:Conc E2 σ τ (β0++s) ⟨tm,H⟩ a w) (hsub: ∀t,E.Kp t→E2.Kp t) (hPr: ∀t,E2.Pr t→E.Pr t) (hl:tm1.length=tm.length) (hH:H1.length=β0.length)
  (ht: ∀(t:Nat) x u,tm1[t]? =some x→a.tmps.toList[t]? =some u→Rel E σ w β0 x u)
  (hh: ∀(i:Nat) x,H1[i]? =some x→x.live=false∨(x.noit=true∧x.under β0.length∧∃z,H[i]? =some (.lock z)∧(x= .lock z∨x=z))):
  Mid E E2 σ w a τ β0 tm1 H1 τ (β0++s) tm H β0.length:=by
 have hlv: ∀(x z:AB),(x= .lock z∨x=z)→(AB.lock z).live=x.live:=by
  rintro x z (rfl|rfl)<;>rfl
 have hlen:=hC.tmps.length
 simp only at hlen
 refine⟨⟨hC.defers,RelL.of_get (by simp only;omega) (fun i x u hx hu=>ht i x u hx hu),hH.symm,fun i x v hx hv=> ?_,fun i x hx hlx hk=> ?_,fun i j x y hx hy hlx hly he=> ?_⟩,hsub,hC,fun i x j y hx hlx hy hly hnl he=> ?_,fun i hi=>⟨rfl,(List.getElem?_append_left hi).symm⟩,fun i x hi hx hlx y hy hly=> ?_,by omega⟩
 ·simp only at hx
  rcases hh i x hx with h1|⟨h1,h2,z,h3,h4⟩
  ·clear hv hx
   induction x with
   |gone=>trivial
   |lock x ih=>exact ih h1
   |cells T cs=>simp[AB.live]at h1
   |row T e xs=>simp[AB.live]at h1
   |map m xs=>simp[AB.live]at h1
   |rowD d et xs l=>simp[AB.live]at h1
   |mapD m d xs l=>simp[AB.live]at h1
   |arena T C xs=>simp[AB.live]at h1
   |arw a et ks=>simp[AB.live]at h1
   |amp a m xs=>simp[AB.live]at h1
   |iter b since=>simp[AB.live]at h1
  ·have hb:BRel E2 σ w (β0++s) (τ i) v (.lock z):=hC.heap i _ v h3 (by rw[List.getElem?_append_left (by rw[←hH];exact(List.getElem?_eq_some_iff.1 hx).1)];exact hv)
   have hb:BRel E2 σ w (β0++s) (τ i) v x:=by rcases h4 with rfl|rfl<;>exact hb
   exact BRel.envN hPr h1 (hb.less h2)
 ·simp only at hx
  rcases hh i x hx with h1|⟨_,_,z,h3,h4⟩
  ·rw[hlx]at h1;cases h1
  ·exact hC.apart i _ h3 (by rw[hlv x z h4];exact hlx) (hsub _ hk)
 ·simp only at hx hy
  rcases hh i x hx with h1|⟨_,_,z,h3,h4⟩
  ·rw[hlx]at h1;cases h1
  ·rcases hh j y hy with k1|⟨_,_,z',k3,k4⟩
   ·rw[hly]at k1;cases k1
   ·exact hC.inj i j _ _ h3 k3 (by rw[hlv x z h4];exact hlx) (by rw[hlv y z' k4];exact hly) he
 ·rcases hh i x hx with h1|⟨_,_,z,h3,h4⟩
  ·rw[hlx]at h1;cases h1
  ·have:=hC.inj i j _ y h3 hy (by rw[hlv x z h4];exact hlx) hly he
   subst this
   rw[h3]at hy
   exact hnl z (Option.some.inj hy).symm
 ·rcases hh i x hx with h1|⟨_,_,z,h3,h4⟩
  ·rw[hlx]at h1;cases h1
  ·rw[h3]at hy
   exact⟨z,(Option.some.inj hy).symm⟩
theorem mid_again {E2:Env} {σ:Gh} {τ:Nat→Nat} {β β':List Value} {tm tm1:List AV} {H1 Hs:List AB} {a:Act} {w:World} {n b:Nat} {v:Value} {z:AB} (hM:Mid E E2 σ w a τ β tm1 H1 τ β' tm Hs n) {z0:AB} (hb:H1[b]? =some z0) (hv:β[b]? =some v) (hB:BRel E σ w β (τ b) v z) (hK: ¬E.Kp (τ b)) (hK2:E2.Kp (τ b))
  (hs: ∀y,Hs[b]? =some y→y.live=false) (hd: ∀(i:Nat) y,H1[i]? =some y→y.live=true→τ i≠τ b):Mid E E2 σ w a τ β tm1 (H1.set b z) τ β' tm Hs n:=by
 have ht:updT τ b (τ b)=τ:=by funext i;simp only[updT];split<;>simp_all
 have hc:=conc_back hM.base hb hv hB hK hd
 rw[ht]at hc
 have hget: ∀(i:Nat) (y:AB),(H1.set b z)[i]? =some y→(H1[i]? =some y∧i≠b)∨i=b:=by
  intro i y hy
  by_cases hi:i=b
  ·exact .inr hi
  ·rw[List.getElem?_set,if_neg (fun e=>hi e.symm)]at hy
   exact .inl ⟨hy,hi⟩
 refine⟨hc,hM.sub,hM.src,fun i x j y hx hl hy hk hnl he=> ?_,hM.same,fun i x hi hx hl y hy hk=> ?_,by simpa using hM.long⟩
 ·rcases hget i x hx with⟨h1,h2⟩|rfl
  ·exact hM.disj i x j y h1 hl hy hk hnl he
  ·exact hM.src.apart j y hy hk (he▸hK2)
 ·rcases hget i x hx with⟨h1,h2⟩|rfl
  ·exact hM.blks i x hi h1 hl y hy hk
  ·rw[hs y hy]at hk;cases hk
theorem rng_sound {r y:Code} {A:LAnn} {R:RngI} {tm:List AV} {H:List AB} {σ:Gh} {τ:Nat→Nat} {β:List Value} {a:Act} {w:World} {Q:Exit→Act→World→Prop} {X:Type} {x:X} {k:Exit→List AV→List AB→Option X} {s0:CarsDen A.cs}
  (IH: ∀{E:Env} {tm:List AV} {H:List AB} {σ:Gh} {τ:Nat→Nat} {β:List Value} {a:Act} {w:World} {Q:Exit→Act→World→Prop} {X:Type} {x:X} {k:Exit→List AV→List AB→Option X},
   exec P hs an X y tm H k=some x→Conc E σ τ β ⟨tm,H⟩ a w→
   (∀e tm' H' σ' τ' β' a' w',k e tm' H'=some x→Went E (asgC y) σ β w tm H σ' β' w' tm' H'→Conc E σ' τ' β' ⟨tm',H'⟩ a' w'→Q e a' w')→y.wp P Q a w)
  (hR:rngX r tm H=some R) (hok1:A.cs.all (carOk H.length (rngH R H) (rngS R y))=true) (hok2:A.es.all (fun e=>e.2.all (carOk H.length (rngH R H) (rngS R y)))=true) (hun:(usedC tm (rngH R H) A.cs).all (unlocked (rngH R H))=true) (hok3:rngOk R tm H (rngS R y)=true)
  (hs0:packC A.cs tm (lockI (usedC tm (rngH R H) A.cs) 0 (rngH R H))=some s0) (hc:R.c=true)
  (h:(anyOrd (R.xs.filterMap id) fun l=>(ordF (fun o s=>optS o (fun p=>exec P hs an (CarsDen A.cs⊕ExDen A.es) y (R.put (some p) (unpackC A.cs s (killT (rngS R y) tm,(goneI (usedC tm (rngH R H) A.cs) 0 (rngH R H)).map .lock)).1) (unpackC A.cs s (killT (rngS R y) tm,(goneI (usedC tm (rngH R H) A.cs) 0 (rngH R H)).map .lock)).2
       fun e tm' H'=>match e with
        | .normal=>match packC A.cs tm' (frzC A.cs (settleAll H'))with
         |some s'=>some (.inl s')
         |none=>none
        |e=>match packE A.es e tm' (settleAll H')with
         |some b=>some (.inr b)
         |none=>none) (exec P hs an (CarsDen A.cs⊕ExDen A.es) y (R.put none (unpackC A.cs s (killT (rngS R y) tm,(goneI (usedC tm (rngH R H) A.cs) 0 (rngH R H)).map .lock)).1) (unpackC A.cs s (killT (rngS R y) tm,(goneI (usedC tm (rngH R H) A.cs) 0 (rngH R H)).map .lock)).2
       fun e tm' H'=>match e with
        | .normal=>match packC A.cs tm' (frzC A.cs (settleAll H'))with
         |some s'=>some (.inl s')
         |none=>none
        |e=>match packE A.es e tm' (settleAll H')with
         |some b=>some (.inr b)
         |none=>none)) l s0).bind fun b=>elimE A.es X b (killT (rngS R y) tm,(goneI (usedC tm (rngH R H) A.cs) 0 (rngH R H)).set R.b ((H[R.b]?).getD .gone)) k)=some x)
  (hC:Conc E σ τ β ⟨tm,H⟩ a w)
  (hQ: ∀e tm' H' σ' τ' β' a' w',k e tm' H'=some x→Went E (asgC (.loop (.seq r y))) σ β w tm H σ' β' w' tm' H'→Conc E σ' τ' β' ⟨tm',H'⟩ a' w'→Q e a' w'):(Code.loop (.seq r y)).wp P Q a w:=by
 obtain⟨id,o1,o2,rfl,ho1,hd1,hg1,ho2,hd2,hg2,htI,since,hiI,hcs,xk,hl,hkl,hki,hkk,hlk⟩:=rngX_some hR
 simp only[rngOk,Bool.and_eq_true,Bool.not_eq_true']at hok3
 obtain⟨hnI,⟨hlN,hlB⟩,hnt,hnH,hub⟩:=hok3
 have hnI:R.tI∉rngS R y:=fun hm=>by rw[isIn_mem.2 hm]at hnI;cases hnI
 have hlN:R.dN<tm.length:=Nat.le_of_ble_eq_true hlN
 have hlB:R.dB<tm.length:=Nat.le_of_ble_eq_true hlB
 have hsz:=hC.size
 simp only at hsz
 rw[hcs]at hc
 have hsince:=Nat.eq_of_beq_eq_true hc
 obtain⟨uI,huI,hrI⟩:=RelL.get hC.tmps htI
 simp only[Rel]at hrI
 obtain⟨rr,n,rfl,hheap,hσr,hβb⟩:=(show BRel E σ w β (τ R.i) uI (.iter R.b since)from hC.heap R.i _ _ hiI hrI.1)
 obtain⟨xb,hHb,hxl⟩: ∃xb,H[R.b]? =some xb∧xb.live=true:=by
  have hl:=hl
  unfold look at hl
  split at hl
  ·rename_i yb hyb
   have hbare:=Option.some.inj hl
   refine⟨yb,hyb,?_⟩
   rw[←hbare]at hkl
   clear hl hyb hbare
   induction yb with
   |lock x ih=>exact ih hkl
   |gone=>exact hkl
   |_=>rfl
  ·cases hl
 have hKb:=hC.apart R.b _ hHb hxl
 have hKi:=hC.apart R.i _ hiI rfl
 have hbi:τ R.b≠τ R.i:=fun e=>by
  have:=hC.inj _ _ _ _ hHb hiI hxl rfl e
  rw[this]at hl
  unfold look at hl
  rw[hiI]at hl
  exact hki _ _ (Option.some.inj hl).symm
 have hBb:=hC.heap R.b xb _ hHb hβb
 have hC1: ∀t,(E.Pr t∨E.It t)→¬(¬E.Kp t∧t≠τ R.b):=fun t ht h=>h.1 (E.sub t ht)
 have h01: ¬(¬E.Kp 0∧(0:Nat)≠τ R.b):=hC1 0 (.inl E.nought)
 obtain⟨es,hes,hσn,hbn,hnd,hfa⟩: ∃es:Array MapEntry,w.heap[n]? =some (.map es R.xs.length)∧σ n=τ R.b∧(∀e∈es.toList,e.born<R.xs.length)∧(es.toList.map (·.born)).Nodup∧
   Fa2 (fun(e:MapEntry) (p:R.m.K.Den×R.V.Den)=>e.key=valF R.m.ka R.m.K p.1∧∀(E1:Env) (σ1:Gh) (w1:World) (β1:List Value),EvT (fun t=> ¬E.Kp t∧t≠τ R.b) σ w σ1 w1→Rel E1 σ1 w1 β1 (R.val p.2) e.val) es.toList (R.xs.filterMap _root_.id):=by
  obtain⟨n',es,q1,q2,q3,q4,q5,q6⟩:=hlk E σ w β (τ R.b) (.map (some n)) (hC.look hl hβb)
  simp only[Value.map.injEq,Option.some.injEq]at q1
  subst q1
  exact⟨es,q2,q3,q4,q5,q6.mono fun e p ⟨e1,e2⟩=>⟨e1,fun E1 σ1 w1 β1 hev=>e2 _ E1 σ1 w1 β1 h01 hev⟩⟩
 have hE1:Conc (E.add False (τ R.b) (τ R.i)) σ τ β ⟨tm,rngH R H⟩ a w:=conc_prot hC hHb hxl hiI rfl
 have hsz1:(rngH R H).length=H.length:=by simp[rngH]
 have hrngE: ∀(g:Prop) t,Rng (E.add g (τ R.b) (τ R.i)) t→¬E.Kp t∧t≠τ R.b:=fun g t ht=>⟨(rng_add ht).1,(rng_add ht).2.1⟩
 have hutm: ∀(t:Nat) x,tm[t]? =some x→x.under β.length:=fun t x hx=>underL_get (RelL.under hC.tmps) hx
 have huh: ∀(i:Nat) x,H[i]? =some x→x.under β.length:=fun i x hx=>by
  obtain⟨v,hv⟩: ∃v,β[i]? =some v:=⟨_,List.getElem?_eq_getElem (by rw[hsz];exact(List.getElem?_eq_some_iff.1 hx).1)⟩
  exact(hC.heap i x v hx hv).under
 have hgone: ∀(i:Nat) y',(goneI (usedC tm (rngH R H) A.cs) 0 (rngH R H))[i]? =some y'→y'.live=false∨(i∉usedC tm (rngH R H) A.cs∧H[i]? =some y'∧i≠R.b∧i≠R.i∧(rngH R H)[i]? =some y'):=by
  intro i y' hy
  rw[goneI_get,Nat.zero_add]at hy
  cases hz:(rngH R H)[i]? with
  |none=>rw[hz]at hy;simp at hy
  |some z=>
   rw[hz]at hy
   simp only[Option.map_some,Option.some.injEq]at hy
   by_cases hi:i∈usedC tm (rngH R H) A.cs
   ·rw[if_pos hi]at hy;subst hy;exact .inl rfl
   ·rw[if_neg hi]at hy
    subst hy
    cases hl:z.live with
    |false=>exact .inl rfl
    |true=>
     obtain⟨g1,g2,g3⟩:=rngH_get hz hl
     exact .inr ⟨hi,g1,g2,g3,rfl⟩
 have hnoH: ∀(i:Nat) y',H[i]? =some y'→y'.noit=true:=fun i y' hy=>List.all_eq_true.1 hnH _ (List.mem_of_getElem? hy)
 have hTU: ∀s,TPres (rngS R y) (killT (rngS R y) tm) (unpackC A.cs s (killT (rngS R y) tm,(goneI (usedC tm (rngH R H) A.cs) 0 (rngH R H)).map AB.lock)).1:=fun s=>(unpack_pres hok1).1
 have hUI: ∀s,(unpackC A.cs s (killT (rngS R y) tm,(goneI (usedC tm (rngH R H) A.cs) 0 (rngH R H)).map AB.lock)).1[R.tI]? =some (.map R.i):=fun s=>by
  rw[(hTU s).2 _ hnI,killT_other _ _ _ hnI];exact htI
 have hUL: ∀s,(unpackC A.cs s (killT (rngS R y) tm,(goneI (usedC tm (rngH R H) A.cs) 0 (rngH R H)).map AB.lock)).1.length=tm.length:=fun s=>by rw[(hTU s).1,killT_len]
 have hNI:R.dN≠R.tI:=fun e=>hnI (by simp[rngS,e])
 have hBI:R.dB≠R.tI:=fun e=>hnI (by simp[rngS,e])
 have hyI:R.tI∉asgC y:=fun e=>hnI (by simp[rngS,e])
 have hput: ∀o s (t:Nat),t∉rngS R y→t≠R.tI→(R.put o (unpackC A.cs s (killT (rngS R y) tm,(goneI (usedC tm (rngH R H) A.cs) 0 (rngH R H)).map AB.lock)).1)[t]? =tm[t]? :=fun o s t ht htI'=>by
  have h1:R.dN≠t:=fun e=>ht (by simp[rngS,e])
  have h2:R.dB≠t:=fun e=>ht (by simp[rngS,e])
  have h3:(unpackC A.cs s (killT (rngS R y) tm,(goneI (usedC tm (rngH R H) A.cs) 0 (rngH R H)).map AB.lock)).1[t]? =tm[t]? :=by rw[(hTU s).2 _ ht,killT_other _ _ _ ht]
  cases o with
  |none=>simp only[RngI.put];rw[List.getElem?_set,if_neg h2,List.getElem?_set,if_neg h1];exact h3
  |some p=>simp only[RngI.put];rw[List.getElem?_set,if_neg h2,List.getElem?_set,if_neg h1,List.getElem?_set,if_neg (fun e=>htI' e.symm)];exact h3
 have hputL: ∀o s,(R.put o (unpackC A.cs s (killT (rngS R y) tm,(goneI (usedC tm (rngH R H) A.cs) 0 (rngH R H)).map AB.lock)).1).length=tm.length:=fun o s=>by
  cases o<;>simp[RngI.put,hUL]
 have hputI: ∀o s,(R.put o (unpackC A.cs s (killT (rngS R y) tm,(goneI (usedC tm (rngH R H) A.cs) 0 (rngH R H)).map AB.lock)).1)[R.tI]? =some (.map R.i)∨∃k v,(R.put o (unpackC A.cs s (killT (rngS R y) tm,(goneI (usedC tm (rngH R H) A.cs) 0 (rngH R H)).map AB.lock)).1)[R.tI]? =some (.it R.i k v):=fun o s=>by
  cases o with
  |none=>left;simp only[RngI.put];rw[List.getElem?_set,if_neg hBI,List.getElem?_set,if_neg hNI];exact hUI s
  |some p=>
   right
   refine⟨encA R.m.ka R.m.K p.1,R.val p.2,?_⟩
   simp only[RngI.put]
   rw[List.getElem?_set,if_neg hBI,List.getElem?_set,if_neg hNI,List.getElem?_set,if_pos rfl,if_pos (by rw[hUL];exact(List.getElem?_eq_some_iff.1 htI).1)]
 have hilt:R.i<β.length:=lt_of_get hrI.1
 have hblt:R.b<H.length:=(List.getElem?_eq_some_iff.1 hHb).1
 have hslots: ∀(g:Prop) (E3:Env) o s (σ1:Gh) (s':List Value) (w1:World) (tm':List AV) (H':List AB) (σ':Gh) (τ':Nat→Nat) (β':List Value) (a':Act) (w':World),(∀t,E.Pr t→E3.Pr t)→
   Went (E.add g (τ R.b) (τ R.i)) (asgC y) σ1 (β++s') w1 (R.put o (unpackC A.cs s (killT (rngS R y) tm,(goneI (usedC tm (rngH R H) A.cs) 0 (rngH R H)).map AB.lock)).1) (unpackC A.cs s (killT (rngS R y) tm,(goneI (usedC tm (rngH R H) A.cs) 0 (rngH R H)).map AB.lock)).2 σ' β' w' tm' H'→Conc (E.add g (τ R.b) (τ R.i)) σ' τ' β' ⟨tm',H'⟩ a' w'→
   ∀(t:Nat) x u,(killT (rngS R y) tm)[t]? =some x→a'.tmps.toList[t]? =some u→Rel E3 σ' w' β x u:=by
  intro g E3 o s σ1 s' w1 tm' H' σ' τ' β' a' w' hPr hW hC' t x u hx hu
  obtain⟨s2,rfl⟩:=hW.more
  rw[List.append_assoc]at hC'
  rcases killT_get _ _ t x hx with rfl|⟨h1,h2⟩
  ·simp[Rel]
  ·have hty:t∉asgC y:=fun e=>h2 (by simp[rngS,e])
   have hkeep:=hW.tmps.2 t hty
   by_cases ht:t=R.tI
   ·subst ht
    rw[htI]at h1
    obtain rfl:=Option.some.inj h1
    have hβ: ∀v,(β++(s'++s2))[R.i]? =some v→v= .pointer (some ⟨rr,0,none⟩):=fun v hv=>by
     rw[List.getElem?_append_left hilt]at hv
     exact Option.some.inj (hv.symm.trans hrI.1)
    have hval:u= .pointer (some ⟨rr,0,none⟩):=by
     rcases hputI o s with hq|⟨k1,v1,hq⟩
     ·rw[hq]at hkeep
      obtain⟨u',q1,q2⟩:=RelL.get hC'.tmps hkeep
      rw[hu]at q1
      obtain rfl:=Option.some.inj q1
      simp only[Rel]at q2
      exact hβ _ q2.1
     ·rw[hq]at hkeep
      obtain⟨u',q1,q2⟩:=RelL.get hC'.tmps hkeep
      rw[hu]at q1
      obtain rfl:=Option.some.inj q1
      simp only[Rel]at q2
      obtain⟨_,_,q3,_⟩:=q2
      exact hβ _ q3
    subst hval
    simp only[Rel]
    exact hrI
   ·rw[hput o s t h2 ht,h1]at hkeep
    obtain⟨u',q1,q2⟩:=RelL.get hC'.tmps hkeep
    rw[hu]at q1
    obtain rfl:=Option.some.inj q1
    exact Rel.less (Rel.envN (E:=E.add g (τ R.b) (τ R.i)) (E':=E3) (fun t h=>hPr t h) (noitL_get hnt h1) q2) (hutm t x h1)
 have hblks: ∀(g:Prop) o s (σ1:Gh) (s':List Value) (w1:World) (tm':List AV) (H':List AB) (σ':Gh) (β':List Value) (w':World),
   Went (E.add g (τ R.b) (τ R.i)) (asgC y) σ1 (β++s') w1 (R.put o (unpackC A.cs s (killT (rngS R y) tm,(goneI (usedC tm (rngH R H) A.cs) 0 (rngH R H)).map AB.lock)).1) (unpackC A.cs s (killT (rngS R y) tm,(goneI (usedC tm (rngH R H) A.cs) 0 (rngH R H)).map AB.lock)).2 σ' β' w' tm' H'→
   (∀(i:Nat) y',i∉usedC tm (rngH R H) A.cs→(rngH R H)[i]? =some y'→H'[i]? =some (.lock y')):=by
  intro g o s σ1 s' w1 tm' H' σ' β' w' hW i y' hi hy
  refine hW.heap.2 i y' ?_
  rw[unpack_keep (fun h=>hi (blks_used h)) (by simp[goneI_len,(List.getElem?_eq_some_iff.1 hy).1])]
  rw[List.getElem?_map,goneI_get,Nat.zero_add,hy]
  simp[hi]
 have hfin: ∀(g:Prop) o s (b:ExDen A.es) (σ1:Gh) (s':List Value) (w1:World) e (tm':List AV) (H':List AB) (σ':Gh) (τ':Nat→Nat) (β':List Value) (a':Act) (w':World),EvT (fun t=> ¬E.Kp t∧t≠τ R.b) σ w σ1 w1→
   Went (E.add g (τ R.b) (τ R.i)) (asgC y) σ1 (β++s') w1 (R.put o (unpackC A.cs s (killT (rngS R y) tm,(goneI (usedC tm (rngH R H) A.cs) 0 (rngH R H)).map AB.lock)).1) (unpackC A.cs s (killT (rngS R y) tm,(goneI (usedC tm (rngH R H) A.cs) 0 (rngH R H)).map AB.lock)).2 σ' β' w' tm' H'→Conc (E.add g (τ R.b) (τ R.i)) σ' τ' β' ⟨tm',H'⟩ a' w'→packE A.es e tm' H'=some b→
   elimE A.es X b (killT (rngS R y) tm,(goneI (usedC tm (rngH R H) A.cs) 0 (rngH R H)).set R.b ((H[R.b]?).getD .gone)) k=some x→Q e a' w':=by
  intro g o s b σ1 s' w1 e tm' H' σ' τ' β' a' w' hev1 hW hC' hpk hel
  obtain⟨xc,x1,x2,z,x3,x4⟩:=packE_sound hpk
  obtain⟨H',σ',hfe,hW,hC'⟩:=hW.frz xc.2 hC'
  rw[hfe]at x3
  have hevE:EvT (fun t=> ¬E.Kp t∧t≠τ R.b) σ w σ' w':=hev1.trans (hW.ev.mono (hrngE g))
  have hsl:=hslots g E o s σ1 s' w1 tm' H' σ' τ' β' a' w' (fun _ h=>h) hW hC'
  have hbl:=hblks g o s σ1 s' w1 tm' H' σ' β' w' hW
  obtain⟨s2,rfl⟩:=hW.more
  rw[List.append_assoc]at hC'
  rw[x4,hHb,Option.getD_some]at hel
  have hokx:xc.2.all (carOk H.length (rngH R H) (rngS R y))=true:=List.all_eq_true.1 hok2 xc x1
  have hgb:(rngH R H)[R.b]? =some (.lock .gone):=by
   unfold rngH
   rw[List.getElem?_set,if_neg (fun e=>hbi (by rw[e])),List.getElem?_set,if_pos rfl,if_pos hblt]
  have hbus:R.b∉usedC tm (rngH R H) A.cs:=fun hi=>by
   have:=List.all_eq_true.1 hun R.b hi
   unfold unlocked at this
   rw[hgb]at this
   cases this
  have hHb':=hbl R.b _ hbus hgb
  have hdead: ∀y',H'[R.b]? =some y'→y'.live=false:=fun y' hy'=>by
   rw[hHb']at hy'
   obtain rfl:=Option.some.inj hy'
   rfl
  have hCt:=conc_tag (b:=R.b) (t:=τ R.b) hC' hdead
  have htb:updT τ' R.b (τ R.b) R.b=τ R.b:=by simp[updT]
  have hlen':(killT (rngS R y) tm).length=tm'.length:=by rw[hW.tmps.1,hputL,killT_len]
  have hM:=mid_ofP (E:=E) (tm1:=killT (rngS R y) tm) (H1:=goneI (usedC tm (rngH R H) A.cs) 0 (rngH R H)) hCt (fun t h=> .inl h) (fun t h=>h) hlen' (by rw[goneI_len,hsz1,hsz]) hsl (fun i y' hy=>by
   rcases hgone i y' hy with h1|⟨h1,h2,h3,h4,h5⟩
   ·exact .inl h1
   ·exact .inr ⟨hnoH i y' h2,huh i y' h2,y',hbl i y' h1 h5,.inr rfl⟩)
  have hgb1:(goneI (usedC tm (rngH R H) A.cs) 0 (rngH R H))[R.b]? =some (.lock .gone):=by
   rw[goneI_get,Nat.zero_add,hgb]
   simp[hbus]
  have hM2:=mid_again (z:=xb) hM hgb1 hβb (by rw[htb];exact hBb.ev hevE hC1 (fun _ h=>h.2 rfl)) (by rw[htb];exact hKb) (by rw[htb];exact .inr (.inl rfl)) hdead (fun i y' hy hl he=>by
   rw[htb]at he
   rcases hgone i y' hy with h1|⟨h1,h2,h3,h4,h5⟩
   ·rw[hl]at h1;cases h1
   ·have hla:(AB.lock y').live=true:=hl
    exact hCt.apart i _ (hbl i y' h1 h5) hla (.inr (.inl he)))
  rw[hsz]at hM2
  obtain⟨τ3,β3,y1,y2⟩:=mid_all hM2 (carOk_ok hokx) x3
  have hup:=unpack_pres (x:=z) (s:=(killT (rngS R y) tm,(goneI (usedC tm (rngH R H) A.cs) 0 (rngH R H)).set R.b xb)) hokx
  refine hQ _ _ _ _ _ _ _ _ hel ⟨hevE.mono (fun t ht=>ht.1),y1,⟨?_,fun i z' hz'=> ?_⟩,?_⟩ y2
  ·have:=hup.2.1
   simp only[List.length_set,goneI_len,hsz1]at this
   exact this
  ·have hib:i≠R.b:=fun e=>by
    unfold unlocked at hub
    rw[←e,hz']at hub
    cases hub
   have hii:i≠R.i:=fun e=>by rw[e,hiI]at hz';cases hz'
   have hri:(rngH R H)[i]? =some (.lock z'):=by
    unfold rngH
    rw[List.getElem?_set,if_neg (fun e=>hii e.symm),List.getElem?_set,if_neg (fun e=>hib e.symm)]
    exact hz'
   refine hup.2.2 i z' _ hri ?_
   simp only
   rw[List.getElem?_set,if_neg (fun e=>hib e.symm),goneI_get,Nat.zero_add,hri]
   have hni:i∉usedC tm (rngH R H) A.cs:=fun hi=>by
    have:=List.all_eq_true.1 hun i hi
    unfold unlocked at this
    rw[hri]at this
    cases this
   simp[hni]
  ·have h1:=hup.1
   refine⟨by rw[h1.1];exact killT_len _ _,fun t ht=> ?_⟩
   have hts:t∉rngS R y:=fun hm=>ht (by
    simp only[rngS,List.mem_cons]at hm
    simp only[asgC,dsts,hd1,hd2,hg1,hg2,List.mem_append,List.mem_cons,List.not_mem_nil,or_false,false_or]
    rcases hm with h|h|h
    ·exact .inl (.inl h)
    ·exact .inl (.inr h)
    ·exact .inr h)
   rw[h1.2 t hts]
   exact killT_other _ _ t hts
 refine wp_of_loopWp (a:=a) (w:=w) (wp_each (step:=fun o s=>optS o (fun p=>exec P hs an (CarsDen A.cs⊕ExDen A.es) y (R.put (some p) (unpackC A.cs s (killT (rngS R y) tm,(goneI (usedC tm (rngH R H) A.cs) 0 (rngH R H)).map .lock)).1) (unpackC A.cs s (killT (rngS R y) tm,(goneI (usedC tm (rngH R H) A.cs) 0 (rngH R H)).map .lock)).2
       fun e tm' H'=>match e with
        | .normal=>match packC A.cs tm' (frzC A.cs (settleAll H'))with
         |some s'=>some (.inl s')
         |none=>none
        |e=>match packE A.es e tm' (settleAll H')with
         |some b=>some (.inr b)
         |none=>none) (exec P hs an (CarsDen A.cs⊕ExDen A.es) y (R.put none (unpackC A.cs s (killT (rngS R y) tm,(goneI (usedC tm (rngH R H) A.cs) 0 (rngH R H)).map .lock)).1) (unpackC A.cs s (killT (rngS R y) tm,(goneI (usedC tm (rngH R H) A.cs) 0 (rngH R H)).map .lock)).2
       fun e tm' H'=>match e with
        | .normal=>match packC A.cs tm' (frzC A.cs (settleAll H'))with
         |some s'=>some (.inl s')
         |none=>none
        |e=>match packE A.es e tm' (settleAll H')with
         |some b=>some (.inr b)
         |none=>none)) (K:=fun b=>elimE A.es X b (killT (rngS R y) tm,(goneI (usedC tm (rngH R H) A.cs) 0 (rngH R H)).set R.b ((H[R.b]?).getD .gone)) k=some x)
  (fun rest s a1 w1=> ∃σ1 τ1 s' seen c0,EvT (fun t=> ¬E.Kp t∧t≠τ R.b) σ w σ1 w1∧Conc (E.add False (τ R.b) (τ R.i)) σ1 τ1 (β++s') ⟨(unpackC A.cs s (killT (rngS R y) tm,(goneI (usedC tm (rngH R H) A.cs) 0 (rngH R H)).map AB.lock)).1,(unpackC A.cs s (killT (rngS R y) tm,(goneI (usedC tm (rngH R H) A.cs) 0 (rngH R H)).map AB.lock)).2⟩ a1 w1∧
   w1.heap[rr]? =some (.mapIter (some n) since seen c0)∧since≤c0∧σ1 rr=τ R.i∧Fa2 (fun(e:MapEntry) (p:R.m.K.Den×R.V.Den)=>e.key=valF R.m.ka R.m.K p.1∧∀(E1:Env) (σ1:Gh) (w1:World) (β1:List Value),EvT (fun t=> ¬E.Kp t∧t≠τ R.b) σ w σ1 w1→Rel E1 σ1 w1 β1 (R.val p.2) e.val) (leftOf es seen).toList rest)
  (fun s a1 w1=> ∃σ1 τ1 s',EvT (fun t=> ¬E.Kp t∧t≠τ R.b) σ w σ1 w1∧Conc (E.add False (τ R.b) (τ R.i)) σ1 τ1 (β++s') ⟨R.put none (unpackC A.cs s (killT (rngS R y) tm,(goneI (usedC tm (rngH R H) A.cs) 0 (rngH R H)).map AB.lock)).1,(unpackC A.cs s (killT (rngS R y) tm,(goneI (usedC tm (rngH R H) A.cs) 0 (rngH R H)).map AB.lock)).2⟩ a1 w1)
  (fun p rest s a1 w1=> ∃σ1 τ1 s' seen,EvT (fun t=> ¬E.Kp t∧t≠τ R.b) σ w σ1 w1∧Conc (E.add True (τ R.b) (τ R.i)) σ1 τ1 (β++s') ⟨R.put (some p) (unpackC A.cs s (killT (rngS R y) tm,(goneI (usedC tm (rngH R H) A.cs) 0 (rngH R H)).map AB.lock)).1,(unpackC A.cs s (killT (rngS R y) tm,(goneI (usedC tm (rngH R H) A.cs) 0 (rngH R H)).map AB.lock)).2⟩ a1 w1∧
   w1.heap[rr]? =some (.mapIter (some n) since seen R.xs.length)∧σ1 rr=τ R.i∧Fa2 (fun(e:MapEntry) (p:R.m.K.Den×R.V.Den)=>e.key=valF R.m.ka R.m.K p.1∧∀(E1:Env) (σ1:Gh) (w1:World) (β1:List Value),EvT (fun t=> ¬E.Kp t∧t≠τ R.b) σ w σ1 w1→Rel E1 σ1 w1 β1 (R.val p.2) e.val) (leftOf es seen).toList rest)
  ?hr ?hover ?hpick (R.xs.filterMap _root_.id).length (R.xs.filterMap _root_.id) s0 a w rfl ?h0 ?hall)
 case hall=>
  intro l hl
  obtain⟨b,h1,h2⟩:=Option.bind_eq_some_iff.1 (anyOrd_some h l hl)
  exact⟨b,h1,h2⟩
 case h0=>
  have hM:=mid_in (us:=usedC tm (rngH R H) A.cs) (tm1:=killT (rngS R y) tm) hE1 (killT_len _ _) (fun t x hx=>(killT_get _ _ t x hx).imp _root_.id (fun h=>h.1))
  rw[hsz]at hM
  obtain⟨τ2,β2,⟨s',rfl⟩,h2⟩:=mid_all hM (carOk_ok hok1) hs0
  exact⟨σ,τ2,s',#[],since,.refl,h2,hheap,Nat.le_refl _,hσr,by rw[show(leftOf es #[]).toList=es.toList by simp[leftOf]];exact hfa⟩
 case hr=>
  rintro rest s a1 w1 ⟨σ1,τ1,s',seen,c0,hev1,hCc,hit,hsc,hσ1,hfa1⟩
  obtain⟨u1,hu1,hr1⟩:=RelL.get hCc.tmps (hUI s)
  simp only[Rel]at hr1
  have hri:(β++s')[R.i]? =some (Value.pointer (some ⟨rr,0,none⟩)):=get_pre ⟨_,rfl⟩ hrI.1
  obtain rfl:u1= .pointer (some ⟨rr,0,none⟩):=Option.some.inj (hr1.1.symm.trans hri)
  obtain⟨hσn1,hmap1⟩:=hev1.keep n (Array.getElem?_eq_some_iff.1 hes).1 (by rw[hσn];exact fun h=>h.2 rfl)
  rw[hes]at hmap1
  rw[hσn]at hσn1
  have hlen1:=hCc.tmps.length
  simp only[hUL]at hlen1
  have hpe: ∀{d:Tmp} {v:Value} {a2:Act},d<a2.tmps.size→(a2.put (some d) v).eval (.tmp d)=v:=fun{d v a2} hd=>by
   simp[Act.put,Act.eval,Array.getD_eq_getD_getElem?,hd]
  have hev0:a1.eval (.tmp R.tI)= .pointer (some ⟨rr,0,none⟩):=by
   rw[Array.getElem?_toList]at hu1
   simp[Act.eval,Array.getD_eq_getD_getElem?,hu1]
  have hsize1:a1.tmps.size=tm.length:=by rw[←Array.length_toList];exact hlen1
  have hsN:R.dN<a1.tmps.size:=by rw[hsize1];exact hlN
  refine wp_region_lit ?_
  have hCs:Conc (E.add False (τ R.b) (τ R.i)) σ1 τ1 (β++s') ⟨(unpackC A.cs s (killT (rngS R y) tm,(goneI (usedC tm (rngH R H) A.cs) 0 (rngH R H)).map AB.lock)).1.set R.tI .unk,(unpackC A.cs s (killT (rngS R y) tm,(goneI (usedC tm (rngH R H) A.cs) 0 (rngH R H)).map AB.lock)).2⟩ a1 w1:=hCc.setT hu1 (by simp[Rel])
  rcases run_next_at (P:=P) w1 o1.type rr n since c0 seen es R.xs.length hit hmap1 (fun e he=>by rw[hsince];exact hbn e he) hsc with⟨h0,hrun⟩|⟨e,he,w2,hw2,hrun⟩
  ·refine st_val (v:= .tuple #[.bool false]) (w':=w1) (by simp[Region.wanted,hg1]) (by simp[execOp,ho1,hev0,hrun]) ?_
   rw[hd1]
   refine st_val (v:= .bool false) (w':=w1) (by simp[Region.wanted,hg2]) (by simp[execOp,ho2,Instr.extract,hpe hsN]) ?_
   rw[hd2]
   have hnil:(leftOf es seen).toList= []:=by rw[Array.eq_empty_of_size_eq_zero h0]
   rw[hnil]at hfa1
   cases hfa1
   exact wl_done ⟨rfl,.inl ⟨rfl,σ1,τ1,s',hev1,(hCc.putS (some R.dN) (av:= .unk) (by simp[Rel])).putS (some R.dB) (av:= .val (.bool false)) (by simp[Rel])⟩⟩
  ·have hw2h:w2.heap=w1.heap:=by rcases hw2 with rfl|rfl<;>rfl
   have hrlt:=(Array.getElem?_eq_some_iff.1 hit).1
   have hev2:EvT (fun t=>t=τ R.i) σ1 w1 σ1 (ChangeMaps.setBlock w2 rr (.mapIter (some n) since (seen.push e.born) R.xs.length)):=by
    refine⟨?_,?_,?_,fun _=> ?_,?_,fun b hb hn=>⟨rfl,?_⟩⟩
    ·rcases hw2 with rfl|rfl<;>rfl
    ·rcases hw2 with rfl|rfl<;>rfl
    ·rcases hw2 with rfl|rfl<;>rfl
    ·rcases hw2 with rfl|rfl
     ·exact Nat.le_refl _
     ·exact Nat.le_succ _
    ·show w1.heap.size≤(w2.heap.setIfInBounds _ _).size
     rw[hw2h];simp
    ·show(w2.heap.setIfInBounds rr _)[b]? =_
     rw[hw2h,Array.getElem?_setIfInBounds,if_neg (fun h=>hn (by rw[←h];exact hσ1))]
   have hrn:rr≠n:=fun h=>by rw[h,hmap1]at hit;cases hit
   have hit2:(ChangeMaps.setBlock w2 rr (.mapIter (some n) since (seen.push e.born) R.xs.length)).heap[rr]? =some (.mapIter (some n) since (seen.push e.born) R.xs.length):=by
    show(w2.heap.setIfInBounds rr _)[rr]? =_
    rw[hw2h,Array.getElem?_setIfInBounds]
    simp[hrlt]
   have hmap2:(ChangeMaps.setBlock w2 rr (.mapIter (some n) since (seen.push e.born) R.xs.length)).heap[n]? =some (.map es R.xs.length):=by
    show(w2.heap.setIfInBounds rr _)[n]? =_
    rw[hw2h,Array.getElem?_setIfInBounds,if_neg hrn]
    exact hmap1
   obtain⟨l1,l2,hl1,hl2⟩:=left_push hnd he
   rw[hl1]at hfa1
   obtain⟨r1,p,r2,rfl,⟨hp1,hp2⟩,hfa2⟩:=hfa1.split
   rw[←hl2]at hfa2
   have hee:e∈es.toList:=by
    have:(leftOf es seen).toList=es.toList.filter (fun x=> !seen.contains x.born):=by simp[leftOf]
    rw[this]at he
    exact(List.mem_filter.1 he).1
   have hev12:EvT (fun t=> ¬E.Kp t∧t≠τ R.b) σ w σ1 (ChangeMaps.setBlock w2 rr (.mapIter (some n) since (seen.push e.born) R.xs.length)):=hev1.trans (hev2.mono (fun t ht=>by rw[ht];exact⟨hKi,fun e=>hbi e.symm⟩))
   have hCg:=conc_gen (g:=True) (Conc.evC hCs hev2 (fun t ht h=>by
    rcases ht with ht|ht|⟨ht,_⟩
    ·exact hKi (h▸E.sub t (.inl ht))
    ·exact hKi (h▸E.sub t (.inr ht))
    ·exact ht) (fun i z hz hl h=>hCs.apart i z hz hl (.inr (.inr h))))
   have hIt:Rel (E.add True (τ R.b) (τ R.i)) σ1 (ChangeMaps.setBlock w2 rr (.mapIter (some n) since (seen.push e.born) R.xs.length)) (β++s') (.it R.i (encA R.m.ka R.m.K p.1) (R.val p.2)) (.pointer (some ⟨rr,0,none⟩)):=by
    simp only[Rel]
    refine⟨e.key,e.val,hri,⟨rr,n,since,seen,R.xs.length,es,e,rfl,.inr ⟨trivial,.inr hσ1⟩,hit2,.inr ⟨trivial,.inl hσn1⟩,hmap2,hee,hnd,rfl,rfl⟩,?_,hp2 _ _ _ _ hev12⟩
    rw[hp1]
    exact encA_rel
   have hCi:=hCg.setT hu1 hIt
   simp only[List.set_set]at hCi
   refine st_val (v:= .tuple #[.bool true,e.key,e.val]) (w':=ChangeMaps.setBlock w2 rr (.mapIter (some n) since (seen.push e.born) R.xs.length)) (by simp[Region.wanted,hg1]) (by simp[execOp,ho1,hev0,hrun]) ?_
   rw[hd1]
   refine st_val (v:= .bool true) (w':=ChangeMaps.setBlock w2 rr (.mapIter (some n) since (seen.push e.born) R.xs.length)) (by simp[Region.wanted,hg2]) (by simp[execOp,ho2,Instr.extract,hpe hsN]) ?_
   rw[hd2]
   refine wl_done ⟨rfl,.inr ⟨p,r1++r2,List.perm_middle.symm,σ1,τ1,s',seen.push e.born,hev12,?_,hit2,hσ1,hfa2⟩⟩
   exact(hCi.putS (some R.dN) (av:= .unk) (by simp[Rel])).putS (some R.dB) (av:= .val (.bool true)) (by simp[Rel])
 case hover=>
  rintro s a1 w1 ⟨σ1,τ1,s',hev1,hCo⟩ b hst hK
  refine IH hst hCo (fun e tm' H' σ' τ' β' a' w' hk hW hC'=> ?_)
  obtain⟨H',σ',τ',hse,hW,hC'⟩:=hW.settle hC'
  rw[hse]at hk
  clear hse
  have exitC: ∀e',e'=e→(match packE A.es e' tm' H' with|some b=>some (Sum.inr b)|none=>(none:Option (CarsDen A.cs⊕ExDen A.es)))=some (.inr b)→Q e' a' w':=by
   rintro e' rfl hk
   split at hk
   ·rename_i b' hb'
    obtain rfl:=Sum.inr.inj (Option.some.inj hk)
    exact hfin False none s b' σ1 s' w1 e' tm' H' σ' τ' β' a' w' hev1 hW hC' hb' hK
   ·cases hk
  cases e with
  |normal=>
   simp only at hk
   split at hk
   ·cases Option.some.inj hk
   ·cases hk
  |exit id=>exact exitC _ rfl hk
  |goto l=>exact exitC _ rfl hk
  |ret=>exact exitC _ rfl hk
  |panic ch=>exact exitC _ rfl hk
  |outgrown=>exact exitC _ rfl hk
 case hpick=>
  rintro p rest s a1 w1 ⟨σ1,τ1,s',seen,hev1,hCp,hit,hσ1,hfa1⟩ o hst
  refine IH hst hCp (fun e tm' H' σ' τ' β' a' w' hk hW hC'=> ?_)
  obtain⟨H',σ',τ',hse,hW,hC'⟩:=hW.settle hC'
  rw[hse]at hk
  clear hse
  have exitC: ∀e',e'=e→(match packE A.es e' tm' H' with|some b=>some (Sum.inr b)|none=>(none:Option (CarsDen A.cs⊕ExDen A.es)))=some o→∃b,o= .inr b∧(elimE A.es X b (killT (rngS R y) tm,(goneI (usedC tm (rngH R H) A.cs) 0 (rngH R H)).set R.b ((H[R.b]?).getD .gone)) k=some x→Q e' a' w'):=by
   rintro e' rfl hk
   split at hk
   ·rename_i b' hb'
    obtain rfl:=Option.some.inj hk
    exact⟨b',rfl,fun hK=>hfin True (some p) s b' σ1 s' w1 e' tm' H' σ' τ' β' a' w' hev1 hW hC' hb' hK⟩
   ·cases hk
  cases e with
  |normal=>
   simp only at hk
   split at hk
   ·rename_i s2 hs2
    obtain rfl:=Option.some.inj hk
    obtain⟨H',σ',hfe,hW,hC'⟩:=hW.frz A.cs hC'
    rw[hfe]at hs2
    have hsl:=hslots True (E.add False (τ R.b) (τ R.i)) (some p) s σ1 s' w1 tm' H' σ' τ' β' a' w' (fun _ h=>h) hW hC'
    have hbl:=hblks True (some p) s σ1 s' w1 tm' H' σ' β' w' hW
    obtain⟨q1,q2⟩:=hW.ev.keep rr (Array.getElem?_eq_some_iff.1 hit).1 (fun h=>h (by rw[hσ1];exact .inr (.inr rfl)))
    have hevE:EvT (fun t=> ¬E.Kp t∧t≠τ R.b) σ w σ' w':=hev1.trans (hW.ev.mono (hrngE True))
    have hlen':(killT (rngS R y) tm).length=tm'.length:=by rw[hW.tmps.1,hputL,killT_len]
    obtain⟨s3,rfl⟩:=hW.more
    rw[List.append_assoc]at hC'
    have hM:=mid_ofP (E:=E.add False (τ R.b) (τ R.i)) (tm1:=killT (rngS R y) tm) (H1:=(goneI (usedC tm (rngH R H) A.cs) 0 (rngH R H)).map .lock) hC' (fun t h=>h) (fun t h=>h) hlen' (by simp[goneI_len,hsz1,hsz]) hsl (fun i y' hy=>by
     rw[List.getElem?_map]at hy
     obtain⟨z,hz,rfl⟩:=Option.map_eq_some_iff.1 hy
     rcases hgone i z hz with h1|⟨h1,h2,h3,h4,h5⟩
     ·exact .inl h1
     ·exact .inr ⟨hnoH i z h2,huh i z h2,z,hbl i z h1 h5,.inl rfl⟩)
    rw[hsz]at hM
    obtain⟨τ3,β3,⟨s4,rfl⟩,y2⟩:=mid_all hM (carOk_ok hok1) hs2
    exact⟨s2,rfl,σ',τ3,s4,seen,R.xs.length,hevE,y2,q2.trans hit,by rw[hsince];exact Nat.le_refl _,q1.trans hσ1,hfa1⟩
   ·cases hk
  |exit id=>exact exitC _ rfl hk
  |goto l=>exact exitC _ rfl hk
  |ret=>exact exitC _ rfl hk
  |panic ch=>exact exitC _ rfl hk
  |outgrown=>exact exitC _ rfl hk
theorem exec_sound: ∀(c:Code) {E:Env} {tm:List AV} {H:List AB} {σ:Gh} {τ:Nat→Nat} {β:List Value} {a:Act} {w:World} {Q:Exit→Act→World→Prop} {X:Type} {x:X} {k:Exit→List AV→List AB→Option X},
  exec P hs an X c tm H k=some x→Conc E σ τ β ⟨tm,H⟩ a w→
  (∀e tm' H' σ' τ' β' a' w',k e tm' H'=some x→Went E (asgC c) σ β w tm H σ' β' w' tm' H'→Conc E σ' τ' β' ⟨tm',H'⟩ a' w'→Q e a' w')→c.wp P Q a w
 | .skip,E,tm,H,σ,τ,β,a,w,Q,X,x,k,h,hC,hQ=>wp_skip (hQ _ _ _ _ _ _ _ _ h .refl hC)
 | .region id ops draw,E,tm,H,σ,τ,β,a,w,Q,X,x,k,h,hC,hQ=>by
  simp only[exec]at h
  refine join_sound (ds:=dsts ops.toList ops.toList) h hC ?_ hQ
  clear h hC hQ
  intro Y y H k h hC hQ
  split at h
  ·have:=wp_region_lit (id:=id) (regX_sound (Q:=Q) ops.toList h hC (fun tm' H' σ' τ' β' a' w' hk hW hC'=>hQ _ _ _ _ _ _ _ _ hk hW hC'))
   simpa using this
  ·have:=regD_sound (Q:=Q) (id:=id) h hC (fun tm' H' σ' τ' β' a' w' hk hW hC'=>hQ _ _ _ _ _ _ _ _ hk hW hC')
   simpa using this
 | .seq c d,E,tm,H,σ,τ,β,a,w,Q,X,x,k,h,hC,hQ=>by
  simp only[exec]at h
  refine wp_seq (exec_sound c h hC (fun e tm' H' σ' τ' β' a' w' hk hW hC'=> ?_))
  have hW1:=hW.mono (ds':=asgC (.seq c d)) (fun t ht=>List.mem_append_left _ ht)
  cases e with
  |normal=>
   exact exec_sound d hk hC' (fun e tm'' H'' σ'' τ'' β'' a'' w'' hk' hW' hC''=>hQ _ _ _ _ _ _ _ _ hk' (hW1.trans (hW'.mono (fun t ht=>List.mem_append_right _ ht))) hC'')
  |exit id=>exact hQ _ _ _ _ _ _ _ _ hk hW1 hC'
  |goto l=>exact hQ _ _ _ _ _ _ _ _ hk hW1 hC'
  |ret=>exact hQ _ _ _ _ _ _ _ _ hk hW1 hC'
  |panic ch=>exact hQ _ _ _ _ _ _ _ _ hk hW1 hC'
  |outgrown=>exact hQ _ _ _ _ _ _ _ _ hk hW1 hC'
 | .cond c d e,E,tm,H,σ,τ,β,a,w,Q,X,x,k,h,hC,hQ=>by
  simp only[exec]at h
  refine join_sound h hC ?_ hQ
  clear h hC hQ
  intro Y y H k h hC hQ
  split at h
  ·rename_i t
   split at h
   ·rename_i b ht
    obtain⟨u,h1,h2⟩:=RelL.get hC.tmps ht
    simp only[Rel]at h2
    subst h2
    have hr:a.eval (.tmp t)= .bool b:=by
     have h1':=h1
     rw[Array.getElem?_toList]at h1'
     simp[Act.eval,Array.getD_eq_getD_getElem?,h1']
    have hk:=hC.known h1
    have hT: ∀b,TPres (asgC (.cond (.tmp t) d e)) tm (tm.set t (.val (.bool b))):=fun b=>TPres.put (d:=some t) (fun s hs=>by injection hs with hs;subst hs;simp[asgC])
    cases b with
    |true=>exact wp_cond_true hr (exec_sound d h hk (fun e' tm' H' σ' τ' β' a' w' hk hW hC'=>hQ _ _ _ _ _ _ _ _ hk (Went.trans ⟨.refl,⟨[],by simp⟩,.refl H,hT _⟩ (hW.mono (fun t ht=>by simp[asgC,ht]))) hC'))
    |false=>exact wp_cond_false hr (exec_sound e h hk (fun e' tm' H' σ' τ' β' a' w' hk hW hC'=>hQ _ _ _ _ _ _ _ _ hk (Went.trans ⟨.refl,⟨[],by simp⟩,.refl H,hT _⟩ (hW.mono (fun t ht=>by simp[asgC,ht]))) hC'))
   ·cases h
  ·rename_i b
   cases b with
   |true=>exact wp_cond_true rfl (exec_sound d h hC (fun e' tm' H' σ' τ' β' a' w' hk hW hC'=>hQ _ _ _ _ _ _ _ _ hk (hW.mono (fun t ht=>by simp[asgC,ht])) hC'))
   |false=>exact wp_cond_false rfl (exec_sound e h hC (fun e' tm' H' σ' τ' β' a' w' hk hW hC'=>hQ _ _ _ _ _ _ _ _ hk (hW.mono (fun t ht=>by simp[asgC,ht])) hC'))
  ·cases h
 | .block id c,E,tm,H,σ,τ,β,a,w,Q,X,x,k,h,hC,hQ=>by
  simp only[exec]at h
  refine join_sound (ds:=asgC (.block id c)) h hC ?_ hQ
  clear h hC hQ
  intro Y y H k h hC hQ
  refine wp_block (exec_sound c h hC (fun e tm' H' σ' τ' β' a' w' hk hW hC'=> ?_))
  cases e with
  |exit id'=>
   simp only at hk
   unfold Exit.inBlock
   split at hk
   ·rename_i hb
    simp only
    rw[if_pos (Nat.eq_of_beq_eq_true hb)]
    exact hQ _ _ _ _ _ _ _ _ hk hW hC'
   ·rename_i hb
    simp only
    rw[if_neg (Nat.ne_of_beq_eq_false hb)]
    exact hQ _ _ _ _ _ _ _ _ hk hW hC'
  |normal=>exact hQ _ _ _ _ _ _ _ _ hk hW hC'
  |goto l=>exact hQ _ _ _ _ _ _ _ _ hk hW hC'
  |ret=>exact hQ _ _ _ _ _ _ _ _ hk hW hC'
  |panic ch=>exact hQ _ _ _ _ _ _ _ _ hk hW hC'
  |outgrown=>exact hQ _ _ _ _ _ _ _ _ hk hW hC'
 | .exit id,E,tm,H,σ,τ,β,a,w,Q,X,x,k,h,hC,hQ=>wp_exit (hQ _ _ _ _ _ _ _ _ h .refl hC)
 | .ret,E,tm,H,σ,τ,β,a,w,Q,X,x,k,h,hC,hQ=>wp_ret (hQ _ _ _ _ _ _ _ _ h .refl hC)
 | .loop c,E,tm,H,σ,τ,β,a,w,Q,X,x,k,h,hC,hQ=>by
  simp only[exec]at h
  split at h
  ·rename_i A hA
   split at h
   case h_2=>cases h
   rename_i r y
   obtain⟨hp0,σ0,τ0,hev0,hC0⟩:=prep_sound (f:=fun b=>isIn b (usedC tm H A.cs)) A.cs hC
   generalize frzC A.cs (settleF (fun b=>isIn b (usedC tm H A.cs)) H)=H0 at h hp0 hC0
   have hQ:=fun e tm' H' σ' τ' β' a' w' hk (hW:Went E _ σ0 β w tm H0 σ' β' w' tm' H') hC'=>hQ e tm' H' σ' τ' β' a' w' hk (Went.trans ⟨hev0,⟨[],by simp⟩,hp0,.refl⟩ hW) hC'
   have hC:=hC0
   clear hC0 hev0 hp0
   split at h
   case h_2=>cases h
   rename_i R hR
   split at h
   case h_2=>cases h
   rename_i h1 h2 h3 h4
   split at h
   ·cases h
   rename_i s0 hs0
   obtain⟨hc,h⟩:=bif_some h
   exact rng_sound (fun{E tm H σ τ β a w Q X x k} h hC hQ=>exec_sound y h hC hQ) hR h1 h2 h3 h4 hs0 hc h hC hQ
  split at h
  ·cases h
  rename_i A hA
  split at h
  ·rename_i n hn
   have key: ∀(n:Nat) {tm1:List AV} {H1:List AB} {σ1:Gh} {τ1:Nat→Nat} {β1:List Value} {a1:Act} {w1:World},roundsX (exec P hs an X c) n tm1 H1 k=some x→Went E (asgC c) σ β w tm H σ1 β1 w1 tm1 H1→Conc E σ1 τ1 β1 ⟨tm1,H1⟩ a1 w1→Code.rounds P c Q n a1 w1:=by
    intro n
    induction n with
    |zero=>intro tm1 H1 σ1 τ1 β1 a1 w1 h;simp[roundsX]at h
    |succ n ih=>
     intro tm1 H1 σ1 τ1 β1 a1 w1 h hW hC1
     rw[rounds_succ]
     simp only[roundsX]at h
     refine exec_sound c h hC1 (fun e tm' H' σ' τ' β' a' w' hk hW' hC'=> ?_)
     have hW2:=hW.trans hW'
     cases e with
     |normal=>exact ih hk hW2 hC'
     |exit id=>exact hQ _ _ _ _ _ _ _ _ hk hW2 hC'
     |goto l=>exact hQ _ _ _ _ _ _ _ _ hk hW2 hC'
     |ret=>exact hQ _ _ _ _ _ _ _ _ hk hW2 hC'
     |panic ch=>exact hQ _ _ _ _ _ _ _ _ hk hW2 hC'
     |outgrown=>exact hQ _ _ _ _ _ _ _ _ hk hW2 hC'
   exact wp_loop_rounds (n+1) (key (n+1) h .refl hC)
  obtain⟨hp0,σ0,τ0,hev0,hC0⟩:=prep_sound (f:=fun b=>isIn b (usedC tm H A.cs)) A.cs hC
  generalize frzC A.cs (settleF (fun b=>isIn b (usedC tm H A.cs)) H)=H0 at h hp0 hC0
  have hQ:=fun e tm' H' σ' τ' β' a' w' hk (hW:Went E _ σ0 β w tm H0 σ' β' w' tm' H') hC'=>hQ e tm' H' σ' τ' β' a' w' hk (Went.trans ⟨hev0,⟨[],by simp⟩,hp0,.refl⟩ hW) hC'
  have hC:=hC0
  clear hC0 hev0 hp0
  split at h
  ·rename_i hok1 hok2 hun
   split at h
   ·cases h
   rename_i s0 hs0
   obtain⟨b,hb,hel⟩:=Option.bind_eq_some_iff.1 h
   have hsz:=hC.size
   simp only at hsz
   have hutm: ∀(t:Nat) x,tm[t]? =some x→x.under β.length:=fun t x hx=>underL_get (RelL.under hC.tmps) hx
   have huh: ∀(i:Nat) x,H0[i]? =some x→x.under β.length:=fun i x hx=>by
    obtain⟨v,hv⟩: ∃v,β[i]? =some v:=⟨_,List.getElem?_eq_getElem (by rw[hsz];exact(List.getElem?_eq_some_iff.1 hx).1)⟩
    exact(hC.heap i x v hx hv).under
   have hgone: ∀(i:Nat) y,(goneI (usedC tm H0 A.cs) 0 H0)[i]? =some y→y.live=false∨(i∉usedC tm H0 A.cs∧H0[i]? =some y):=by
    intro i y hy
    rw[goneI_get,Nat.zero_add]at hy
    cases hz:H0[i]? with
    |none=>rw[hz]at hy;simp at hy
    |some z=>
     rw[hz]at hy
     simp only[Option.map_some,Option.some.injEq]at hy
     by_cases hi:i∈usedC tm H0 A.cs
     ·rw[if_pos hi]at hy;subst hy;exact .inl rfl
     ·rw[if_neg hi]at hy;exact .inr ⟨hi,by rw[hy]⟩
   refine wp_loopO _ (fun s a1 w1=> ∃σ1 τ1 β1,EvT (Rng E) σ0 w σ1 w1∧(∃s',β1=β++s')∧Conc E σ1 τ1 β1 ⟨(unpackC A.cs s (killT (asgC c) tm,(goneI (usedC tm H0 A.cs) 0 H0).map .lock)).1,(unpackC A.cs s (killT (asgC c) tm,(goneI (usedC tm H0 A.cs) 0 H0).map .lock)).2⟩ a1 w1) hb ?_ ?_
   ·have hM:=mid_in (us:=usedC tm H0 A.cs) (tm1:=killT (asgC c) tm) hC (killT_len _ _) (fun t x hx=>(killT_get _ _ t x hx).imp id (fun h=>h.1))
    rw[hsz]at hM
    obtain⟨τ2,β2,h1,h2⟩:=mid_all hM (carOk_ok hok1) hs0
    exact⟨σ0,τ2,β2,.refl,h1,h2⟩
   ·rintro s a1 w1 ⟨σ1,τ1,β1,hev1,⟨s1,rfl⟩,hC1⟩ o ho
    refine exec_sound c ho hC1 (fun e tm' H' σ' τ' β' a' w' hk hW hC'=> ?_)
    obtain⟨H',σ',τ',hse,hW,hC'⟩:=hW.settle hC'
    rw[hse]at hk
    clear hse
    obtain⟨s2,rfl⟩:=hW.more
    rw[List.append_assoc]at hC'
    have htm: ∀(t:Nat) x,(killT (asgC c) tm)[t]? =some x→x= .unk∨(tm'[t]? =some x∧x.under β.length):=by
     intro t x hx
     rcases killT_get _ _ t x hx with h1|⟨h1,h2⟩
     ·exact .inl h1
     ·refine .inr ⟨?_,hutm t x h1⟩
      rw[hW.tmps.2 t h2,(unpack_pres hok1).1.2 t h2]
      exact hx
    have hlen:(killT (asgC c) tm).length=tm'.length:=by rw[hW.tmps.1,(unpack_pres hok1).1.1]
    have hlock: ∀(i:Nat) y,i∉usedC tm H0 A.cs→H0[i]? =some y→H'[i]? =some (.lock y):=by
     intro i y hi hy
     refine hW.heap.2 i y ?_
     rw[unpack_keep (fun h=>hi (blks_used h)) (by simp[goneI_len,(List.getElem?_eq_some_iff.1 hy).1])]
     rw[List.getElem?_map,goneI_get,Nat.zero_add,hy]
     simp[hi]
    have hev:EvT (Rng E) σ0 w σ' w':=hev1.trans hW.ev
    have exitCase: ∀e',e'=e→(match packE A.es e' tm' H' with|some b=>some (Sum.inr b)|none=>(none:Option (CarsDen A.cs⊕ExDen A.es)))=some o→∃b',o= .inr b'∧(b'=b→Q e' a' w'):=by
     rintro e' rfl hk
     split at hk
     ·rename_i b' hb'
      obtain rfl:=Option.some.inj hk
      refine⟨b',rfl,?_⟩
      rintro rfl
      obtain⟨xc,x1,x2,z,x3,x4⟩:=packE_sound hb'
      obtain⟨H',σ',hfe,hW,hC'⟩:=hW.frz xc.2 (by rw[List.append_assoc];exact hC')
      rw[hfe]at x3
      rw[List.append_assoc]at hC'
      have hlock: ∀(i:Nat) y,i∉usedC tm H0 A.cs→H0[i]? =some y→H'[i]? =some (.lock y):=by
       intro i y hi hy
       refine hW.heap.2 i y ?_
       rw[unpack_keep (fun h=>hi (blks_used h)) (by simp[goneI_len,(List.getElem?_eq_some_iff.1 hy).1])]
       rw[List.getElem?_map,goneI_get,Nat.zero_add,hy]
       simp[hi]
      have hev:EvT (Rng E) σ0 w σ' w':=hev1.trans hW.ev
      rw[x4]at hel
      have hokx:xc.2.all (carOk H0.length H0 (asgC c))=true:=List.all_eq_true.1 hok2 xc x1
      have hM:=mid_of (tm1:=killT (asgC c) tm) (H1:=goneI (usedC tm H0 A.cs) 0 H0) hC' hlen (by rw[goneI_len,hsz]) htm (fun i y hy=>by
       rcases hgone i y hy with h1|⟨h1,h2⟩
       ·exact .inl h1
       ·exact .inr ⟨huh i y h2,y,hlock i y h1 h2,.inr rfl⟩)
      rw[hsz]at hM
      obtain⟨τ3,β3,y1,y2⟩:=mid_all hM (carOk_ok hokx) x3
      refine hQ _ _ _ _ _ _ _ _ hel ⟨hev,y1,⟨?_,fun i z' hz'=> ?_⟩,?_⟩ y2
      ·have:=(unpack_pres (x:=z) (s:=(killT (asgC c) tm,goneI (usedC tm H0 A.cs) 0 H0)) hokx).2.1
       simp only[goneI_len]at this
       exact this
      ·refine(unpack_pres (x:=z) (s:=(killT (asgC c) tm,goneI (usedC tm H0 A.cs) 0 H0)) hokx).2.2 i z' _ hz' ?_
       simp only
       rw[goneI_get,Nat.zero_add,hz']
       have hni:i∉usedC tm H0 A.cs:=fun hi=>by
        have:=List.all_eq_true.1 hun i hi
        unfold unlocked at this
        rw[hz']at this
        cases this
       simp[hni]
      ·have h1:=(unpack_pres (x:=z) (s:=(killT (asgC c) tm,goneI (usedC tm H0 A.cs) 0 H0)) hokx).1
       refine⟨by rw[h1.1];exact killT_len _ _,fun t ht=> ?_⟩
       rw[h1.2 t ht]
       exact killT_other _ _ t ht
     ·cases hk
    cases e with
    |normal=>
     simp only at hk
     split at hk
     ·rename_i s' hs'
      obtain rfl:=Option.some.inj hk
      obtain⟨H',σ',hfe,hW,hC'⟩:=hW.frz A.cs (by rw[List.append_assoc];exact hC')
      rw[hfe]at hs'
      rw[List.append_assoc]at hC'
      have hlock: ∀(i:Nat) y,i∉usedC tm H0 A.cs→H0[i]? =some y→H'[i]? =some (.lock y):=by
       intro i y hi hy
       refine hW.heap.2 i y ?_
       rw[unpack_keep (fun h=>hi (blks_used h)) (by simp[goneI_len,(List.getElem?_eq_some_iff.1 hy).1])]
       rw[List.getElem?_map,goneI_get,Nat.zero_add,hy]
       simp[hi]
      have hev:EvT (Rng E) σ0 w σ' w':=hev1.trans hW.ev
      have hM:=mid_of (tm1:=killT (asgC c) tm) (H1:=(goneI (usedC tm H0 A.cs) 0 H0).map .lock) hC' hlen (by simp[goneI_len,hsz]) htm (fun i y hy=>by
       rw[List.getElem?_map]at hy
       obtain⟨z,hz,rfl⟩:=Option.map_eq_some_iff.1 hy
       rcases hgone i z hz with h1|⟨h1,h2⟩
       ·exact .inl h1
       ·exact .inr ⟨huh i z h2,z,hlock i z h1 h2,.inl rfl⟩)
      rw[hsz]at hM
      obtain⟨τ3,β3,y1,y2⟩:=mid_all hM (carOk_ok hok1) hs'
      exact⟨s',rfl,σ',τ3,β3,hev,y1,y2⟩
     ·cases hk
    |exit id=>exact exitCase _ rfl hk
    |goto l=>exact exitCase _ rfl hk
    |ret=>exact exitCase _ rfl hk
    |panic ch=>exact exitCase _ rfl hk
    |outgrown=>exact exitCase _ rfl hk
  ·cases h
 | .rangeFunc ..,E,tm,H,σ,τ,β,a,w,Q,X,x,k,h,hC,hQ=>by simp[exec]at h
 | .scope c,E,tm,H,σ,τ,β,a,w,Q,X,x,k,h,hC,hQ=>by simp[exec]at h
 | .label l,E,tm,H,σ,τ,β,a,w,Q,X,x,k,h,hC,hQ=>by simp[exec]at h
 | .goto l,E,tm,H,σ,τ,β,a,w,Q,X,x,k,h,hC,hQ=>wp_goto (hQ _ _ _ _ _ _ _ _ h .refl hC)
 | .refuse s,E,tm,H,σ,τ,β,a,w,Q,X,x,k,h,hC,hQ=>by simp[exec]at h
end
end Go.Am
