/- The walk's own words (a part of this session's library): worlds with tags,steps of a region,loops. No statement of its own. -/
import Derived.Tactics
import Derived.Orders
import Derived.Below
import Derived.WalkKit
import Derived.Laws.OwnMore
import Derived.Maps.AppendAt
import Derived.OwnWalk
import Derived.Laws.Rows
import Derived.Deep.MidRow
import Derived.Deep.DeepCutAuto
import Derived.Laws.StructEq
set_option linter.unusedSimpArgs false
set_option linter.unusedVariables false
namespace Go.Vk
/-! ### the count of draws never sinks -/
theorem except_bind{ε α β:Type}{x:Except ε α}{f:α→Except ε β}{r:β}(h:(x >>=f)= .ok r): ∃a,x= .ok a∧f a= .ok r:=by
 cases x with
 |error e=>simp[bind,Except.bind]at h
 |ok a=>exact⟨a,rfl,h⟩
def Pst(n:Nat)(x:Except String (World×List Addr)):Prop:= ∀r,x= .ok r→r.1.drawn=n
theorem pst_bind{α:Type}{n:Nat}{x:Except String α}{f:α→Except String (World×List Addr)}(h: ∀a,Pst n (f a)):Pst n (x >>=f):=fun r hr=>by
 obtain⟨a,_,h2⟩:=except_bind hr
 exact h a r h2
theorem pst_throw{n:Nat}{e:String}:Pst n (MonadExcept.throw e):=fun r hr=>by simp[MonadExcept.throw,throwThe,MonadExceptOf.throw]at hr
theorem viewStore_pst{p:Program}{w:World}{at_:Addr}{u:TypeId}{k:Addr}{v:Value}{atomic:Bool}:Pst w.drawn (w.viewStore p at_ u k v atomic):=by
 unfold World.viewStore
 dsimp only
 repeat' (first|exact pst_throw|(refine pst_bind fun _=> ?_)|(show Pst _ (pure _);intro r hr;simp only[pure,Except.pure,Except.ok.injEq]at hr;rw[←hr];done)|split)
theorem viewStore_drawn{p:Program}{w w':World}{at_:Addr}{u:TypeId}{k:Addr}{v:Value}{atomic:Bool}{l:List Addr}(h:w.viewStore p at_ u k v atomic= .ok (w',l)):w'.drawn=w.drawn:=viewStore_pst _ h
theorem farStore_drawn{p:Program}{w w':World}{a:Addr}{v:Value}{atomic:Bool}{l:List Addr}(h:w.farStore p a v atomic= .ok (w',l)):w'.drawn=w.drawn:=by
 unfold World.farStore at h
 split at h
 ·split at h
  ·rename_i r hr
   obtain rfl:=Except.ok.inj h
   exact viewStore_drawn hr
  ·cases h
 ·cases h
theorem ask_drawn{α:Type}: ∀(x:Ask α) (w:World),w.drawn≤(w.ask x).2.drawn
 | .done a,w=>by simp[World.ask]
 | .ask what range k,w=>by
  simp only[World.ask]
  split
  ·exact ask_drawn (k 0) w
  ·exact Nat.le_trans (by simp) (ask_drawn (k _) _)
theorem sys_drawn(w:World)(c:Sys):w.drawn≤(w.sys c).2.drawn:=by
 unfold World.sys
 have:=ask_drawn (Kernel.perform c w.os) w
 split
 ·exact Nat.le_refl _
 ·rename_i r os w' h
  rw[h]at this
  exact this
theorem run_drawn{P:Program}{α:Type}(x:Sem α): ∀{w w':World} {a:α},x.run P w= .ok a w'→w.drawn≤w'.drawn:=by
 induction x with
 |pure a=>intro w w' b h;simp only[Sem.run,Result.ok.injEq]at h;rw[h.2];exact Nat.le_refl _
 |load m a k ih=>
  intro w w' b h
  simp only[Sem.run]at h
  split at h
  ·exact ih _ h
  ·split at h
   ·exact ih _ h
   ·cases h
 |store m a v k ih=>
  intro w w' b h
  have key: ∀(r:Result _),(match w.cell? a with
    | some _ => if w.frozen? a then .halt (.unsupported (.unsafePointer "a write to bytes that a string shares")) w else k.run P (w.setCell a v)
    |none=>match w.farStore P a v (m== .atomic)with
     | .ok (w,_)=>k.run P w
     | .error h=> .halt h w)=r→r= .ok b w'→w.drawn≤w'.drawn:=by
   rintro r hr rfl
   split at hr
   ·split at hr
    ·cases hr
    ·have:=ih hr;exact this
   ·split at hr
    ·rename_i w1 l h1
     have:=farStore_drawn h1
     rw[←this];exact ih hr
    ·cases hr
  cases v<;>first|(simp only[Sem.run]at h;exact key _ rfl h)|(simp[Sem.run]at h)
 |new o k ih=>intro w w' b h;simp only[Sem.run]at h;have:=ih _ h;exact this
 |shape r k ih=>intro w w' b h;simp only[Sem.run]at h;exact ih _ h
 |freeze a n k ih=>
  intro w w' b h
  simp only[Sem.run]at h
  have:=ih h
  unfold World.freeze at this
  split at this<;>exact this
 |frozen a k ih=>intro w w' b h;simp only[Sem.run]at h;exact ih _ h
 |getObj r k ih=>
  intro w w' b h
  simp only[Sem.run]at h
  split at h
  ·cases h
  ·exact ih _ h
  ·cases h
 |setObj r o k ih=>
  intro w w' b h
  simp only[Sem.run]at h
  split at h
  ·cases h
  ·have:=ih h;exact this
  ·cases h
 |choose q k ih=>
  intro w w' b h
  simp only[Sem.run]at h
  split at h
  ·exact ih _ h
  ·have:=ih _ h;exact Nat.le_trans (Nat.le_succ _) this
 |sys c k ih=>intro w w' b h;simp only[Sem.run]at h;exact Nat.le_trans (sys_drawn w c) (ih _ h)
 |program k ih=>intro w w' b h;simp only[Sem.run]at h;exact ih _ h
 |mark m k ih=>intro w w' b h;simp only[Sem.run]at h;exact ih h
 |halt h=>intro w w' b h';simp[Sem.run]at h'
abbrev Gh:=Nat→Nat
class Dr where
 D:Prop
variable [Dr]
structure Ev(lo hi:Nat)(σ:Gh)(w:World)(σ':Gh)(w':World):Prop where
 os:w'.os=w.os
 tape:w'.tape=w.tape
 output:w'.output=w.output
 drawn:Dr.D→w.drawn≤w'.drawn
 size:w.heap.size≤w'.heap.size
 keep: ∀b,b<w.heap.size→¬(lo≤σ b∧σ b<hi)→σ' b=σ b∧w'.heap[b]? =w.heap[b]?
theorem Ev.refl(lo hi:Nat)(σ:Gh)(w:World):Ev lo hi σ w σ w:=⟨rfl,rfl,rfl,fun _=>Nat.le_refl _,Nat.le_refl _,fun _ _ _=>⟨rfl,rfl⟩⟩
theorem Ev.trans{lo hi:Nat}{σ σ1 σ2:Gh}{w w1 w2:World}(h:Ev lo hi σ w σ1 w1)(k:Ev lo hi σ1 w1 σ2 w2):Ev lo hi σ w σ2 w2:=
 ⟨k.os.trans h.os,k.tape.trans h.tape,k.output.trans h.output,fun d=>Nat.le_trans (h.drawn d) (k.drawn d),Nat.le_trans h.size k.size,fun b hb hn=>by
  obtain⟨h1,h2⟩:=h.keep b hb hn
  obtain⟨k1,k2⟩:=k.keep b (Nat.lt_of_lt_of_le hb h.size) (by rw[h1];exact hn)
  exact⟨k1.trans h1,k2.trans h2⟩⟩
theorem Ev.wide{lo hi lo' hi':Nat}{σ σ1:Gh}{w w1:World}(h:Ev lo hi σ w σ1 w1)(h1:lo'≤lo∨hi≤lo)(h2:hi≤hi'∨hi≤lo):Ev lo' hi' σ w σ1 w1:=
 ⟨h.os,h.tape,h.output,h.drawn,h.size,fun b hb hn=>h.keep b hb (by omega)⟩
theorem Ev.below{lo hi:Nat}{σ σ':Gh}{w w':World}(h:Ev lo hi σ w σ' w')(hl: ∀b,b<w.heap.size→σ b<lo∨hi≤σ b):RowKit.Below w.heap.size w w':=
 ⟨h.os,h.tape,h.output,h.size,fun b hb=>(h.keep b hb (by have:=hl b hb;omega)).2⟩
omit [Dr] in
theorem Gh.fresh(σ:Gh)(m:Nat): ∀n,∃r,m≤r∧∀b,b<n→σ b<r
 |0=>⟨m,Nat.le_refl _,fun _ h=>absurd h (by omega)⟩
 |n+1=>by
  obtain⟨r,h1,h2⟩:=Gh.fresh σ m n
  refine⟨max r (σ n+1),by omega,fun b hb=> ?_⟩
  rcases Nat.lt_or_ge b n with h|h
  ·have:=h2 b h;omega
  ·have:b=n:=by omega
   subst this;omega
def Gives(P:Program)(f:FuncId)(args:Array Value)(lo hi:Nat)(σ:Gh)(w:World)(R:Value→Gh→World→Prop):Prop:=
 Calls P f args w fun e w'=> ∃v σ',e= .returned v∧Ev lo hi σ w σ' w'∧R v σ' w'
section steps
variable {P : Program} {ops : Array Oper} {Q : Exit → Act → World → Prop}
def steps(P:Program)(ops:Array Oper):Nat→List Oper→Act→World→Option (Act×World)
 |0,_,a,w=>some (a,w)
 |_+1,[],_,_=>none
 |n+1,o::l,a,w=>
  match Region.wanted o (yielded ops a.tmps)with
  |false=>steps P ops n l (a.put o.dst undef) w
  |true=>
   match(execOp a.eval o).run P w with
   | .ok (.value v) w'=>steps P ops n l (a.put o.dst v) w'
   |_=>none
omit [Dr] in
theorem st_val {o:Oper} {rest:List Oper} {a:Act} {w w':World} {v:Value} (hw:Region.wanted o (yielded ops a.tmps)=true)
  (hr:(execOp a.eval o).run P w= .ok (.value v) w') (k:wpList P ops Q rest (a.put o.dst v) w'):wpList P ops Q (o::rest) a w:=by
 unfold wpList
 rw[if_pos hw]
 refine .inl ?_
 unfold Oper.wp
 rw[hr,Oper.upon_value]
 exact k
end steps
/-! ### code -/
section code
variable {P : Program} {Q : Exit → Act → World → Prop} {a : Act} {w : World}
def LoopWp(P:Program)(c:Code)(Q:Exit→Act→World→Prop)(a:Act)(w:World):Prop:=
 ∀(b:Frame) (k:List Item) (cs:List Frame),∃e a' w',Q e a' w'∧Arrives P (lone (b.at a (.code c:: .inLoop c::k)) cs w) b k cs e a' w'
omit [Dr] in
theorem wp_of_loopWp{c:Code}(h:LoopWp P c Q a w):(Code.loop c).wp P Q a w:=fun b k cs=>
 let⟨e,a',w',q,r⟩:=h b k cs;⟨e,a',w',q,.of_steps (.one step_loop) r⟩
omit [Dr] in
theorem loopWp_step{c:Code}(h:c.wp P (Exit.then (LoopWp P c Q) Q) a w):LoopWp P c Q a w:=by
 intro b k cs
 obtain⟨e,a₁,w₁,hq,harr⟩:=h b (.inLoop c::k) cs
 cases e with
 |normal=>
  obtain⟨e₂,a₂,w₂,hq₂,harr₂⟩:=hq b k cs
  exact⟨e₂,a₂,w₂,hq₂,.of_steps (Steps.trans harr (.one step_inLoop)) harr₂⟩
 |exit id=>exact⟨_,a₁,w₁,hq,.pass (x:= .inLoop c) rfl (fun _ _=> .inl (by simp)) harr⟩
 |goto l=>exact⟨_,a₁,w₁,hq,.pass (x:= .inLoop c) rfl (fun _ _=> .inl (by simp)) harr⟩
 |ret=>exact⟨_,a₁,w₁,hq,.pass (x:= .inLoop c) rfl (fun _ _=> .inl (by simp)) harr⟩
 |panic ch=>exact⟨_,a₁,w₁,hq,.pass (x:= .inLoop c) rfl (fun _ _=> .inl (by simp)) harr⟩
 |outgrown=>exact⟨_,a₁,w₁,hq,.pass (x:= .inLoop c) rfl (fun _ _=> .inl (by simp)) harr⟩
end code
def loopN{S B:Type}(f:S→Option (S⊕B)):Nat→S→Option B
 |0,_=>none
 |n+1,s=>(f s).bind fun o=>match o with
  | .inl s'=>loopN f n s'
  | .inr b=>some b
open Classical in
noncomputable def loopO{S B:Type}(f:S→Option (S⊕B))(s:S):Option B:=
 if h: ∃n,(loopN f n s).isSome=true then loopN f h.choose s else none
omit [Dr] in
theorem loopN_mono{S B:Type}(f:S→Option (S⊕B)): ∀n s b,loopN f n s=some b→∀m,n≤m→loopN f m s=some b
 |0,s,b,h,m,_=>by simp[loopN]at h
 |n+1,s,b,h,m,hm=>by
  obtain⟨m,rfl⟩: ∃k,m=k+1:=⟨m - 1,by omega⟩
  simp only[loopN]at h⊢
  cases hf:f s with
  |none=>simp[hf]at h
  |some o=>
   cases o with
   |inl s'=>simp only[hf,Option.bind_some]at h⊢;exact loopN_mono f n s' b h m (by omega)
   |inr b'=>simpa[hf]using h
omit [Dr] in
theorem loopO_of{S B:Type}{f:S→Option (S⊕B)}{n:Nat}{s:S}{b:B}(h:loopN f n s=some b):loopO f s=some b:=by
 have hex: ∃n,(loopN f n s).isSome=true:=⟨n,by simp[h]⟩
 unfold loopO
 rw[dif_pos hex]
 obtain⟨b',hb'⟩:=Option.isSome_iff_exists.1 hex.choose_spec
 have h1:=loopN_mono f _ s b h (max n hex.choose) (by omega)
 have h2:=loopN_mono f _ s b' hb' (max n hex.choose) (by omega)
 rw[hb',←h2,h1]
omit [Dr] in
theorem loopO_some{S B:Type}{f:S→Option (S⊕B)}{s:S}{b:B}(h:loopO f s=some b): ∃n,loopN f n s=some b:=by
 unfold loopO at h
 split at h
 ·exact⟨_,h⟩
 ·cases h
omit [Dr] in
theorem loopO_eq{S B:Type}(f:S→Option (S⊕B))(s:S):loopO f s=(f s).bind fun o=>match o with
  | .inl s'=>loopO f s'
  | .inr b=>some b:=by
 cases hl:loopO f s with
 |some b=>
  obtain⟨n,hn⟩:=loopO_some hl
  cases n with
  |zero=>simp[loopN]at hn
  |succ n=>
   simp only[loopN]at hn
   cases hf:f s with
   |none=>simp[hf]at hn
   |some o=>
    cases o with
    |inl s'=>simp only[hf,Option.bind_some]at hn⊢;exact(loopO_of hn).symm
    |inr b'=>simpa[hf]using hn.symm
 |none=>
  cases hf:f s with
  |none=>rfl
  |some o=>
   cases o with
   |inl s'=>
    simp only[Option.bind_some]
    cases hl':loopO f s' with
    |none=>rfl
    |some b=>
     obtain⟨n,hn⟩:=loopO_some hl'
     have:loopN f (n+1) s=some b:=by simp[loopN,hf,hn]
     rw[loopO_of this]at hl
     cases hl
   |inr b=>
    have:loopN f 1 s=some b:=by simp[loopN,hf]
    rw[loopO_of this]at hl
    cases hl
omit [Dr] in
theorem wp_loopO {P:Program} {S B:Type} (f:S→Option (S⊕B)) (Rel:S→Act→World→Prop) {c:Code} {Q:Exit→Act→World→Prop} {s0:S} {b:B} {a:Act} {w:World} (hb:loopO f s0=some b) (h0:Rel s0 a w)
  (round: ∀s a w,Rel s a w→∀o,f s=some o→c.wp P (Exit.then (fun a' w'=> ∃s',o= .inl s'∧Rel s' a' w') (fun e a' w'=> ∃b',o= .inr b'∧(b'=b→Q e a' w'))) a w):(Code.loop c).wp P Q a w:=by
 refine wp_of_loopWp ?_
 obtain⟨n,hn⟩:=loopO_some hb
 clear hb
 induction n generalizing s0 a w with
 |zero=>simp[loopN]at hn
 |succ n ih=>
  simp only[loopN]at hn
  cases hf:f s0 with
  |none=>simp[hf]at hn
  |some o=>
   simp only[hf,Option.bind_some]at hn
   refine loopWp_step (Code.wp_mono ?_ (round s0 a w h0 o hf))
   intro e a' w' q
   cases e with
   |normal=>
    obtain⟨s',rfl,hr⟩:=q
    exact ih hr hn
   |_=>
    obtain⟨b',rfl,q⟩:=q
    exact q (by simpa using hn)
end Go.Vk
/- The walk's own words,part 2: blocks,slices that are read,rows that are owned. No statement of its own. -/
namespace Go.Vk
variable [Dr]
open Go.RowKit
omit [Dr] in
theorem add_add(a:Addr)(i j:Nat):(a.add i).add j=a.add (i+j):=by
 unfold Addr.add
 by_cases hi:i=0<;>by_cases hj:j=0<;>simp[hi,hj,Nat.add_assoc]
omit [Dr] in
theorem add_block(a:Addr)(n:Nat):(a.add n).block=a.block:=by unfold Addr.add;split<;>rfl
omit [Dr] in
theorem add_mk(b o n:Nat):(⟨b,o,none⟩:Addr).add n=⟨b,o+n,none⟩:=by unfold Addr.add;split<;>simp_all
/-! ### a block that is known whole -/
def Blk(σ:Gh)(t:Nat)(w:World)(b:Nat)(T:TypeId)(cs:Array Value):Prop:=
 σ b=t∧w.heap[b]? =some (.cells cs T (0,0))
section
variable {σ σ' : Gh} {t lo hi b : Nat} {w w' : World} {T : TypeId} {cs : Array Value}
omit [Dr] in
theorem Blk.lt(h:Blk σ t w b T cs):b<w.heap.size:=(Array.getElem?_eq_some_iff.1 h.2).1
theorem Blk.ev(h:Blk σ t w b T cs)(e:Ev lo hi σ w σ' w')(ht:t<lo∨hi≤t):Blk σ' t w' b T cs:=by
 obtain⟨k1,k2⟩:=e.keep b h.lt (by rw[h.1];omega)
 exact⟨k1.trans h.1,k2.trans h.2⟩
omit [Dr] in
theorem Blk.cell(h:Blk σ t w b T cs)(i:Nat):w.cell? ⟨b,i,none⟩=cs[i]? :=by simp[World.cell?,h.2]
omit [Dr] in
theorem Blk.frozen(h:Blk σ t w b T cs)(i:Nat):w.frozen? ⟨b,i,none⟩=false:=by simp[World.frozen?,h.2]
end
def upd(σ:Gh)(b t:Nat):Gh:=fun x=>if x=b then t else σ x
theorem ev_alloc(σ:Gh)(w:World)(o:Obj)(t lo hi:Nat):Ev lo hi σ w (upd σ w.heap.size t) {w with heap:=w.heap.push o}:=
 ⟨rfl,rfl,rfl,fun _=>Nat.le_refl _,by simp,fun b hb _=>⟨by simp[upd,Nat.ne_of_lt hb],by
  show(w.heap.push o)[b]? =_
  rw[Array.getElem?_push,if_neg (by omega)]⟩⟩
omit [Dr] in
theorem blk_alloc(σ:Gh)(w:World)(cs:Array Value)(T t:Nat):Blk (upd σ w.heap.size t) t {w with heap:=w.heap.push (.cells cs T)} w.heap.size T cs:=
 ⟨by simp[upd],by simp⟩
theorem ev_drew(σ:Gh)(w:World)(lo hi:Nat):Ev lo hi σ w σ {w with drawn:=w.drawn+1}:=⟨rfl,rfl,rfl,fun _=>Nat.le_succ _,Nat.le_refl _,fun _ _ _=>⟨rfl,rfl⟩⟩
omit [Dr] in
theorem setCell_heap(w:World)(a:Addr)(v:Value)(b:Nat):(w.setCell a v).heap[b]? =(if b=a.block then(w.heap[b]?).map fun
  | .cells c elem frozen=> .cells (if a.spot.isSome then c else c.setIfInBounds a.off v) elem frozen
  |o=>o else w.heap[b]?):=by
 simp only[World.setCell,Array.getElem?_modify]
 by_cases h:a.block=b
 ·simp only[h,if_true];rfl
 ·rw[if_neg h,if_neg (fun e=>h e.symm)]
section
variable {σ : Gh} {t b : Nat} {w : World} {T : TypeId} {cs : Array Value}
omit [Dr] in
theorem Blk.set_(h:Blk σ t w b T cs)(i:Nat)(v:Value):Blk σ t (w.setCell ⟨b,i,none⟩ v) b T (cs.setIfInBounds i v):=
 ⟨h.1,by rw[setCell_heap];simp[h.2]⟩
theorem Blk.ev_set(h:Blk σ t w b T cs)(i:Nat)(v:Value):Ev t (t+1) σ w σ (w.setCell ⟨b,i,none⟩ v):=
 ⟨rfl,rfl,rfl,fun _=>Nat.le_refl _,by simp[World.setCell],fun c hc hn=>⟨rfl,by
  rw[setCell_heap,if_neg]
  rintro rfl
  exact hn (by rw[h.1];omega)⟩⟩
end
/-! ### kinds of elements -/
structure Kd (α:Type)where
 sz:Nat
 rep:Gh→World→α→List Value→Prop
 len: ∀{σ w x cs},rep σ w x cs→cs.length=sz
 one: ∀{σ w x cs},rep σ w x cs→∀u∈cs,u.oneCell'=true
 ev: ∀{lo hi σ w σ' w' x cs},rep σ w x cs→Ev lo hi σ w σ' w'→1≤lo→rep σ' w' x cs
def Kd.flat{α:Type}(sz:Nat)(enc:α→List Value)(hl: ∀x,(enc x).length=sz)(h1: ∀x,∀u∈enc x,u.oneCell'=true):Kd α where
 sz:=sz
 rep:=fun _ _ x cs=>cs=enc x
 len:=fun h=>by rw[h];exact hl _
 one:=fun h=>by rw[h];exact h1 _
 ev:=fun h _ _=>h
def Rd{α:Type}(K:Kd α)(σ:Gh)(t:Nat)(w:World)(A:Option Addr)(xs:List α):Prop:=
 0<xs.length→∃ad,A=some ad∧ad.block<w.heap.size∧σ ad.block=t∧∀j (h:j<xs.length),∃cs,K.rep σ w xs[j] cs∧∀i u,cs[i]? =some u→w.cell? (ad.add (j*K.sz+i))=some u
section
variable {α : Type} {K : Kd α} {σ σ' : Gh} {t lo hi : Nat} {w w' : World} {A : Option Addr} {xs : List α}
theorem Rd.nil:Rd K σ t w A []:=fun h=>absurd h (by simp)
theorem Rd.ev(h:Rd K σ t w A xs)(e:Ev lo hi σ w σ' w')(ht:t<lo∨hi≤t)(hl:1≤lo):Rd K σ' t w' A xs:=fun hp=>by
 obtain⟨ad,h1,h2,h3,h4⟩:=h hp
 obtain⟨k1,k2⟩:=e.keep ad.block h2 (by rw[h3];omega)
 refine⟨ad,h1,Nat.lt_of_lt_of_le h2 e.size,k1.trans h3,fun j hj=> ?_⟩
 obtain⟨cs,h5,h6⟩:=h4 j hj
 refine⟨cs,K.ev h5 e hl,fun i u hu=> ?_⟩
 rw[World.cell?_of_block (w:=w) (by rw[add_block];exact k2)]
 exact h6 i u hu
theorem Rd.at(h:Rd K σ t w A xs)(i:Int)(h0:0≤i)(h1:i<xs.length)(d:α): ∃ad cs,A=some ad∧ad.block<w.heap.size∧σ ad.block=t∧K.rep σ w (xs.getD i.toNat d) cs∧
  ∀j u,cs[j]? =some u→w.cell? (ad.add (i.toNat*K.sz+j))=some u:=by
 obtain⟨ad,e1,e2,e3,e4⟩:=h (by omega)
 obtain⟨cs,e5,e6⟩:=e4 i.toNat (by omega)
 refine⟨ad,cs,e1,e2,e3,?_,e6⟩
 rwa[List.getD_eq_getElem?_getD,List.getElem?_eq_getElem (by omega)]
theorem Rd.take(h:Rd K σ t w A xs)(n:Nat):Rd K σ t w A (xs.take n):=fun hp=>by
 have hl:(xs.take n).length≤xs.length:=by simp only[List.length_take];omega
 obtain⟨ad,h1,h2,h3,h4⟩:=h (by omega)
 refine⟨ad,h1,h2,h3,fun j hj=> ?_⟩
 obtain⟨cs,h5,h6⟩:=h4 j (by omega)
 exact⟨cs,by simpa using h5,h6⟩
theorem Rd.drop(h:Rd K σ t w A xs)(n cap:Nat)(hc:xs.length≤cap):Rd K σ t w (if cap=n then A else A.map (·.add (n*K.sz))) (xs.drop n):=fun hp=>by
 have hl:(xs.drop n).length=xs.length - n:=List.length_drop ..
 obtain⟨ad,h1,h2,h3,h4⟩:=h (by omega)
 rw[if_neg (by omega)]
 refine⟨ad.add (n*K.sz),by rw[h1];rfl,by rw[add_block];exact h2,by rw[add_block];exact h3,fun j hj=> ?_⟩
 obtain⟨cs,h5,h6⟩:=h4 (n+j) (by omega)
 refine⟨cs,by simpa using h5,fun i u hu=> ?_⟩
 rw[add_add]
 have:=h6 i u hu
 rw[Nat.add_mul]at this
 rwa[←Nat.add_assoc]
end
/-! ### rows of the call's own -/
def Reps{α:Type}(K:Kd α)(σ:Gh)(w:World):List α→List Value→Prop
 | [],cs=>cs= []
 |x::xs,cs=> ∃c r,cs=c++r∧K.rep σ w x c∧Reps K σ w xs r
section
variable {α : Type} {K : Kd α} {σ σ' : Gh} {lo hi : Nat} {w w' : World}
theorem Reps.len: ∀{xs:List α} {cs:List Value},Reps K σ w xs cs→cs.length=xs.length*K.sz
 | [],_,h=>by rw[show _= []from h];simp
 |x::xs,_,⟨c,r,h,hx,hr⟩=>by
  have h1:=K.len hx
  have h2:=Reps.len hr
  rw[h,List.length_append,h1,h2,List.length_cons,Nat.add_mul];omega
theorem Reps.one: ∀{xs:List α} {cs:List Value},Reps K σ w xs cs→∀u∈cs,u.oneCell'=true
 | [],_,h,u,hu=>by rw[show _= []from h]at hu;cases hu
 |x::xs,_,⟨c,r,h,hx,hr⟩,u,hu=>by
  rw[h,List.mem_append]at hu
  rcases hu with hu|hu
  ·exact K.one hx u hu
  ·exact Reps.one hr u hu
theorem Reps.ev: ∀{xs:List α} {cs:List Value},Reps K σ w xs cs→Ev lo hi σ w σ' w'→1≤lo→Reps K σ' w' xs cs
 | [],_,h,_,_=>h
 |x::xs,_,⟨c,r,h,hx,hr⟩,e,hl=>⟨c,r,h,K.ev hx e hl,Reps.ev hr e hl⟩
theorem Reps.append: ∀{xs ys:List α} {cs ds:List Value},Reps K σ w xs cs→Reps K σ w ys ds→Reps K σ w (xs++ys) (cs++ds)
 | [],_,_,_,h,k=>by rw[show _= []from h];exact k
 |x::xs,_,_,ds,⟨c,r,h,hx,hr⟩,k=>⟨c,r++ds,by rw[h,List.append_assoc],hx,Reps.append hr k⟩
theorem Reps.get: ∀{xs:List α} {cs:List Value},Reps K σ w xs cs→∀j (h:j<xs.length),∃c,K.rep σ w xs[j] c∧∀i u,c[i]? =some u→cs[j*K.sz+i]? =some u
 | [],_,_,j,h=>absurd h (by simp)
 |x::xs,_,⟨c,r,h,hx,hr⟩,0,_=>⟨c,hx,fun i u hu=>by
   have hi:=(List.getElem?_eq_some_iff.1 hu).1
   rw[h,Nat.zero_mul,Nat.zero_add,List.getElem?_append_left hi];exact hu⟩
 |x::xs,_,⟨c,r,h,hx,hr⟩,j+1,hj=>by
  obtain⟨c',h1,h2⟩:=Reps.get hr j (by simpa using hj)
  refine⟨c',by simpa using h1,fun i u hu=> ?_⟩
  have hc:=K.len hx
  rw[h,List.getElem?_append_right (by rw[hc,Nat.add_mul];omega),hc]
  rw[show(j+1)*K.sz+i - K.sz=j*K.sz+i by rw[Nat.add_mul];omega]
  exact h2 i u hu
end
def Own{α:Type}(K:Kd α)(e:TypeId)(σ:Gh)(t:Nat)(w:World)(v:Value)(xs:List α):Prop:=
 ∃cs,w.ownsRow 0 e K.sz v xs.length cs∧(∀g,v.ownBlock=some g→σ g=t)∧Reps K σ w xs cs
section
variable {α : Type} {K : Kd α} {e : TypeId} {σ σ' : Gh} {t lo hi : Nat} {w w' : World} {v : Value} {xs : List α}
theorem Own.nil:Own K e σ t w (.slice none 0 0) ([]:List α):=⟨[],⟨by simp,.inl ⟨rfl,rfl⟩⟩,fun g h=>by simp[Value.ownBlock]at h,rfl⟩
theorem Own.ev(h:Own K e σ t w v xs)(k:Ev lo hi σ w σ' w')(ht:t<lo∨hi≤t)(hl:1≤lo):Own K e σ' t w' v xs:=by
 obtain⟨cs,h1,h2,h3⟩:=h
 rcases h1.2 with⟨rfl,hn⟩|⟨g,cap,cur,rfl,hb,hh,hr⟩
 ·exact⟨cs,⟨h1.1,.inl ⟨rfl,hn⟩⟩,fun g hg=>by simp[Value.ownBlock]at hg,h3.ev k hl⟩
 ·have hg:=h2 g (by simp[Value.ownBlock])
  obtain⟨k1,k2⟩:=k.keep g (Array.getElem?_eq_some_iff.1 hh).1 (by rw[hg];omega)
  refine⟨cs,⟨h1.1,.inr ⟨g,cap,cur,rfl,hb,k2.trans hh,hr⟩⟩,fun g' hg'=> ?_,h3.ev k hl⟩
  have:g=g':=by simpa[Value.ownBlock]using hg'
  subst this
  exact k1.trans hg
theorem Own.rd(h:Own K e σ t w v xs): ∃A c,v= .slice A xs.length c∧xs.length≤c∧c≤9223372036854775807∧Rd K σ t w A xs:=by
 obtain⟨cs,h1,h2,h3⟩:=h
 rcases h1.2 with⟨rfl,hn⟩|⟨g,cap,cur,rfl,hb,hh,h4,h5,h6,h7⟩
 ·have:xs= []:=List.eq_nil_of_length_eq_zero hn
  subst this
  exact⟨none,0,rfl,by simp,by omega,Rd.nil⟩
 ·refine⟨_,cap,rfl,h4,by simpa[maxLen]using h5,fun hp=>⟨_,rfl,(Array.getElem?_eq_some_iff.1 hh).1,h2 g (by simp[Value.ownBlock]),fun j hj=> ?_⟩⟩
  obtain⟨c,h8,h9⟩:=h3.get j hj
  refine⟨c,h8,fun i u hu=> ?_⟩
  have h10:=h9 i u hu
  rw[←h7]at h10
  rw[add_mk]
  simp only[World.cell?,hh]
  have h11:=(List.getElem?_eq_some_iff.1 h10).1
  rw[List.getElem?_take]at h10
  split at h10
  ·simpa using h10
  ·cases h10
theorem Own.retag(h:Own K e σ t w v xs)(t':Nat)(ht:1≤t): ∃σ',Ev t (t+1) σ w σ' w∧Own K e σ' t' w v xs:=by
 obtain⟨cs,h1,h2,h3⟩:=h
 refine⟨fun b=>if σ b=t then t' else σ b,?_,?_⟩
 ·exact⟨rfl,rfl,rfl,fun _=>Nat.le_refl _,Nat.le_refl _,fun b hb hn=>⟨if_neg (by omega),rfl⟩⟩
 ·refine⟨cs,h1,fun g hg=>by simp[h2 g hg],?_⟩
  refine h3.ev (lo:=t) (hi:=t+1) (σ':=fun b=>if σ b=t then t' else σ b) (w':=w) ?_ ht
  exact⟨rfl,rfl,rfl,fun _=>Nat.le_refl _,Nat.le_refl _,fun b hb hn=>⟨if_neg (by omega),rfl⟩⟩
theorem ev_grown{row:Option Nat}(hg:w.grownBy w' row)(hdr:w.drawn≤w'.drawn)(hr: ∀g,row=some g→σ g=t)(s:Nat):Ev t (t+1) σ w (fun b=>if b<w.heap.size then σ b else s) w':=
 ⟨hg.os,hg.tape,hg.output,fun _=>hdr,hg.size,fun b hb hn=>⟨if_pos hb,hg.block b hb (fun e=>hn (by rw[hr b e.symm];omega))⟩⟩
end
end Go.Vk
/- The walk's own words,part 3: steps of a region that touch memory. No statement of its own. -/
namespace Go.Vk
open Go.RowKit
variable [Dr]
def scalarB(P:Program)(t:TypeId):Bool:=match P.underlying t with
 |some (.struct _)|some (.array ..)|none=>false
 |_=>true
def aggB(P:Program)(t:TypeId):Bool:=match P.underlying t with
 |some (.struct _)|some (.array ..)=>true
 |_=>false
section runs
variable {P : Program} {w : World}
omit [Dr] in
theorem run_isAgg_false{t:TypeId}(h:scalarB P t=true):(isAgg t).run P w= .ok false w:=by
 unfold scalarB at h
 cases hu:P.underlying t with
 |none=>simp[hu]at h
 |some d=>
  simp only[hu]at h
  cases d<;>first|(simp at h;done)|simp[isAgg,run_underlying hu]
omit [Dr] in
theorem run_isAgg_true{t:TypeId}(h:aggB P t=true):(isAgg t).run P w= .ok true w:=by
 unfold aggB at h
 cases hu:P.underlying t with
 |none=>simp[hu]at h
 |some d=>
  simp only[hu]at h
  cases d<;>first|(simp at h;done)|simp[isAgg,run_underlying hu]
omit [Dr] in
theorem run_sizeOf{t:TypeId}{n:Nat}(h:(P.info? t).map (·.size)=some n):(sizeOf t).run P w= .ok n w:=by
 obtain⟨i,hi,rfl⟩:=Option.map_eq_some_iff.1 h
 simp[sizeOf,typeInfo,hi]
omit [Dr] in
theorem run_loadVar1{t:TypeId}{a:Addr}{v:Value}(hT:scalarB P t=true)(h:w.cell? a=some v):(loadVar t a).run P w= .ok v w:=by
 simp[loadVar,run_isAgg_false hT,load,Sem.run,h]
omit [Dr] in
theorem run_loadVarN{t:TypeId}{a:Addr}{cs:List Value}(hT:aggB P t=true)(hs:(P.info? t).map (·.size)=some cs.length)(h: ∀j v,cs[j]? =some v→w.cell? (a.add j)=some v):
  (loadVar t a).run P w= .ok (.agg cs.toArray) w:=by
 simp[loadVar,run_isAgg_true hT,run_sizeOf hs,run_loadCells_list w a cs h]
end runs
section steps
variable {P : Program} {ops : Array Oper} {Q : Exit → Act → World → Prop} {o : Oper} {rest : List Oper} {a : Act} {w : World}
def putCells(cs:Array Value)(i:Nat):List Value→Array Value
 | []=>cs
 |v::vs=>putCells (cs.setIfInBounds i v) (i+1) vs
theorem run_storeCells_blk{σ:Gh}{t b:Nat}{T:TypeId}(i:Nat): ∀(vs:List Value) (j:Nat) (cs:Array Value) (w:World),Blk σ t w b T cs→i+j+vs.length≤cs.size→(∀v∈vs,v.oneCell'=true)→
  ∃w',(storeCells ⟨b,i,none⟩ vs j).run P w= .ok () w'∧Ev t (t+1) σ w σ w'∧Blk σ t w' b T (putCells cs (i+j) vs)
 | [],j,cs,w,hB,_,_=>⟨w,by simp[storeCells],Ev.refl ..,hB⟩
 |v::vs,j,cs,w,hB,hl,h1=>by
  have hlen:(v::vs).length=vs.length+1:=rfl
  have hi:i+j<cs.size:=by omega
  have hc:w.cell? ⟨b,i+j,none⟩=some (cs[i+j]):=by rw[hB.cell];exact Array.getElem?_eq_getElem hi
  have hf:=hB.frozen (i+j)
  obtain⟨w',h2,h3,h4⟩:=run_storeCells_blk i vs (j+1) (cs.setIfInBounds (i+j) v) (w.setCell ⟨b,i+j,none⟩ v) (hB.set_ _ _) (by simp;omega) (fun u hu=>h1 u (by simp[hu]))
  refine⟨w',?_,(hB.ev_set _ _).trans h3,h4⟩
  have hv:=h1 v (by simp)
  cases v<;>first|(simp[Value.oneCell']at hv;done)|simp[storeCells,store,add_mk,Sem.run,hc,hf,h2]
end steps
section
variable {α : Type} {K : Kd α} {e : TypeId} {σ : Gh} {t : Nat} {w : World}
theorem own_blk{b:Nat}{cs:Array Value}{xs:List α}{n:Nat}(h:Blk σ t w b e cs)(hn:xs.length=n)(hm:n≤1099511627776)(hr:Reps K σ w xs cs.toList):Own K e σ t w (.slice (some ⟨b,0,none⟩) n n) xs:=by
 subst hn
 have hl:=hr.len
 refine⟨cs.toList,⟨hl,.inr ⟨b,xs.length,cs,rfl,Nat.zero_le _,h.2,Nat.le_refl _,by simp only[maxLen];omega,by simpa using hl,?_⟩⟩,fun g hg=> ?_,hr⟩
 ·rw[←hl];exact List.take_length
 ·have:b=g:=by simpa[Value.ownBlock]using hg
  subst this;exact h.1
theorem Rd.cells: ∀{xs:List α} {ad:Addr},(∀j (h:j<xs.length),∃cs,K.rep σ w xs[j] cs∧∀i u,cs[i]? =some u→w.cell? (ad.add (j*K.sz+i))=some u)→
  ∃cs,Reps K σ w xs cs∧∀j u,cs[j]? =some u→w.cell? (ad.add j)=some u
 | [],ad,_=>⟨[],rfl,fun j u h=>by simp at h⟩
 |x::xs,ad,h=>by
  obtain⟨c,h1,h2⟩:=h 0 (by simp)
  obtain⟨r,h3,h4⟩:=Rd.cells (xs:=xs) (ad:=ad.add K.sz) (fun j hj=>by
   obtain⟨cs,h5,h6⟩:=h (j+1) (by simpa using hj)
   refine⟨cs,by simpa using h5,fun i u hu=> ?_⟩
   rw[add_add]
   have:=h6 i u hu
   rwa[show(j+1)*K.sz+i=K.sz+(j*K.sz+i)by rw[Nat.add_mul];omega]at this)
  have hc:=K.len h1
  refine⟨c++r,⟨c,r,rfl,h1,h3⟩,fun j u hu=> ?_⟩
  rcases Nat.lt_or_ge j c.length with hj|hj
  ·rw[List.getElem?_append_left hj]at hu
   have:=h2 j u hu
   rwa[Nat.zero_mul,Nat.zero_add]at this
  ·rw[List.getElem?_append_right hj]at hu
   have:=h4 _ u hu
   rw[add_add]at this
   rwa[show K.sz+(j - c.length)=j by omega]at this
end
section
variable {P : Program} {ops : Array Oper} {Q : Exit → Act → World → Prop} {o : Oper} {rest : List Oper} {a : Act} {w : World}
end
theorem Rd.at2{α:Type}{K:Kd α}{σ:Gh}{t:Nat}{w:World}{A:Option Addr}{xs:List α}(h:Rd K σ t w A xs)(i:Int)(h0:0≤i)(h1:i<xs.length)(d:α): ∃ad cs,A=some ad∧K.rep σ w (xs.getD i.toNat d) cs∧
  ∀j u,cs[j]? =some u→w.cell? ((ad.add (i.toNat*K.sz)).add j)=some u:=by
 obtain⟨ad,cs,e1,_,_,e2,e3⟩:=h.at i h0 h1 d
 exact⟨ad,cs,e1,e2,fun j u hu=>by rw[add_add];exact e3 j u hu⟩
omit [Dr] in
theorem add_zero(a:Addr):a.add 0=a:=rfl
omit [Dr] in
theorem idxS{i n:Int}(h:(decide (0≤i) && decide (i<n))=true):0≤i∧i<n:=by
 simp only[Bool.and_eq_true,decide_eq_true_eq]at h;exact h
end Go.Vk
/- The walk's own words,part 4: a region that draws its order. No statement of its own. -/
namespace Go.Vk
variable [Dr]
open Go.RowKit
/-! ### which operations lie ahead of which -/
def bindsE(e:Edge):Bool:=match e.ground with| .textOnly _| .gcOnly _=>false|_=>true
def edg(o:Oper):List Edge:=o.after.toList.filter bindsE
omit [Dr] in
theorem edg_mem{o:Oper}{e:Edge}(h:e∈edg o):e∈o.after:=by
 have:=(List.mem_filter.1 h).1
 simpa using this
omit [Dr] in
theorem edg_binds{o:Oper}{e:Edge}(h:e∈edg o):Region.binds .any e=true:=by
 have:=(List.mem_filter.1 h).2
 unfold bindsE at this
 unfold Region.binds
 cases hg:e.ground<;>simp[hg]at this⊢
omit [Dr] in
theorem binds_edg{o:Oper}{e:Edge}(h:e∈o.after)(hb:Region.binds .any e=true):e∈edg o:=by
 refine List.mem_filter.2 ⟨by simpa using h,?_⟩
 unfold bindsE
 unfold Region.binds at hb
 cases hg:e.ground<;>simp[hg]at hb⊢
def maskOf(acc:List Nat)(o:Oper):Nat:=(edg o).foldl (fun s e=>s|||2 ^ e.on|||acc.getD e.on 0) 0
def masks:List Oper→List Nat→List Nat
 | [],acc=>acc
 |o::l,acc=>masks l (acc++ [maskOf acc o])
omit [Dr] in
theorem testBit_fold(acc:List Nat)(j:Nat): ∀(es:List Edge) (s:Nat),(es.foldl (fun s e=>s|||2 ^ e.on|||acc.getD e.on 0) s).testBit j=true→
  s.testBit j=true∨∃e∈es,e.on=j∨(acc.getD e.on 0).testBit j=true
 | [],s,h=> .inl h
 |e::es,s,h=>by
  rcases testBit_fold acc j es _ h with h|⟨e',he,h⟩
  ·rw[Nat.testBit_or,Nat.testBit_or,Bool.or_eq_true,Bool.or_eq_true]at h
   rcases h with(h|h)|h
   ·exact .inl h
   ·rw[Nat.testBit_two_pow]at h
    exact .inr ⟨e,by simp,.inl (by simpa using h)⟩
   ·exact .inr ⟨e,by simp,.inr h⟩
  ·exact .inr ⟨e',by simp[he],h⟩
omit [Dr] in
theorem mask_closed(S:Nat→Prop): ∀(l pre:List Oper) (acc:List Nat),acc.length=pre.length→(∀(i:Nat) (o:Oper),(pre++l)[i]? =some o→S i→∀e∈edg o,S e.on)→
  (∀(i:Nat) (o:Oper),(pre++l)[i]? =some o→∀e∈edg o,e.on<i)→
  (∀(i:Nat) (o:Oper) (j:Nat),pre[i]? =some o→(∀e∈edg o,S e.on)→(acc.getD i 0).testBit j=true→S j)→
  ∀(i:Nat) (o:Oper) (j:Nat),(pre++l)[i]? =some o→(∀e∈edg o,S e.on)→((masks l acc).getD i 0).testBit j=true→S j
 | [],pre,acc,_,_,_,hp,i,o,j,hi,he,hb=>hp i o j (by simpa using hi) he hb
 |x::l,pre,acc,hl,hc,hlt,hp,i,o,j,hi,he,hb=>by
  have ha:pre++x::l=(pre++ [x])++l:=by simp
  rw[ha]at hc hlt hi
  refine mask_closed S l (pre++ [x]) (acc++ [maskOf acc x]) (by simp[hl]) hc hlt ?_ i o j hi he hb
  intro i o j hi he hb
  rcases Nat.lt_or_ge i pre.length with h|h
  ·rw[List.getElem?_append_left h]at hi
   refine hp i o j hi he ?_
   rwa[List.getD_eq_getElem?_getD,List.getElem?_append_left (by omega),←List.getD_eq_getElem?_getD]at hb
  ·have hi':i=pre.length:=by
    have:=(List.getElem?_eq_some_iff.1 hi).1
    simp at this;omega
   subst hi'
   have hx:o=x:=by simpa using hi.symm
   subst hx
   have hbb:(maskOf acc o).testBit j=true:=by
    rw[List.getD_eq_getElem?_getD,List.getElem?_append_right (by omega),hl]at hb
    simpa using hb
   rcases testBit_fold acc j _ _ hbb with h0|⟨e,hem,h0⟩
   ·simp at h0
   ·rcases h0 with h0|h0
    ·subst h0;exact he e hem
    ·have hlt':e.on<pre.length:=hlt pre.length o (by simp) e hem
     obtain⟨o',ho'⟩: ∃o',pre[e.on]? =some o':=⟨_,List.getElem?_eq_getElem hlt'⟩
     refine hp e.on o' j ho' (fun e' he'=>hc e.on o' ?_ (he e hem) e' he') h0
     rw[List.append_assoc,List.getElem?_append_left hlt']
     exact ho'
/-! ### what an operation gives,whatever the frame -/
def OpGives(P:Program)(ρ:Operand→Value)(o:Oper)(w:World)(R:Value→Gh→World→Prop):Prop:=
 match(execOp ρ o).run P w with
 | .ok (.value v) w'=> ∃σ',R v σ' w'
 | .ok .skip w'=> ∃σ',R undef σ' w'
 | .ok (.enter f args) w'=>Calls P f args w' fun e w''=> ∃v σ',e= .returned v∧R v σ' w''
 |_=>False
omit [Dr] in
theorem OpGives.val{P:Program}{ρ:Operand→Value}{o:Oper}{w w':World}{v:Value}{R:Value→Gh→World→Prop}(σ':Gh)(h:(execOp ρ o).run P w= .ok (.value v) w')(hR:R v σ' w'):OpGives P ρ o w R:=by
 unfold OpGives;rw[h];exact⟨σ',hR⟩
omit [Dr] in
theorem OpGives.unit{P:Program}{ρ:Operand→Value}{o:Oper}{w w':World}{R:Value→Gh→World→Prop}(σ':Gh)(h:(execOp ρ o).run P w= .ok .skip w')(hR:R undef σ' w'):OpGives P ρ o w R:=by
 unfold OpGives;rw[h];exact⟨σ',hR⟩
theorem OpGives.call {P:Program} {ρ:Operand→Value} {o:Oper} {σ:Gh} {w:World} {f:FuncId} {args:Array Value} {lo hi:Nat} {R R':Value→Gh→World→Prop} (h:(execOp ρ o).run P w= .ok (.enter f args) w) (hc:Gives P f args lo hi σ w R')
  (k: ∀v σ' w',Ev lo hi σ w σ' w'→R' v σ' w'→R v σ' w'):OpGives P ρ o w R:=by
 unfold OpGives;rw[h]
 refine Calls.mono hc ?_
 rintro e w' ⟨v,σ',rfl,he,hR⟩
 exact⟨v,σ',rfl,k v σ' w' he hR⟩
omit [Dr] in
theorem OpGives.wp{P:Program}{o:Oper}{a:Act}{w:World}{R:Value→Gh→World→Prop}{K:Act→World→Prop}{Q:Exit→Act→World→Prop}(h:OpGives P a.eval o w R)(hk: ∀v σ' w',R v σ' w'→K (a.put o.dst v) w'):o.wp P a w K Q:=by
 unfold OpGives at h
 unfold Oper.wp
 generalize (execOp a.eval o).run P w=r at h⊢
 cases r with
 |halt x w'=>exact h.elim
 |ok nx w'=>
  cases nx<;>first|exact h.elim|skip
  ·obtain⟨σ',hR⟩:=h
   rw[Oper.upon_value];exact hk _ _ _ hR
  ·obtain⟨σ',hR⟩:=h
   rw[Oper.upon_skip];exact hk _ _ _ hR
  ·rw[Oper.upon_enter]
   refine Calls.mono h ?_
   rintro e w'' ⟨v,σ',rfl,hR⟩
   exact hk _ _ _ hR
/-! ### frames -/
def slotsOf(vs:Nat→Value)(det:List (Option Value))(S:Nat→Bool):Nat→List Oper→Array Value→Array Value
 |_,[],t=>t
 |k,o::l,t=>slotsOf vs det S (k+1) l (match S k,o.dst with
  |true,some d=>t.setIfInBounds d ((det.getD k none).getD (vs k))
  |_,_=>t)
section
variable {vs vs' : Nat → Value} {det : List (Option Value)} {S S' : Nat → Bool}
omit [Dr] in
theorem slotsOf_get(x:Nat): ∀(l:List Oper) (k:Nat) (t t':Array Value),t[x]? =t'[x]? →(∀j o,l[j]? =some o→o.dst=some x→S (k+j)=S' (k+j))→(slotsOf vs det S k l t)[x]? =(slotsOf vs det S' k l t')[x]?
 | [],k,t,t',h,_=>h
 |o::l,k,t,t',h,hs=>by
  rw[slotsOf,slotsOf]
  refine slotsOf_get x l (k+1) _ _ ?_ (fun j o' ho hd=>by have:=hs (j+1) o' (by simpa using ho) hd;rwa[show k+1+j=k+(j+1)by omega])
  cases hd:o.dst with
  |none=>cases S k<;>cases S' k<;>exact h
  |some d=>
   by_cases hx:d=x
   ·subst hx
    have h0:S k=S' k:=hs 0 o rfl hd
    rw[←h0]
    cases S k
    ·exact h
    ·have hsz:(d<t.size)↔(d<t'.size):=by
      constructor
      ·intro h1
       rw[Array.getElem?_eq_getElem h1]at h
       exact(Array.getElem?_eq_some_iff.1 h.symm).1
      ·intro h1
       rw[Array.getElem?_eq_getElem h1]at h
       exact(Array.getElem?_eq_some_iff.1 h).1
     simp only[Array.getElem?_setIfInBounds,if_true,hsz]
   ·cases S k<;>cases S' k<;>simp[Array.getElem?_setIfInBounds,hx,h]
omit [Dr] in
theorem slotsOf_vs: ∀(l:List Oper) (k:Nat) (t:Array Value),(∀j,S (k+j)=true→vs (k+j)=vs' (k+j))→slotsOf vs det S k l t=slotsOf vs' det S k l t
 | [],k,t,_=>rfl
 |o::l,k,t,h=>by
  rw[slotsOf,slotsOf]
  have h0:=h 0
  rw[Nat.add_zero]at h0
  have:(match S k,o.dst with|true,some d=>t.setIfInBounds d ((det.getD k none).getD (vs k))|_,_=>t)=(match S k,o.dst with|true,some d=>t.setIfInBounds d ((det.getD k none).getD (vs' k))|_,_=>t):=by
   cases hs:S k
   ·rfl
   ·rw[h0 hs]
  rw[this]
  exact slotsOf_vs l (k+1) _ (fun j hj=>by have:=h (j+1);rw[show k+1+j=k+(j+1)by omega]at hj⊢;exact this hj)
omit [Dr] in
theorem slotsOf_set(d:Nat)(v:Value): ∀(l:List Oper) (k:Nat) (t:Array Value),(∀o∈l,o.dst≠some d)→slotsOf vs det S k l (t.setIfInBounds d v)=(slotsOf vs det S k l t).setIfInBounds d v
 | [],k,t,_=>rfl
 |o::l,k,t,h=>by
  rw[slotsOf,slotsOf,←slotsOf_set d v l (k+1) _ (fun o' ho=>h o' (by simp[ho]))]
  congr 1
  have h0:=h o (by simp)
  cases S k with
  |false=>rfl
  |true=>
   cases hd:o.dst with
   |none=>rfl
   |some c=>exact Array.setIfInBounds_comm _ _ (fun e=>h0 (by rw[hd,e]))
end
omit [Dr] in
theorem slotsOf_add{det:List (Option Value)}(v:Value)(i:Nat): ∀(l:List Oper) (k:Nat) (t:Array Value) (vs:Nat→Value) (S:Nat→Bool) (o:Oper),k≤i→l[i - k]? =some o→S i=false→(∀j o',l[j]? =some o'→k+j≠i→∀d,o.dst=some d→o'.dst≠some d)→
  slotsOf (fun q=>if q=i then v else vs q) det (fun q=>if q=i then true else S q) k l t=(match o.dst with
   |some d=>(slotsOf vs det S k l t).setIfInBounds d ((det.getD i none).getD v)
   |none=>slotsOf vs det S k l t)
 | [],k,t,vs,S,o,_,ho,_,_=>by simp at ho
 |x::l,k,t,vs,S,o,hk,ho,hS,hu=>by
  rcases Nat.eq_or_lt_of_le hk with he|hlt
  ·subst he
   have hx:x=o:=by simpa using ho
   subst hx
   have hrest: ∀t':Array Value,slotsOf (fun q=>if q=k then v else vs q) det (fun q=>if q=k then true else S q) (k+1) l t'=slotsOf vs det S (k+1) l t':=by
    intro t'
    rw[slotsOf_vs (vs':=vs) l (k+1) t' (fun j _=>if_neg (by omega))]
    apply Array.ext_getElem?
    intro y
    exact slotsOf_get y l (k+1) t' t' rfl (fun j o' _ _=>if_neg (by omega))
   rw[slotsOf,slotsOf,hrest]
   simp only[if_true,hS]
   cases hd:x.dst with
   |none=>rfl
   |some d=>
    simp only
    exact slotsOf_set d _ l (k+1) t (fun o' ho' e=>by
     obtain⟨j,hj,hje⟩:=List.getElem_of_mem ho'
     exact hu (j+1) o' (by simp[←hje]) (by omega) d hd e)
  ·have ho2:l[i - (k+1)]? =some o:=by
    rw[show i - k=(i - (k+1))+1 by omega]at ho
    simpa using ho
   have ih:=slotsOf_add (det:=det) v i l (k+1) (match S k,x.dst with|true,some d=>t.setIfInBounds d ((det.getD k none).getD (vs k))|_,_=>t) vs S o hlt ho2 hS
    (fun j o' hj hne d hd=>hu (j+1) o' (by simpa using hj) (by omega) d hd)
   rw[slotsOf,slotsOf]
   have hne:k≠i:=by omega
   simp only[if_neg hne]
   exact ih
/-! ### the region -/
def regionOk(l:List Oper)(m:Nat):Bool:=
 let ms:=masks l []
 (l.zipIdx.all fun(o,i)=>(edg o).all fun e=>decide (e.on<i)) &&
 (l.zipIdx.all fun(o,i)=>l.zipIdx.all fun(p,j)=>i==j||o.dst.isNone||o.dst !=p.dst) &&
 (l.zipIdx.all fun(o,i)=>l.zipIdx.all fun(p,j)=>match p.dst with
  |none=>true
  |some d=> !(o.looksAt l.toArray).contains d||(if j<i then(ms.getD i 0).testBit j else if i<j then(ms.getD j 0).testBit i else true)) &&
 (l.zipIdx.all fun(_,i)=>decide (i<m)||(List.range i).all fun j=>(ms.getD i 0).testBit j) &&
 (l.all fun o=>match o.op with| .select .. =>false|_=>true)
structure ROk(l:List Oper)(m:Nat):Prop where
 lt: ∀(i:Nat) (o:Oper),l[i]? =some o→∀e∈edg o,e.on<i
 dst: ∀(i j:Nat) (o p:Oper),l[i]? =some o→l[j]? =some p→i≠j→∀d,o.dst=some d→p.dst≠some d
 rd: ∀(i j:Nat) (o p:Oper) (d:Tmp),l[i]? =some o→l[j]? =some p→p.dst=some d→d∈o.looksAt l.toArray→(j<i→((masks l []).getD i 0).testBit j=true)∧(i<j→((masks l []).getD j 0).testBit i=true)
 tail: ∀(i:Nat) (o:Oper),l[i]? =some o→m≤i→∀j,j<i→((masks l []).getD i 0).testBit j=true
 sel: ∀o∈l,∀cs b,o.op≠ .select cs b
omit [Dr] in
theorem rok_of{l:List Oper}{m:Nat}(h:regionOk l m=true):ROk l m:=by
 simp only[regionOk,Bool.and_eq_true]at h
 obtain⟨⟨⟨⟨h2,h3⟩,h4⟩,h5⟩,h6⟩:=h
 have zi: ∀(i:Nat) (o:Oper),l[i]? =some o→(o,i)∈l.zipIdx:=fun i o ho=>by
  rw[List.mem_zipIdx_iff_getElem?];exact ho
 refine⟨?_,?_,?_,?_,?_⟩
 ·intro i o ho e he
  have:=List.all_eq_true.1 (List.all_eq_true.1 h2 (o,i) (zi i o ho)) e he
  simpa using this
 ·intro i j o p ho hp hne d hd e
  have:=List.all_eq_true.1 (List.all_eq_true.1 h3 (o,i) (zi i o ho)) (p,j) (zi j p hp)
  simp[hne,hd,e]at this
 ·intro i j o p d ho hp hd hl
  have:=List.all_eq_true.1 (List.all_eq_true.1 h4 (o,i) (zi i o ho)) (p,j) (zi j p hp)
  simp only[hd,Bool.or_eq_true,Bool.not_eq_true',List.contains_eq_mem,decide_eq_false_iff_not]at this
  rcases this with this|this
  ·exact absurd hl this
  ·constructor
   ·intro hji;rwa[if_pos hji]at this
   ·intro hij;rwa[if_neg (by omega),if_pos hij]at this
 ·intro i o ho hm j hj
  have:=List.all_eq_true.1 h5 (o,i) (zi i o ho)
  simp only[Bool.or_eq_true,decide_eq_true_eq]at this
  rcases this with this|this
  ·omega
  ·exact List.all_eq_true.1 this j (by simpa using hj)
 ·intro o ho cs b e
  have:=List.all_eq_true.1 h6 o ho
  simp[e]at this
end Go.Vk
/- The walk's own words,part 5: a region that draws its order,whatever it draws. No statement of its own. -/
namespace Go.Vk
open Go.RowKit
variable [Dr]
section
variable {P : Program} {l : List Oper} {m : Nat} {det : List (Option Value)} {base : Array Value} {Q : Exit → Act → World → Prop}
omit [Dr] in
theorem looks_same {vs:Nat→Value} {S:Nat→Bool} {i:Nat} {o:Oper} (hok:ROk l m) (ho:l[i]? =some o) (hS:S i=false)
  (hd: ∀j,((masks l []).getD i 0).testBit j=true→S j=true) (hcl: ∀j p,l[j]? =some p→S j=true→∀q,((masks l []).getD j 0).testBit q=true→S q=true) (x:Tmp) (hx:x∈o.looksAt l.toArray):
  (slotsOf vs det S 0 l base)[x]? =(slotsOf vs det (fun q=>decide (q<i)) 0 l base)[x]? :=by
 refine slotsOf_get x l 0 base base rfl (fun j p hp hpd=> ?_)
 rw[Nat.zero_add]
 obtain⟨h1,h2⟩:=hok.rd i j o p x ho hp hpd hx
 rcases Nat.lt_trichotomy j i with h|h|h
 ·rw[hd j (h1 h)];simp[h]
 ·subst h;rw[hS];simp
 ·have:S j=false:=by
   cases hj:S j
   ·rfl
   ·rw[hcl j p hp hj i (h2 h)]at hS;exact hS
  rw[this];simp;omega
omit [Dr] in
theorem exec_same{tmps tmps':Array Value}{ops:Array Oper}{o:Oper}(hs: ∀cs b,o.op≠ .select cs b)(h: ∀x∈o.looksAt ops,tmps[x]? =tmps'[x]?):execOp (Act.eval ⟨tmps,[]⟩) o=execOp (Act.eval ⟨tmps',[]⟩) o:=by
 refine execOp_congr o hs (fun x hx=> ?_)
 cases x with
 |tmp t=>
  have ht:t∈o.looksAt ops:=by
   unfold Oper.looksAt
   refine List.mem_append.2 (.inl (List.mem_filterMap.2 ⟨.tmp t,by simpa using hx,rfl⟩))
  have:=h t ht
  simp only[Act.eval,Array.getD_eq_getD_getElem?,this]
 |_=>rfl
omit [Dr] in
theorem wanted_same{tmps tmps':Array Value}{ops:Array Oper}{o:Oper}(h: ∀x∈o.looksAt ops,tmps[x]? =tmps'[x]?):Region.wanted o (yielded ops tmps)=Region.wanted o (yielded ops tmps'):=by
 unfold Region.wanted
 cases hg:o.guard with
 |none=>rfl
 |some g=>
  obtain⟨j,b⟩:=g
  simp only
  have:yielded ops tmps j=yielded ops tmps' j:=by
   unfold yielded
   cases hd:(ops[j]?).bind (·.dst)with
   |none=>rfl
   |some d=>
    have hx:d∈o.looksAt ops:=by
     unfold Oper.looksAt
     rw[hg]
     exact List.mem_append.2 (.inr (by simp[hd]))
    simp only[Option.bind_some,h d hx]
  rw[this]
omit [Dr] in
theorem OpGives.congr{ρ ρ':Operand→Value}{o:Oper}{w:World}{R:Value→Gh→World→Prop}(h:execOp ρ o=execOp ρ' o)(hg:OpGives P ρ o w R):OpGives P ρ' o w R:=by
 unfold OpGives at hg⊢
 rw[←h];exact hg
omit [Dr] in
theorem any_tail(hok:ROk l m): ∀(f k:Nat) (listed:Array Bool) (a:Act) (w:World),f=l.length - k→m≤k→k≤l.length→listed.size=l.length→(∀j,listed.getD j false=decide (j<k))→
  wpList P l.toArray Q (l.drop k) a w→wpAny P .any l.toArray Q f listed a w:=by
 intro f
 induction f with
 |zero=>
  intro k listed a w hf hm hk hsz hl h
  have:l.drop k= []:=List.drop_eq_nil_of_le (by omega)
  rw[this]at h
  refine⟨?_,h⟩
  cases hr:Region.ready .any l.toArray listed with
  |nil=>rfl
  |cons x xs=>
   have hx:x∈Region.ready .any l.toArray listed:=by rw[hr];simp
   obtain⟨h1,o,ho,_⟩:=mem_ready.1 hx
   have hlt:x<l.length:=by have:=(Array.getElem?_eq_some_iff.1 ho).1;simpa using this
   have:=hl x
   rw[Array.getD_eq_getD_getElem?,Array.getElem?_eq_getElem (by omega)]at this h1
   simp only[Option.getD_some]at this h1
   rw[h1]at this
   simp at this;omega
 |succ f ih=>
  intro k listed a w hf hm hk hsz hl h
  have hlt:k<l.length:=by omega
  have hdrop:l.drop k=l[k]::l.drop (k+1):=List.drop_eq_getElem_cons hlt
  have hready: ∀i,i∈Region.ready .any l.toArray listed↔i=k:=by
   intro i
   rw[mem_ready]
   constructor
   ·rintro⟨h1,o,ho,he⟩
    have hi:i<l.length:=by have:=(Array.getElem?_eq_some_iff.1 ho).1;simpa using this
    have ho':l[i]? =some o:=by simpa using ho
    have h2:=hl i
    rw[Array.getD_eq_getD_getElem?,Array.getElem?_eq_getElem (by omega)]at h1 h2
    simp only[Option.getD_some]at h1 h2
    rw[h1]at h2
    have hki:k≤i:=by simp at h2;omega
    rcases Nat.eq_or_lt_of_le hki with e|hgt
    ·exact e.symm
    ·have hb:=hok.tail i o ho' (by omega) k hgt
     have:=mask_closed (fun j=>listed.getD j false=true) l [] [] rfl (fun i o ho hSi e he=>by
      rw[hl]at hSi⊢
      have:=hok.lt i o (by simpa using ho) e he
      simp at hSi⊢;omega) (fun i o ho e he=>hok.lt i o (by simpa using ho) e he) (fun i o j h=>by simp at h) i o k (by simpa using ho')
      (fun e hem=>he e (edg_mem hem) (edg_binds hem)) hb
     rw[hl]at this
     simp at this
   ·rintro rfl
    refine⟨?_,l[i],by simp[hlt],fun e he hb=> ?_⟩
    ·have:=hl i
     rw[Array.getD_eq_getD_getElem?,Array.getElem?_eq_getElem (by omega)]at this⊢
     simp only[Option.getD_some]at this⊢
     rw[this];simp
    ·rw[hl]
     have:=hok.lt i l[i] (by simp[hlt]) e (binds_edg he hb)
     simpa using this
  refine⟨fun hr=> ?_,fun i hi=> ?_⟩
  ·have:=(hready k).2 rfl
   rw[hr]at this;cases this
  ·obtain rfl:=(hready i).1 hi
   rw[hdrop]at h
   have hsel:=hok.sel
   have hnext: ∀a w,wpList P l.toArray Q (l.drop (i+1)) a w→wpAny P .any l.toArray Q f (listed.setIfInBounds i true) a w:=by
    intro a w h
    refine ih (i+1) _ a w (by omega) (by omega) (by omega) (by simpa using hsz) (fun j=> ?_) h
    by_cases hj:i=j
    ·subst hj
     rw[Array.getD_eq_getD_getElem?,Array.getElem?_setIfInBounds_self_of_lt (by omega)]
     simp
    ·rw[getD_set_ne false hj,hl]
     by_cases h1:j<i
     ·simp[h1];omega
     ·simp[h1];omega
   unfold wpOp
   have ho:l.toArray[i]? =some l[i]:=by simp[hlt]
   simp only[ho]
   unfold wpList at h
   split
   ·rename_i hw
    rw[if_pos hw]at h
    exact h.imp (Oper.wp_mono hnext) id
   ·rename_i hw
    rw[if_neg hw]at h
    exact hnext _ _ h
end
end Go.Vk
/- The walk's own words,part 6: a region that draws its order,all values told ahead but for some. No statement of its own. -/
namespace Go.Vk
variable [Dr]
open Go.RowKit
omit [Dr] in
theorem OpGives.mono{P:Program}{ρ:Operand→Value}{o:Oper}{w:World}{R R':Value→Gh→World→Prop}(h:OpGives P ρ o w R)(k: ∀v σ' w',R v σ' w'→R' v σ' w'):OpGives P ρ o w R':=by
 unfold OpGives at h⊢
 generalize (execOp ρ o).run P w=r at h⊢
 cases r with
 |halt x w'=>exact h.elim
 |ok nx w'=>
  cases nx<;>first|exact h.elim|skip
  ·obtain⟨σ',h⟩:=h
   exact⟨σ',k _ _ _ h⟩
  ·obtain⟨σ',h⟩:=h
   exact⟨σ',k _ _ _ h⟩
  ·refine Calls.mono h ?_
   rintro e w'' ⟨v,σ',rfl,h⟩
   exact⟨v,σ',rfl,k _ _ _ h⟩
section
variable {P : Program} {det : List (Option Value)} {V : Nat → Value → Gh → World → Prop} {i : Nat} {ρ : Operand → Value} {o : Oper} {σ : Gh} {w : World} {d : Value}
end
section
variable {P : Program} {l : List Oper} {base : Array Value} {Q : Exit → Act → World → Prop}
end
section exs
variable {P : Program} {o : Oper} {w : World} {ρ : Operand → Value}
omit [Dr] in
theorem ex_load1{t:TypeId}{x:Operand}{p:Addr}{v:Value}(ho:o.op= .load t x)(hx:ρ x= .pointer (some p))(hT:scalarB P t=true)(hc:w.cell? p=some v):(execOp ρ o).run P w= .ok (.value v) w:=by
 simp[execOp,ho,Instr.loadAt,hx,Instr.sureAddr,run_loadVar1 hT hc]
omit [Dr] in
theorem ex_loadN{t:TypeId}{x:Operand}{p:Addr}{cs:List Value}(ho:o.op= .load t x)(hx:ρ x= .pointer (some p))(hT:aggB P t=true)(hs:(P.info? t).map (·.size)=some cs.length)(hc: ∀j v,cs[j]? =some v→w.cell? (p.add j)=some v):
  (execOp ρ o).run P w= .ok (.value (.agg cs.toArray)) w:=by
 simp[execOp,ho,Instr.loadAt,hx,Instr.sureAddr,run_loadVarN hT hs hc]
omit [Dr] in
theorem ex_index {t e:TypeId} {x ix:Operand} {ad:Addr} {n c:Nat} {k:IntKind} {i:Int} {sz:Nat} (ho:o.op= .indexAddr t x ix)
  (ht:P.underlying t=some (.slice e)) (hs:(P.info? e).map (·.size)=some sz) (hx:ρ x= .slice (some ad) n c) (hi:ρ ix= .int k i) (h0:0≤i) (h1:i<n):
  (execOp ρ o).run P w= .ok (.value (.pointer (some (ad.add (i.toNat*sz))))) w:=by
 simp[execOp,ho,Instr.indexAt,hx,hi,asIntOf,run_underlying ht,h0,h1,run_sizeOf hs]
end exs
theorem Rd.some_{α:Type}{K:Kd α}{σ:Gh}{t:Nat}{w:World}{A:Option Addr}{xs:List α}(h:Rd K σ t w A xs){i:Int}(h0:0≤i)(h1:i<xs.length): ∃ad,A=some ad:=by
 obtain⟨ad,e,_⟩:=h (by omega)
 exact⟨ad,e⟩
theorem flat_cells{α:Type}{sz:Nat}{enc:α→List Value}{hl h1'}{σ:Gh}{t:Nat}{w:World}{ad:Addr}{xs:List α}(h:Rd (Kd.flat sz enc hl h1') σ t w (some ad) xs)(i:Int)(h0:0≤i)(h1:i<xs.length)(d:α):
  ∀j u,(enc (xs.getD i.toNat d))[j]? =some u→w.cell? ((ad.add (i.toNat*sz)).add j)=some u:=by
 obtain⟨ad',cs,e,hrep,hc⟩:=Rd.at2 h i h0 h1 d
 obtain rfl:=Option.some.inj e
 intro j u hu
 exact hc j u (by rw[show cs=enc (xs.getD i.toNat d)from hrep];exact hu)
omit [Dr] in
theorem wl_done{P:Program}{ops:Array Oper}{Q:Exit→Act→World→Prop}{a:Act}{w:World}(h:Q .normal a w):wpList P ops Q [] a w:=h
/-! ### struct equality -/
omit [Dr] in
theorem run_eql_of {P:Program} {ρ:Operand→Value} {o:Oper} {w:World} {x y:Operand} {t u:TypeId} {vx vy:Value} {c:Bool} (ho:o.op= .binOp .eql t x y u) (hx:ρ x=vx) (hy:ρ y=vy)
  (hq:(do eqGuard .eql t x y vx vy;binOp .eql t vx vy:Sem Value).run P w= .ok (.bool c) w):(execOp ρ o).run P w= .ok (.value (.bool c)) w:=by
 subst hx hy
 simp only[execOp,ho,Sem.run_bind,hq]
 rfl
omit [Dr] in
theorem run_neq_of {P:Program} {ρ:Operand→Value} {o:Oper} {w:World} {x y:Operand} {t u:TypeId} {vx vy:Value} {c:Bool} (ho:o.op= .binOp .neq t x y u) (hx:ρ x=vx) (hy:ρ y=vy)
  (hq:(do eqGuard .neq t x y vx vy;binOp .neq t vx vy:Sem Value).run P w= .ok (.bool c) w):(execOp ρ o).run P w= .ok (.value (.bool c)) w:=by
 subst hx hy
 simp only[execOp,ho,Sem.run_bind,hq]
 rfl
omit [Dr] in
theorem eqf1 {P : Program} {w : World} {d : Nat} {xs ys : Array Value} {f : Field} {fs : List Field} {r s : Bool} (a b : Value) (hn : (f.name == "_") = false) (ha : (part f.type xs f.offset).run P w = .ok a w) (hb : (part f.type ys f.offset).run P w = .ok b w)
  (he:(Op.equalIn d f.type a b).run P w= .ok r w) (hr:(Op.eqFields d xs ys fs).run P w= .ok s w):(Op.eqFields d xs ys (f::fs)).run P w= .ok (r && s) w:=by
 have hn' : f.name ≠ "_" := by simpa using hn
 rw[Op.eqFields]
 simp only[if_pos hn',Sem.run_bind,ha,hb,he,Result.andThen_ok]
 cases r
 ·simp
 ·simpa using hr
omit [Dr] in
theorem eqf0{P:Program}{w:World}{d:Nat}{xs ys:Array Value}:(Op.eqFields d xs ys []).run P w= .ok true w:=rfl
omit [Dr] in
theorem eqA{P:Program}{w:World}{d:Nat}{xs ys:Array Value}{t:TypeId}{fs:Array Field}{r:Bool}(hu:P.underlying t=some (.struct fs))(hp:P.stoodInHeld t=false)(h:(Op.eqFields d xs ys fs.toList).run P w= .ok r w):(Op.equalIn (d+1) t (.agg xs) (.agg ys)).run P w= .ok r w:=by
 have hf:P.fieldsOf t=fs:=by simp[Program.fieldsOf,hu]
 rw[run_equalIn_struct (P:=P) w d t xs ys (by rw[hf];exact hu) hp,hf]
 exact h
omit [Dr] in
theorem eq_top{P:Program}{w:World}{t:TypeId}{x y:Operand}{xs ys:Array Value}{c:Bool}(hg:(eqGuard .eql t x y (.agg xs) (.agg ys)).run P w= .ok () w)(he:(Op.equalIn (9999+1) t (.agg xs) (.agg ys)).run P w= .ok c w):
  (do eqGuard .eql t x y (.agg xs) (.agg ys);binOp .eql t (.agg xs) (.agg ys):Sem Value).run P w= .ok (.bool c) w:=by
 have he':(Op.equal t (.agg xs) (.agg ys)).run P w= .ok c w:=he
 simp only[Sem.run_bind,hg,Result.andThen_ok,binOp,he']
 rfl
omit [Dr] in
theorem neq_top{P:Program}{w:World}{t:TypeId}{x y:Operand}{xs ys:Array Value}{c:Bool}(hg:(eqGuard .neq t x y (.agg xs) (.agg ys)).run P w= .ok () w)(he:(Op.equalIn (9999+1) t (.agg xs) (.agg ys)).run P w= .ok c w):
  (do eqGuard .neq t x y (.agg xs) (.agg ys);binOp .neq t (.agg xs) (.agg ys):Sem Value).run P w= .ok (.bool (!c)) w:=by
 have he':(Op.equal t (.agg xs) (.agg ys)).run P w= .ok c w:=he
 simp only[Sem.run_bind,hg,Result.andThen_ok,binOp,he']
 rfl
/-! ### results -/
def resRun(tmps:Array Value):ResultVar→Sem Value
 | .tmp t=>pure (tmps.getD t undef)
 | .cell a t=>do loadVar t (←asAddr (tmps.getD a undef))
section
variable {P : Program} {w : World} {fn : Func} {tmps : Array Value}
end
/-! ### cuts -/
section
variable {P : Program} {ops : Array Oper} {Q : Exit → Act → World → Prop} {o : Oper} {rest : List Oper} {a : Act} {w : World}
def BoundIs(ρ:Operand→Value)(y:Option Operand)(d v:Nat):Prop:=
 match y with
 |none=>v=d
 |some y=> ∃k i,ρ y= .int k i∧i=(v:Int)
omit [Dr] in
theorem ex_slice {ρ:Operand→Value} {t e:TypeId} {x:Operand} {lo hi:Option Operand} {A:Option Addr} {n c l h sz:Nat} (ho:o.op= .slice t x lo hi none) (ht:P.underlying t=some (.slice e)) (hs:(P.info? e).map (·.size)=some sz)
  (hx:ρ x= .slice A n c) (hl:BoundIs ρ lo 0 l) (hh:BoundIs ρ hi n h) (h1:l≤h) (h2:h≤c):
  (execOp ρ o).run P w= .ok (.value (.slice (if c=l then A else A.map (·.add (l*sz))) (h - l) (c - l))) w:=by
 have hsl:(Instr.sliceAt t (ρ x) (lo.map ρ) (hi.map ρ) none).run P w= .ok (.slice (if c=l then A else A.map (·.add (l*sz))) (h - l) (c - l)) w:=by
  have hb:(Instr.sliceBounds true n c (lo.map ρ) (hi.map ρ) none).run P w= .ok (l,h,c) w:=by
   cases lo<;>cases hi<;>simp only[BoundIs]at hl hh
   ·subst hl hh;simp[Instr.sliceBounds]
   ·obtain⟨k,i,hk,rfl⟩:=hh;subst hl
    simp[Instr.sliceBounds,hk,Instr.sliceBound,asIntOf,h2]
   ·obtain⟨k,i,hk,rfl⟩:=hl;subst hh
    simp[Instr.sliceBounds,hk,Instr.sliceBound,asIntOf,h1]
   ·obtain⟨k,i,hk,rfl⟩:=hl;obtain⟨k',i',hk',rfl⟩:=hh
    simp[Instr.sliceBounds,hk,hk',Instr.sliceBound,asIntOf,h1,h2]
  simp[Instr.sliceAt,Instr.slice,run_underlying ht,hx,hb,run_sizeOf hs]
 simp[execOp,ho,hsl]
end
end Go.Vk
