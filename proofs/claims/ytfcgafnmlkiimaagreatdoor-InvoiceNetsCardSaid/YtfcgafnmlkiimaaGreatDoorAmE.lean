/- The abstract machine,part 11: a function that is walked,as a call. No statement of its own. -/
import Derived.Test.YtfcgafnmlkiimaaGreatDoorAmD
import Derived.Test.YtfcgafnmlkiimaaGreatDoorAmC
import Derived.ScopeJumps
import Derived.Shelf.Bytes.SlClone
import Derived.Shelf.Spec.SlicesGrow
set_option linter.unusedSimpArgs false
set_option linter.unusedVariables false
namespace Go.Am
open Go.Vk Go.RowKit
variable [Dr]
/-! ### arguments -/
def encB:(T:Ty)→T.Den→List AV
 | .int k,x=> [.val (.int k x)]
 | .bool,x=> [.val (.bool x)]
 | .str,x=> [.val (.string x)]
 | .slice T,xs=> [.sv false T xs]
 | .pair a b,x=>encB a x.1++encB b x.2
 | .arr T n,xs=>arrC (encB T) (Ty.dfl T) xs 0 n
def decBS(T:Ty)(H:List AB):AV→Option (List T.Den)
 | .val (.slice none 0 0)=>some []
 | .sv _ T' xs=>match tyEq T' T with
  |some ⟨h⟩=>some (castL h xs)
  |none=>none
 | .row r=>match look H r with
  |some (.row T' _ xs)=>match tyEq T' T with
   |some ⟨h⟩=>some (castL h xs)
   |none=>none
  |_=>none
 |_=>none
def decB(H:List AB):(T:Ty)→List AV→Option (T.Den×List AV)
 | .slice T,y::l=>match decBS T H y with
  |some xs=>some (xs,l)
  |none=>none
 | .pair a b,l=>match decB H a l with
  |some (x,l1)=>match decB H b l1 with
   |some (y,l2)=>some ((x,y),l2)
   |none=>none
  |none=>none
 | .int k,l=>dec (.int k) l
 | .bool,l=>dec .bool l
 | .str,l=>dec .str l
 | .arr T n,l=>decI (decB H T) n l
 |_,_=>none
def decBV(H:List AB)(ag:Bool)(T:Ty)(x:AV):Option T.Den:=
 match ag with
 |true=>match x with
  | .agg cs=>whole (decB H T cs)
  | .val (.agg vs)=>whole (decB H T (vs.toList.map .val))
  |_=>none
 |false=>whole (decB H T [x])
def encBV(ag:Bool)(T:Ty)(y:T.Den):AV:=
 match ag with
 |true=> .agg (encB T y)
 |false=>(encB T y).headD .unk
@[reducible] def ADen:List (Bool×Ty)→Type
 | []=>Unit
 | [p]=>p.2.Den
 |p::q::l=>p.2.Den×ADen (q::l)
def decArgs(H:List AB):(ps:List (Bool×Ty))→List AV→Option (ADen ps)
 | [],[]=>some ()
 | [p],[x]=>decBV H p.1 p.2 x
 |p::q::l,x::xs=>match decBV H p.1 p.2 x,decArgs H (q::l) xs with
  |some y,some ys=>some (y,ys)
  |_,_=>none
 |_,_=>none
def encArgs:(ps:List (Bool×Ty))→ADen ps→List AV
 | [],_=> []
 | [p],y=> [encBV p.1 p.2 y]
 |p::q::l,y=>encBV p.1 p.2 y.1::encArgs (q::l) y.2
section
variable {P : Program} {E E' : Env} {σ σ1 : Gh} {τ τ' : Nat → Nat} {w w1 : World} {β β' : List Value} {tm : List AV} {H : List AB} {a : Act}
theorem encB_rel: ∀(T:Ty) {x:T.Den} {cs:List Value},(∀(T':Ty) (n:Nat),T≠ .arr T' n)→(∀T':Ty,T≠ .slice T')→(∀p q:Ty,T≠ .pair p q)→repTy T σ w x cs→RelL E σ w β (encB T x) cs
 | .int k,x,cs,_,_,_,h=>enc_rel (.int k) h
 | .bool,x,cs,_,_,_,h=>enc_rel .bool h
 | .str,x,cs,_,_,_,h=>enc_rel .str h
 | .slice T,x,cs,_,h,_,_=>absurd rfl (h T)
 | .pair p q,x,cs,_,_,h,_=>absurd rfl (h p q)
 | .arr T n,x,cs,h,_,_,_=>absurd rfl (h T n)
theorem rd_prot{T:Ty}{t:Nat}{A:Option Addr}{xs:List T.Den}(hE: ∀b,b<w.heap.size→E'.Pr (σ b))(h:Rd T.kd σ t w A xs): ∃t',E'.Pr t'∧Rd T.kd σ t' w A xs:=by
 rcases Nat.eq_zero_or_pos xs.length with h0|h0
 ·obtain rfl:xs= []:=List.eq_nil_of_length_eq_zero h0
  exact⟨0,E'.nought,Rd.nil⟩
 ·obtain⟨ad,_,h2,h3,_⟩:=h h0
  exact⟨t,h3▸hE _ h2,h⟩
theorem decBS_rel{T:Ty}{y:AV}{xs:List T.Den}{u:Value}(hC:Conc E σ τ β ⟨tm,H⟩ a w)(hE: ∀b,b<w.heap.size→E'.Pr (σ b))(hr:Rel E σ w β y u)(h:decBS T H y=some xs):Rel E' σ w β' (.sv false T xs) u:=by
 have fin: ∀A c t,u= .slice A xs.length c→xs.length≤c→Rd T.kd σ t w A xs→Rel E' σ w β' (.sv false T xs) u:=by
  intro A c t h1 h2 h3
  obtain⟨t',h4,h5⟩:=rd_prot hE h3
  simp only[Rel]
  exact⟨A,c,t',h1,h2,h4,(fun h=>by cases h),h5⟩
 unfold decBS at h
 split at h
 ·obtain rfl:=Option.some.inj h
  simp only[Rel]at hr
  exact fin none 0 0 hr (Nat.le_refl _) Rd.nil
 ·split at h
  ·rename_i hkk _
   obtain rfl:=Option.some.inj h
   simp only[Rel]at hr
   obtain⟨A,c,t,e1,e2,_,_,e5⟩:=hr
   subst hkk
   exact fin A c t e1 e2 e5
  ·cases h
 ·split at h
  ·rename_i r _ T' e ys hl
   split at h
   ·rename_i hkk _
    obtain rfl:=Option.some.inj h
    simp only[Rel]at hr
    subst hkk
    obtain⟨A,c,e1,e2,_,e5⟩:=(show Own T'.kd e σ (τ r) w u ys from hC.look hl hr.1).rd
    exact fin A c _ e1 e2 e5
   ·cases h
  ·cases h
 ·cases h
theorem decB_rel(hC:Conc E σ τ β ⟨tm,H⟩ a w)(hE: ∀b,b<w.heap.size→E'.Pr (σ b)): ∀(T:Ty) {l r:List AV} {x:T.Den} {us:List Value},decB H T l=some (x,r)→RelL E σ w β l us→∃c d,us=c++d∧RelL E' σ w β' (encB T x) c∧RelL E σ w β r d
 | .slice T,[],r,x,us,h,hr=>by simp[decB]at h
 | .slice T,y::l,r,x,us,h,hr=>by
  simp only[RelL]at hr
  obtain⟨v,u,rfl,h2,h3⟩:=hr
  simp only[decB]at h
  split at h
  ·rename_i xs hd
   simp only[Option.some.injEq,Prod.mk.injEq]at h
   obtain⟨rfl,rfl⟩:=h
   refine⟨[v],u,rfl,?_,h3⟩
   simp only[encB,RelL]
   exact⟨v,[],rfl,decBS_rel hC hE h2 hd,rfl⟩
  ·cases h
 | .pair p q,l,r,x,us,h,hr=>by
  simp only[decB]at h
  split at h
  ·rename_i x1 l1 h1
   split at h
   ·rename_i y l2 h2
    simp only[Option.some.injEq,Prod.mk.injEq]at h
    obtain⟨rfl,rfl⟩:=h
    obtain⟨c,d,rfl,e2,e3⟩:=decB_rel hC hE p h1 hr
    obtain⟨c',d',rfl,e5,e6⟩:=decB_rel hC hE q h2 e3
    exact⟨c++c',d',by rw[List.append_assoc],RelL.append e2 e5,e6⟩
   ·cases h
  ·cases h
 | .int k,l,r,x,us,h,hr=>by
  simp only[decB]at h
  obtain⟨c,d,e1,e2,e3⟩:=dec_rel _ h hr
  exact⟨c,d,e1,encB_rel _ (fun _ _ h=>by cases h) (fun _ h=>by cases h) (fun _ _ h=>by cases h) e2,e3⟩
 | .bool,l,r,x,us,h,hr=>by
  simp only[decB]at h
  obtain⟨c,d,e1,e2,e3⟩:=dec_rel _ h hr
  exact⟨c,d,e1,encB_rel _ (fun _ _ h=>by cases h) (fun _ h=>by cases h) (fun _ _ h=>by cases h) e2,e3⟩
 | .str,l,r,x,us,h,hr=>by
  simp only[decB]at h
  obtain⟨c,d,e1,e2,e3⟩:=dec_rel _ h hr
  exact⟨c,d,e1,encB_rel _ (fun _ _ h=>by cases h) (fun _ h=>by cases h) (fun _ _ h=>by cases h) e2,e3⟩
 | .arr T n,l,r,x,us,h,hr=>by
  simp only[decB]at h
  obtain⟨c,d,e1,e2,e3,e4⟩:=decI_rel (R:=fun x c=>RelL E' σ w β' (encB T x) c) (fun h hr=>decB_rel hC hE T h hr) h hr
  have h2:=arrC_rel (f:=encB T) (d:=Ty.dfl T) (fun _ _ h=>h) x [] e2
  rw[e3]at h2
  exact⟨c,d,e1,h2,e4⟩
theorem decBV_rel{ag:Bool}{T:Ty}{x:AV}{y:T.Den}{u:Value}(hC:Conc E σ τ β ⟨tm,H⟩ a w)(hE: ∀b,b<w.heap.size→E'.Pr (σ b))(hr:Rel E σ w β x u)(h:decBV H ag T x=some y):Rel E' σ w β' (encBV ag T y) u:=by
 have hw: ∀{l:List AV} {us:List Value},whole (decB H T l)=some y→RelL E σ w β l us→RelL E' σ w β' (encB T y) us:=by
  intro l us h1 h2
  obtain⟨c,d,rfl,h3,h4⟩:=decB_rel (β':=β') hC hE T (whole_some h1) h2
  simp only[RelL]at h4
  subst h4
  simpa using h3
 unfold decBV at h
 split at h
 ·simp only[encBV,Rel]
  split at h
  ·simp only[Rel]at hr
   obtain⟨vs,h1,h2⟩:=hr
   exact⟨vs,h1,hw h h2⟩
  ·rename_i vs
   simp only[Rel]at hr
   exact⟨vs.toList,by simpa using hr,hw h (relL_vals _)⟩
  ·cases h
 ·have h3:=hw (us:= [u]) h (by simp only[RelL];exact⟨u,[],rfl,hr,rfl⟩)
  simp only[encBV]
  cases he:encB T y with
  |nil=>rw[he]at h3;simp[RelL]at h3
  |cons z l=>
   rw[he]at h3
   simp only[RelL]at h3
   obtain⟨v,r,e1,e2,_⟩:=h3
   injection e1 with e1 _
   subst e1
   exact e2
theorem decArgs_rel(hC:Conc E σ τ β ⟨tm,H⟩ a w)(hE: ∀b,b<w.heap.size→E'.Pr (σ b)): ∀{ps:List (Bool×Ty)} {l:List AV} {us:List Value} {y:ADen ps},RelL E σ w β l us→decArgs H ps l=some y→RelL E' σ w β' (encArgs ps y) us
 | [],[],us,y,hr,h=>by simp only[RelL]at hr;subst hr;simp[encArgs,RelL]
 | [],x::xs,us,y,hr,h=>by simp[decArgs]at h
 | [p],[],us,y,hr,h=>by simp[decArgs]at h
 | [p],[x],us,y,hr,h=>by
  simp only[RelL]at hr
  obtain⟨v,r,rfl,h2,rfl⟩:=hr
  simp only[decArgs]at h
  simp only[encArgs,RelL]
  exact⟨v,[],rfl,decBV_rel hC hE h2 h,rfl⟩
 | [p],x::z::xs,us,y,hr,h=>by simp[decArgs]at h
 |p::q::l,[],us,y,hr,h=>by simp[decArgs]at h
 |p::q::l,x::xs,us,y,hr,h=>by
  simp only[RelL]at hr
  obtain⟨v,r,rfl,h2,h3⟩:=hr
  simp only[decArgs]at h
  split at h
  ·rename_i y1 ys h4 h5
   obtain rfl:=Option.some.inj h
   simp only[encArgs,RelL]
   exact⟨v,r,rfl,decBV_rel hC hE h2 h4,decArgs_rel hC hE h3 h5⟩
  ·cases h
/-! ### results -/
def resX(P:Program)(tm:List AV)(H:List AB):ResultVar→Option AV
 | .tmp t=>tm[t]?
 | .cell s T=>match tm[s]? with
  |some p=>loadX P H T p
  |none=>none
def resL(P:Program)(tm:List AV)(H:List AB):List ResultVar→Option (List AV)
 | []=>some []
 |r::l=>match resX P tm H r,resL P tm H l with
  |some v,some vs=>some (v::vs)
  |_,_=>none
theorem resX_sound{r:ResultVar}{v:AV}(hC:Conc E σ τ β ⟨tm,H⟩ a w)(h:resX P tm H r=some v): ∃u,(resRun a.tmps r).run P w= .ok u w∧Rel E σ w β v u:=by
 cases r with
 |tmp t=>
  simp only[resX]at h
  obtain⟨u,h1,h2⟩:=RelL.get hC.tmps h
  rw[Array.getElem?_toList]at h1
  exact⟨u,by simp[resRun,Array.getD_eq_getD_getElem?,h1],h2⟩
 |cell s T=>
  simp only[resX]at h
  split at h
  ·rename_i p hp
   obtain⟨u,h1,h2⟩:=load_run (o:={(default:Oper)with op:= .load T (.tmp s)}) (x:= .tmp s) (t:=T) hC rfl (by
    have:aeval tm (.tmp s)=p:=by simp[aeval,List.getD_eq_getElem?_getD,hp]
    rw[this];exact h)
   refine⟨u,?_,h2⟩
   have e:a.eval (.tmp s)=a.tmps.getD s undef:=rfl
   simp only[execOp,Instr.loadAt,e]at h1
   simp only[resRun]
   generalize a.tmps.getD s undef=u0 at h1⊢
   cases u0<;>first|(simp[Instr.sureAddr,stuck]at h1;done)|skip
   rename_i q
   cases q with
   |none=>simp[Instr.sureAddr,stuck]at h1
   |some ad=>
    simp only[Instr.sureAddr,Sem.run_bind,Sem.run_pure,Result.andThen_ok]at h1
    simp only[asAddr,Sem.run_bind,Sem.run_pure,Result.andThen_ok]
    generalize (loadVar T ad).run P w=r at h1⊢
    cases r with
    |halt hh w'=>simp[Result.andThen]at h1
    |ok z w'=>simpa[Result.andThen]using h1
  ·cases h
end
end Go.Am
/- The abstract machine,part 12: a function,walked once,is a call of others. No statement of its own. -/
namespace Go.Am
open Go.Vk Go.RowKit
variable [Dr]
def Car.frz:Car→Bool
 | .sl _ false (.slice _)=>true
 |_=>false
def finX(P:Program)(res:List ResultVar)(rs:List Car)(e:Exit)(tm:List AV)(H:List AB):Option (CarsDen rs):=
 match e with
 | .ret=>match resL P tm H res with
  |some vs=>match frzWs (rs.map Car.frz) vs (settleAll H)with
   |some (vs',H')=>packC rs vs' H'
   |none=>none
  |none=>none
 | .normal=>match resL P tm H res with
  |some vs=>match frzWs (rs.map Car.frz) vs (settleAll H)with
   |some (vs',H')=>packC rs vs' H'
   |none=>none
  |none=>none
 |_=>none
def oneOf:List AV→AV
 | [v]=>v
 |vs=> .tup vs
def oneVal:List Value→Value
 | [u]=>u
 |us=> .tuple us.toArray
def hdl(ps:List (Bool×Ty))(rs:List Car)(F:ADen ps→Option (CarsDen rs)):Hdl:=fun X args H k=>
 match decArgs H ps args with
 |some y=>(F y).bind fun r=>k (unpackC rs r (List.replicate rs.length .unk,H)).2 (oneOf (unpackC rs r (List.replicate rs.length .unk,H)).1)
 |none=>none
def hdlV(ps:List (Bool×Ty))(rs:List Car)(F:ADen ps→Option (CarsDen rs)):HdlV:=fun X args H k=>
 match decArgs H ps args with
 |some y=>(F y).bind fun r=>k (oneOf (unpackC rs r (List.replicate rs.length .unk,[])).1)
 |none=>none
def Car.isSl:Car→Bool
 | .sl .. =>true
 |_=>false
omit [Dr] in
theorem unpack_sl: ∀{cs:List Car} {r:CarsDen cs} {t:List AV} {H:List AB},cs.all Car.isSl=true→unpackC cs r (t,H)=((unpackC cs r (t,[])).1,H)
 | [],r,t,H,_=>rfl
 | [c],r,t,H,h=>by
  cases c with
  |sl u ag T=>rfl
  |_=>simp[Car.isSl]at h
 |c::d::l,r,t,H,h=>by
  simp only[List.all_cons,Bool.and_eq_true]at h
  cases c with
  |sl u ag T=>
   exact unpack_sl (cs:=d::l) (r:=r.2) (t:=t.set u (encV ag T r.1)) (H:=H) (by simp only[List.all_cons,Bool.and_eq_true];exact h.2)
  |_=>simp[Car.isSl]at h
omit [Dr] in
theorem decB_any{H H':List AB}: ∀(T:Ty) (l:List AV),flatT T=true→decB H T l=decB H' T l
 | .int k,l,_=>by cases l<;>rfl
 | .bool,l,_=>by cases l<;>rfl
 | .str,l,_=>by cases l<;>rfl
 | .pair a b,l,h=>by
  simp only[flatT,Bool.and_eq_true]at h
  simp only[decB]
  rw[decB_any (H:=H) (H':=H') a l h.1]
  split
  ·rw[decB_any (H:=H) (H':=H') b _ h.2]
  ·rfl
 | .slice _,_,h=>by simp[flatT]at h
 | .arr _ _,_,h=>by simp[flatT]at h
omit [Dr] in
theorem decBV_any{H H':List AB}{ag:Bool}{T:Ty}{x:AV}(h:flatT T=true):decBV H ag T x=decBV H' ag T x:=by
 unfold decBV
 split
 ·split
  ·rw[decB_any (H:=H) (H':=H') T _ h]
  ·rw[decB_any (H:=H) (H':=H') T _ h]
  ·rfl
 ·rw[decB_any (H:=H) (H':=H') T _ h]
omit [Dr] in
theorem decArgs_any{H H':List AB}: ∀(ps:List (Bool×Ty)) (l:List AV),ps.all (fun p=>flatT p.2)=true→decArgs H ps l=decArgs H' ps l
 | [],[],_=>rfl
 | [],_::_,_=>rfl
 | [p],[],_=>rfl
 | [p],[x],h=>by
  simp only[List.all_cons,List.all_nil,Bool.and_true]at h
  exact decBV_any h
 | [p],_::_::_,_=>rfl
 |p::q::l,[],_=>rfl
 |p::q::l,x::xs,h=>by
  have h':=h
  rw[List.all_cons,Bool.and_eq_true]at h'
  simp only[decArgs]
  rw[decBV_any (H:=H) (H':=H') h'.1,decArgs_any (q::l) xs h'.2]
omit [Dr] in
theorem decB_norow{H H':List AB}: ∀(T:Ty) (l:List AV),AV.norowL l=true→decB H T l=decB H' T l∧∀y r,decB H T l=some (y,r)→AV.norowL r=true
 | .int k,l,hn=>by
  refine⟨by cases l<;>rfl,fun y r h=> ?_⟩
  cases l with
  |nil=>simp[decB,dec]at h
  |cons x l=>
   simp only[AV.norowL,Bool.and_eq_true]at hn
   have h:dec (.int k) (x::l)=some (y,r):=h
   cases x with
   |val v=>
    cases v with
    |int k2 z=>
     simp only[dec]at h
     split at h
     ·simp only[Option.some.injEq,Prod.mk.injEq]at h
      obtain⟨_,rfl⟩:=h
      exact hn.2
     ·cases h
    |_=>simp[dec]at h
   |_=>simp[dec]at h
 | .bool,l,hn=>by
  refine⟨by cases l<;>rfl,fun y r h=> ?_⟩
  cases l with
  |nil=>simp[decB,dec]at h
  |cons x l=>
   simp only[AV.norowL,Bool.and_eq_true]at hn
   have h:dec (.bool) (x::l)=some (y,r):=h
   cases x with
   |val v=>
    cases v with
    |bool z=>
     simp only[dec]at h
     simp only[Option.some.injEq,Prod.mk.injEq]at h
     obtain⟨_,rfl⟩:=h
     exact hn.2
    |_=>simp[dec]at h
   |_=>simp[dec]at h
 | .str,l,hn=>by
  refine⟨by cases l<;>rfl,fun y r h=> ?_⟩
  cases l with
  |nil=>simp[decB,dec]at h
  |cons x l=>
   simp only[AV.norowL,Bool.and_eq_true]at hn
   have h:dec (.str) (x::l)=some (y,r):=h
   cases x with
   |val v=>
    cases v with
    |string z=>
     simp only[dec]at h
     simp only[Option.some.injEq,Prod.mk.injEq]at h
     obtain⟨_,rfl⟩:=h
     exact hn.2
    |_=>simp[dec]at h
   |_=>simp[dec]at h
 | .arr T n,l,hn=>by
  have hd: ∀m (l:List AV),AV.norowL l=true→decI (decB H T) m l=decI (decB H' T) m l∧∀y r,decI (decB H T) m l=some (y,r)→AV.norowL r=true:=by
   intro m
   induction m with
   |zero=>
    intro l hl
    refine⟨rfl,fun y r hd=> ?_⟩
    simp only[decI,Option.some.injEq,Prod.mk.injEq]at hd
    obtain⟨_,rfl⟩:=hd
    exact hl
   |succ m ih=>
    intro l hl
    obtain⟨h1,h2⟩:=decB_norow (H:=H) (H':=H') T l hl
    simp only[decI]
    rw[←h1]
    cases hd:decB H T l with
    |none=>exact⟨rfl,fun y r h=>by simp at h⟩
    |some p=>
     obtain⟨x,l1⟩:=p
     obtain⟨h3,h4⟩:=ih l1 (h2 x l1 hd)
     simp only
     rw[←h3]
     refine⟨rfl,fun y r h=> ?_⟩
     cases hd2:decI (decB H T) m l1 with
     |none=>rw[hd2]at h;simp at h
     |some q=>
      obtain⟨ys,r'⟩:=q
      rw[hd2]at h
      simp only[Option.some.injEq,Prod.mk.injEq]at h
      obtain⟨_,rfl⟩:=h
      exact h4 _ _ hd2
  exact hd n l hn
 | .pair a b,l,hn=>by
  obtain⟨h1,h2⟩:=decB_norow (H:=H) (H':=H') a l hn
  refine⟨?_,fun y r h=> ?_⟩
  ·simp only[decB]
   rw[←h1]
   cases hd:decB H a l with
   |none=>rfl
   |some p=>
    obtain⟨x,l1⟩:=p
    simp only
    rw[(decB_norow (H:=H) (H':=H') b l1 (h2 x l1 hd)).1]
  ·simp only[decB]at h
   split at h
   ·rename_i x l1 hd
    split at h
    ·rename_i y l2 hd2
     simp only[Option.some.injEq,Prod.mk.injEq]at h
     obtain⟨_,rfl⟩:=h
     exact(decB_norow (H:=H) (H':=H') b l1 (h2 x l1 hd)).2 _ _ hd2
    ·cases h
   ·cases h
 | .slice T,[],hn=>⟨rfl,fun y r h=>by simp[decB]at h⟩
 | .slice T,x::l,hn=>by
  simp only[AV.norowL,Bool.and_eq_true]at hn
  have hx:decBS T H x=decBS T H' x:=by
   cases x with
   |row r=>simp[AV.norow]at hn
   |val v=>
    by_cases hv:v= .slice none 0 0
    ·subst hv;rfl
    ·have e: ∀H,decBS T H (.val v)=none:=fun H=>by
      unfold decBS
      split
      ·rename_i h;injection h with h;exact absurd h hv
      ·rename_i h;cases h
      ·rename_i h;cases h
      ·rfl
     rw[e H,e H']
   |_=>rfl
  refine⟨by simp only[decB,hx],fun y r h=> ?_⟩
  simp only[decB]at h
  split at h
  ·simp only[Option.some.injEq,Prod.mk.injEq]at h
   obtain⟨_,rfl⟩:=h
   exact hn.2
  ·cases h
omit [Dr] in
theorem norow_vals: ∀(l:List Value),AV.norowL (l.map .val)=true
 | []=>rfl
 |v::l=>by simp only[List.map_cons,AV.norowL,AV.norow,Bool.true_and];exact norow_vals l
omit [Dr] in
theorem decBV_norow{H H':List AB}{ag:Bool}{T:Ty}{x:AV}(h:x.norow=true):decBV H ag T x=decBV H' ag T x:=by
 unfold decBV
 cases ag with
 |true=>
  cases x with
  |agg cs=>simp only;rw[(decB_norow (H:=H) (H':=H') T cs (by simpa[AV.norow]using h)).1]
  |val v=>
   cases v with
   |agg vs=>simp only;rw[(decB_norow (H:=H) (H':=H') T _ (norow_vals vs.toList)).1]
   |_=>rfl
  |_=>rfl
 |false=>
  simp only
  rw[(decB_norow (H:=H) (H':=H') T [x] (by simp[AV.norowL,h])).1]
omit [Dr] in
theorem decArgs_norow{H H':List AB}: ∀(ps:List (Bool×Ty)) (l:List AV),AV.norowL l=true→decArgs H ps l=decArgs H' ps l
 | [],[],_=>rfl
 | [],_::_,_=>rfl
 | [p],[],_=>rfl
 | [p],[x],h=>by
  simp only[AV.norowL,Bool.and_eq_true]at h
  exact decBV_norow h.1
 | [p],_::_::_,_=>rfl
 |p::q::l,[],_=>rfl
 |p::q::l,x::xs,h=>by
  simp only[AV.norowL,Bool.and_eq_true]at h
  simp only[decArgs]
  rw[decBV_norow (H:=H) (H':=H') h.1,decArgs_norow (q::l) xs h.2]
theorem hdlV_ok{P:Program}{f:FuncId}{ps:List (Bool×Ty)}{rs:List Car}{F:ADen ps→Option (CarsDen rs)}(hsl:rs.all Car.isSl=true)(h:HdlOk P f (hdl ps rs F)):HdlVOk P f (hdlV ps rs F):=by
 constructor
 ·intro X args H k x hx
  unfold hdlV at hx
  split at hx
  case h_2=>cases hx
  rename_i y hy
  obtain⟨r,h1,h2⟩:=Option.bind_eq_some_iff.1 hx
  refine⟨_,h2,fun E σ τ β tm a w us hC hargs=> ?_⟩
  have hx':hdl ps rs F (List AB×AV) args H (fun H' av=>some (H',av))=some (H,oneOf (unpackC rs r (List.replicate rs.length .unk,[])).1):=by
   unfold hdl
   rw[hy]
   simp only[h1,Option.bind_some]
   rw[unpack_sl hsl]
  refine Calls.mono (h _ args H _ _ hx' E σ τ β tm a w us hC hargs) ?_
  rintro e w' ⟨v,σ',rfl,H',av,τ',β',hk,_,e1,e2,e3,e4⟩
  simp only[Option.some.injEq,Prod.mk.injEq]at hk
  obtain⟨rfl,rfl⟩:=hk
  exact⟨v,σ',rfl,τ',β',e1,e2,e3,e4⟩
 ·intro X args H k x hn hx
  unfold hdlV at hx
  split at hx
  case h_2=>cases hx
  rename_i y hy
  obtain⟨r,h1,h2⟩:=Option.bind_eq_some_iff.1 hx
  refine⟨_,h2,fun H0 E σ τ β tm a w us hC hargs=> ?_⟩
  have hx':hdl ps rs F (List AB×AV) args H0 (fun H' av=>some (H',av))=some (H0,oneOf (unpackC rs r (List.replicate rs.length .unk,[])).1):=by
   unfold hdl
   rw[decArgs_norow (H:=H0) (H':=H) ps args hn,hy]
   simp only[h1,Option.bind_some]
   rw[unpack_sl hsl]
  refine Calls.mono (h _ args H0 _ _ hx' E σ τ β tm a w us hC hargs) ?_
  rintro e w' ⟨v,σ',rfl,H',av,τ',β',hk,_,e1,e2,e3,e4⟩
  simp only[Option.some.injEq,Prod.mk.injEq]at hk
  obtain⟨rfl,rfl⟩:=hk
  exact⟨v,σ',rfl,τ',β',e1,e2,e3,e4⟩
theorem hdlVC_ok{P:Program}{f:FuncId}{ps:List (Bool×Ty)}{rs:List Car}{F:ADen ps→Option (CarsDen rs)}(hsl:rs.all Car.isSl=true)(hfl:ps.all (fun p=>flatT p.2)=true)(h:HdlOk P f (hdl ps rs F)):HdlVCOk P f (hdlV ps rs F):=by
 intro X args H k x hx
 unfold hdlV at hx
 split at hx
 case h_2=>cases hx
 rename_i y hy
 obtain⟨r,h1,h2⟩:=Option.bind_eq_some_iff.1 hx
 refine⟨_,h2,fun H0 E σ τ β tm a w us hC hargs=> ?_⟩
 have hx':hdl ps rs F (List AB×AV) args H0 (fun H' av=>some (H',av))=some (H0,oneOf (unpackC rs r (List.replicate rs.length .unk,[])).1):=by
  unfold hdl
  rw[decArgs_any (H:=H0) (H':=H) ps args hfl,hy]
  simp only[h1,Option.bind_some]
  rw[unpack_sl hsl]
 refine Calls.mono (h _ args H0 _ _ hx' E σ τ β tm a w us hC hargs) ?_
 rintro e w' ⟨v,σ',rfl,H',av,τ',β',hk,_,e1,e2,e3,e4⟩
 simp only[Option.some.injEq,Prod.mk.injEq]at hk
 obtain⟨rfl,rfl⟩:=hk
 exact⟨v,σ',rfl,τ',β',e1,e2,e3,e4⟩
section
variable {P : Program} {E E' : Env} {σ σ1 : Gh} {τ τ' : Nat → Nat} {w w1 : World} {β β' : List Value} {tm : List AV} {H : List AB} {a : Act}
theorem resL_sound(hC:Conc E σ τ β ⟨tm,H⟩ a w): ∀{l:List ResultVar} {vs:List AV},resL P tm H l=some vs→∃us,(l.mapM (resRun a.tmps)).run P w= .ok us w∧RelL E σ w β vs us
 | [],vs,h=>by
  simp only[resL,Option.some.injEq]at h
  subst h
  exact⟨[],by simp,by simp[RelL]⟩
 |r::l,vs,h=>by
  simp only[resL]at h
  split at h
  ·rename_i v vs' h1 h2
   obtain rfl:=Option.some.inj h
   obtain⟨u,e1,e2⟩:=resX_sound hC h1
   obtain⟨us,e3,e4⟩:=resL_sound hC h2
   exact⟨u::us,by simp[List.mapM_cons,e1,e3],by simp only[RelL];exact⟨u,us,rfl,e2,e4⟩⟩
  ·cases h
omit [Dr] in
theorem resL_len: ∀{l:List ResultVar} {vs:List AV},resL P tm H l=some vs→vs.length=l.length
 | [],vs,h=>by
  simp only[resL,Option.some.injEq]at h
  subst h;rfl
 |r::l,vs,h=>by
  simp only[resL]at h
  split at h
  ·rename_i v vs' h1 h2
   obtain rfl:=Option.some.inj h
   simp[resL_len h2]
  ·cases h
omit [Dr] in
theorem results_run{fn:Func}{tmps:Array Value}{us:List Value}(h:(fn.results.toList.mapM (resRun tmps)).run P w= .ok us w):(results fn tmps).run P w= .ok (oneVal us) w:=by
 have e:results fn tmps=(do let vs←fn.results.mapM (resRun tmps);pure (if h:vs.size=1 then vs[0]else .tuple vs)):=by
  unfold results;congr 1
 rw[e,Array.mapM_eq_mapM_toList]
 simp only[Sem.run_bind,Sem.run_map,h,Result.andThen_ok,Sem.run_pure]
 match us with
 | []=>simp[oneVal]
 | [u]=>simp[oneVal]
 |u::v::l=>simp[oneVal]
omit [Dr] in
theorem encArgs_len: ∀(ps:List (Bool×Ty)) (y:ADen ps),(encArgs ps y).length=ps.length
 | [],y=>rfl
 | [p],y=>rfl
 |p::q::l,y=>by simp only[encArgs,List.length_cons];rw[encArgs_len (q::l)];rfl
omit [Dr] in
theorem carOk_any{H:List AB}{ds:List Tmp}{cs:List Car}(h:cs.all (carOk 0 [] ds)=true):cs.all (carOk 0 H ds)=true:=by
 rw[List.all_eq_true]at h⊢
 intro c hc
 have:=h c hc
 cases c<;>simp_all[carOk]
theorem relL_unks: ∀{n:Nat} {us:List Value},us.length=n→RelL E σ w β (List.replicate n .unk) us
 |0,us,h=>by simp only[List.replicate,RelL];exact List.eq_nil_of_length_eq_zero h
 |n+1,[],h=>by simp at h
 |n+1,u::us,h=>by simp only[List.replicate,RelL];exact⟨u,us,rfl,by simp[Rel],relL_unks (by simpa using h)⟩
theorem oneOf_rel: ∀{vs:List AV} {us:List Value},RelL E σ w β vs us→Rel E σ w β (oneOf vs) (oneVal us)
 | [],us,h=>by
  simp only[RelL]at h
  subst h
  simp only[oneOf,oneVal,Rel]
  exact⟨[],rfl,by simp[RelL]⟩
 | [v],us,h=>by
  simp only[RelL]at h
  obtain⟨u,r,rfl,h1,rfl⟩:=h
  exact h1
 |v::v'::l,us,h=>by
  have h':=h
  simp only[RelL]at h
  obtain⟨u,r,rfl,h1,u',r',rfl,h2,h3⟩:=h
  simp only[oneOf,oneVal,Rel]
  exact⟨_,rfl,h'⟩
theorem hdl_ok {f:FuncId} {fn:Func} {c:Code} (hs:List (Hnd P)) (an:List LAnn) (ps:List (Bool×Ty)) (rs:List Car) (F:ADen ps→Option (CarsDen rs))
  (hf:P.funcs[f]? =some fn) (hb:fn.body=some c) (hl:fn.results.size=rs.length) (hok:rs.all (carOk 0 [] (List.range rs.length))=true)
  (hF: ∀y,exec P hs an (CarsDen rs) c (encArgs ps y++List.replicate (fn.ntmps - ps.length) (.val undef)) [] (finX P fn.results.toList rs)=F y):HdlOk P f (hdl ps rs F):=by
 intro X args H k x h
 unfold hdl at h
 split at h
 case h_2=>cases h
 rename_i y hy
 obtain⟨r,hr,hk⟩:=Option.bind_eq_some_iff.1 h
 obtain⟨p1,p2,p3⟩:=unpack_pres (x:=r) (s:=(List.replicate rs.length .unk,H)) (carOk_any (H:=H) hok)
 intro E σ τ β tm a w us hC hargs
 obtain⟨r1,q1,q2⟩:=Gh.fresh σ (E.bnd+1) w.heap.size
 obtain⟨r0,q3,q4⟩:=Gh.fresh τ r1 H.length
 let E':Env:=⟨fun t=>t<r0,fun _=>False,fun t=>t<r0,r0,by show 0<r0;omega,fun t h=>h.elim id False.elim,fun t h=>h⟩
 have hE: ∀b,b<w.heap.size→E'.Pr (σ b):=fun b hb=>by show σ b<r0;have:=q2 b hb;omega
 have hargs':RelL E' σ w [] (encArgs ps y) us:=decArgs_rel hC hE hargs hy
 have hul:us.length=ps.length:=by rw[hargs'.length,encArgs_len]
 have hC0:Conc E' σ (fun i=>r0+i) [] ⟨encArgs ps y++List.replicate (fn.ntmps - ps.length) (.val undef),[]⟩ {tmps:=us.toArray++Array.replicate (fn.ntmps - us.toArray.size) undef,defers:= []} w:=by
  refine⟨rfl,?_,rfl,fun i x v hx=>by simp at hx,fun i x hx=>by simp at hx,fun i j x y hx=>by simp at hx⟩
  have e:(us.toArray++Array.replicate (fn.ntmps - us.toArray.size) undef).toList=us++List.replicate (fn.ntmps - ps.length) undef:=by simp[hul]
  simp only[e]
  refine RelL.append hargs' ?_
  have:=relL_vals (E:=E') (σ:=σ) (w:=w) (β:= []) (List.replicate (fn.ntmps - ps.length) undef)
  simpa using this
 refine calls_of_wp hf hb (exec_sound c (x:=r) (by rw[hF y];exact hr) hC0 (fun e tm' H' σ' τ' β' a' w' hk' hW hC'=> ?_))
 have main:(match resL P tm' H' fn.results.toList with|some vs=>(match frzWs (rs.map Car.frz) vs (settleAll H')with|some (vs',H')=>packC rs vs' H'|none=>none)|none=>none)=some r→a'.defers= []∧∃v,(results fn a'.tmps).run P w'= .ok v w'∧
   ∃v_1 σ',Ending.returned v=Ending.returned v_1∧∃H'' av τ' β',k H'' av=some x∧HPres H H''∧(∃s,β'=β++s)∧EvT (Rng E) σ w σ' w'∧Conc E σ' τ' β' ⟨tm,H''⟩ a w'∧Rel E σ' w' β' av v_1:=by
  intro hm
  split at hm
  case h_2=>cases hm
  rename_i vs0 hvs
  split at hm
  case h_2=>cases hm
  rename_i vs H' hfz
  obtain⟨us',e1,e2⟩:=resL_sound hC' hvs
  refine⟨hC'.defers,oneVal us',results_run e1,oneVal us',?_⟩
  obtain⟨_,σs,τ',hevs,hCs⟩:=settleF_sound (f:=fun _=>true) hC'
  have e2:=RelL.ev hevs (fun t ht h=>h (E'.sub t ht)) e2
  have hus:us'.length=rs.length:=by
   have:=resL_len hvs
   rw[e2.length,this,Array.length_toList,hl]
  obtain⟨_,σ',hevf,hC',e2⟩:=frzWs_sound hfz hCs e2
  refine⟨σ',rfl,?_⟩
  have hWev:=(hW.ev.trans hevs).trans hevf
  have hsub: ∀t,E.Kp t→E'.Kp t:=fun t ht=>by show t<r0;have:=E.low t ht;omega
  have hev:EvT (fun t=>r0≤t) σ w σ' w':=hWev.mono (fun t ht=>Nat.le_of_not_lt ht)
  have hevE:EvT (Rng E) σ w σ' w':=hWev.mono (fun t ht hp=>ht (hsub t hp))
  have hP: ∀t,(E.Pr t∨E.It t)→¬r0≤t:=fun t ht=>by have:=E.low t (E.sub t ht);omega
  have hlive: ∀(i:Nat) x,H[i]? =some x→¬r0≤τ i:=fun i x hx=>by have:=q4 i (List.getElem?_eq_some_iff.1 hx).1;omega
  have hbase:Conc E σ' τ β ⟨List.replicate rs.length .unk,H⟩ ⟨us'.toArray,[]⟩ w':=
   ⟨rfl,by simpa using relL_unks hus,hC.size,fun i x v hx hv=>BRel.ev (hC.heap i x v hx hv) hev hP (fun _=>hlive i x hx),hC.apart,hC.inj⟩
  have hsrc:Conc E' σ' τ' β' ⟨vs,H'⟩ ⟨us'.toArray,[]⟩ w':=⟨rfl,by simpa using e2,hC'.size,hC'.heap,hC'.apart,hC'.inj⟩
  have hM:Mid E E' σ' w' ⟨us'.toArray,[]⟩ τ β (List.replicate rs.length .unk) H τ' β' vs H' 0:=
   ⟨hbase,hsub,hsrc,fun i x j y hx hlx hy hly _ he=>by
    have h1:=hlive i x hx
    have h2: ¬τ' j<r0:=hC'.apart j y hy hly
    omega,fun i hi=>by omega,fun i x hi=>by omega,by omega⟩
  obtain⟨τ2,β2,h1,h2⟩:=mid_all hM (carOk_ok (n:=0) hok) hm
  refine⟨_,_,τ2,β2,hk,⟨p2,fun i b hi=>p3 i b _ hi hi⟩,h1,hevE,⟨hC.defers,RelL.more h1 (RelL.ev hev hP hC.tmps),h2.size,h2.heap,h2.apart,h2.inj⟩,?_⟩
  exact oneOf_rel (by simpa using h2.tmps)
 cases e with
 |normal=>exact main hk'
 |ret=>exact main hk'
 |_=>simp[finX]at hk'
noncomputable def inl(P:Program)(hs:List (Hnd P))(an:List LAnn)(fn:Func)(c:Code)(np:Nat):Hdl:=fun X args H k=>
 match Nat.beq args.length np with
 |true=>exec P hs an X c (args++List.replicate (fn.ntmps - np) (.val undef)) H fun e tm' H'=>match e with
  | .ret=>match resL P tm' H' fn.results.toList with
   |some vs=>k H' (oneOf vs)
   |none=>none
  | .normal=>match resL P tm' H' fn.results.toList with
   |some vs=>k H' (oneOf vs)
   |none=>none
  |_=>none
 |false=>none
theorem inl_ok{f:FuncId}{fn:Func}{c:Code}(hs:List (Hnd P))(an:List LAnn)(np:Nat)(hf:P.funcs[f]? =some fn)(hb:fn.body=some c):HdlOk P f (inl P hs an fn c np):=by
 intro X args H k x h E σ τ β tm a w us hC hargs
 unfold inl at h
 split at h
 case h_2=>cases h
 rename_i hnp
 have hnp:=Nat.eq_of_beq_eq_true hnp
 have hul:us.length=np:=by rw[hargs.length,hnp]
 have hC0:Conc E σ τ β ⟨args++List.replicate (fn.ntmps - np) (.val undef),H⟩ {tmps:=us.toArray++Array.replicate (fn.ntmps - us.toArray.size) undef,defers:= []} w:=by
  refine⟨rfl,?_,hC.size,hC.heap,hC.apart,hC.inj⟩
  have e:(us.toArray++Array.replicate (fn.ntmps - us.toArray.size) undef).toList=us++List.replicate (fn.ntmps - np) undef:=by simp[hul]
  simp only[e]
  refine RelL.append hargs ?_
  have:=relL_vals (E:=E) (σ:=σ) (w:=w) (β:=β) (List.replicate (fn.ntmps - np) undef)
  simpa using this
 refine calls_of_wp hf hb (exec_sound c h hC0 (fun e tm' H' σ' τ' β' a' w' hk' hW hC'=> ?_))
 have main:(match resL P tm' H' fn.results.toList with|some vs=>k H' (oneOf vs)|none=>none)=some x→a'.defers= []∧∃v,(results fn a'.tmps).run P w'= .ok v w'∧
   ∃v_1 σ',Ending.returned v=Ending.returned v_1∧∃H'' av τ' β',k H'' av=some x∧HPres H H''∧(∃s,β'=β++s)∧EvT (Rng E) σ w σ' w'∧Conc E σ' τ' β' ⟨tm,H''⟩ a w'∧Rel E σ' w' β' av v_1:=by
  intro hm
  split at hm
  case h_2=>cases hm
  rename_i vs hvs
  obtain⟨us',e1,e2⟩:=resL_sound hC' hvs
  refine⟨hC'.defers,oneVal us',results_run e1,oneVal us',σ',rfl,H',oneOf vs,τ',β',hm,hW.heap,hW.more,hW.ev,?_,oneOf_rel e2⟩
  have hP: ∀t,(E.Pr t∨E.It t)→¬Rng E t:=fun t ht h=>h (E.sub t ht)
  exact⟨hC.defers,RelL.more hW.more (RelL.ev hW.ev hP hC.tmps),hC'.size,hC'.heap,hC'.apart,hC'.inj⟩
 cases e with
 |normal=>exact main hk'
 |ret=>exact main hk'
 |_=>simp at hk'
end
end Go.Am
/- The abstract machine,part 16: a law,called from outside. No statement of its own. -/
namespace Go.Am
open Go.Vk Go.RowKit
variable [Dr]
def E0:Env:=⟨fun t=>t=0,fun _=>False,fun t=>t=0,1,rfl,fun _ h=>h.elim id False.elim,fun t h=>by subst h;decide⟩
theorem relV_one{E:Env}{σ:Gh}{w:World}{β:List Value}{T:Ty}{x:T.Den}{v:Value}(h:repTy T σ w x v.cells.toList)(hv:v.cells= #[v]):Rel E σ w β (encV false T x) v:=
 encV_rel ⟨[v],by rw[hv]at h;exact h,rfl⟩
theorem relL_nil{E:Env}{σ:Gh}{w:World}{β:List Value}:RelL E σ w β [] []:=by simp[RelL]
theorem relL_cons{E:Env}{σ:Gh}{w:World}{β:List Value}{x:AV}{v:Value}{xs:List AV}{vs:List Value}(h:Rel E σ w β x v)(hs:RelL E σ w β xs vs):RelL E σ w β (x::xs) (v::vs):=by
 simp only[RelL];exact⟨v,vs,rfl,h,hs⟩
theorem law_calls {P:Program} {f:FuncId} {ps:List (Bool×Ty)} {F:ADen ps→Option Bool} (h:HdlOk P f (hdl ps [.sl 0 false .bool] F)) (W:World) (args:List AV) (y:ADen ps) (us:List Value)
  (hd:decArgs [] ps args=some y) (hF:F y=some true) (hr:RelL E0 (fun _=>0) W [] args us):
  Calls P f us.toArray W (fun e W'=>e= .returned (.bool true)∧∃σ',EvT (Rng E0) (fun _=>0) W σ' W'):=by
 have hx:hdl ps [.sl 0 false .bool] F (List AB×AV) args [] (fun H av=>some (H,av))=some ([],.val (.bool true)):=by
  unfold hdl
  rw[hd]
  simp only[hF,Option.bind_some]
  rfl
 have hC:Conc E0 (fun _=>0) (fun _=>0) [] ⟨[],[]⟩ ⟨#[],[]⟩ W:=⟨rfl,by simp[RelL],rfl,fun i x v hx=>by simp at hx,fun i x hx=>by simp at hx,fun i j x y hx=>by simp at hx⟩
 refine Calls.mono (h _ args [] _ _ hx E0 (fun _=>0) (fun _=>0) [] [] ⟨#[],[]⟩ W us hC hr) ?_
 rintro e W' ⟨v,σ',rfl,H',av,τ',β',hk,_,_,e2,_,e4⟩
 simp only[Option.some.injEq,Prod.mk.injEq]at hk
 obtain⟨rfl,rfl⟩:=hk
 simp only[Rel]at e4
 exact⟨by rw[e4],σ',e2⟩
omit [Dr] in
theorem rng0: ¬Rng E0 0:=fun h=>h rfl
end Go.Am
/- The abstract machine,part 37: what is encoded is decoded: a law's arguments,arrays among them. No statement of its own. -/
namespace Go.Am
open Go.Vk Go.RowKit
variable [Dr]
end Go.Am
/- The abstract machine,part 21: a call whose contract is a plain one (nothing that was there is turned) is one. No statement of its own. -/
namespace Go.Am
open Go.Vk Go.RowKit
variable [Dr]
theorem EvT.below{σ:Gh}{w w':World}(hD: ¬Dr.D)(h:Below w.heap.size w w'):EvT (fun _=>False) σ w σ w':=
 ⟨h.os,h.tape,h.output,fun d=>absurd d hD,h.size,fun b hb _=>⟨rfl,h.block b hb⟩⟩
theorem hdl_plain {P:Program} (hD: ¬Dr.D) {f:FuncId} {ps:List (Bool×Ty)} {rs:List Car} {F:ADen ps→Option (CarsDen rs)} (hsl:rs.all Car.isSl=true)
  (h: ∀(y:ADen ps) (r:CarsDen rs),F y=some r→∀(E:Env) (σ:Gh) (w:World) (us:List Value),RelL E σ w [] (encArgs ps y) us→
   Calls P f us.toArray w fun e w'=> ∃v,e= .returned v∧Below w.heap.size w w'∧∀(E:Env) (σ':Gh) (β:List Value),Rel E σ' w' β (oneOf (unpackC rs r (List.replicate rs.length .unk,[])).1) v):
  HdlOk P f (hdl ps rs F):=by
 intro X args H k x hx
 unfold hdl at hx
 split at hx
 case h_2=>cases hx
 rename_i y hy
 obtain⟨r,hr,hk⟩:=Option.bind_eq_some_iff.1 hx
 rw[unpack_sl hsl]at hk
 intro E σ τ β tm a w us hC hargs
 obtain⟨r0,q1,q2⟩:=Gh.fresh σ 1 w.heap.size
 let E':Env:=⟨fun t=>t<r0,fun _=>False,fun t=>t<r0,r0,by show 0<r0;omega,fun t h=>h.elim id False.elim,fun t h=>h⟩
 have hargs':RelL E' σ w [] (encArgs ps y) us:=decArgs_rel hC (fun b hb=>q2 b hb) hargs hy
 refine Calls.mono (h y r hr E' σ w us hargs') ?_
 rintro e w' ⟨v,rfl,hb,hv⟩
 have hev:EvT (fun _=>False) σ w σ w':= .below hD hb
 exact⟨v,σ,rfl,H,_,τ,β,hk,.refl H,⟨[],by simp⟩,hev.mono (fun _ h=>h.elim),⟨hC.defers,RelL.ev hev (fun _ _ h=>h) hC.tmps,hC.size,fun i x v hx hv=>BRel.ev (hC.heap i x v hx hv) hev (fun _ _ h=>h) (fun _ h=>h),hC.apart,hC.inj⟩,hv E σ β⟩
theorem rel_ints{E:Env}{σ:Gh}{w:World}{β:List Value}{p:Bool}{zs:List Int}{u:Value}(h:Rel E σ w β (.sv p (.int .i64) zs) u):
  ∃A c,u= .slice A zs.length c∧zs.length≤c∧(zs≠[]→∃b off,A=some ⟨b,off,none⟩∧b<w.heap.size∧∀j,j<zs.length→w.cell? ⟨b,off+j,none⟩=some (.int .i64 (zs[j]?.getD 0))):=by
 simp only[Rel]at h
 obtain⟨A,c,t,rfl,hc,_,_,hrd⟩:=h
 refine⟨A,c,rfl,hc,fun hz=> ?_⟩
 obtain⟨ad,rfl,hb,_,hcell⟩:=hrd (List.length_pos_iff.2 hz)
 have hall: ∀j,j<zs.length→w.cell? (ad.add j)=some (.int .i64 (zs[j]?.getD 0)):=by
  intro j hj
  obtain⟨cs,hr,hcs⟩:=hcell j hj
  have hr:cs= [.int .i64 zs[j]]:=hr
  subst hr
  have:=hcs 0 (.int .i64 zs[j]) rfl
  simpa[Ty.kd,Ty.sz,hj]using this
 obtain⟨b,off,el⟩:=ad
 have h0:=hall 0 (List.length_pos_iff.2 hz)
 have hel:el=none:=by
  cases el with
  |none=>rfl
  |some q=>
   simp[World.cell?,Addr.add]at h0
   split at h0<;>cases h0
 subst hel
 exact⟨b,off,rfl,hb,fun j hj=>by
  have:=hall j hj
  by_cases h:j=0
  ·subst h;simpa[Addr.add]using this
  ·simpa[Addr.add,h]using this⟩
end Go.Am
/- The abstract machine,part 24: a scope with one label,to which is jumped back. No statement of its own. -/
namespace Go.Am
open Go.Vk Go.RowKit
variable [Dr]
section
variable {P : Program} {E : Env} {hs : List (Hnd P)} {an : List LAnn}
end
section
variable {P : Program}
end
/-! ### annotations that tell a function's own blocks from where it begins -/
def shb(n b:Nat):Nat:=
 match Nat.ble 1000 b with
 |true=>n+(b - 1000)
 |false=>b
def Car.shift(n:Nat):Car→Car
 | .dtb b C d=> .dtb (shb n b) C d
 | .rw b T e=> .rw (shb n b) T e
 | .mp b m=> .mp (shb n b) m
 | .mpD b m d=> .mpD (shb n b) m d
 | .rwD b d e=> .rwD (shb n b) d e
 | .opn b C m=> .opn (shb n b) C m
 | .opb b C m=> .opb (shb n b) C m
 | .cl b off T=> .cl (shb n b) off T
 | .dtc b off d=> .dtc (shb n b) off d
 |c=>c
def LAnn.shift(n:Nat)(A:LAnn):LAnn:=⟨A.kind,A.id,A.cs.map (Car.shift n),A.es.map (fun e=>(e.1,e.2.map (Car.shift n))),A.un⟩
noncomputable def inlR(P:Program)(hs:List (Hnd P))(an:List LAnn)(fn:Func)(c:Code)(np:Nat):Hdl:=fun X args H k=>inl P hs (an.map (LAnn.shift H.length)) fn c np X args H k
theorem inlR_ok{P:Program}{f:FuncId}{fn:Func}{c:Code}(hs:List (Hnd P))(an:List LAnn)(np:Nat)(hf:P.funcs[f]? =some fn)(hb:fn.body=some c):HdlOk P f (inlR P hs an fn c np):=fun X args H k x h=>inl_ok hs (an.map (LAnn.shift H.length)) np hf hb X args H k x h
end Go.Am
/- The abstract machine,part 25: bytes.Clone. No statement of its own. -/
namespace Go.Am
open Go.Vk Go.RowKit Go.Proofs
variable [Dr]
end Go.Am
/- The abstract machine,part 26: what a pointer owns,as one thing. No statement of its own. -/
namespace Go.Am
open Go.Vk Go.RowKit
def Src(E:Env)(τ:Nat→Nat)(H:List AB)(t:Nat):Prop:=E.Pr t∨∃(i:Nat) (x:AB),H[i]? =some x∧x.live=true∧τ i=t
theorem bare_live: ∀{x:AB},x.bare.live=x.live
 | .lock x=>by simp only[AB.bare,AB.live];exact bare_live
 | .cells .. =>rfl
 | .row .. =>rfl
 | .map .. =>rfl
 | .rowD .. =>rfl
 | .mapD .. =>rfl
 | .arena .. =>rfl
 | .arw .. =>rfl
 | .amp .. =>rfl
 | .iter .. =>rfl
 | .gone=>rfl
theorem look_src{H:List AB}{r:Nat}{T:Ty}{e:TypeId}{xs:List T.Den}{τ:Nat→Nat}(h:look H r=some (.row T e xs)): ∃(i:Nat) (x:AB),H[i]? =some x∧x.live=true∧τ i=τ r:=by
 unfold look at h
 split at h
 ·rename_i x hx
  have h:=Option.some.inj h
  exact⟨r,x,hx,by rw[←bare_live,h];rfl,rfl⟩
 ·cases h
variable [Dr]
section
variable {P : Program} {E E' : Env} {σ σ1 : Gh} {τ τ' : Nat → Nat} {w w1 : World} {β β' : List Value} {tm : List AV} {H : List AB} {a : Act}
theorem decBS_rel'{T:Ty}{y:AV}{xs:List T.Den}{u:Value}(hC:Conc E σ τ β ⟨tm,H⟩ a w)(hE: ∀t,Src E τ H t→E'.Pr t)(hr:Rel E σ w β y u)(h:decBS T H y=some xs):Rel E' σ w β' (.sv false T xs) u:=by
 have fin: ∀A c t,Src E τ H t→u= .slice A xs.length c→xs.length≤c→Rd T.kd σ t w A xs→Rel E' σ w β' (.sv false T xs) u:=by
  intro A c t h0 h1 h2 h3
  simp only[Rel]
  exact⟨A,c,t,h1,h2,hE t h0,(fun h=>by cases h),h3⟩
 unfold decBS at h
 split at h
 ·obtain rfl:=Option.some.inj h
  simp only[Rel]at hr
  exact fin none 0 0 (.inl E.nought) hr (Nat.le_refl _) Rd.nil
 ·split at h
  ·rename_i hkk _
   obtain rfl:=Option.some.inj h
   simp only[Rel]at hr
   obtain⟨A,c,t,e1,e2,e3,_,e5⟩:=hr
   subst hkk
   exact fin A c t (.inl e3) e1 e2 e5
  ·cases h
 ·split at h
  ·rename_i r _ T' e ys hl
   split at h
   ·rename_i hkk _
    obtain rfl:=Option.some.inj h
    simp only[Rel]at hr
    subst hkk
    obtain⟨A,c,e1,e2,_,e5⟩:=(show Own T'.kd e σ (τ r) w u ys from hC.look hl hr.1).rd
    exact fin A c _ (.inr (look_src hl)) e1 e2 e5
   ·cases h
  ·cases h
 ·cases h
theorem decB_rel'(hC:Conc E σ τ β ⟨tm,H⟩ a w)(hE: ∀t,Src E τ H t→E'.Pr t): ∀(T:Ty) {l r:List AV} {x:T.Den} {us:List Value},decB H T l=some (x,r)→RelL E σ w β l us→∃c d,us=c++d∧RelL E' σ w β' (encB T x) c∧RelL E σ w β r d
 | .slice T,[],r,x,us,h,hr=>by simp[decB]at h
 | .slice T,y::l,r,x,us,h,hr=>by
  simp only[RelL]at hr
  obtain⟨v,u,rfl,h2,h3⟩:=hr
  simp only[decB]at h
  split at h
  ·rename_i xs hd
   simp only[Option.some.injEq,Prod.mk.injEq]at h
   obtain⟨rfl,rfl⟩:=h
   refine⟨[v],u,rfl,?_,h3⟩
   simp only[encB,RelL]
   exact⟨v,[],rfl,decBS_rel' hC hE h2 hd,rfl⟩
  ·cases h
 | .pair p q,l,r,x,us,h,hr=>by
  simp only[decB]at h
  split at h
  ·rename_i x1 l1 h1
   split at h
   ·rename_i y l2 h2
    simp only[Option.some.injEq,Prod.mk.injEq]at h
    obtain⟨rfl,rfl⟩:=h
    obtain⟨c,d,rfl,e2,e3⟩:=decB_rel' hC hE p h1 hr
    obtain⟨c',d',rfl,e5,e6⟩:=decB_rel' hC hE q h2 e3
    exact⟨c++c',d',by rw[List.append_assoc],RelL.append e2 e5,e6⟩
   ·cases h
  ·cases h
 | .int k,l,r,x,us,h,hr=>by
  simp only[decB]at h
  obtain⟨c,d,e1,e2,e3⟩:=dec_rel _ h hr
  exact⟨c,d,e1,encB_rel _ (fun _ _ h=>by cases h) (fun _ h=>by cases h) (fun _ _ h=>by cases h) e2,e3⟩
 | .bool,l,r,x,us,h,hr=>by
  simp only[decB]at h
  obtain⟨c,d,e1,e2,e3⟩:=dec_rel _ h hr
  exact⟨c,d,e1,encB_rel _ (fun _ _ h=>by cases h) (fun _ h=>by cases h) (fun _ _ h=>by cases h) e2,e3⟩
 | .str,l,r,x,us,h,hr=>by
  simp only[decB]at h
  obtain⟨c,d,e1,e2,e3⟩:=dec_rel _ h hr
  exact⟨c,d,e1,encB_rel _ (fun _ _ h=>by cases h) (fun _ h=>by cases h) (fun _ _ h=>by cases h) e2,e3⟩
 | .arr T n,l,r,x,us,h,hr=>by
  simp only[decB]at h
  obtain⟨c,d,e1,e2,e3,e4⟩:=decI_rel (R:=fun x c=>RelL E' σ w β' (encB T x) c) (fun h hr=>decB_rel' hC hE T h hr) h hr
  have h2:=arrC_rel (f:=encB T) (d:=Ty.dfl T) (fun _ _ h=>h) x [] e2
  rw[e3]at h2
  exact⟨c,d,e1,h2,e4⟩
theorem decBV_rel'{ag:Bool}{T:Ty}{x:AV}{y:T.Den}{u:Value}(hC:Conc E σ τ β ⟨tm,H⟩ a w)(hE: ∀t,Src E τ H t→E'.Pr t)(hr:Rel E σ w β x u)(h:decBV H ag T x=some y):Rel E' σ w β' (encBV ag T y) u:=by
 have hw: ∀{l:List AV} {us:List Value},whole (decB H T l)=some y→RelL E σ w β l us→RelL E' σ w β' (encB T y) us:=by
  intro l us h1 h2
  obtain⟨c,d,rfl,h3,h4⟩:=decB_rel' (β':=β') hC hE T (whole_some h1) h2
  simp only[RelL]at h4
  subst h4
  simpa using h3
 unfold decBV at h
 split at h
 ·simp only[encBV,Rel]
  split at h
  ·simp only[Rel]at hr
   obtain⟨vs,h1,h2⟩:=hr
   exact⟨vs,h1,hw h h2⟩
  ·rename_i vs
   simp only[Rel]at hr
   exact⟨vs.toList,by simpa using hr,hw h (relL_vals _)⟩
  ·cases h
 ·have h3:=hw (us:= [u]) h (by simp only[RelL];exact⟨u,[],rfl,hr,rfl⟩)
  simp only[encBV]
  cases he:encB T y with
  |nil=>rw[he]at h3;simp[RelL]at h3
  |cons z l=>
   rw[he]at h3
   simp only[RelL]at h3
   obtain⟨v,r,e1,e2,_⟩:=h3
   injection e1 with e1 _
   subst e1
   exact e2
theorem decArgs_rel'(hC:Conc E σ τ β ⟨tm,H⟩ a w)(hE: ∀t,Src E τ H t→E'.Pr t): ∀{ps:List (Bool×Ty)} {l:List AV} {us:List Value} {y:ADen ps},RelL E σ w β l us→decArgs H ps l=some y→RelL E' σ w β' (encArgs ps y) us
 | [],[],us,y,hr,h=>by simp only[RelL]at hr;subst hr;simp[encArgs,RelL]
 | [],x::xs,us,y,hr,h=>by simp[decArgs]at h
 | [p],[],us,y,hr,h=>by simp[decArgs]at h
 | [p],[x],us,y,hr,h=>by
  simp only[RelL]at hr
  obtain⟨v,r,rfl,h2,rfl⟩:=hr
  simp only[decArgs]at h
  simp only[encArgs,RelL]
  exact⟨v,[],rfl,decBV_rel' hC hE h2 h,rfl⟩
 | [p],x::z::xs,us,y,hr,h=>by simp[decArgs]at h
 |p::q::l,[],us,y,hr,h=>by simp[decArgs]at h
 |p::q::l,x::xs,us,y,hr,h=>by
  simp only[RelL]at hr
  obtain⟨v,r,rfl,h2,h3⟩:=hr
  simp only[decArgs]at h
  split at h
  ·rename_i y1 ys h4 h5
   obtain rfl:=Option.some.inj h
   simp only[encArgs,RelL]
   exact⟨v,r,rfl,decBV_rel' hC hE h2 h4,decArgs_rel' hC hE h3 h5⟩
  ·cases h
abbrev Dj(τ:Nat→Nat)(H:List AB)(τ':Nat→Nat)(H':List AB):Prop:=Disj τ τ' H H'
end
end Go.Am
/- The abstract machine,part 27: calls that are handed a pointer to what they may change. No statement of its own. -/
namespace Go.Am
open Go.Vk Go.RowKit
@[reducible] def RDen:List (Bool×DT)→Type
 | []=>Unit
 | [r]=>r.2.Den
 |r::q::l=>r.2.Den×RDen (q::l)
def packV(ag:Bool)(d:DT)(v:AV)(H:List AB):Option (d.Den×List AB):=
 match ag with
 |true=>match v with
  | .agg cs=>match packD d cs H with
   |some (y,[],H')=>some (y,H')
   |_=>none
  | .val (.agg vs)=>match packD d (vs.toList.map .val) H with
   |some (y,[],H')=>some (y,H')
   |_=>none
  |_=>none
 |false=>match packD d [v] H with
  |some (y,[],H')=>some (y,H')
  |_=>none
def unpackV(ag:Bool)(d:DT)(y:d.Den)(H:List AB):AV×List AB:=
 match ag with
 |true=>(.agg (unpackD d y H).1,(unpackD d y H).2)
 |false=>((unpackD d y H).1.headD .unk,(unpackD d y H).2)
def packR:(rs:List (Bool×DT))→List AV→List AB→Option (RDen rs)
 | [],[],_=>some ()
 | [r],[v],H=>match packV r.1 r.2 v H with
  |some (y,_)=>some y
  |none=>none
 |r::q::l,v::vs,H=>match packV r.1 r.2 v H with
  |some (y,H')=>match packR (q::l) vs H' with
   |some z=>some (y,z)
   |none=>none
  |none=>none
 |_,_,_=>none
def unpackR:(rs:List (Bool×DT))→RDen rs→List AB→List AV×List AB
 | [],_,H=>([],H)
 | [r],y,H=>([(unpackV r.1 r.2 y H).1],(unpackV r.1 r.2 y H).2)
 |r::q::l,y,H=>((unpackV r.1 r.2 y.1 H).1::(unpackR (q::l) y.2 (unpackV r.1 r.2 y.1 H).2).1,(unpackR (q::l) y.2 (unpackV r.1 r.2 y.1 H).2).2)
def oneA:List AV→AV
 | [v]=>v
 |vs=> .tup vs
def unpackB(b:Nat)(C:TypeId)(d:DT)(s:d.Den)(H:List AB):List AB:=
 (unpackD d s (H.set b (.cells C (List.replicate d.sz .unk)))).2.set b (.cells C (unpackD d s (H.set b (.cells C (List.replicate d.sz .unk)))).1)
def endP(P:Program)(res:List ResultVar)(C:TypeId)(d:DT)(rs:List (Bool×DT))(tm:List AV)(H:List AB):Option (d.Den×RDen rs):=
 match resL P tm H res with
 |some vs=>match frzRs (rs.map fun r=>r.2.owns) vs (settleAll H)with
  |some (vs',H0)=>match frzB 0 d H0 with
   |some H'=>match(H'[0]? :Option AB)with
    |some (.cells C' cs)=>match natEq C' C,packD d cs (H'.set 0 .gone)with
     |some _,some (s,[],H'')=>match packR rs vs' H'' with
      |some r=>some (s,r)
      |none=>none
     |_,_=>none
    |_=>none
   |none=>none
  |none=>none
 |none=>none
def finP(P:Program)(res:List ResultVar)(C:TypeId)(d:DT)(rs:List (Bool×DT))(e:Exit)(tm:List AV)(H:List AB):Option (d.Den×RDen rs):=
 match e with
 | .ret=>endP P res C d rs tm H
 | .normal=>endP P res C d rs tm H
 |_=>none
def hdlP0(C:TypeId)(d:DT)(ps:List (Bool×Ty))(rs:List (Bool×DT))(F:d.Den→ADen ps→Option (d.Den×RDen rs)):Hdl:=fun X args H k=>
 match args with
 | .ptr b 0::l=>match packD (.ptr C d) [.ptr b 0] H with
  |some (s,_,H')=>match decArgs H' ps l with
   |some y=>(F s y).bind fun r=>k (unpackR rs r.2 (unpackB b C d r.1 H')).2 (oneA (unpackR rs r.2 (unpackB b C d r.1 H')).1)
   |none=>none
  |none=>none
 |_=>none
def hdlP(C:TypeId)(d:DT)(ps:List (Bool×Ty))(rs:List (Bool×DT))(F:d.Den→ADen ps→Option (d.Den×RDen rs)):Hdl:=fun X args H k=>
 match args with
 | .ptr b 0::l=>match frzB b d (settleF (fun r=>isIn r (usedB 8 b H)) H)with
  |some H0=>hdlP0 C d ps rs F X (.ptr b 0::l) H0 k
  |none=>none
 |_=>none
variable [Dr]
section
variable {P : Program} {E E' : Env} {σ σ1 : Gh} {τ τ' : Nat → Nat} {w w1 : World} {β β' : List Value} {tm : List AV} {H : List AB} {a : Act}
theorem oneA_rel: ∀{vs:List AV} {us:List Value},RelL E σ w β vs us→Rel E σ w β (oneA vs) (oneVal us)
 | [],us,h=>by
  simp only[RelL]at h
  subst h
  simp only[oneA,oneVal,Rel]
  exact⟨[],rfl,by simp[RelL]⟩
 | [v],us,h=>by
  simp only[RelL]at h
  obtain⟨u,r,rfl,h1,rfl⟩:=h
  exact h1
 |v::v'::l,us,h=>by
  have h':=h
  simp only[RelL]at h
  obtain⟨u,r,rfl,h1,u',r',rfl,h2,h3⟩:=h
  simp only[oneA,oneVal,Rel]
  exact⟨_,rfl,h'⟩
theorem exit_one {a':Act} {tms:List AV} {b k n:Nat} {C:TypeId} {d:DT} {cs:List AV} {s:d.Den} {Hs Hs':List AB} (hC:Conc E σ τ β ⟨tm,H⟩ a w) (hb:H[b]? =some .gone) (hv:β[b]? =some (.pointer (some ⟨n,0,none⟩)))
  (hS:Conc E' σ τ' β' ⟨tms,Hs⟩ a' w) (hk:Hs[k]? =some (.cells C cs)) (hv':β'[k]? =some (.pointer (some ⟨n,0,none⟩))) (hp:packD d cs (Hs.set k .gone)=some (s,[],Hs')) (hd:Dj τ H τ' Hs)
  (hap: ∀(j:Nat) x,Hs[j]? =some x→x.live=true→¬E.Kp (τ' j)):
  ∃τ2 β2,(∃s,β2=β++s)∧Conc E σ τ2 β2 ⟨tm,unpackB b C d s H⟩ a w∧Dj τ2 (unpackB b C d s H) τ' Hs'∧HPres H (unpackB b C d s H)∧∀i,i<H.length→i≠b→(unpackB b C d s H)[i]? =H[i]? :=by
 obtain⟨n',vs,e1,e2,e3⟩:=hS.heap k _ _ hk hv'
 simp only[Value.pointer.injEq,Option.some.injEq,Addr.mk.injEq]at e1
 obtain⟨rfl,_⟩:=e1
 have g1:Gone Hs (Hs.set k .gone):= .set hk (fun y=>by simp)
 have hlen:vs.length=d.sz:=by
  obtain⟨us1,us2,k1,k2,k3⟩:=packD_len hp e3
  simp only[RelL]at k3
  subst k3
  simpa[k1]using k2
 have ht: ∀(i:Nat) y,H[i]? =some y→y.live=true→τ i≠τ' k:=fun i y hy hl=>hd i y k _ hy hl hk rfl (fun b=>by simp)
 have hC1:=conc_back (x:= .cells C (List.replicate d.sz .unk)) hC hb hv ⟨n,vs,rfl,e2,relL_unk hlen⟩ (hap k _ hk rfl) ht
 have hbl:b<H.length:=(List.getElem?_eq_some_iff.1 hb).1
 have hset: ∀(i:Nat) (y:AB),(H.set b (.cells C (List.replicate d.sz .unk)))[i]? =some y→(H[i]? =some y∧i≠b)∨i=b:=by
  intro i y hy
  rw[List.getElem?_set]at hy
  by_cases hij:b=i
  ·exact .inr hij.symm
  ·rw[if_neg hij]at hy
   exact .inl ⟨hy,fun h=>hij h.symm⟩
 have hd1:Dj (updT τ b (τ' k)) (H.set b (.cells C (List.replicate d.sz .unk))) τ' (Hs.set k .gone):=by
  intro i x j y hx hl hy hly hnl
  obtain⟨z1,z2⟩:=gone_get hy hly
  rcases hset i x hx with⟨h1,h2⟩|rfl
  ·simp only[updT,h2,if_false]
   exact hd i x j y h1 hl z1 hly hnl
  ·simp only[updT,if_true]
   exact fun he=>z2 (hS.inj _ _ _ _ hk z1 rfl hly he).symm
 obtain⟨τ3,β3,us1,us2,k1,f1,f2,f3,f4⟩:=moveD d hp (conc_Gone hS g1) e3 hC1 hd1 (fun j x hx hl _=>hap j x (g1.get hx hl) hl)
 simp only[RelL]at f2
 subst f2
 rw[List.append_nil]at k1
 subst k1
 have hbl':b< (H.set b (AB.cells C (List.replicate d.sz .unk))).length:=by simpa using hbl
 have hb1:(unpackD d s (H.set b (.cells C (List.replicate d.sz .unk)))).2[b]? =some (.cells C (List.replicate d.sz .unk)):=by
  rw[f3.heap b hbl',List.getElem?_set,if_pos rfl,if_pos hbl]
 have hb2:β3[b]? =some (.pointer (some ⟨n,0,none⟩)):=by
  obtain⟨q,rfl⟩:=f3.more
  rw[List.getElem?_append_left (List.getElem?_eq_some_iff.1 hv).1];exact hv
 have hb3:τ3 b=τ' k:=by rw[f3.tags b hbl'];simp[updT]
 refine⟨τ3,β3,f3.more,conc_refine f3.conc hb1 hb2 (by rw[hb3];exact e2) f4,?_,?_,fun i hi hib=> ?_⟩
 ·intro i x j z hx hl hz hk hnl
  unfold unpackB at hx
  rw[List.getElem?_set]at hx
  by_cases hi:b=i
  ·subst hi
   exact f3.disj _ _ j z hb1 rfl hz hk hnl
  ·rw[if_neg hi]at hx
   exact f3.disj i x j z hx hl hz hk hnl
 ·refine⟨?_,fun i y hy=> ?_⟩
  ·unfold unpackB
   rw[List.length_set]
   have:=f3.long
   simpa using this
  ·have hib:b≠i:=fun h=>by subst h;rw[hb]at hy;cases hy
   unfold unpackB
   rw[List.getElem?_set,if_neg hib,f3.heap i (by simpa using(List.getElem?_eq_some_iff.1 hy).1),List.getElem?_set,if_neg hib]
   exact hy
 ·unfold unpackB
  rw[List.getElem?_set,if_neg (fun e=>hib e.symm),f3.heap i (by simpa using hi),List.getElem?_set,if_neg (fun e=>hib e.symm)]
theorem moveV {a':Act} {tms:List AV} {ag:Bool} {d:DT} {v:AV} {u:Value} {y:d.Den} {Hs Hs':List AB} (h:packV ag d v Hs=some (y,Hs')) (hS:Conc E' σ τ' β' ⟨tms,Hs⟩ a' w) (hr:Rel E' σ w β' v u) (hC:Conc E σ τ β ⟨tm,H⟩ a w) (hd:Dj τ H τ' Hs)
  (hap: ∀(j:Nat) x,Hs[j]? =some x→x.live=true→¬E.Kp (τ' j)):
  ∃τ2 β2,Gone Hs Hs'∧Mvd E σ w a tm τ β H τ' Hs' τ2 β2 (unpackV ag d y H).2∧Rel E σ w β2 (unpackV ag d y H).1 u:=by
 have aggC: ∀{cs:List AV} {vs:List Value},packD d cs Hs=some (y,[],Hs')→RelL E' σ w β' cs vs→∃τ2 β2,Gone Hs Hs'∧Mvd E σ w a tm τ β H τ' Hs' τ2 β2 (unpackD d y H).2∧RelL E σ w β2 (unpackD d y H).1 vs:=by
  intro cs vs h1 h2
  obtain⟨τ3,β3,us1,us2,k1,f1,f2,f3,f4⟩:=moveD d h1 hS h2 hC hd (fun j x hx hl _=>hap j x hx hl)
  simp only[RelL]at f2
  subst f2
  rw[List.append_nil]at k1
  subst k1
  exact⟨τ3,β3,packD_gone h1,f3,f4⟩
 unfold packV at h
 split at h
 ·split at h
  ·rename_i cs
   split at h
   ·rename_i h1
    simp only[Option.some.injEq,Prod.mk.injEq]at h
    obtain⟨rfl,rfl⟩:=h
    simp only[Rel]at hr
    obtain⟨vs,rfl,h2⟩:=hr
    obtain⟨τ2,β2,g0,g1,g2⟩:=aggC h1 h2
    exact⟨τ2,β2,g0,g1,by simp only[unpackV,Rel];exact⟨vs,rfl,g2⟩⟩
   ·cases h
  ·rename_i vs
   split at h
   ·rename_i h1
    simp only[Option.some.injEq,Prod.mk.injEq]at h
    obtain⟨rfl,rfl⟩:=h
    simp only[Rel]at hr
    subst hr
    obtain⟨τ2,β2,g0,g1,g2⟩:=aggC h1 (relL_vals _)
    exact⟨τ2,β2,g0,g1,by simp only[unpackV,Rel];exact⟨vs.toList,by simp,g2⟩⟩
   ·cases h
  ·cases h
 ·split at h
  ·rename_i h1
   simp only[Option.some.injEq,Prod.mk.injEq]at h
   obtain⟨rfl,rfl⟩:=h
   obtain⟨τ2,β2,g0,g1,g2⟩:=aggC (vs:= [u]) h1 (by simp only[RelL];exact⟨u,[],rfl,hr,rfl⟩)
   refine⟨τ2,β2,g0,g1,?_⟩
   simp only[unpackV]
   generalize (unpackD d _ H).1=l at g2⊢
   cases l with
   |nil=>simp[RelL]at g2
   |cons z l=>
    simp only[RelL]at g2
    obtain⟨v',r,e1,e2,_⟩:=g2
    injection e1 with e1 _
    subst e1
    exact e2
  ·cases h
theorem moveR{a':Act}{tms:List AV}: ∀{rs:List (Bool×DT)} {vs:List AV} {us:List Value} {Hs:List AB} {r:RDen rs} {τ:Nat→Nat} {β:List Value} {H:List AB},packR rs vs Hs=some r→Conc E' σ τ' β' ⟨tms,Hs⟩ a' w→RelL E' σ w β' vs us→Conc E σ τ β ⟨tm,H⟩ a w→Dj τ H τ' Hs→
  (∀(j:Nat) x,Hs[j]? =some x→x.live=true→¬E.Kp (τ' j))→
  ∃τ2 β2,(∃s,β2=β++s)∧Conc E σ τ2 β2 ⟨tm,(unpackR rs r H).2⟩ a w∧HPres H (unpackR rs r H).2∧RelL E σ w β2 (unpackR rs r H).1 us
 | [],[],us,Hs,r,τ,β,H,h,hS,hr,hC,hd,hap=>by
  simp only[RelL]at hr
  subst hr
  exact⟨τ,β,⟨[],by simp⟩,hC,.refl _,by simp[unpackR,RelL]⟩
 | [],v::vs,us,Hs,r,τ,β,H,h,hS,hr,hC,hd,hap=>by simp[packR]at h
 | [p],[],us,Hs,r,τ,β,H,h,hS,hr,hC,hd,hap=>by simp[packR]at h
 | [p],v::v'::vs,us,Hs,r,τ,β,H,h,hS,hr,hC,hd,hap=>by simp[packR]at h
 |p::q::l,[],us,Hs,r,τ,β,H,h,hS,hr,hC,hd,hap=>by simp[packR]at h
 | [p],[v],us,Hs,r,τ,β,H,h,hS,hr,hC,hd,hap=>by
  simp only[RelL]at hr
  obtain⟨u,us',rfl,hu,rfl⟩:=hr
  simp only[packR]at h
  split at h
  ·rename_i y H' h1
   obtain rfl:=Option.some.inj h
   obtain⟨τ2,β2,g0,g1,g2⟩:=moveV h1 hS hu hC hd hap
   refine⟨τ2,β2,g1.more,g1.conc,⟨g1.long,fun i z hz=> ?_⟩,?_⟩
   ·rw[show(unpackR [p] y H).2=(unpackV p.1 p.2 y H).2 from rfl,g1.heap i (List.getElem?_eq_some_iff.1 hz).1];exact hz
   ·simp only[unpackR,RelL]
    exact⟨u,[],rfl,g2,rfl⟩
  ·cases h
 |p::q::l,v::vs,us,Hs,r,τ,β,H,h,hS,hr,hC,hd,hap=>by
  simp only[RelL]at hr
  obtain⟨u,us',rfl,hu,hr⟩:=hr
  simp only[packR]at h
  split at h
  ·rename_i y H' h1
   split at h
   ·rename_i z h2
    obtain rfl:=Option.some.inj h
    obtain⟨τ2,β2,g0,g1,g2⟩:=moveV h1 hS hu hC hd hap
    obtain⟨τ3,β3,f1,f2,f3,f4⟩:=moveR h2 (conc_Gone hS g0) hr g1.conc g1.disj (fun j x hx hl=>hap j x (g0.get hx hl) hl)
    refine⟨τ3,β3,?_,f2,HPres.trans ⟨g1.long,fun i z hz=> ?_⟩ f3,?_⟩
    ·obtain⟨s1,rfl⟩:=g1.more
     obtain⟨s2,rfl⟩:=f1
     exact⟨s1++s2,by simp⟩
    ·rw[g1.heap i (List.getElem?_eq_some_iff.1 hz).1];exact hz
    ·simp only[unpackR,RelL]
     exact⟨u,us',rfl,Rel.more f1 g2,f4⟩
   ·cases h
  ·cases h
theorem hdlP0_ok {f:FuncId} {fn:Func} {c:Code} (hs:List (Hnd P)) (an:List LAnn) (C:TypeId) (d:DT) (ps:List (Bool×Ty)) (rs:List (Bool×DT)) (F:d.Den→ADen ps→Option (d.Den×RDen rs))
  (hf:P.funcs[f]? =some fn) (hb:fn.body=some c)
  (hF: ∀s y,exec P hs an (d.Den×RDen rs) c (.ptr 0 0::encArgs ps y++List.replicate (fn.ntmps - (ps.length+1)) (.val undef)) (unpackD (.ptr C d) s []).2 (finP P fn.results.toList C d rs)=F s y):HdlOk P f (hdlP0 C d ps rs F):=by
 intro X args H k x h
 unfold hdlP0 at h
 split at h
 case h_2=>cases h
 rename_i b l
 split at h
 case h_2=>cases h
 rename_i s l0 H1 hpk
 split at h
 case h_2=>cases h
 rename_i y hy
 obtain⟨r,hr,hk⟩:=Option.bind_eq_some_iff.1 h
 intro E σ τ β tm a w us hC hargs
 simp only[RelL]at hargs
 obtain⟨u0,us,rfl,hu0,hargs⟩:=hargs
 have hg:=packD_gone hpk
 obtain⟨r1,q1,q2⟩:=Gh.fresh σ (E.bnd+1) w.heap.size
 obtain⟨r0,q3,q4⟩:=Gh.fresh τ r1 H.length
 have hD0: ∀t,E.Kp t→¬ ∃(i:Nat) (x:AB),H[i]? =some x∧x.live=true∧(∀y,H1[i]? =some y→y.live=false)∧τ i=t:=by
  rintro t ht ⟨i,x,h1,h2,_,rfl⟩
  exact hC.apart i x h1 h2 ht
 let E':Env:=⟨fun t=>t<r0∧¬ ∃(i:Nat) (x:AB),H[i]? =some x∧x.live=true∧(∀y,H1[i]? =some y→y.live=false)∧τ i=t,fun _=>False,fun t=>t<r0∧¬ ∃(i:Nat) (x:AB),H[i]? =some x∧x.live=true∧(∀y,H1[i]? =some y→y.live=false)∧τ i=t,r0,⟨by omega,hD0 0 (E.sub _ (.inl E.nought))⟩,fun t h=>h.elim id False.elim,fun t h=>h.1⟩
 have hsub: ∀t,E.Kp t→E'.Kp t:=fun t ht=>⟨by have:=E.low t ht;omega,hD0 t ht⟩
 have hlive: ∀(i:Nat) x,H1[i]? =some x→x.live=true→E'.Kp (τ i):=by
  intro i x hx hl
  have hx0:=hg.get hx hl
  refine⟨q4 i (List.getElem?_eq_some_iff.1 hx0).1,?_⟩
  rintro⟨j,z,h1,h2,h3,he⟩
  have:=hC.inj j i z x h1 hx0 h2 hl he
  subst this
  have:=h3 x hx
  rw[hl]at this
  cases this
 have hC1:=conc_Gone hC hg
 have hu0':RelL E σ w β [.ptr b 0] [u0]:=by simp only[RelL];exact⟨u0,[],rfl,hu0,rfl⟩
 have hbase0:Conc E' σ (fun _=>0) [] ⟨[],[]⟩ (⟨#[],[]⟩:Act) w:=⟨rfl,by simp[RelL],rfl,fun i x v hx=>by simp at hx,fun i x hx=>by simp at hx,fun i j x y hx=>by simp at hx⟩
 obtain⟨τ2,β2,us1,us2,k1,m1,m2,m3,m4⟩:=moveD (.ptr C d) (E:=E') (E':=E) (τ:=fun _=>0) (β:= []) (H:= []) (tm:= []) (a:=(⟨#[],[]⟩:Act)) hpk hC hu0' hbase0 (fun i x j y hx=>by simp at hx) (fun j x hx hl hg2 hkp=>hkp.2 ⟨j,x,hx,hl,hg2,rfl⟩)
 have e0:us1= [u0]:=by
  have hl:=m1
  simp only[DT.sz]at hl
  cases us1 with
  |nil=>simp at hl
  |cons z zs=>
   cases zs with
   |nil=>simp at k1;rw[k1.1]
   |cons z' zs=>simp at hl
 subst e0
 have m4':=m4
 simp only[unpackD,RelL]at m4
 obtain⟨u0',r',e1,m5,_⟩:=m4
 injection e1 with e1 _
 subst e1
 simp only[Rel]at hu0 m5
 obtain⟨n,hbn,rfl⟩:=hu0
 obtain⟨n',hbn',e2⟩:=m5
 simp only[Value.pointer.injEq,Option.some.injEq,Addr.mk.injEq]at e2
 obtain⟨rfl,_⟩:=e2
 have hbn':β2[0]? =some (.pointer (some ⟨n,0,none⟩)):=hbn'
 have hargs':RelL E' σ w β2 (encArgs ps y) us:=decArgs_rel' hC1 (fun t ht=>by
  rcases ht with ht|⟨i,x,h1,h2,rfl⟩
  ·exact hsub t (E.sub _ (.inl ht))
  ·exact hlive i x h1 h2) hargs hy
 have hul:us.length=ps.length:=by rw[hargs'.length,encArgs_len]
 have hC0:Conc E' σ τ2 β2 ⟨.ptr 0 0::encArgs ps y++List.replicate (fn.ntmps - (ps.length+1)) (.val undef),(unpackD (.ptr C d) s []).2⟩ {tmps:=(Value.pointer (some ⟨n,0,none⟩)::us).toArray++Array.replicate (fn.ntmps - (Value.pointer (some ⟨n,0,none⟩)::us).toArray.size) undef,defers:= []} w:=by
  refine⟨rfl,?_,m3.conc.size,m3.conc.heap,m3.conc.apart,m3.conc.inj⟩
  have e:((Value.pointer (some ⟨n,0,none⟩)::us).toArray++Array.replicate (fn.ntmps - (Value.pointer (some ⟨n,0,none⟩)::us).toArray.size) undef).toList=(Value.pointer (some ⟨n,0,none⟩)::us)++List.replicate (fn.ntmps - (ps.length+1)) undef:=by simp[hul]
  simp only[e]
  refine RelL.append ?_ ?_
  ·simp only[RelL]
   exact⟨_,us,rfl,by simp only[Rel];exact⟨n,hbn',rfl⟩,hargs'⟩
  ·have:=relL_vals (E:=E') (σ:=σ) (w:=w) (β:=β2) (List.replicate (fn.ntmps - (ps.length+1)) undef)
   simpa using this
 refine calls_of_wp hf hb (exec_sound c (x:=r) (by rw[hF s y];exact hr) hC0 (fun e tm' H' σ' τ' β' a' w' hk' hW hC'=> ?_))
 have main:endP P fn.results.toList C d rs tm' H'=some r→a'.defers= []∧∃v,(results fn a'.tmps).run P w'= .ok v w'∧
   ∃v_1 σ',Ending.returned v=Ending.returned v_1∧∃H'' av τ' β',k H'' av=some x∧HPres H H''∧(∃s,β'=β++s)∧EvT (Rng E) σ w σ' w'∧Conc E σ' τ' β' ⟨tm,H''⟩ a w'∧Rel E σ' w' β' av v_1:=by
  intro hm
  unfold endP at hm
  split at hm
  case h_2=>cases hm
  rename_i vs0 hvs
  split at hm
  case h_2=>cases hm
  rename_i vs H20 hfz
  split at hm
  case h_2=>cases hm
  rename_i H2 hfb
  split at hm
  case h_2=>cases hm
  rename_i C' cs hcell
  split at hm
  case h_2=>cases hm
  rename_i pC s' H3 _ hpd
  obtain⟨hCC⟩:=pC
  subst hCC
  split at hm
  case h_2=>cases hm
  rename_i rr hpr
  obtain rfl:=Option.some.inj hm
  obtain⟨us',e1,e2⟩:=resL_sound hC' hvs
  refine⟨hC'.defers,oneVal us',results_run e1,oneVal us',?_⟩
  obtain⟨_,σs,τ',hevs,hCs⟩:=settleF_sound (f:=fun _=>true) hC'
  have e2:=RelL.ev hevs (fun t ht h=>h (E'.sub t ht)) e2
  obtain⟨_,σ20,hevf,hC20,e30⟩:=frzRs_sound hfz hCs e2
  obtain⟨_,σ2,hevg,hC2⟩:=frzB_sound hfb hC20
  have hP': ∀t,(E'.Pr t∨E'.It t)→¬Rng E' t:=fun t ht h=>h (E'.sub t ht)
  have e3:=RelL.ev hevg hP' e30
  refine⟨σ2,rfl,?_⟩
  have hev:EvT (Rng E') σ w σ2 w':=((hW.ev.trans hevs).trans hevf).trans hevg
  have hevE:EvT (Rng E) σ w σ2 w':=hev.mono (fun t ht hp=>ht (hsub t hp))
  have hP: ∀t,(E.Pr t∨E.It t)→¬Rng E' t:=fun t ht h=>h (hsub t (E.sub t ht))
  have hcl:Conc E σ2 τ β ⟨tm,H1⟩ a w':=⟨hC1.defers,RelL.ev hev hP hC1.tmps,hC1.size,fun i x v hx hv=>BRel.ev (hC1.heap i x v hx hv) hev hP (fun hl h=>h (hlive i x hx hl)),hC1.apart,hC1.inj⟩
  have hb1:H1[b]? =some .gone:=by
   simp only[packD]at hpk
   split at hpk
   ·rename_i hx
    split at hpk
    ·rename_i h2
     simp only[Option.some.injEq,Prod.mk.injEq]at hpk
     obtain⟨_,_,rfl⟩:=hpk
     have hbg:(H.set b .gone)[b]? =some .gone:=by rw[List.getElem?_set,if_pos rfl,if_pos (List.getElem?_eq_some_iff.1 hx).1]
     rcases(packD_gone h2).2 b with h3|⟨h3,_⟩
     ·rw[h3];exact hbg
     ·exact h3
    ·cases hpk
   ·cases hpk
  have hb2:β'[0]? =some (.pointer (some ⟨n,0,none⟩)):=by
   obtain⟨q,rfl⟩:=hW.more
   rw[List.getElem?_append_left (List.getElem?_eq_some_iff.1 hbn').1];exact hbn'
  obtain⟨τ3,β3,f1,f2,f3,f4,_⟩:=exit_one hcl hb1 hbn hC2 hcell hb2 hpd (fun i x j z hx hl hz hk _ he=>hC2.apart j z hz hk (he▸hlive i x hx hl)) (fun j x hx hl hp=>hC2.apart j x hx hl (hsub _ hp))
  have g3:Gone H2 H3:=(Gone.set hcell (fun y=>by simp)).trans (packD_gone hpd)
  obtain⟨τ4,β4,g4,g5,g6,g7⟩:=moveR hpr (conc_Gone hC2 g3) e3 f2 f3 (fun j x hx hl hp=>hC2.apart j x (g3.get hx hl) hl (hsub _ hp))
  refine⟨_,_,τ4,β4,hk,hg.pres.trans (f4.trans g6),?_,hevE,g5,oneA_rel g7⟩
  obtain⟨s1,rfl⟩:=f1
  obtain⟨s2,rfl⟩:=g4
  exact⟨s1++s2,by simp⟩
 cases e with
 |normal=>exact main hk'
 |ret=>exact main hk'
 |_=>simp[finP]at hk'
theorem hdlP_ok {f:FuncId} {fn:Func} {c:Code} (hs:List (Hnd P)) (an:List LAnn) (C:TypeId) (d:DT) (ps:List (Bool×Ty)) (rs:List (Bool×DT)) (F:d.Den→ADen ps→Option (d.Den×RDen rs))
  (hf:P.funcs[f]? =some fn) (hb:fn.body=some c)
  (hF: ∀s y,exec P hs an (d.Den×RDen rs) c (.ptr 0 0::encArgs ps y++List.replicate (fn.ntmps - (ps.length+1)) (.val undef)) (unpackD (.ptr C d) s []).2 (finP P fn.results.toList C d rs)=F s y):HdlOk P f (hdlP C d ps rs F):=by
 intro X args H k x h
 unfold hdlP at h
 split at h
 case h_2=>cases h
 rename_i b l
 split at h
 case h_2=>cases h
 rename_i H0 hfz
 intro E σ τ β tm a w us hC hargs
 obtain⟨p0,σ0,τ,p1,hC⟩:=settleF_sound (f:=fun r=>isIn r (usedB 8 b H)) hC
 have hargs:=RelL.ev p1 (fun t ht h=>h (E.sub t ht)) hargs
 obtain⟨g0,σ1,g1,g2⟩:=frzB_sound hfz hC
 have hP: ∀t,(E.Pr t∨E.It t)→¬Rng E t:=fun t ht h=>h (E.sub t ht)
 refine Calls.mono (hdlP0_ok hs an C d ps rs F hf hb hF X _ H0 k x h E σ1 τ β tm a w us g2 (RelL.ev g1 hP hargs)) ?_
 rintro e w' ⟨v,σ',e1,H2,av,τ',β',k1,k2,k3,k4,k5,k6⟩
 exact⟨v,σ',e1,H2,av,τ',β',k1,(p0.trans g0).trans k2,k3,(p1.trans g1).trans k4,k5,k6⟩
def orH(p:List AV→Bool)(h1 h2:Hdl):Hdl:=fun X args H k=>
 match p args with
 |true=>h1 X args H k
 |false=>h2 X args H k
theorem orH_ok{f:FuncId}{p:List AV→Bool}{h1 h2:Hdl}(k1:HdlOk P f h1)(k2:HdlOk P f h2):HdlOk P f (orH p h1 h2):=by
 intro X args H k x h
 unfold orH at h
 split at h
 ·exact k1 X args H k x h
 ·exact k2 X args H k x h
def nilP:List AV→Bool
 | .val (.pointer none)::_=>true
 |_=>false
end
end Go.Am
/- The abstract machine,part 39: calls with pointers among the arguments,to what they may change. No statement of its own. -/
namespace Go.Am
open Go.Vk Go.RowKit
inductive PA where
 |val (ag:Bool) (T:Ty)
 |ptr (C:TypeId) (d:DT)
@[reducible] def SDen:List PA→Type
 | []=>Unit
 | .val _ _::l=>SDen l
 | .ptr _ d::l=>d.Den×SDen l
def VLq:List PA→List (Bool×Ty)
 | []=> []
 | .val ag T::l=>(ag,T)::VLq l
 | .ptr _ _::l=>VLq l
def blkQ:List PA→List AV→Option (List Nat)
 | [],[]=>some []
 | .val _ _::l,_::avs=>blkQ l avs
 | .ptr _ _::l,.ptr b 0::avs=>match blkQ l avs with
  |some bs=>some (b::bs)
  |none=>none
 |_,_=>none
def frzQ:List PA→List Nat→List AB→Option (List AB)
 | .ptr _ d::l,b::bs,H=>match frzB b d H with
  |some H'=>frzQ l bs H'
  |none=>none
 | .val _ _::l,bs,H=>frzQ l bs H
 |_,_,H=>some H
def packQ:(qs:List PA)→List AV→List AB→Option (SDen qs×List AV×List AB)
 | [],[],H=>some ((),[],H)
 | .val _ _::l,v::avs,H=>match packQ l avs H with
  |some (s,vs,H')=>some (s,v::vs,H')
  |none=>none
 | .ptr C d::l,v::avs,H=>match packD (.ptr C d) [v] H with
  |some (s,[],H1)=>match packQ l avs H1 with
   |some (ss,vs,H2)=>some ((s,ss),vs,H2)
   |none=>none
  |_=>none
 |_,_,_=>none
def inQ:(qs:List PA)→SDen qs→List AB→List AB
 | [],_,H=>H
 | .val _ _::l,s,H=>inQ l s H
 | .ptr C d::l,s,H=>inQ l s.2 (unpackD (.ptr C d) s.1 H).2
def posQ:(qs:List PA)→SDen qs→List AB→List Nat
 | [],_,_=> []
 | .val _ _::l,s,H=>posQ l s H
 | .ptr C d::l,s,H=>H.length::posQ l s.2 (unpackD (.ptr C d) s.1 H).2
def mixQ:(qs:List PA)→SDen qs→List AV→List AB→List AV
 | [],_,_,_=> []
 | .val _ _::l,s,v::vs,H=>v::mixQ l s vs H
 | .val _ _::l,s,[],H=> []
 | .ptr C d::l,s,vs,H=> .ptr H.length 0::mixQ l s.2 vs (unpackD (.ptr C d) s.1 H).2
def outQ:(qs:List PA)→List Nat→List AB→Option (SDen qs×List AB)
 | [],[],H=>some ((),H)
 | .val _ _::l,ks,H=>outQ l ks H
 | .ptr C d::l,k::ks,H=>match(H[k]? :Option AB)with
  |some (.cells C' cs)=>match natEq C' C,packD d cs (H.set k .gone)with
   |some _,some (s,[],H')=>match outQ l ks H' with
    |some (ss,H'')=>some ((s,ss),H'')
    |none=>none
   |_,_=>none
  |_=>none
 |_,_,_=>none
def backQ:(qs:List PA)→List Nat→SDen qs→List AB→List AB
 | [],_,_,H=>H
 | .val _ _::l,bs,s,H=>backQ l bs s H
 | .ptr C d::l,b::bs,s,H=>backQ l bs s.2 (unpackB b C d s.1 H)
 | .ptr _ _::_,[],_,H=>H
def endQ(P:Program)(res:List ResultVar)(qs:List PA)(rs:List (Bool×DT))(ks:List Nat)(tm:List AV)(H:List AB):Option (SDen qs×RDen rs):=
 match resL P tm H res with
 |some vs=>match frzRs (rs.map fun r=>r.2.owns) vs (settleAll H)with
  |some (vs',H0)=>match frzQ qs ks H0 with
   |some H'=>match outQ qs ks H' with
    |some (s,H'')=>match packR rs vs' H'' with
     |some r=>some (s,r)
     |none=>none
    |none=>none
   |none=>none
  |none=>none
 |none=>none
def finQ(P:Program)(res:List ResultVar)(qs:List PA)(rs:List (Bool×DT))(ks:List Nat)(e:Exit)(tm:List AV)(H:List AB):Option (SDen qs×RDen rs):=
 match e with
 | .ret=>endQ P res qs rs ks tm H
 | .normal=>endQ P res qs rs ks tm H
 |_=>none
def usedQ(H:List AB):List Nat→List Nat
 | []=> []
 |b::bs=>usedB 8 b H++usedQ H bs
def hdlQ(qs:List PA)(rs:List (Bool×DT))(F:SDen qs→ADen (VLq qs)→Option (SDen qs×RDen rs)):Hdl:=fun X args H k=>
 match blkQ qs args with
 |some bs=>match frzQ qs bs (settleF (fun r=>isIn r (usedQ H bs)) H)with
  |some H0=>match packQ qs args H0 with
   |some (s,vals,H1)=>match decArgs H1 (VLq qs) vals with
    |some y=>(F s y).bind fun r=>k (unpackR rs r.2 (backQ qs bs r.1 H1)).2 (oneA (unpackR rs r.2 (backQ qs bs r.1 H1)).1)
    |none=>none
   |none=>none
  |none=>none
 |none=>none
def Lnk:List PA→List Nat→List Nat→List AB→List Value→List Value→Prop
 | [],bs,ks,_,_,_=>bs= []∧ks= []
 | .val _ _::l,bs,ks,H,β,β'=>Lnk l bs ks H β β'
 | .ptr _ _::l,bs,ks,H,β,β'=> ∃b bs' k ks',bs=b::bs'∧ks=k::ks'∧(H[b]? =some .gone∧∃n,β[b]? =some (.pointer (some ⟨n,0,none⟩))∧β'[k]? =some (.pointer (some ⟨n,0,none⟩)))∧b∉bs'∧Lnk l bs' ks' H β β'
theorem Lnk.mono: ∀{qs:List PA} {bs ks:List Nat} {H H':List AB} {β γ β' γ':List Value},Lnk qs bs ks H β β'→(∀b∈bs,H[b]? =some .gone→H'[b]? =some .gone)→(∃s,γ=β++s)→(∃s,γ'=β'++s)→Lnk qs bs ks H' γ γ'
 | [],bs,ks,H,H',β,γ,β',γ',h,_,_,_=>h
 | .val _ _::l,bs,ks,H,H',β,γ,β',γ',h,hg,h1,h2=>Lnk.mono (qs:=l) h hg h1 h2
 | .ptr _ _::l,bs,ks,H,H',β,γ,β',γ',⟨b,bs',k,ks',e1,e2,⟨e3,n,e4,e5⟩,e6,e7⟩,hg,h1,h2=>by
  subst e1 e2
  refine⟨b,bs',k,ks',rfl,rfl,⟨hg b (by simp) e3,n,get_pre h1 e4,get_pre h2 e5⟩,e6,Lnk.mono (qs:=l) e7 (fun b' hb=>hg b' (by simp[hb])) h1 h2⟩
variable [Dr]
section
variable {P : Program} {E E' : Env} {σ σ1 : Gh} {τ τ' : Nat → Nat} {w w1 : World} {β β' : List Value} {tm : List AV} {H : List AB} {a : Act}
theorem frzQ_sound: ∀{qs:List PA} {bs:List Nat} {H H':List AB} {σ:Gh},frzQ qs bs H=some H'→Conc E σ τ β ⟨tm,H⟩ a w→HPres H H'∧∃σ',EvT (Rng E) σ w σ' w∧Conc E σ' τ β ⟨tm,H'⟩ a w
 | [],bs,H,H',σ,h,hC=>by
  have h:some H=some H':=by cases bs<;>exact h
  obtain rfl:=Option.some.inj h
  exact⟨.refl _,σ,.refl,hC⟩
 | .val _ _::l,bs,H,H',σ,h,hC=>by
  have h2:frzQ l bs H=some H':=by cases bs<;>exact h
  exact frzQ_sound (qs:=l) h2 hC
 | .ptr _ _::l,[],H,H',σ,h,hC=>by
  have h:some H=some H':=h
  obtain rfl:=Option.some.inj h
  exact⟨.refl _,σ,.refl,hC⟩
 | .ptr _ d::l,b::bs,H,H',σ,h,hC=>by
  simp only[frzQ]at h
  split at h
  ·rename_i H1 h1
   obtain⟨g0,σ1,g1,g2⟩:=frzB_sound h1 hC
   obtain⟨k0,σ2,k1,k2⟩:=frzQ_sound (qs:=l) h g2
   exact⟨g0.trans k0,σ2,g1.trans k1,k2⟩
  ·cases h
omit [Dr] in
theorem packPtr{C:TypeId}{d:DT}{v:AV}{s:d.Den}{H1:List AB}(h:packD (.ptr C d) [v] H=some (s,[],H1)): ∃b cs,v= .ptr b 0∧H[b]? =some (.cells C cs)∧H1[b]? =some .gone:=by
 simp only[packD]at h
 split at h
 ·rename_i b
  split at h
  ·rename_i C' cs hx
   split at h
   ·rename_i pC y H' hC2 h2
    simp only[Option.some.injEq,Prod.mk.injEq]at h
    obtain⟨_,_,rfl⟩:=h
    obtain⟨rfl⟩:=pC
    have hbg:(H.set b .gone)[b]? =some .gone:=by rw[List.getElem?_set,if_pos rfl,if_pos (List.getElem?_eq_some_iff.1 hx).1]
    refine⟨b,cs,rfl,hx,?_⟩
    rcases(packD_gone h2).2 b with h3|⟨h3,_⟩
    ·rw[h3];exact hbg
    ·exact h3
   ·cases h
  ·cases h
 ·cases h
omit [Dr] in
theorem gone_keep{H H':List AB}(h:Gone H H'){b:Nat}(hb:H[b]? =some .gone):H'[b]? =some .gone:=by
 rcases h.2 b with h2|⟨h2,_⟩
 ·rw[h2];exact hb
 ·exact h2
omit [Dr] in
theorem enterQ_gone: ∀(qs:List PA) {args:List AV} {Hs Hs':List AB} {s:SDen qs} {vals:List AV},packQ qs args Hs=some (s,vals,Hs')→Gone Hs Hs'
 | [],[],Hs,Hs',s,vals,hp=>by
  simp only[packQ,Option.some.injEq,Prod.mk.injEq]at hp
  obtain⟨_,_,rfl⟩:=hp
  exact .refl
 | [],_::_,Hs,Hs',s,vals,hp=>by simp[packQ]at hp
 | .val _ _::l,[],Hs,Hs',s,vals,hp=>by simp[packQ]at hp
 | .ptr _ _::l,[],Hs,Hs',s,vals,hp=>by simp[packQ]at hp
 | .val _ _::l,v::avs,Hs,Hs',s,vals,hp=>by
  simp only[packQ]at hp
  split at hp
  ·rename_i h1
   simp only[Option.some.injEq,Prod.mk.injEq]at hp
   obtain⟨_,_,rfl⟩:=hp
   exact enterQ_gone l h1
  ·cases hp
 | .ptr C d::l,v::avs,Hs,Hs',s,vals,hp=>by
  simp only[packQ]at hp
  split at hp
  case h_2=>cases hp
  rename_i h1
  split at hp
  case h_2=>cases hp
  rename_i h2
  simp only[Option.some.injEq,Prod.mk.injEq]at hp
  obtain⟨_,_,rfl⟩:=hp
  exact(packD_gone h1).trans (enterQ_gone l h2)
theorem enterQ{a0:Act}: ∀(qs:List PA) {args:List AV} {us:List Value} {Hs Hs':List AB} {s:SDen qs} {vals:List AV} {bs:List Nat} {τ2:Nat→Nat} {β2:List Value} {Ht:List AB},
  packQ qs args Hs=some (s,vals,Hs')→blkQ qs args=some bs→Conc E σ τ β ⟨tm,Hs⟩ a w→RelL E σ w β args us→Conc E' σ τ2 β2 ⟨[],Ht⟩ a0 w→Dj τ2 Ht τ Hs→
  (∀(j:Nat) x,Hs[j]? =some x→x.live=true→(∀y,Hs'[j]? =some y→y.live=false)→¬E'.Kp (τ j))→
  ∃τ3 β3 uv,(∃q,β3=β2++q)∧Conc E' σ τ3 β3 ⟨[],inQ qs s Ht⟩ a0 w∧Gone Hs Hs'∧RelL E σ w β vals uv∧us.length=qs.length∧
   (∀β4,(∃q,β4=β3++q)→∀vs,RelL E' σ w β4 vs uv→RelL E' σ w β4 (mixQ qs s vs Ht) us)∧Lnk qs bs (posQ qs s Ht) Hs' β β3∧(∀b∈bs,∃C cs,Hs[b]? =some (.cells C cs))
 | [],[],us,Hs,Hs',s,vals,bs,τ2,β2,Ht,hp,hb,hS,hr,hC,hd,hk=>by
  simp only[packQ,Option.some.injEq,Prod.mk.injEq]at hp
  obtain⟨_,rfl,rfl⟩:=hp
  simp only[blkQ,Option.some.injEq]at hb
  subst hb
  simp only[RelL]at hr
  subst hr
  exact⟨τ2,β2,[],⟨[],by simp⟩,hC,.refl,by simp[RelL],rfl,fun β4 _ vs h=>by simp[mixQ,RelL],⟨rfl,rfl⟩,fun b hb=>by simp at hb⟩
 | [],_::_,us,Hs,Hs',s,vals,bs,τ2,β2,Ht,hp,hb,hS,hr,hC,hd,hk=>by simp[packQ]at hp
 | .val _ _::l,[],us,Hs,Hs',s,vals,bs,τ2,β2,Ht,hp,hb,hS,hr,hC,hd,hk=>by simp[packQ]at hp
 | .ptr _ _::l,[],us,Hs,Hs',s,vals,bs,τ2,β2,Ht,hp,hb,hS,hr,hC,hd,hk=>by simp[packQ]at hp
 | .val _ _::l,v::avs,us,Hs,Hs',s,vals,bs,τ2,β2,Ht,hp,hb,hS,hr,hC,hd,hk=>by
  simp only[packQ]at hp
  split at hp
  ·rename_i s1 vs1 H1 h1
   simp only[Option.some.injEq,Prod.mk.injEq]at hp
   obtain⟨rfl,rfl,rfl⟩:=hp
   simp only[RelL]at hr
   obtain⟨u,us',rfl,hu,hr⟩:=hr
   simp only[blkQ]at hb
   obtain⟨τ3,β3,uv,k1,k2,k3,k4,k5,k6,k7,k8⟩:=enterQ l h1 hb hS hr hC hd hk
   refine⟨τ3,β3,u::uv,k1,k2,k3,by simp only[RelL];exact⟨u,uv,rfl,hu,k4⟩,by simp[k5],fun β4 hβ vs hvs=> ?_,k7,k8⟩
   cases vs with
   |nil=>simp[RelL]at hvs
   |cons x xs=>
    simp only[RelL]at hvs
    obtain⟨u',uv',e1,e2,e3⟩:=hvs
    injection e1 with e4 e5
    subst e4 e5
    simp only[mixQ,RelL]
    exact⟨u,us',rfl,e2,k6 β4 hβ xs e3⟩
  ·cases hp
 | .ptr C d::l,v::avs,us,Hs,Hs',s,vals,bs,τ2,β2,Ht,hp,hb,hS,hr,hC,hd,hk=>by
  simp only[packQ]at hp
  split at hp
  case h_2=>cases hp
  rename_i s1 H1 h1
  split at hp
  case h_2=>cases hp
  rename_i ss vs1 H2 h2
  simp only[Option.some.injEq,Prod.mk.injEq]at hp
  obtain⟨rfl,rfl,rfl⟩:=hp
  obtain⟨b,cs,rfl,hbc,hbg⟩:=packPtr h1
  simp only[blkQ]at hb
  split at hb
  case h_2=>cases hb
  rename_i bs' hb'
  obtain rfl:=Option.some.inj hb
  simp only[RelL]at hr
  obtain⟨u,us',rfl,hu,hr⟩:=hr
  have hg1:=packD_gone h1
  have hgl: ∀{j:Nat} {x:AB},Hs[j]? =some x→x.live=true→(∀y,H1[j]? =some y→y.live=false)→(∀y,H2[j]? =some y→y.live=false):=by
   intro j x hx hl hn y hy
   rcases Bool.eq_false_or_eq_true y.live with hyl|hyl
   ·exfalso
    have hG2:Gone H1 H2:=by
     clear hk
     exact(enterQ_gone l h2)
    have:=hn y (hG2.get hy hyl)
    rw[hyl]at this
    cases this
   ·exact hyl
  have hu':RelL E σ w β [.ptr b 0] [u]:=by simp only[RelL];exact⟨u,[],rfl,hu,rfl⟩
  obtain⟨τ3,β3,us1,us2,k1,m1,m2,m3,m4⟩:=moveD (.ptr C d) (E:=E') (E':=E) (τ:=τ2) (β:=β2) (H:=Ht) (tm:= []) (a:=a0) h1 hS hu' hC hd (fun j x hx hl hg2=>hk j x hx hl (hgl hx hl hg2))
  have e0:us1= [u]:=by
   have hl:=m1
   simp only[DT.sz]at hl
   cases us1 with
   |nil=>simp at hl
   |cons z zs=>
    cases zs with
    |nil=>simp at k1;rw[k1.1]
    |cons z' zs=>simp at hl
  subst e0
  simp only[unpackD,RelL]at m4
  obtain⟨u0',r',e1,m5,_⟩:=m4
  injection e1 with e1 _
  subst e1
  simp only[Rel]at hu m5
  obtain⟨n,hbn,rfl⟩:=hu
  obtain⟨n',hbn',e2⟩:=m5
  simp only[Value.pointer.injEq,Option.some.injEq,Addr.mk.injEq]at e2
  obtain⟨rfl,_⟩:=e2
  obtain⟨τ4,β4,uv,q1,q2,q3,q4,q5,q6,q7,q8⟩:=enterQ l h2 hb' (conc_Gone hS hg1) hr m3.conc m3.disj (fun j x hx hl hn=>hk j x (hg1.get hx hl) hl hn)
  refine⟨τ4,β4,uv,?_,q2,hg1.trans q3,q4,by simp[q5],fun β5 hβ vs hvs=> ?_,?_,?_⟩
  ·obtain⟨x1,e1⟩:=m3.more
   obtain⟨x2,e2⟩:=q1
   exact⟨x1++x2,by rw[e2,e1,List.append_assoc]⟩
  ·simp only[mixQ,RelL]
   refine⟨_,us',rfl,?_,q6 β5 hβ vs hvs⟩
   simp only[Rel]
   refine⟨n,?_,rfl⟩
   obtain⟨x1,e1⟩:=q1
   obtain⟨x2,e2⟩:=hβ
   exact get_pre ⟨x1++x2,by rw[e2,e1,List.append_assoc]⟩ hbn'
  ·simp only[posQ]
   refine⟨b,bs',_,_,rfl,rfl,⟨gone_keep q3 hbg,n,hbn,get_pre q1 hbn'⟩,fun hin=> ?_,q7⟩
   obtain⟨C2,cs2,h3⟩:=q8 b hin
   rw[hbg]at h3
   cases h3
  ·intro b' hb2
   rcases List.mem_cons.1 hb2 with rfl|hb2
   ·exact⟨C,cs,hbc⟩
   ·obtain⟨C2,cs2,h3⟩:=q8 b' hb2
    exact⟨C2,cs2,hg1.get h3 rfl⟩
theorem exitQ{a':Act}{tms:List AV}: ∀(qs:List PA) {bs ks:List Nat} {Hs Hs':List AB} {r:SDen qs} {τ:Nat→Nat} {β:List Value} {H:List AB},outQ qs ks Hs=some (r,Hs')→Lnk qs bs ks H β β'→Conc E σ τ β ⟨tm,H⟩ a w→Conc E' σ τ' β' ⟨tms,Hs⟩ a' w→Dj τ H τ' Hs→
  (∀(j:Nat) x,Hs[j]? =some x→x.live=true→¬E.Kp (τ' j))→
  ∃τ2 β2,(∃s,β2=β++s)∧Conc E σ τ2 β2 ⟨tm,backQ qs bs r H⟩ a w∧Dj τ2 (backQ qs bs r H) τ' Hs'∧HPres H (backQ qs bs r H)∧Gone Hs Hs'
 | [],bs,[],Hs,Hs',r,τ,β,H,h,hl,hC,hS,hd,hap=>by
  simp only[outQ,Option.some.injEq,Prod.mk.injEq]at h
  obtain⟨_,rfl⟩:=h
  exact⟨τ,β,⟨[],by simp⟩,hC,hd,.refl _,.refl⟩
 | [],bs,_::_,Hs,Hs',r,τ,β,H,h,hl,hC,hS,hd,hap=>by simp[outQ]at h
 | .val _ _::l,bs,ks,Hs,Hs',r,τ,β,H,h,hl,hC,hS,hd,hap=>by
  have h2:outQ l ks Hs=some (r,Hs'):=by cases ks<;>exact h
  have hb:backQ (.val _ _::l) bs r H=backQ l bs r H:=by cases bs<;>rfl
  obtain⟨τ2,β2,k1,k2,k3,k4,k5⟩:=exitQ l h2 hl hC hS hd hap
  exact⟨τ2,β2,k1,k2,k3,k4,k5⟩
 | .ptr C d::l,bs,[],Hs,Hs',r,τ,β,H,h,hl,hC,hS,hd,hap=>by simp[outQ]at h
 | .ptr C d::l,bs,k::ks,Hs,Hs',r,τ,β,H,h,hl,hC,hS,hd,hap=>by
  simp only[outQ]at h
  split at h
  case h_2=>cases h
  rename_i C' cs hcell
  split at h
  case h_2=>cases h
  rename_i pC s' H3 _ hpd
  obtain⟨hCC⟩:=pC
  subst hCC
  split at h
  case h_2=>cases h
  rename_i ss H4 h4
  simp only[Option.some.injEq,Prod.mk.injEq]at h
  obtain⟨rfl,rfl⟩:=h
  obtain⟨b,bs',k',ks',rfl,e2,⟨e3,n,e4,e5⟩,e6,e7⟩:=hl
  injection e2 with e8 e9
  subst e8 e9
  obtain⟨τ3,β3,f1,f2,f3,f4,f5⟩:=exit_one hC e3 e4 hS hcell e5 hpd hd hap
  have g3:Gone Hs H3:=(Gone.set hcell (fun y=>by simp)).trans (packD_gone hpd)
  have hl2:Lnk l bs' ks (unpackB b C' d s' H) β3 β':=Lnk.mono e7 (fun b' hb' hg=>by
   rw[f5 b' (List.getElem?_eq_some_iff.1 hg).1 (fun e=>e6 (e▸hb'))];exact hg) f1 ⟨[],by simp⟩
  obtain⟨τ4,β4,q1,q2,q3,q4,q5⟩:=exitQ l h4 hl2 f2 (conc_Gone hS g3) f3 (fun j x hx hl=>hap j x (g3.get hx hl) hl)
  refine⟨τ4,β4,?_,q2,q3,f4.trans q4,g3.trans q5⟩
  obtain⟨x1,e1⟩:=f1
  obtain⟨x2,e2⟩:=q1
  exact⟨x1++x2,by rw[e2,e1,List.append_assoc]⟩
theorem hdlQ_ok {f:FuncId} {fn:Func} {c:Code} (hs:List (Hnd P)) (an:List LAnn) (qs:List PA) (rs:List (Bool×DT)) (F:SDen qs→ADen (VLq qs)→Option (SDen qs×RDen rs))
  (hf:P.funcs[f]? =some fn) (hb:fn.body=some c)
  (hF: ∀s y,exec P hs an (SDen qs×RDen rs) c (mixQ qs s (encArgs (VLq qs) y) []++List.replicate (fn.ntmps - qs.length) (.val undef)) (inQ qs s []) (finQ P fn.results.toList qs rs (posQ qs s []))=F s y):HdlOk P f (hdlQ qs rs F):=by
 intro X args H00 k x h
 unfold hdlQ at h
 split at h
 case h_2=>cases h
 rename_i bs hbs
 split at h
 case h_2=>cases h
 rename_i H hfz0
 split at h
 case h_2=>cases h
 rename_i s vals H1 hpk
 split at h
 case h_2=>cases h
 rename_i y hy
 obtain⟨r,hr,hk⟩:=Option.bind_eq_some_iff.1 h
 intro E σ00 τ00 β tm a w us hC00 hargs00
 obtain⟨p0,σ0,τ,p1,hC0⟩:=settleF_sound (f:=fun r=>isIn r (usedQ H00 bs)) hC00
 have hargs0:=RelL.ev p1 (fun t ht h=>h (E.sub t ht)) hargs00
 obtain⟨g00,σ,g01,hC⟩:=frzQ_sound hfz0 hC0
 have hargs:=RelL.ev g01 (fun t ht (h:Rng E t)=>h (E.sub t ht)) hargs0
 have hg:=enterQ_gone qs hpk
 obtain⟨r1,q1,q2⟩:=Gh.fresh σ (E.bnd+1) w.heap.size
 obtain⟨r0,q3,q4⟩:=Gh.fresh τ r1 H.length
 have hD0: ∀t,E.Kp t→¬ ∃(i:Nat) (x:AB),H[i]? =some x∧x.live=true∧(∀y,H1[i]? =some y→y.live=false)∧τ i=t:=by
  rintro t ht ⟨i,x,h1,h2,_,rfl⟩
  exact hC.apart i x h1 h2 ht
 let E':Env:=⟨fun t=>t<r0∧¬ ∃(i:Nat) (x:AB),H[i]? =some x∧x.live=true∧(∀y,H1[i]? =some y→y.live=false)∧τ i=t,fun _=>False,fun t=>t<r0∧¬ ∃(i:Nat) (x:AB),H[i]? =some x∧x.live=true∧(∀y,H1[i]? =some y→y.live=false)∧τ i=t,r0,⟨by omega,hD0 0 (E.sub _ (.inl E.nought))⟩,fun t h=>h.elim id False.elim,fun t h=>h.1⟩
 have hsub: ∀t,E.Kp t→E'.Kp t:=fun t ht=>⟨by have:=E.low t ht;omega,hD0 t ht⟩
 have hlive: ∀(i:Nat) x,H1[i]? =some x→x.live=true→E'.Kp (τ i):=by
  intro i x hx hl
  have hx0:=hg.get hx hl
  refine⟨q4 i (List.getElem?_eq_some_iff.1 hx0).1,?_⟩
  rintro⟨j,z,h1,h2,h3,he⟩
  have:=hC.inj j i z x h1 hx0 h2 hl he
  subst this
  have:=h3 x hx
  rw[hl]at this
  cases this
 have hC1:=conc_Gone hC hg
 have hbase0:Conc E' σ (fun _=>0) [] ⟨[],[]⟩ (⟨#[],[]⟩:Act) w:=⟨rfl,by simp[RelL],rfl,fun i x v hx=>by simp at hx,fun i x hx=>by simp at hx,fun i j x y hx=>by simp at hx⟩
 obtain⟨τ2,β2,uv,_,m3,_,m5,m6,m7,m8,_⟩:=enterQ qs (E:=E) (E':=E') (a0:=(⟨#[],[]⟩:Act)) (τ2:=fun _=>0) (β2:= []) (Ht:= []) hpk hbs hC hargs hbase0 (fun i x j y hx=>by simp at hx) (fun j x hx hl hg2 hkp=>hkp.2 ⟨j,x,hx,hl,hg2,rfl⟩)
 have hargs':RelL E' σ w β2 (encArgs (VLq qs) y) uv:=decArgs_rel' hC1 (fun t ht=>by
  rcases ht with ht|⟨i,x,h1,h2,rfl⟩
  ·exact hsub t (E.sub _ (.inl ht))
  ·exact hlive i x h1 h2) m5 hy
 have hall:=m7 β2 ⟨[],by simp⟩ _ hargs'
 have hC0':Conc E' σ τ2 β2 ⟨mixQ qs s (encArgs (VLq qs) y) []++List.replicate (fn.ntmps - qs.length) (.val undef),inQ qs s []⟩ {tmps:=us.toArray++Array.replicate (fn.ntmps - us.toArray.size) undef,defers:= []} w:=by
  refine⟨rfl,?_,m3.size,m3.heap,m3.apart,m3.inj⟩
  have e:(us.toArray++Array.replicate (fn.ntmps - us.toArray.size) undef).toList=us++List.replicate (fn.ntmps - qs.length) undef:=by simp[m6]
  simp only[e]
  refine RelL.append hall ?_
  have:=relL_vals (E:=E') (σ:=σ) (w:=w) (β:=β2) (List.replicate (fn.ntmps - qs.length) undef)
  simpa using this
 refine calls_of_wp hf hb (exec_sound c (x:=r) (by rw[hF s y];exact hr) hC0' (fun e tm' H' σ' τ' β' a' w' hk' hW hC'=> ?_))
 have main:endQ P fn.results.toList qs rs (posQ qs s []) tm' H'=some r→a'.defers= []∧∃v,(results fn a'.tmps).run P w'= .ok v w'∧
   ∃v_1 σ',Ending.returned v=Ending.returned v_1∧∃H'' av τ' β',k H'' av=some x∧HPres H00 H''∧(∃s,β'=β++s)∧EvT (Rng E) σ00 w σ' w'∧Conc E σ' τ' β' ⟨tm,H''⟩ a w'∧Rel E σ' w' β' av v_1:=by
  intro hm
  unfold endQ at hm
  split at hm
  case h_2=>cases hm
  rename_i vs0 hvs
  split at hm
  case h_2=>cases hm
  rename_i vs H20 hfz
  split at hm
  case h_2=>cases hm
  rename_i H2 hfb
  split at hm
  case h_2=>cases hm
  rename_i s' H3 hout
  split at hm
  case h_2=>cases hm
  rename_i rr hpr
  obtain rfl:=Option.some.inj hm
  obtain⟨us',e1,e2⟩:=resL_sound hC' hvs
  refine⟨hC'.defers,oneVal us',results_run e1,oneVal us',?_⟩
  obtain⟨_,σs,τ',hevs,hCs⟩:=settleF_sound (f:=fun _=>true) hC'
  have e2:=RelL.ev hevs (fun t ht h=>h (E'.sub t ht)) e2
  obtain⟨_,σ20,hevf,hC20,e30⟩:=frzRs_sound hfz hCs e2
  obtain⟨_,σ2,hevg,hC2⟩:=frzQ_sound hfb hC20
  have hP': ∀t,(E'.Pr t∨E'.It t)→¬Rng E' t:=fun t ht h=>h (E'.sub t ht)
  have e3:=RelL.ev hevg hP' e30
  refine⟨σ2,rfl,?_⟩
  have hev:EvT (Rng E') σ w σ2 w':=((hW.ev.trans hevs).trans hevf).trans hevg
  have hevE:EvT (Rng E) σ w σ2 w':=hev.mono (fun t ht hp=>ht (hsub t hp))
  have hP: ∀t,(E.Pr t∨E.It t)→¬Rng E' t:=fun t ht h=>h (hsub t (E.sub t ht))
  have hcl:Conc E σ2 τ β ⟨tm,H1⟩ a w':=⟨hC1.defers,RelL.ev hev hP hC1.tmps,hC1.size,fun i x v hx hv=>BRel.ev (hC1.heap i x v hx hv) hev hP (fun hl h=>h (hlive i x hx hl)),hC1.apart,hC1.inj⟩
  have hlnk:Lnk qs bs (posQ qs s []) H1 β β':=Lnk.mono m8 (fun _ _ h=>h) ⟨[],by simp⟩ hW.more
  obtain⟨τ3,β3,f1,f2,f3,f4,f5⟩:=exitQ qs hout hlnk hcl hC2 (fun i x j z hx hl hz hk _ he=>hC2.apart j z hz hk (he▸hlive i x hx hl)) (fun j x hx hl hp=>hC2.apart j x hx hl (hsub _ hp))
  obtain⟨τ4,β4,g4,g5,g6,g7⟩:=moveR hpr (conc_Gone hC2 f5) e3 f2 f3 (fun j x hx hl hp=>hC2.apart j x (f5.get hx hl) hl (hsub _ hp))
  refine⟨_,_,τ4,β4,hk,p0.trans (g00.trans (hg.pres.trans (f4.trans g6))),?_,(p1.trans g01).trans hevE,g5,oneA_rel g7⟩
  obtain⟨s1,rfl⟩:=f1
  obtain⟨s2,rfl⟩:=g4
  exact⟨s1++s2,by simp⟩
 cases e with
 |normal=>exact main hk'
 |ret=>exact main hk'
 |_=>simp[finQ]at hk'
end
end Go.Am
/- The abstract machine,part 28: slices.Grow of nothing. No statement of its own. -/
namespace Go.Am
open Go.Vk Go.RowKit Go.Proofs
variable [Dr]
def growHdl(T:Ty)(e:TypeId):Hdl:=fun X args H k=>
 match args with
 | [.val (.slice none 0 0),.val (.int .i64 n)]=>bifA (decide (0≤n) && decide (n≤1099511627776)) (k (H++ [.row T e []]) (.row H.length)) none
 |_=>none
def growB(P:Program)(T:Ty)(e:TypeId):Bool:=
 match P.info? e with
 |some i=>match i.zero with
  |some z=>Nat.beq i.size T.sz && (Nat.ble 1 T.sz && (Nat.beq z.cells.size T.sz && Nat.ble i.bytes 128))
  |none=>false
 |none=>false
theorem grow_ok{P:Program}{ρ:Go.Shelf.Ren}(hD: ¬Dr.D)(L:Lays8.n4 P ρ){f:FuncId}{T:Ty}{e:TypeId}(hf:ρ.f 4=f)(he:ρ.t 25=e)(hB:growB P T e=true):
  HdlOk P f (growHdl T e):=by
 subst hf he
 unfold growB at hB
 split at hB
 case h_2=>cases hB
 rename_i i0 hi
 split at hB
 case h_2=>cases hB
 rename_i z hz
 simp only[Bool.and_eq_true]at hB
 obtain⟨hsz,hpos,hzc,hby⟩:=hB
 have hsz:=Nat.eq_of_beq_eq_true hsz
 have hpos:0<T.sz:=Nat.le_of_ble_eq_true hpos
 have hzc:=Nat.eq_of_beq_eq_true hzc
 have hby:=Nat.le_of_ble_eq_true hby
 intro X args H k x hx
 unfold growHdl at hx
 split at hx
 case h_2=>cases hx
 rename_i n
 obtain⟨hn,hk⟩:=bif_some hx
 simp only[Bool.and_eq_true,decide_eq_true_eq]at hn
 intro E σ τ β tm a w us hC hargs
 simp only[RelL,Rel]at hargs
 obtain⟨u0,us1,rfl,rfl,u1,us2,rfl,rfl,rfl⟩:=hargs
 obtain⟨t0,hP,ht⟩:=conc_fresh hC
 have fin: ∀{w':World} {v':Value} {σ':Gh},EvT (fun t=>t=t0) σ w σ' w'→Own T.kd (ρ.t 25) σ' t0 w' v' ([]:List T.Den)→
   ∃v σ',Ending.returned v'= .returned v∧∃H' av τ' β',k H' av=some x∧HPres H H'∧(∃s,β'=β++s)∧EvT (Rng E) σ w σ' w'∧Conc E σ' τ' β' ⟨tm,H'⟩ a w'∧Rel E σ' w' β' av v:=by
  intro w' v' σ' hev hown
  obtain⟨p1,p2⟩:=conc_row hC hev hP ht hown
  exact⟨v',σ',rfl,_,_,_,_,hk,HPres.app H _,⟨_,rfl⟩,hev.mono (fun t h hp=>hP (h▸hp)),p1,p2⟩
 obtain⟨m,rfl⟩: ∃m:Nat,n=(m:Int):=⟨n.toNat,by omega⟩
 rcases Nat.eq_zero_or_pos m with h0|h0
 ·subst h0
  refine Calls.mono (Any8.slices_Grow_room L none 0 0 0 w (by omega) (by omega) (by omega) (by omega)) ?_
  rintro e w' ⟨rfl,rfl⟩
  exact fin .refl Own.nil
 ·have hb:(0+m)*i0.bytes≤140737488355328:=by
   have:m*i0.bytes≤1099511627776*128:=Nat.mul_le_mul (by omega) hby
   rw[Nat.zero_add];omega
  refine Calls.mono (Any8.slices_Grow_grow L i0 z hi hz (by rw[hsz];exact hpos) none 0 0 m [] w (by omega) (by omega) hb (by omega) (by simp) (fun _=>rfl) (fun a h=>by cases h)) ?_
  rintro e w' ⟨rfl,rfl⟩
  have hev:EvT (fun t=>t=t0) σ w (upd σ w.heap.size t0) (w.drew.alloc (.cells (([]:List Value).toArray++Builtin.zeroCells z.cells (0+m - 0)++Builtin.zeroCells z.cells (grownCap w (0+m) 0 (ρ.t 25) - (0+m))) (ρ.t 25))):=
   ⟨rfl,rfl,rfl,fun d=>absurd d hD,by show w.heap.size≤(w.heap.push _).size;simp,fun b hb _=>⟨by simp[upd,Nat.ne_of_lt hb],by
    show(w.heap.push _)[b]? =_
    rw[Array.getElem?_push,if_neg (by omega)]⟩⟩
  refine fin hev ⟨[],⟨by simp,.inr ⟨w.heap.size,_,(([]:List Value).toArray++Builtin.zeroCells z.cells (0+m - 0)++Builtin.zeroCells z.cells (grownCap w (0+m) 0 (ρ.t 25) - (0+m))),rfl,Nat.zero_le _,?_,Nat.zero_le _,grownCap_le_maxLen _ _ _ _ (by unfold maxLen;omega),?_,by simp⟩⟩,fun g hg=> ?_,rfl⟩
  ·show(w.heap.push _)[w.heap.size]? =_
   simp
  ·have hge:=grownCap_ge w (0+m) 0 (ρ.t 25)
   have hzs: ∀q,(Builtin.zeroCells z.cells q).size=q*z.cells.size:=fun q=>by
    simp[Builtin.zeroCells]
   simp only[Array.size_append,hzs,hzc]
   show 0+_+_=_*T.sz
   rw[Nat.zero_add,←Nat.add_mul]
   congr 1
   omega
  ·simp only[Value.ownBlock,Option.some.injEq]at hg
   subst hg
   simp[upd]
end Go.Am
