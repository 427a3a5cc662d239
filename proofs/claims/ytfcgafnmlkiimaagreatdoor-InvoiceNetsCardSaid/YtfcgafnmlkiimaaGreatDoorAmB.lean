/- The abstract machine,part 17: stores into the elements of rows. No statement of its own. -/
import Derived.Test.YtfcgafnmlkiimaaGreatDoorAmA
import Derived.Laws.BytesString
set_option linter.unusedSimpArgs false
set_option linter.unusedVariables false
namespace Go.Am
open Go.Vk Go.RowKit
variable [Dr]
theorem reps_at{α:Type}{K:Kd α}{σ:Gh}{w:World}: ∀{xs:List α} {cs:List Value} {i:Nat} (hi:i<xs.length),Reps K σ w xs cs→∃pre c post,cs=pre++c++post∧pre.length=i*K.sz∧K.rep σ w xs[i] c∧∀(y:α) (c':List Value),K.rep σ w y c'→Reps K σ w (xs.set i y) (pre++c'++post)
 | [],cs,i,hi,_=>by simp at hi
 |x::xs,cs,0,hi,h=>by
  obtain⟨c,r,h1,h2,h3⟩:=h
  exact⟨[],c,r,by simpa using h1,by simp,h2,fun y c' hy=>⟨c',r,by simp,hy,h3⟩⟩
 |x::xs,cs,i+1,hi,h=>by
  obtain⟨c,r,h1,h2,h3⟩:=h
  obtain⟨pre,d,post,e1,e2,e3,e4⟩:=reps_at (i:=i) (by simpa using hi) h3
  refine⟨c++pre,d,post,by rw[h1,e1];simp,?_,by simpa using e3,fun y c' hy=>⟨c,pre++c'++post,by simp,h2,e4 y c' hy⟩⟩
  rw[List.length_append,K.len h2,e2,Nat.add_mul];omega
omit [Dr] in
theorem putCells_toList: ∀(us:List Value) (i:Nat) (vs:Array Value),(putCells vs i us).toList=(us.foldl (fun(p:List Value×Nat) u=>(p.1.set p.2 u,p.2+1)) (vs.toList,i)).1
 | [],i,vs=>rfl
 |u::us,i,vs=>by
  simp only[putCells,List.foldl_cons]
  rw[putCells_toList us (i+1) (vs.setIfInBounds i u)]
  simp
omit [Dr] in
theorem foldSet_app(pre post:List Value): ∀(us:List Value) (off:Nat) (c:List Value),off+us.length≤c.length→
  (us.foldl (fun(p:List Value×Nat) u=>(p.1.set p.2 u,p.2+1)) (pre++c++post,pre.length+off)).1=pre++(us.foldl (fun(p:List Value×Nat) u=>(p.1.set p.2 u,p.2+1)) (c,off)).1++post
 | [],off,c,_=>rfl
 |u::us,off,c,h=>by
  simp only[List.foldl_cons]
  have h1:(pre++c++post).set (pre.length+off) u=pre++(c.set off u)++post:=by
   rw[List.append_assoc,List.set_append_right _ _ (by omega),Nat.add_sub_cancel_left,List.set_append_left _ _ (by simp at h;omega),List.append_assoc]
  rw[h1,Nat.add_assoc]
  exact foldSet_app pre post us (off+1) (c.set off u) (by simp at h⊢;omega)
omit [Dr] in
theorem foldSet_len: ∀(us:List Value) (off:Nat) (c:List Value),(us.foldl (fun(p:List Value×Nat) u=>(p.1.set p.2 u,p.2+1)) (c,off)).1.length=c.length
 | [],_,_=>rfl
 |u::us,off,c=>by simp only[List.foldl_cons];rw[foldSet_len us];simp
theorem own_store {α:Type} {P:Program} {K:Kd α} {e:TypeId} {σ:Gh} {t:Nat} {w:World} {ad:Addr} {n c0:Nat} {xs:List α} {i off:Nat} {y:α} {us:List Value} (h:Own K e σ t w (.slice (some ad) n c0) xs) (hi:i<xs.length) (hl:off+us.length≤K.sz) (h1: ∀v∈us,v.oneCell'=true)
  (hr: ∀c,K.rep σ w xs[i] c→K.rep σ w y (putCells c.toArray off us).toList) (ht:1≤t):
  ∃w',(storeCells (ad.add (i*K.sz+off)) us 0).run P w= .ok () w'∧Ev t (t+1) σ w σ w'∧Own K e σ t w' (.slice (some ad) n c0) (xs.set i y):=by
 obtain⟨cs,o1,o2,o3⟩:=h
 have hn:=o1.1
 rcases o1.2 with⟨hv,hz⟩|⟨g,cap,cur,hv,hb,hh,hnc,hcm,hcz,htk⟩
 ·injection hv with hv;cases hv
 injection hv with hv1 hv2 hv3
 injection hv1 with hv1
 subst hv1 hv2 hv3
 have hg:=o2 g (by simp[Value.ownBlock])
 have hB:Blk σ t w g e cur:=⟨hg,hh⟩
 obtain⟨pre,c,post,e1,e2,e3,e4⟩:=reps_at hi o3
 have hc:=K.len e3
 have hcs:cs.length=xs.length*K.sz:=hn
 have hpl:pre.length+c.length+post.length=xs.length*K.sz:=by rw[←hcs,e1];simp;omega
 have hcur:xs.length*K.sz≤cur.size:=by rw[hcz];exact Nat.mul_le_mul_right _ hnc
 have had:(⟨g,0,none⟩:Addr).add (i*K.sz+off)=⟨g,i*K.sz+off,none⟩:=by rw[add_mk,Nat.zero_add]
 obtain⟨w',r1,r2,r3⟩:=run_storeCells_blk (P:=P) (i*K.sz+off) us 0 cur w hB (by omega) h1
 refine⟨w',by rw[had];exact r1,r2,pre++(putCells c.toArray off us).toList++post,⟨?_,.inr ⟨g,c0,putCells cur (i*K.sz+off) us,by simp,hb,by simpa using r3.2,by simpa using hnc,hcm,?_,?_⟩⟩,fun g' hg'=> ?_,?_⟩
 ·have:(putCells c.toArray off us).toList.length=c.length:=by rw[putCells_toList,foldSet_len]
  simp only[List.length_append,List.length_set,this]
  omega
 ·have:(putCells cur (i*K.sz+off) us).size=cur.size:=by
   rw[←Array.length_toList,putCells_toList,foldSet_len,Array.length_toList]
  rw[this,hcz]
 ·rw[putCells_toList,putCells_toList]
  have hsplit:cur.toList=pre++c++(post++cur.toList.drop (xs.length*K.sz)):=by
   have:cur.toList=cur.toList.take (xs.length*K.sz)++cur.toList.drop (xs.length*K.sz):=(List.take_append_drop _ _).symm
   refine this.trans ?_
   rw[htk,e1];simp
  rw[hsplit,←e2,foldSet_app pre _ us off c (by omega)]
  have hlen:(pre++(us.foldl (fun(p:List Value×Nat) u=>(p.1.set p.2 u,p.2+1)) (c,off)).1++post).length=xs.length*K.sz:=by
   simp only[List.length_append,foldSet_len];omega
  rw[←List.append_assoc,List.length_set,List.take_left' hlen]
 ·simp only[Value.ownBlock,Option.some.injEq]at hg'
  subst hg';exact hg
 ·exact(e4 y _ (hr c e3)).ev r2 ht
section
variable {P : Program} {E : Env} {σ σ1 : Gh} {τ : Nat → Nat} {w w1 : World} {β : List Value} {tm : List AV} {H : List AB} {a : Act} {o : Oper}
def storeR(P:Program)(H:List AB)(t:TypeId)(x v:AV):Option (List AB):=
 match x with
 | .rp r sz i off=>match H[r]?,cellsA v with
  |some (.row T e xs),some ds=>match Nat.beq sz T.sz,(P.info? t).map (fun i=>Nat.beq i.size ds.length),Nat.ble (off+ds.length) T.sz,dec T (putA (enc T (xs.getD i (Ty.dfl T))) off ds)with
   |true,some true,true,some (y,[])=>some (H.set r (.row T e (xs.set i y)))
   |_,_,_,_=>none
  |_,_=>none
 | .ap b off T n i o=>match H[b]?,cellsA v with
  |some (.cells C cs),some ds=>match(P.info? t).map (fun i=>Nat.beq i.size ds.length),Nat.ble (o+ds.length) T.sz,Nat.ble (off+n*T.sz) cs.length,decN T n (cs.drop off)with
   |some true,true,true,some (xs,_)=>match dec T (putA (enc T (xs.getD i (Ty.dfl T))) o ds)with
    |some (y,[])=>some (H.set b (.cells C (cs.take off++(arrC (enc T) (Ty.dfl T) (xs.set i y) 0 n++cs.drop (off+n*T.sz)))))
    |_=>none
   |_,_,_,_=>none
  |_,_=>none
 |_=>none
theorem reps_F{T:Ty}{σ:Gh}{w:World}: ∀{xs:List T.Den} {cs:List Value},Reps T.kd σ w xs cs→RepsF (repTy T σ w) xs cs
 | [],_,h=>h
 |x::xs,_,⟨c,r,h,hx,hr⟩=>⟨c,r,h,hx,reps_F hr⟩
theorem storeR_sound{t:TypeId}{x y:Operand}{H':List AB}(hC:Conc E σ τ β ⟨tm,H⟩ a w)(ho:o.op= .store t x y)(h:storeR P H t (aeval tm x) (aeval tm y)=some H'):OpOut P E σ β tm a w o H' .unk:=by
 have hx:=aeval_rel hC x
 have hy:=aeval_rel hC y
 cases hv:aeval tm x with
 |rp r sz i off=>
  rw[hv]at h
  have hx:Rel E σ w β (.rp r sz i off) (a.eval x):=hv▸hx
  simp only[storeR]at h
  split at h
  ·rename_i T e xs ds hr hd
   split at h
   ·rename_i y1 hsz hti hle hdec
    simp only[Option.some.injEq]at h
    subst h
    have hsz:=Nat.eq_of_beq_eq_true hsz
    subst hsz
    obtain⟨ti,hti,hbeq⟩:=Option.map_eq_some_iff.1 hti
    have hle:=Nat.le_of_ble_eq_true hle
    have hbeq:=Nat.eq_of_beq_eq_true hbeq
    simp only[Rel]at hx
    obtain⟨ad,n,c,g1,g2,g3⟩:=hx
    have hO:Own T.kd e σ (τ r) w (.slice (some ad) n c) xs:=hC.heap r _ _ hr g1
    obtain⟨A,c',k1,k2,_,_⟩:=hO.rd
    injection k1 with _ k1 _
    subst k1
    obtain⟨d1,d2⟩:=cellsA_rel hy hd
    have l2:=d1.length
    have hP:=hC.apart r _ hr rfl
    have hget:xs.getD i (Ty.dfl T)=xs[i]:=by rw[List.getD_eq_getElem?_getD,List.getElem?_eq_getElem g2];rfl
    rw[hget]at hdec
    obtain⟨w',r1,r2,r3⟩:=own_store (P:=P) (y:=y1) (us:=(a.eval y).cells.toList) (off:=off) hO g2 (by rw[l2];exact hle) d2 (fun cs hcs=>by
     have h1:=putA_rel (E:=E) (β:=β) off (cs:=enc T xs[i]) (vs:=cs.toArray) (by simpa using enc_rel T hcs) d1
     obtain⟨c1,c2,e1,e2,e3⟩:=dec_rel T hdec h1
     simp only[RelL]at e3
     subst e3
     rw[List.append_nil]at e1
     rw[e1];exact e2) (tag_pos hP)
    have hev:EvT (fun t=>t=τ r) σ w σ w':=EvT.of r2 (fun t h1 h2=>by omega)
    refine OpGives.unit σ ?_ ⟨τ,β,⟨[],by simp⟩,hev.mono (fun t h hp=>hP (h▸hp)),Conc.put hC hr rfl g1 hev r3,by simp[Rel]⟩
    have hcells:(a.eval y).cells=(a.eval y).cells.toList.toArray:=by simp
    have hl:(a.eval y).cells.size=ti.size:=by rw[←Array.length_toList,l2,hbeq]
    have r1:(storeCells (ad.add (i*T.sz+off)) (a.eval y).cells.toList 0).run P w= .ok () w':=r1
    simp[execOp,ho,Instr.storeAt,g3,Instr.sureAddr,storeVar,sizeOf,typeInfo,hti,hl,r1]
   ·cases h
  ·cases h
 |ap b off T n i o=>
  rw[hv]at h
  have hx:Rel E σ w β (.ap b off T n i o) (a.eval x):=hv▸hx
  simp only[storeR]at h
  split at h
  ·rename_i C cs ds hb hd
   split at h
   ·rename_i xs r hti hle hlen hdn
    split at h
    ·rename_i y1 hdec
     simp only[Option.some.injEq]at h
     subst h
     obtain⟨ti,hti,hbeq⟩:=Option.map_eq_some_iff.1 hti
     have hle:=Nat.le_of_ble_eq_true hle
     have hlen:=Nat.le_of_ble_eq_true hlen
     have hbeq:=Nat.eq_of_beq_eq_true hbeq
     simp only[Rel]at hx
     obtain⟨m,g1,g2,g3⟩:=hx
     obtain⟨n',vs,k1,k2,k3⟩:=hC.heap b _ _ hb g1
     simp only[Value.pointer.injEq,Option.some.injEq,Addr.mk.injEq]at k1
     obtain⟨rfl,_⟩:=k1
     obtain⟨d1,d2⟩:=cellsA_rel hy hd
     have l1:=k3.length
     have l2:=d1.length
     obtain⟨c,d,f1,f2,f3,f4⟩:=decN_rel hdn (RelL.drop off k3)
     have hi:i<xs.length:=by omega
     have hget:xs.getD i (Ty.dfl T)=xs[i]:=by rw[List.getD_eq_getElem?_getD,List.getElem?_eq_getElem hi];rfl
     rw[hget]at hdec
     have hcl:c.length=n*T.sz:=by rw[Reps.len f2,f3];rfl
     obtain⟨pre,ce,post,e1,e2,e3,e4⟩:=reps_at hi f2
     have hce:ce.length=T.sz:=T.kd.len e3
     have hpre:pre.length=i*T.sz:=e2
     have hoff:(vs.take off).length=off:=by rw[List.length_take];omega
     have hvs:vs=(vs.take off++pre)++ce++(post++d):=by
      have h0:=(List.take_append_drop off vs).symm
      rw[f1,e1]at h0
      refine h0.trans ?_
      simp
     have hpl:(vs.take off++pre).length=off+i*T.sz:=by rw[List.length_append,hoff,hpre]
     have hcl2:pre.length+ce.length+post.length=n*T.sz:=by rw[←hcl,e1];simp;omega
     obtain⟨w',r1,r2,r3⟩:=run_storeCells_blk (P:=P) (off+(i*T.sz+o)) (a.eval y).cells.toList 0 vs.toArray w k2 (by simp only[List.size_toArray];omega) d2
     have hev:EvT (fun t=>t=τ b) σ w σ w':=EvT.of r2 (fun t h1 h2=>by omega)
     have hP: ∀t,E.Kp t→¬t=τ b:=fun t ht h=>hC.apart b _ hb rfl (h▸ht)
     have hnew:(putCells vs.toArray (off+(i*T.sz+o)) (a.eval y).cells.toList).toList=vs.take off++((pre++(putCells ce.toArray o (a.eval y).cells.toList).toList++post)++d):=by
      rw[putCells_toList,putCells_toList]
      have h0:off+(i*T.sz+o)=(vs.take off++pre).length+o:=by rw[hpl];omega
      rw[h0]
      have h1:=foldSet_app (vs.take off++pre) (post++d) (a.eval y).cells.toList o ce (by rw[hce,l2];exact hle)
      rw[←hvs]at h1
      simp only at h1⊢
      rw[h1]
      simp
     have hrep:T.kd.rep σ w y1 (putCells ce.toArray o (a.eval y).cells.toList).toList:=by
      have h1:=putA_rel (E:=E) (β:=β) o (cs:=enc T xs[i]) (vs:=ce.toArray) (by simpa using enc_rel T e3) d1
      obtain⟨c1,c2,e1,e2,e3⟩:=dec_rel T hdec h1
      simp only[RelL]at e3
      subst e3
      rw[List.append_nil]at e1
      rw[e1];exact e2
     have harr:RelL E σ w β (arrC (enc T) (Ty.dfl T) (xs.set i y1) 0 n) (pre++(putCells ce.toArray o (a.eval y).cells.toList).toList++post):=by
      have h1:=arrC_rel (E:=E) (σ:=σ) (w:=w) (β:=β) (d:=Ty.dfl T) (fun _ _ hx=>enc_rel T hx) (xs.set i y1) [] (reps_F (e4 y1 _ hrep))
      rw[List.nil_append,List.length_set,f3]at h1
      exact h1
     have hdrop:RelL E σ w β (cs.drop (off+n*T.sz)) d:=by
      have h1:=RelL.drop (off+n*T.sz) k3
      have h2:vs.drop (off+n*T.sz)=d:=by rw[←List.drop_drop,f1,List.drop_left' hcl]
      rw[h2]at h1
      exact h1
     refine OpGives.unit σ ?_ ⟨τ,β,⟨[],by simp⟩,hev.mono (fun t h hp=>hP t hp h),Conc.put hC hb rfl g1 hev ⟨m,(putCells vs.toArray (off+(i*T.sz+o)) (a.eval y).cells.toList).toList,rfl,by simpa using r3,?_⟩,by simp[Rel]⟩
     ·have hcells:(a.eval y).cells=(a.eval y).cells.toList.toArray:=by simp
      have hl:(a.eval y).cells.size=ti.size:=by rw[←Array.length_toList,l2,hbeq]
      simp[execOp,ho,Instr.storeAt,g3,Instr.sureAddr,storeVar,sizeOf,typeInfo,hti,hl,r1]
     ·rw[hnew]
      exact RelL.ev hev (fun t ht=>hP t (E.sub t ht)) (RelL.append (RelL.take off k3) (RelL.append harr hdrop))
    ·cases h
   ·cases h
  ·cases h
 |_=>rw[hv]at h;simp[storeR]at h
omit [Dr] in
theorem storeR_pres{t:TypeId}{x v:AV}{H':List AB}(h:storeR P H t x v=some H'):HPres H H':=by
 unfold storeR at h
 split at h
 ·split at h
  ·rename_i T e xs ds hb hd
   split at h
   ·simp only[Option.some.injEq]at h
    subst h
    exact .set hb (fun b=>by simp)
   ·cases h
  ·cases h
 ·split at h
  ·rename_i C cs ds hb hd
   split at h
   ·split at h
    ·simp only[Option.some.injEq]at h
     subst h
     exact .set hb (fun b=>by simp)
    ·cases h
   ·cases h
  ·cases h
 ·cases h
end
end Go.Am
/- The abstract machine,part 18: a byte of a known string,a number of an array that is a value. No statement of its own. -/
namespace Go.Am
open Go.Vk Go.RowKit
variable [Dr]
def cellsK(k:IntKind):List AV→Option (List Int)
 | []=>some []
 | .val (.int k' x)::l=>match kindEq k' k,cellsK k l with
  |some _,some xs=>some (x::xs)
  |_,_=>none
 |_::_=>none
def aggA:AV→Option (List AV)
 | .agg cs=>some cs
 | .val (.agg vs)=>some (vs.toList.map .val)
 |_=>none
def indexV(P:Program)(o:Oper)(ρ:Operand→AV):Option (Bool×Value):=
 match o.op with
 | .index t x i=>match P.underlying t,ρ i with
  |some .string,.val (.int _ n)=>match ρ x with
   | .val (.string s)=>some (decide (0≤n) && decide (n< (s.size:Int)),.int .u8 ((s.get! n.toNat).toNat:Int))
   |_=>none
  |some (.array m e),.val (.int _ n)=>match P.underlying e,aggA (ρ x),(P.info? e).map (fun i=>Nat.beq i.size 1)with
   |some (.int k),some cs,some true=>match cellsK k cs with
    |some xs=>some (decide (0≤n) && (decide (n< (m:Int)) && decide (n< (xs.length:Int))),.int k (xs.getD n.toNat 0))
    |none=>none
   |_,_,_=>none
  |_,_=>none
 |_=>none
section
variable {P : Program} {E : Env} {σ σ1 : Gh} {τ : Nat → Nat} {w w1 : World} {β : List Value} {tm : List AV} {H : List AB} {a : Act} {o : Oper}
theorem cellsK_rel{k:IntKind}: ∀{cs:List AV} {xs:List Int} {us:List Value},cellsK k cs=some xs→RelL E σ w β cs us→us=xs.map (.int k)
 | [],xs,us,h,hr=>by
  simp only[cellsK,Option.some.injEq]at h
  simp only[RelL]at hr
  subst h hr;rfl
 |c::cs,xs,us,h,hr=>by
  simp only[RelL]at hr
  obtain⟨v,r,rfl,h2,h3⟩:=hr
  unfold cellsK at h
  split at h
  ·rename_i heq;cases heq
  ·rename_i k' x l heq
   injection heq with e1 e2
   subst e1 e2
   split at h
   ·rename_i pk ys _ hys
    obtain⟨hk⟩:=pk
    subst hk
    obtain rfl:=Option.some.inj h
    simp only[Rel]at h2
    rw[h2,cellsK_rel hys h3];rfl
   ·cases h
  ·cases h
theorem aggA_rel{x:AV}{u:Value}{cs:List AV}(h:aggA x=some cs)(hr:Rel E σ w β x u): ∃vs,u= .agg (List.toArray vs)∧RelL E σ w β cs vs:=by
 unfold aggA at h
 split at h
 ·obtain rfl:=Option.some.inj h
  simpa[Rel]using hr
 ·rename_i vs
  obtain rfl:=Option.some.inj h
  simp only[Rel]at hr
  exact⟨vs.toList,by simpa using hr,relL_vals _⟩
 ·cases h
theorem indexV_sound{v:Value}(hC:Conc E σ τ β ⟨tm,H⟩ a w)(h:indexV P o (aeval tm)=some (true,v)):OpOut P E σ β tm a w o H (.val v):=by
 unfold indexV at h
 split at h
 case h_2=>cases h
 rename_i t x i ho
 have hx:=aeval_rel hC x
 have hi:=aeval_rel hC i
 split at h
 ·rename_i kk n hu hin
  have hi:a.eval i= .int kk n:=by
   have:Rel E σ w β (.val (.int kk n)) (a.eval i):=hin▸hi
   simpa only[Rel]using this
  split at h
  ·rename_i s hxs
   have hx:a.eval x= .string s:=by
    have:Rel E σ w β (.val (.string s)) (a.eval x):=hxs▸hx
    simpa only[Rel]using this
   simp only[Option.some.injEq,Prod.mk.injEq,Bool.and_eq_true,decide_eq_true_eq]at h
   obtain⟨⟨h0,h1⟩,rfl⟩:=h
   have hlt:n.toNat<s.size:=by omega
   refine OpOut.same hC (v:= .int .u8 ((s.get! n.toNat).toNat:Int)) ?_ (by simp[Rel])
   have hg:s[n.toNat]? =some (s.get! n.toNat):=by
    rw[getElem?_pos s n.toNat hlt]
    congr 1
    show s.data[n.toNat]=s.data[n.toNat]!
    rw[getElem!_pos]
   simp[execOp,ho,Instr.index,hx,hi,asIntOf,run_underlying hu,h0,hg]
  ·cases h
 ·rename_i m e kk n hu hin
  have hi:a.eval i= .int kk n:=by
   have:Rel E σ w β (.val (.int kk n)) (a.eval i):=hin▸hi
   simpa only[Rel]using this
  split at h
  ·rename_i k cs he hcs hsz
   split at h
   ·rename_i xs hxs
    simp only[Option.some.injEq,Prod.mk.injEq,Bool.and_eq_true,decide_eq_true_eq]at h
    obtain⟨⟨h0,h1,h2⟩,rfl⟩:=h
    obtain⟨vs,e1,e2⟩:=aggA_rel hcs hx
    have hvs:=cellsK_rel hxs e2
    obtain⟨ti,hti,hb⟩:=Option.map_eq_some_iff.1 hsz
    have hb:=Nat.eq_of_beq_eq_true hb
    refine OpOut.same hC (v:= .int k (xs.getD n.toNat 0)) ?_ (by simp[Rel])
    have hg:vs[n.toNat]? =some (.int k (xs.getD n.toNat 0)):=by
     rw[hvs,List.getElem?_map,List.getD_eq_getElem?_getD,List.getElem?_eq_getElem (by omega)];rfl
    have hag:(isAgg e).run P w= .ok false w:=by simp[isAgg,run_underlying he]
    simp[execOp,ho,Instr.index,e1,hi,asIntOf,run_underlying hu,h0,h1,sizeOf,typeInfo,hti,hb,part,hag,hg]
   ·cases h
  ·cases h
 ·cases h
end
end Go.Am
/- The abstract machine,part 22: maps. No statement of its own. -/
namespace Go.Am
open Go.Vk Go.RowKit
variable [Dr]
def encA(ag:Bool)(T:Ty)(x:T.Den):AV:=
 match ag with
 |true=> .agg ((encF T x).map .val)
 |false=>((encF T x).map .val).headD .unk
def wholeD{α:Type}(o:Option (α×List AV)):Option α:=
 match o with
 |some (x,[])=>some x
 |_=>none
def resA(ok:Bool)(x:AV)(h:Bool):AV:=
 match ok with
 |false=>x
 |true=> .tup [x,.val (.bool h)]
def resV(ok:Bool)(x:Value)(h:Bool):Value:=
 match ok with
 |false=>x
 |true=> .tuple #[x,.bool h]
def decF(ag:Bool)(T:Ty)(x:AV):Option T.Den:=
 match flatT T with
 |true=>match ag with
  |true=>match x with
   | .agg cs=>wholeD (dec T cs)
   | .val (.agg vs)=>wholeD (dec T (vs.toList.map .val))
   |_=>none
  |false=>wholeD (dec T [x])
 |false=>none
def zeroM(P:Program)(m:MTy):Option m.V.Den:=
 match(P.info? m.vt).bind (·.zero)with
 |some (.agg cs)=>match m.va with
  |true=>decF true m.V (.val (.agg cs))
  |false=>none
 |some z=>match m.va with
  |true=>none
  |false=>decF false m.V (.val z)
 |none=>none
def mapX(P:Program)(t:TypeId):Option AB→Option ((m:MTy)×Mp m.K m.V)
 |some (.map m xs)=>match P.underlying t with
  |some (.map kt vt)=>match Nat.beq kt m.kt && (Nat.beq vt m.vt && (keyB P m.ka m.kt m.K && flatT m.V))with
   |true=>some ⟨m,xs⟩
   |false=>none
  |_=>none
 |_=>none
def lookupX(P:Program)(H:List AB)(t:TypeId)(x k:AV)(ok:Bool):Option AV:=
 match x with
 | .map b=>match mapX P t (look H b)with
  |some ⟨m,xs⟩=>match decF m.ka m.K k,zeroM P m with
   |some key,some z=>some (resA ok (encA m.va m.V ((mget m.K m.V xs key).getD z)) (mget m.K m.V xs key).isSome)
   |_,_=>none
  |none=>none
 | .val (.map none)=>match P.underlying t with
  |some (.map kt vt)=>match P.underlying kt with
   |some (.int kd)=>match keyB P false kt (.int kd),decF false (.int kd) k,(P.info? vt).bind (·.zero)with
    |true,some _,some z=>some (resA ok (.val z) false)
    |_,_,_=>none
   |_=>none
  |_=>none
 |_=>none
def updX(P:Program)(H:List AB)(t:TypeId)(x k v:AV):Option (List AB):=
 match x with
 | .map b=>match mapX P t H[b]? with
  |some ⟨m,xs⟩=>match decF m.ka m.K k,decF m.va m.V v with
   |some key,some y=>some (H.set b (.map m (mset m.K m.V xs key y)))
   |_,_=>none
  |none=>none
 |_=>none
def entryX(P:Program)(H:List AB)(t:TypeId)(x k:AV):Option (List AB×AV):=
 match x with
 | .map b=>match mapX P t H[b]? with
  |some ⟨m,xs⟩=>match decF m.ka m.K k,zeroM P m with
   |some key,some z=>some (H.set b (.map m (mset m.K m.V xs key ((mget m.K m.V xs key).getD z))),.tup [encA m.va m.V ((mget m.K m.V xs key).getD z),.val (.int .i64 (mpos m.K m.V xs key))])
   |_,_=>none
  |none=>none
 |_=>none
def estoreX(P:Program)(H:List AB)(t:TypeId)(x s v:AV):Option (Bool×List AB):=
 match x,s with
 | .map b,.val (.int .i64 n)=>match mapX P t H[b]? with
  |some ⟨m,xs⟩=>match decF m.va m.V v with
   |some y=>some (decide (0≤n) && mhas m.K m.V xs n.toNat,H.set b (.map m (mput m.K m.V xs n.toNat y)))
   |none=>none
  |none=>none
 |_,_=>none
def delX(P:Program)(H:List AB)(t:TypeId)(x k:AV):Option (List AB):=
 match x with
 | .map b=>match mapX P t H[b]? with
  |some ⟨m,xs⟩=>match decF m.ka m.K k with
   |some key=>some (H.set b (.map m (mdel m.K m.V xs key)))
   |none=>none
  |none=>none
 |_=>none
def mlenX(P:Program)(H:List AB)(t:TypeId)(x:AV):Option AV:=
 match x with
 | .map b=>match mapX P t (look H b)with
  |some ⟨m,xs⟩=>some (.val (.int .i64 (mlen m.K m.V xs)))
  |none=>none
 |_=>none
def makeX(P:Program)(t:TypeId):Option MTy:=
 match P.underlying t with
 |some (.map kt vt)=>match tyOf P 30 kt,tyOf P 30 vt with
  |some K,some V=>some ⟨kt,vt,aggB P kt,K,aggB P vt,V⟩
  |_,_=>none
 |_=>none
section
variable {P : Program} {E : Env} {σ σ1 : Gh} {τ : Nat → Nat} {w w1 : World} {β : List Value} {tm : List AV} {H : List AB} {a : Act} {o : Oper}
theorem encA_rel{ag:Bool}{T:Ty}{x:T.Den}:Rel E σ w β (encA ag T x) (valF ag T x):=by
 unfold encA valF
 cases ag with
 |true=>simp only[Rel];exact⟨encF T x,rfl,relL_vals _⟩
 |false=>
  cases h:encF T x with
  |nil=>simp[Rel]
  |cons v l=>simp[Rel]
omit [Dr] in
theorem wholeD_some{T:Ty}{l:List AV}{x:T.Den}(h:wholeD (dec T l)=some x):dec T l=some (x,[]):=by
 unfold wholeD at h
 split at h
 ·rename_i y hy;obtain rfl:=Option.some.inj h;exact hy
 ·cases h
theorem decF_rel{ag:Bool}{T:Ty}{av:AV}{x:T.Den}{u:Value}(h:decF ag T av=some x)(hr:Rel E σ w β av u):flatT T=true∧u=valF ag T x:=by
 unfold decF at h
 split at h
 case h_2=>cases h
 rename_i hf
 refine⟨hf,?_⟩
 have key: ∀{l:List AV} {us:List Value},wholeD (dec T l)=some x→RelL E σ w β l us→us=encF T x:=by
  intro l us h1 h2
  obtain⟨c,d,rfl,h3,h4⟩:=dec_rel T (wholeD_some h1) h2
  simp only[RelL]at h4
  subst h4
  rw[List.append_nil]
  exact(rep_flat T x c hf).1 h3
 cases ag with
 |true=>
  simp only at h
  split at h
  ·rename_i cs
   simp only[Rel]at hr
   obtain⟨vs,rfl,h2⟩:=hr
   simp only[valF]
   rw[key h h2]
  ·rename_i vs
   simp only[Rel]at hr
   subst hr
   have:=key h (relL_vals (E:=E) (σ:=σ) (w:=w) (β:=β) vs.toList)
   simp only[valF]
   rw[←this]
  ·cases h
 |false=>
  simp only at h
  have:=key h (us:= [u]) (by simp only[RelL];exact⟨u,[],rfl,hr,rfl⟩)
  simp only[valF]
  rw[←this]
  rfl
omit [Dr] in
theorem zeroM_run [Dr]{m:MTy}{d:m.V.Den}(h:zeroM P m=some d):(zeroValue m.vt).run P w= .ok (valF m.va m.V d) w:=by
 unfold zeroM at h
 have fin: ∀{z:Value},(P.info? m.vt).bind (·.zero)=some z→decF m.va m.V (.val z)=some d→(zeroValue m.vt).run P w= .ok (valF m.va m.V d) w:=by
  intro z hz hd
  obtain⟨_,rfl⟩:=decF_rel (E:=⟨fun t=>t=0,fun _=>False,fun t=>t<2,2,rfl,fun t h=>by rcases h with rfl|h;omega;exact h.elim,fun t h=>h⟩) (σ:=fun _=>0) (w:=w) (β:= []) (u:=z) hd (by simp[Rel])
  obtain⟨i,hi,hzz⟩:=Option.bind_eq_some_iff.1 hz
  simp[zeroValue,typeInfo,hi,hzz]
 split at h
 ·rename_i cs hz
  split at h
  ·rename_i hva;exact fin hz (by rw[hva];exact h)
  ·cases h
 ·rename_i z hne hz
  split at h
  ·cases h
  ·rename_i hva;exact fin hz (by rw[hva];exact h)
 ·cases h
omit [Dr] in
theorem mapX_some{t:TypeId}{ob:Option AB}{m:MTy}{xs:Mp m.K m.V}(h:mapX P t ob=some ⟨m,xs⟩):ob=some (.map m xs)∧P.underlying t=some (.map m.kt m.vt)∧keyB P m.ka m.kt m.K=true∧flatT m.V=true:=by
 unfold mapX at h
 split at h
 ·rename_i m' xs'
  split at h
  ·rename_i kt vt hu
   split at h
   ·rename_i hb
    simp only[Option.some.injEq,Sigma.mk.injEq]at h
    obtain⟨rfl,h⟩:=h
    obtain rfl:=eq_of_heq h
    simp only[Bool.and_eq_true]at hb
    obtain rfl:=Nat.eq_of_beq_eq_true hb.1
    obtain rfl:=Nat.eq_of_beq_eq_true hb.2.1
    exact⟨rfl,hu,hb.2.2.1,hb.2.2.2⟩
   ·cases h
  ·cases h
 ·cases h
omit [Dr] in
theorem run_setMap{r:Nat}{es:Array MapEntry}{clock:Nat}(ob:Obj)(hb:w.heap[r]? =some (.map es clock)):(setObj r ob).run P w= .ok () {w with heap:=w.heap.setIfInBounds r ob}:=MapKept.run_setObj_map ob hb
theorem ev_map{n:Nat}{es es':Array MapEntry}{c c':Nat}(hb:w.heap[n]? =some (.map es c)):EvT (fun t=>t=σ n) σ w σ {w with heap:=w.heap.setIfInBounds n (.map es' c')}:=
 ⟨rfl,rfl,rfl,fun _=>Nat.le_refl _,by simp,fun b hb' hn=>⟨rfl,by
  show(w.heap.setIfInBounds n _)[b]? =w.heap[b]?
  rw[Array.getElem?_setIfInBounds]
  rw[if_neg (fun e=>hn (by rw[e]))]⟩⟩
theorem put_map {b n:Nat} {m:MTy} {xs xs':Mp m.K m.V} {es es':Array MapEntry} {v:Value} (hC:Conc E σ τ β ⟨tm,H⟩ a w) (hx:H[b]? =some (.map m xs)) (hv:β[b]? =some v) (e1:v= .map (some n)) (hb:w.heap[n]? =some (.map es xs.length)) (hn:σ n=τ b)
  (he:es'.toList=ents m.ka m.K m.va m.V 0 xs'):EvT (Rng E) σ w σ {w with heap:=w.heap.setIfInBounds n (.map es' xs'.length)}∧Conc E σ τ β ⟨tm,H.set b (.map m xs')⟩ a {w with heap:=w.heap.setIfInBounds n (.map es' xs'.length)}:=by
 have hev:EvT (fun t=>t=τ b) σ w σ {w with heap:=w.heap.setIfInBounds n (.map es' xs'.length)}:=by rw[←hn];exact ev_map hb
 have hP:=hC.apart b _ hx rfl
 have hlt:=(Array.getElem?_eq_some_iff.1 hb).1
 refine⟨hev.mono (fun t h hp=>hP (h▸hp)),Conc.put hC hx rfl hv hev ⟨n,es',e1,?_,hn,he⟩⟩
 show(w.heap.setIfInBounds n _)[n]? =_
 rw[Array.getElem?_setIfInBounds]
 simp[hlt]
theorem lookup_sound{t:TypeId}{x k:Operand}{ok:Bool}{y:AV}(hC:Conc E σ τ β ⟨tm,H⟩ a w)(ho:o.op= .lookup t x k ok)(h:lookupX P H t (aeval tm x) (aeval tm k) ok=some y):OpOut P E σ β tm a w o H y:=by
 have hx:=aeval_rel hC x
 have hk:=aeval_rel hC k
 unfold lookupX at h
 split at h
 case h_3=>cases h
 ·rename_i b hab
  rw[hab]at hx
  split at h
  case h_2=>cases h
  rename_i m xs hm
  obtain⟨g1,g2,g3,g4⟩:=mapX_some hm
  split at h
  case h_2=>cases h
  rename_i key z hkey hz
  obtain⟨_,hkv⟩:=decF_rel hkey hk
  simp only[Rel]at hx
  have hB:=hC.look g1 hx.1
  obtain⟨n,es,e1,e2,e3,e4⟩:=hB
  have hfind:=find_run (P:=P) (w:=w) (va:=m.va) (V:=m.V) g3 key xs 0
  have hget:=mfind_get (K:=m.K) (V:=m.V) xs key 0
  simp only[Option.some.injEq]at h
  subst h
  have hl:(Instr.lookup t (a.eval x) (a.eval k) ok).run P w= .ok (resV ok (valF m.va m.V ((mget m.K m.V xs key).getD z)) (mget m.K m.V xs key).isSome) w:=by
   unfold Instr.lookup
   simp only[Sem.run_bind,run_underlying g2,Result.andThen_ok]
   rw[e1,hkv]
   simp only[Sem.run_bind,MapKept.run_getObj_map e2,Result.andThen_ok,Sem.run_pure,keyB_check (w:=w) g3,e4,hfind]
   rw[hget]
   cases hf:mfind m.K m.V xs key 0 with
   |none=>
    simp only[Option.map_none,Sem.run_bind,zeroM_run hz,Result.andThen_ok,Sem.run_pure,Option.getD_none,Option.isSome_none]
    cases ok<;>rfl
   |some r=>
    simp only[Option.map_some,Sem.run_bind,Sem.run_pure,Result.andThen_ok,Option.getD_some,Option.isSome_some]
    cases ok<;>rfl
  refine OpOut.same hC (v:=resV ok (valF m.va m.V ((mget m.K m.V xs key).getD z)) (mget m.K m.V xs key).isSome) ?_ ?_
  ·simp only[execOp,ho,Sem.run_bind,Sem.run_map,hl]
   rfl
  ·cases ok with
   |false=>exact encA_rel
   |true=>
    simp only[resA,resV,Rel]
    refine⟨[valF m.va m.V ((mget m.K m.V xs key).getD z),.bool (mget m.K m.V xs key).isSome],rfl,?_⟩
    simp only[RelL]
    exact⟨_,_,rfl,encA_rel,_,_,rfl,by simp[Rel],rfl⟩
 ·rename_i hab
  rw[hab]at hx
  simp only[Rel]at hx
  split at h
  case h_2=>cases h
  rename_i kt vt g2
  split at h
  case h_2=>cases h
  rename_i kd g3
  split at h
  case h_2=>cases h
  rename_i _ key z hkb hkey hz
  obtain⟨_,hkv⟩:=decF_rel hkey hk
  simp only[Option.some.injEq]at h
  subst h
  obtain⟨i,hi,hzz⟩:=Option.bind_eq_some_iff.1 hz
  have hfind:=find_run (P:=P) (w:=w) (va:=false) (V:= .int .i64) hkb key [] 0
  have hl:(Instr.lookup t (a.eval x) (a.eval k) ok).run P w= .ok (resV ok z false) w:=by
   unfold Instr.lookup
   simp only[Sem.run_bind,run_underlying g2,Result.andThen_ok]
   rw[hx,hkv]
   simp only[ents]at hfind
   have hzv:(zeroValue vt).run P w= .ok z w:=by simp[zeroValue,typeInfo,hi,hzz]
   simp only[Sem.run_bind,Sem.run_pure,Result.andThen_ok,keyB_check (w:=w) hkb,hfind,mfind,Option.map_none,hzv]
   cases ok<;>rfl
  refine OpOut.same hC (v:=resV ok z false) ?_ ?_
  ·simp only[execOp,ho,Sem.run_bind,Sem.run_map,hl]
   rfl
  ·cases ok with
   |false=>simp only[resA,resV,Rel]
   |true=>
    simp only[resA,resV,Rel]
    refine⟨[z,.bool false],rfl,?_⟩
    simp only[RelL]
    exact⟨_,_,rfl,by simp[Rel],_,_,rfl,by simp[Rel],rfl⟩
omit [Dr] in
theorem hit_parts{m:MTy}{xs:Mp m.K m.V}{es:Array MapEntry}{key:m.K.Den}{i:Nat}{v y:m.V.Den}(hk:flatT m.K=true)(he:es.toList=ents m.ka m.K m.va m.V 0 xs)(hf:mfind m.K m.V xs key 0=some (i,v)):
  (((es[i]?).map (·.key)).getD (valF m.ka m.K key)=valF m.ka m.K key)∧(es.modify i fun e=>{e with key:=valF m.ka m.K key,val:=valF m.va m.V y}).toList=ents m.ka m.K m.va m.V 0 (mset m.K m.V xs key y)∧(mset m.K m.V xs key y).length=xs.length∧
   (((es[i]?).map (·.born)).getD 0=mpos m.K m.V xs key):=by
 have hf':mfind m.K m.V xs key 0=some (0+i,v):=by rw[Nat.zero_add];exact hf
 obtain⟨h1,h2,h3⟩:=ents_hit (ka:=m.ka) (va:=m.va) (j:=0) y hk hf'
 have h4:=mpos_hit (ka:=m.ka) (va:=m.va) (j:=0) hf'
 have ei:es[i]? =(ents m.ka m.K m.va m.V 0 xs)[i]? :=by rw[←he,Array.getElem?_toList]
 refine⟨by rw[ei,h3];rfl,by rw[Array.toList_modify,he,h1],h2,by rw[ei,h4];simp⟩
theorem upd_sound{t:TypeId}{x k v:Operand}{H':List AB}(hC:Conc E σ τ β ⟨tm,H⟩ a w)(ho:o.op= .mapUpdate t x k v)(h:updX P H t (aeval tm x) (aeval tm k) (aeval tm v)=some H'):OpOut P E σ β tm a w o H' .unk:=by
 have hx:=aeval_rel hC x
 have hk:=aeval_rel hC k
 have hv:=aeval_rel hC v
 unfold updX at h
 split at h
 case h_2=>cases h
 rename_i b hab
 rw[hab]at hx
 split at h
 case h_2=>cases h
 rename_i m xs hm
 obtain⟨g1,g2,g3,g4⟩:=mapX_some hm
 split at h
 case h_2=>cases h
 rename_i key y hkey hy
 obtain⟨hfk,hkv⟩:=decF_rel hkey hk
 obtain⟨_,hyv⟩:=decF_rel hy hv
 obtain rfl:=Option.some.inj h
 simp only[Rel]at hx
 obtain⟨n,es,e1,e2,e3,e4⟩:=hC.heap b _ _ g1 hx.1
 have hfind:=find_run (P:=P) (w:=w) (va:=m.va) (V:=m.V) g3 key xs 0
 rw[←e4]at hfind
 cases hf:mfind m.K m.V xs key 0 with
 |none=>
  obtain⟨h1,h2⟩:=ents_new (ka:=m.ka) (va:=m.va) (j:=0) y hf
  obtain⟨hev,hC'⟩:=put_map (es':=es.push ⟨valF m.ka m.K key,valF m.va m.V y,xs.length⟩) (xs':=mset m.K m.V xs key y) hC g1 hx.1 e1 e2 e3 (by rw[Array.toList_push,e4,h1];simp)
  refine OpGives.unit σ (w':={w with heap:=w.heap.setIfInBounds n (.map (es.push ⟨valF m.ka m.K key,valF m.va m.V y,xs.length⟩) (mset m.K m.V xs key y).length)}) ?_ ⟨τ,β,⟨[],by simp⟩,hev,hC',by simp[Rel]⟩
  rw[hf]at hfind
  have:(Instr.mapUpdate t (a.eval x) (a.eval k) (a.eval v)).run P w= .ok () {w with heap:=w.heap.setIfInBounds n (.map (es.push ⟨valF m.ka m.K key,valF m.va m.V y,xs.length⟩) (mset m.K m.V xs key y).length)}:=by
   unfold Instr.mapUpdate
   rw[e1,hkv,hyv]
   simp only[Sem.run_bind,run_underlying g2,MapKept.run_getObj_map e2,keyB_check (w:=w) g3,hfind,Result.andThen_ok,Option.map_none,run_setMap _ e2,h2]
  simp only[execOp,ho,Sem.run_bind,Sem.run_map,this]
  rfl
 |some r=>
  obtain⟨i,v0⟩:=r
  obtain⟨h0,h1,h2,_⟩:=hit_parts (y:=y) hfk e4 hf
  obtain⟨hev,hC'⟩:=put_map (xs':=mset m.K m.V xs key y) hC g1 hx.1 e1 e2 e3 h1
  refine OpGives.unit σ (w':={w with heap:=w.heap.setIfInBounds n (.map (es.modify i fun e=>{e with key:=valF m.ka m.K key,val:=valF m.va m.V y}) (mset m.K m.V xs key y).length)}) ?_ ⟨τ,β,⟨[],by simp⟩,hev,hC',by simp[Rel]⟩
  rw[hf]at hfind
  have:(Instr.mapUpdate t (a.eval x) (a.eval k) (a.eval v)).run P w= .ok () {w with heap:=w.heap.setIfInBounds n (.map (es.modify i fun e=>{e with key:=valF m.ka m.K key,val:=valF m.va m.V y}) (mset m.K m.V xs key y).length)}:=by
   unfold Instr.mapUpdate
   rw[e1,hkv,hyv]
   simp only[Sem.run_bind,run_underlying g2,MapKept.run_getObj_map e2,keyB_check (w:=w) g3,hfind,Result.andThen_ok,Option.map_some,h0,keyB_stays (w:=w) g3,run_setMap _ e2,h2]
  simp only[execOp,ho,Sem.run_bind,Sem.run_map,this]
  rfl
omit [Dr] in
theorem mset_same{K V:Ty}(hk:flatT K=true): ∀{xs:Mp K V} {k:K.Den} {i:Nat} {j:Nat} {v:V.Den},mfind K V xs k i=some (j,v)→mset K V xs k v=xs
 | [],_,_,_,_,h=>by simp[mfind]at h
 |none::l,k,i,j,v,h=>by simp only[mfind]at h;simp only[mset,mset_same hk h]
 |some (k',v')::l,k,i,j,v,h=>by
  simp only[mfind]at h
  cases he:eqT K k k' with
  |true=>
   rw[he]at h
   simp only[cond_true,Option.some.injEq,Prod.mk.injEq]at h
   simp only[mset,he,cond_true,h.2]
  |false=>rw[he]at h;simp only[mset,he,cond_false,mset_same hk (i:=i+1) h]
omit [Dr] in
theorem modify_key{l:List MapEntry}{i:Nat}{u:Value}(h:(l[i]?).map (·.key)=some u):(l.modify i fun e=>{e with key:=u})=l:=by
 apply List.ext_getElem?
 intro q
 rw[List.getElem?_modify]
 by_cases hq:i=q
 ·subst hq
  cases hl:l[i]? with
  |none=>simp
  |some e=>
   rw[hl]at h
   simp only[Option.map_some,Option.some.injEq]at h
   subst h
   simp
 ·simp[hq]
theorem entry_sound{t:TypeId}{x k:Operand}{H':List AB}{y:AV}(hC:Conc E σ τ β ⟨tm,H⟩ a w)(ho:o.op= .mapEntry t x k)(h:entryX P H t (aeval tm x) (aeval tm k)=some (H',y)):OpOut P E σ β tm a w o H' y:=by
 have hx:=aeval_rel hC x
 have hk:=aeval_rel hC k
 unfold entryX at h
 split at h
 case h_2=>cases h
 rename_i b hab
 rw[hab]at hx
 split at h
 case h_2=>cases h
 rename_i m xs hm
 obtain⟨g1,g2,g3,g4⟩:=mapX_some hm
 split at h
 case h_2=>cases h
 rename_i key z hkey hz
 obtain⟨hfk,hkv⟩:=decF_rel hkey hk
 simp only[Option.some.injEq,Prod.mk.injEq]at h
 obtain⟨rfl,rfl⟩:=h
 simp only[Rel]at hx
 obtain⟨n,es,e1,e2,e3,e4⟩:=hC.heap b _ _ g1 hx.1
 have hfind:=find_run (P:=P) (w:=w) (va:=m.va) (V:=m.V) g3 key xs 0
 rw[←e4]at hfind
 have hget:=mfind_get (K:=m.K) (V:=m.V) xs key 0
 have hrel: ∀(d:m.V.Den) (s:Nat) (w':World),Rel E σ w' β (.tup [encA m.va m.V d,.val (.int .i64 s)]) (.tuple #[valF m.va m.V d,.int .i64 s]):=by
  intro d s w'
  simp only[Rel]
  refine⟨[valF m.va m.V d,.int .i64 s],rfl,?_⟩
  simp only[RelL]
  exact⟨_,_,rfl,encA_rel,_,_,rfl,by simp[Rel],rfl⟩
 cases hf:mfind m.K m.V xs key 0 with
 |none=>
  have hg:(mget m.K m.V xs key).getD z=z:=by rw[hget,hf];rfl
  have hp:mpos m.K m.V xs key=xs.length:=mpos_new hf
  rw[hg,hp]
  obtain⟨h1,h2⟩:=ents_new (ka:=m.ka) (va:=m.va) (j:=0) z hf
  obtain⟨hev,hC'⟩:=put_map (es':=es.push ⟨valF m.ka m.K key,valF m.va m.V z,xs.length⟩) (xs':=mset m.K m.V xs key z) hC g1 hx.1 e1 e2 e3 (by rw[Array.toList_push,e4,h1];simp)
  refine OpGives.val σ (v:= .tuple #[valF m.va m.V z,.int .i64 xs.length]) (w':={w with heap:=w.heap.setIfInBounds n (.map (es.push ⟨valF m.ka m.K key,valF m.va m.V z,xs.length⟩) (mset m.K m.V xs key z).length)}) ?_ ⟨τ,β,⟨[],by simp⟩,hev,hC',hrel _ _ _⟩
  rw[hf]at hfind
  have:(Instr.mapEntry t (a.eval x) (a.eval k)).run P w= .ok (.tuple #[valF m.va m.V z,.int .i64 xs.length]) {w with heap:=w.heap.setIfInBounds n (.map (es.push ⟨valF m.ka m.K key,valF m.va m.V z,xs.length⟩) (mset m.K m.V xs key z).length)}:=by
   unfold Instr.mapEntry
   rw[e1,hkv]
   simp only[Sem.run_bind,run_underlying g2,MapKept.run_getObj_map e2,keyB_check (w:=w) g3,hfind,Result.andThen_ok,Option.map_none,zeroM_run hz,run_setMap _ e2,h2,Sem.run_pure,goInt]
  simp only[execOp,ho,Sem.run_bind,Sem.run_map,this]
  rfl
 |some r=>
  obtain⟨i,v0⟩:=r
  have hg:(mget m.K m.V xs key).getD z=v0:=by rw[hget,hf];rfl
  rw[hg,mset_same hfk hf]
  obtain⟨h0,_,_,hb⟩:=hit_parts (y:=v0) hfk e4 hf
  have hb':((es[i]?).map fun x=>(x.born:Int)).getD 0=(mpos m.K m.V xs key:Int):=by
   rw[←hb]
   cases es[i]? <;>rfl
  have hkey':(es.modify i fun e=>{e with key:=valF m.ka m.K key}).toList=ents m.ka m.K m.va m.V 0 xs:=by
   rw[Array.toList_modify,modify_key,e4]
   rw[e4]
   exact(ents_hit (ka:=m.ka) (va:=m.va) (j:=0) (i:=0) (n:=i) v0 hfk (by rw[Nat.zero_add];exact hf)).2.2
  obtain⟨hev,hC'⟩:=put_map (xs':=xs) hC g1 hx.1 e1 e2 e3 hkey'
  refine OpGives.val σ (v:= .tuple #[valF m.va m.V v0,.int .i64 (mpos m.K m.V xs key)]) (w':={w with heap:=w.heap.setIfInBounds n (.map (es.modify i fun e=>{e with key:=valF m.ka m.K key}) xs.length)}) ?_ ⟨τ,β,⟨[],by simp⟩,hev,hC',hrel _ _ _⟩
  rw[hf]at hfind
  have:(Instr.mapEntry t (a.eval x) (a.eval k)).run P w= .ok (.tuple #[valF m.va m.V v0,.int .i64 (mpos m.K m.V xs key)]) {w with heap:=w.heap.setIfInBounds n (.map (es.modify i fun e=>{e with key:=valF m.ka m.K key}) xs.length)}:=by
   unfold Instr.mapEntry
   rw[e1,hkv]
   simp only[Sem.run_bind,run_underlying g2,MapKept.run_getObj_map e2,keyB_check (w:=w) g3,hfind,Result.andThen_ok,Option.map_some,h0,keyB_stays (w:=w) g3,run_setMap _ e2,Sem.run_pure,goInt,hb']
  simp only[execOp,ho,Sem.run_bind,Sem.run_map,this]
  rfl
theorem estore_sound{t:TypeId}{x s v:Operand}{H':List AB}(hC:Conc E σ τ β ⟨tm,H⟩ a w)(ho:o.op= .entryStore t x s v)(h:estoreX P H t (aeval tm x) (aeval tm s) (aeval tm v)=some (true,H')):OpOut P E σ β tm a w o H' .unk:=by
 have hx:=aeval_rel hC x
 have hs:=aeval_rel hC s
 have hv:=aeval_rel hC v
 unfold estoreX at h
 split at h
 case h_2=>cases h
 rename_i b n0 hab hsn
 rw[hab]at hx
 rw[hsn]at hs
 split at h
 case h_2=>cases h
 rename_i m xs hm
 obtain⟨g1,g2,g3,g4⟩:=mapX_some hm
 split at h
 case h_2=>cases h
 rename_i y hy
 obtain⟨_,hyv⟩:=decF_rel hy hv
 simp only[Option.some.injEq,Prod.mk.injEq,Bool.and_eq_true,decide_eq_true_eq]at h
 obtain⟨⟨hn0,hhas⟩,rfl⟩:=h
 simp only[Rel]at hx hs
 obtain⟨n,es,e1,e2,e3,e4⟩:=hC.heap b _ _ g1 hx.1
 obtain⟨i,h1,h2⟩:=ents_at (ka:=m.ka) (va:=m.va) (j:=0) y hhas
 have hnn:((0+n0.toNat:Nat):Int)=n0:=by omega
 rw[hnn,←e4]at h1
 have h1':es.findIdx? (fun e=>(e.born:Int)==n0)=some i:=by
  have:es.findIdx? (fun e=>(e.born:Int)==n0)=es.toList.findIdx? (fun e=>(e.born:Int)==n0):=by cases es;simp
  rw[this];exact h1
 obtain⟨hev,hC'⟩:=put_map (es':=es.modify i fun e=>{e with val:=valF m.va m.V y}) (xs':=mput m.K m.V xs n0.toNat y) hC g1 hx.1 e1 e2 e3 (by rw[Array.toList_modify,e4,h2])
 refine OpGives.unit σ (w':={w with heap:=w.heap.setIfInBounds n (.map (es.modify i fun e=>{e with val:=valF m.va m.V y}) (mput m.K m.V xs n0.toNat y).length)}) ?_ ⟨τ,β,⟨[],by simp⟩,hev,hC',by simp[Rel]⟩
 have:(Instr.entryStore t (a.eval x) (a.eval s) (a.eval v)).run P w= .ok () {w with heap:=w.heap.setIfInBounds n (.map (es.modify i fun e=>{e with val:=valF m.va m.V y}) (mput m.K m.V xs n0.toNat y).length)}:=by
  unfold Instr.entryStore
  rw[e1,hs,hyv]
  simp only[Sem.run_bind,MapKept.run_getObj_map e2,Result.andThen_ok,asInt,asIntOf,Sem.run_pure,h1',run_setMap _ e2,mput_len]
 simp only[execOp,ho,Sem.run_bind,Sem.run_map,this]
 rfl
theorem del_sound{t t2:TypeId}{x k:Operand}{H':List AB}(hC:Conc E σ τ β ⟨tm,H⟩ a w)(ho:o.op= .call {callee:= .builtin .delete,args:= #[x,k],argTypes:= #[t,t2]})(h:delX P H t (aeval tm x) (aeval tm k)=some H'):OpOut P E σ β tm a w o H' (.tup []):=by
 have hx:=aeval_rel hC x
 have hk:=aeval_rel hC k
 unfold delX at h
 split at h
 case h_2=>cases h
 rename_i b hab
 rw[hab]at hx
 split at h
 case h_2=>cases h
 rename_i m xs hm
 obtain⟨g1,g2,g3,g4⟩:=mapX_some hm
 split at h
 case h_2=>cases h
 rename_i key hkey
 obtain⟨hfk,hkv⟩:=decF_rel hkey hk
 obtain rfl:=Option.some.inj h
 simp only[Rel]at hx
 obtain⟨n,es,e1,e2,e3,e4⟩:=hC.heap b _ _ g1 hx.1
 have hfind:=find_run (P:=P) (w:=w) (va:=m.va) (V:=m.V) g3 key xs 0
 rw[←e4]at hfind
 have fin: ∀(es':Array MapEntry),es'.toList=ents m.ka m.K m.va m.V 0 (mdel m.K m.V xs key)→(Builtin.delete_ #[t,t2] o.type #[a.eval x,a.eval k]).run P w= .ok (.tuple #[]) {w with heap:=w.heap.setIfInBounds n (.map es' xs.length)}→OpOut P E σ β tm a w o (H.set b (.map m (mdel m.K m.V xs key))) (.tup []):=by
  intro es' he hrun
  obtain⟨hev,hC'⟩:=put_map (es':=es') (xs':=mdel m.K m.V xs key) hC g1 hx.1 e1 e2 e3 he
  rw[mdel_len]at hev hC'
  refine OpGives.val σ (v:= .tuple #[]) ?_ ⟨τ,β,⟨[],by simp⟩,hev,hC',?_⟩
  ·simp[execOp,ho,resolve,invoke,builtin,hrun]
  ·simp only[Rel];exact⟨[],rfl,by simp[RelL]⟩
 cases hf:mfind m.K m.V xs key 0 with
 |none=>
  refine fin es (by rw[mdel_new hf,e4]) ?_
  rw[hf]at hfind
  unfold Builtin.delete_
  rw[e1,hkv]
  simp[run_underlying g2,MapKept.run_getObj_map e2,keyB_check (w:=w) g3,hfind,run_setMap _ e2]
 |some r=>
  obtain⟨i,v0⟩:=r
  have hd:=mdel_hit (ka:=m.ka) (va:=m.va) (j:=0) (i:=0) (n:=i) (xs:=xs) (k:=key) (v:=v0) (by rw[Nat.zero_add];exact hf)
  have hlen:i<es.size:=by
   have:=(ents_hit (ka:=m.ka) (va:=m.va) (j:=0) (i:=0) (n:=i) v0 hfk (by rw[Nat.zero_add];exact hf)).2.2
   obtain⟨e,he,_⟩:=Option.map_eq_some_iff.1 this
   rw[←e4]at he
   simpa using(List.getElem?_eq_some_iff.1 he).1
  refine fin (es.eraseIdxIfInBounds i) (by rw[Array.eraseIdxIfInBounds,dif_pos hlen,Array.toList_eraseIdx,e4,hd]) ?_
  rw[hf]at hfind
  unfold Builtin.delete_
  rw[e1,hkv]
  simp[run_underlying g2,MapKept.run_getObj_map e2,keyB_check (w:=w) g3,hfind,run_setMap _ e2]
theorem mlen_sound{t:TypeId}{x:Operand}{y:AV}(hC:Conc E σ τ β ⟨tm,H⟩ a w)(ho:o.op= .call {callee:= .builtin .len,args:= #[x],argTypes:= #[t]})(h:mlenX P H t (aeval tm x)=some y):OpOut P E σ β tm a w o H y:=by
 have hx:=aeval_rel hC x
 unfold mlenX at h
 split at h
 case h_2=>cases h
 rename_i b hab
 rw[hab]at hx
 split at h
 case h_2=>cases h
 rename_i m xs hm
 obtain⟨g1,g2,g3,g4⟩:=mapX_some hm
 obtain rfl:=Option.some.inj h
 simp only[Rel]at hx
 obtain⟨n,es,e1,e2,e3,e4⟩:=hC.look g1 hx.1
 have hl:es.size=mlen m.K m.V xs:=by rw[←Array.length_toList,e4,mlen_ents]
 refine OpOut.same hC (v:= .int .i64 (mlen m.K m.V xs)) ?_ (by simp[Rel])
 simp[execOp,ho,resolve,invoke,builtin,e1,Builtin.len_,run_underlying g2,goInt,MapKept.run_getObj_map e2,hl]
theorem make_sound{t:TypeId}{m:MTy}(hC:Conc E σ τ β ⟨tm,H⟩ a w)(ho:o.op= .makeMap t none)(h:makeX P t=some m):OpOut P E σ β tm a w o (H++ [.map m []]) (.map H.length):=by
 have hsz:=hC.size
 simp only at hsz
 obtain⟨t',hP,ht⟩:=conc_fresh hC
 have hev:EvT (fun _=>False) σ w (upd σ w.heap.size t') {w with heap:=w.heap.push (.map #[] 0)}:=by
  refine⟨rfl,rfl,rfl,fun _=>Nat.le_refl _,by simp,fun b hb _=>⟨?_,?_⟩⟩
  ·simp[upd,Nat.ne_of_lt hb]
  ·show(w.heap.push _)[b]? =w.heap[b]?
   rw[Array.getElem?_push]
   rw[if_neg (Nat.ne_of_lt hb)]
 have hpre: ∃s,β++ [Value.map (some w.heap.size)]=β++s:=⟨_,rfl⟩
 refine OpGives.val (upd σ w.heap.size t') (v:= .map (some w.heap.size)) (w':={w with heap:=w.heap.push (.map #[] 0)}) ?_ ⟨_,β++ [.map (some w.heap.size)],hpre,hev.mono (fun _ h=>h.elim),conc_new hC (hev.mono (fun _ h=>h.elim)) hP ht ?_,?_⟩
 ·simp[execOp,ho,Instr.makeMap,newObj,Sem.run]
 ·refine⟨w.heap.size,#[],rfl,by simp,by simp[upd],rfl⟩
 ·simp only[Rel]
  exact⟨by rw[←hsz];simp,rfl⟩
omit [Dr] in
theorem map_set{b:Nat}{m:MTy}{xs xs':Mp m.K m.V}(h:H[b]? =some (.map m xs)):HPres H (H.set b (.map m xs')):= .set h (fun _=>by simp)
omit [Dr] in
theorem updX_pres{t:TypeId}{x k v:AV}{H':List AB}(h:updX P H t x k v=some H'):HPres H H':=by
 unfold updX at h
 split at h
 case h_2=>cases h
 split at h
 case h_2=>cases h
 rename_i m xs hm
 split at h
 case h_2=>cases h
 obtain rfl:=Option.some.inj h
 exact map_set (mapX_some hm).1
omit [Dr] in
theorem entryX_pres{t:TypeId}{x k:AV}{H':List AB}{y:AV}(h:entryX P H t x k=some (H',y)):HPres H H':=by
 unfold entryX at h
 split at h
 case h_2=>cases h
 split at h
 case h_2=>cases h
 rename_i m xs hm
 split at h
 case h_2=>cases h
 simp only[Option.some.injEq,Prod.mk.injEq]at h
 obtain⟨rfl,_⟩:=h
 exact map_set (mapX_some hm).1
omit [Dr] in
theorem estoreX_pres{t:TypeId}{x k v:AV}{H':List AB}{c:Bool}(h:estoreX P H t x k v=some (c,H')):HPres H H':=by
 unfold estoreX at h
 split at h
 case h_2=>cases h
 split at h
 case h_2=>cases h
 rename_i m xs hm
 split at h
 case h_2=>cases h
 simp only[Option.some.injEq,Prod.mk.injEq]at h
 obtain⟨_,rfl⟩:=h
 exact map_set (mapX_some hm).1
omit [Dr] in
theorem delX_pres{t:TypeId}{x k:AV}{H':List AB}(h:delX P H t x k=some H'):HPres H H':=by
 unfold delX at h
 split at h
 case h_2=>cases h
 split at h
 case h_2=>cases h
 rename_i m xs hm
 split at h
 case h_2=>cases h
 obtain rfl:=Option.some.inj h
 exact map_set (mapX_some hm).1
def MapEq(P:Program)(H H':List AB):Prop:=
 ∀(b:Nat) (m:MTy) (xs:Mp m.K m.V),look H b=some (.map m xs)→∃xs',look H' b=some (.map m xs')∧∀z,zeroM P m=some z→flatT m.K=true→∀k,(mget m.K m.V xs' k).getD z=(mget m.K m.V xs k).getD z
omit [Dr] in
theorem MapEq.refl(H:List AB):MapEq P H H:=fun b m xs h=>⟨xs,h,fun _ _ _ _=>rfl⟩
omit [Dr] in
theorem MapEq.trans{H H' H'':List AB}(h:MapEq P H H')(k:MapEq P H' H''):MapEq P H H'':=fun b m xs hb=>by
 obtain⟨xs',h1,h2⟩:=h b m xs hb
 obtain⟨xs'',k1,k2⟩:=k b m xs' h1
 exact⟨xs'',k1,fun z hz hk q=>(k2 z hz hk q).trans (h2 z hz hk q)⟩
omit [Dr] in
theorem mget_mset{K V:Ty}(hk:flatT K=true): ∀(xs:Mp K V) (k:K.Den) (v:V.Den) (q:K.Den),mget K V (mset K V xs k v) q=bif eqT K q k then some v else mget K V xs q
 | [],k,v,q=>by simp only[mset,mget]
 |none::l,k,v,q=>by simp only[mset,mget,mget_mset hk l k v q]
 |some (k',v')::l,k,v,q=>by
  simp only[mset]
  cases he:eqT K k k' with
  |true=>
   obtain rfl:=(eqT_iff hk).1 he
   simp only[cond_true,mget]
   cases eqT K q k<;>rfl
  |false=>
   simp only[cond_false,mget,mget_mset hk l k v q]
   cases hq:eqT K q k' with
   |false=>rfl
   |true=>
    obtain rfl:=(eqT_iff hk).1 hq
    cases hqk:eqT K q k with
    |false=>rfl
    |true=>
     obtain rfl:=(eqT_iff hk).1 hqk
     rw[hq]at he;cases he
omit [Dr] in
theorem look_set{b:Nat}{x y:AB}{j:Nat}(h:H[b]? =some x):look (H.set b y) j=if b=j then some y.bare else look H j:=by
 unfold look
 rw[List.getElem?_set]
 by_cases hj:b=j
 ·subst hj
  rw[if_pos rfl,if_pos (List.getElem?_eq_some_iff.1 h).1,if_pos rfl]
 ·rw[if_neg hj,if_neg hj]
omit [Dr] in
theorem entry_mapEq{t:TypeId}{x k:AV}{H':List AB}{y:AV}(h:entryX P H t x k=some (H',y)):MapEq P H H':=by
 unfold entryX at h
 split at h
 case h_2=>cases h
 rename_i b
 split at h
 case h_2=>cases h
 rename_i m xs hm
 obtain⟨g1,g2,g3,g4⟩:=mapX_some hm
 split at h
 case h_2=>cases h
 rename_i key z hkey hz
 simp only[Option.some.injEq,Prod.mk.injEq]at h
 obtain⟨rfl,_⟩:=h
 intro b' m' xs' hb'
 by_cases hbb:b=b'
 ·subst hbb
  have hl:look H b=some (.map m xs):=by unfold look;rw[g1];rfl
  rw[hl]at hb'
  simp only[Option.some.injEq,AB.map.injEq]at hb'
  obtain⟨rfl,hx⟩:=hb'
  obtain rfl:=eq_of_heq hx
  refine⟨_,by rw[look_set g1,if_pos rfl];rfl,fun z' hz' hk q=> ?_⟩
  rw[hz]at hz'
  obtain rfl:=Option.some.inj hz'
  rw[mget_mset hk]
  cases hq:eqT m.K q key with
  |false=>rfl
  |true=>
   obtain rfl:=(eqT_iff hk).1 hq
   rfl
 ·exact⟨xs',by rw[look_set g1,if_neg hbb];exact hb',fun _ _ _ _=>rfl⟩
omit [Dr] in
theorem lookupX_eq{H':List AB}{t:TypeId}{x k:AV}{y:AV}(hE:MapEq P H H')(h:lookupX P H t x k false=some y):lookupX P H' t x k false=some y:=by
 unfold lookupX at h⊢
 split at h
 case h_3=>cases h
 case h_2=>exact h
 rename_i b
 split at h
 case h_2=>cases h
 rename_i m xs hm
 obtain⟨g1,g2,g3,g4⟩:=mapX_some hm
 split at h
 case h_2=>cases h
 rename_i key z hkey hz
 obtain⟨xs',h1,h2⟩:=hE b m xs g1
 have hm':mapX P t (look H' b)=some ⟨m,xs'⟩:=by
  rw[h1]
  unfold mapX
  simp only[g2]
  have:(Nat.beq m.kt m.kt && (Nat.beq m.vt m.vt && (keyB P m.ka m.kt m.K && flatT m.V)))=true:=by
   simp only[Nat.beq_refl,g3,g4,Bool.and_self]
  rw[this]
 simp only[hm',hkey,hz]
 simp only[Option.some.injEq]at h
 subst h
 simp only[resA,h2 z hz (keyB_flat g3) key]
theorem part_runV{t:TypeId}{cs:List AV}{vs:List Value}{off:Nat}{y:AV}(hr:RelL E σ w β cs vs)(h:partX P t cs off=some y): ∃u,(part t vs.toArray off).run P w= .ok u w∧Rel E σ w β y u:=by
 unfold partX at h
 split at h
 ·rename_i hs
  obtain⟨u,h1,h2⟩:=RelL.get hr h
  exact⟨u,part_scalar hs (by simpa using h1),h2⟩
 ·split at h
  ·rename_i i ha hi
   split at h
   ·rename_i hb
    have hb:=Nat.le_of_ble_eq_true hb
    simp only[Option.some.injEq]at h
    subst h
    have hl:=hr.length
    refine⟨.agg ((vs.drop off).take i.size).toArray,?_,?_⟩
    ·have hsz:(sizeOf t).run P w= .ok i.size w:=Go.Vk.run_sizeOf (by rw[hi];rfl)
     simp only[part,Sem.run_bind,run_isAgg_true ha,Result.andThen_ok,if_true,hsz,Sem.run_pure]
     congr 2
     apply Array.ext'
     simp[List.extract_eq_take_drop]
    ·simp only[Rel]
     exact⟨_,rfl,RelL.take _ (RelL.drop _ hr)⟩
   ·cases h
  ·cases h
def fieldV(P:Program)(t:TypeId)(x:AV)(f:Nat):Option AV:=
 match x with
 | .agg cs=>match P.underlying t with
  |some (.struct fs)=>match fs[f]? with
   |some fd=>partX P fd.type cs fd.offset
   |none=>none
  |_=>none
 |_=>none
theorem fieldV_sound{t:TypeId}{x:Operand}{f:Nat}{y:AV}(hC:Conc E σ τ β ⟨tm,H⟩ a w)(ho:o.op= .field t x f)(h:fieldV P t (aeval tm x) f=some y):OpOut P E σ β tm a w o H y:=by
 have hx:=aeval_rel hC x
 unfold fieldV at h
 split at h
 case h_2=>cases h
 rename_i cs hcs
 rw[hcs]at hx
 simp only[Rel]at hx
 obtain⟨vs,e,hr⟩:=hx
 split at h
 case h_2=>cases h
 rename_i fs hu
 split at h
 case h_2=>cases h
 rename_i fd hf
 obtain⟨u,h1,h2⟩:=part_runV hr h
 refine OpOut.same hC (v:=u) ?_ h2
 have:(Instr.field t (a.eval x) f).run P w= .ok u w:=by
  unfold Instr.field
  rw[e]
  simp only[Sem.run_bind,run_underlying hu,Result.andThen_ok,hf,asAgg,Sem.run_pure,h1]
 simp only[execOp,ho,Sem.run_bind,Sem.run_map,this]
 rfl
end
end Go.Am
/- The abstract machine,part 23: nil,strings,bytes,shifts,cuts of rows. No statement of its own. -/
namespace Go.Am
open Go.Vk Go.RowKit
variable [Dr]
def bytesS(xs:List Int):ByteArray:=xs.foldl (fun s n=>s.push (UInt8.ofNat n.toNat)) ByteArray.empty
def adX:AV→Bool
 | .ptr _ _=>true
 | .ep .. =>true
 | .rp .. =>true
 |_=>false
def nilX(P:Program)(o:Oper)(ρ:Operand→AV):Option Value:=
 match o.op with
 | .binOp .eql t x y _=>match P.underlying t,ρ y with
  |some (.pointer _),.val (.pointer none)=>match adX (ρ x)with
   |true=>some (.bool false)
   |false=>none
  |_,_=>none
 | .binOp .neq t x y _=>match P.underlying t,ρ y with
  |some (.pointer _),.val (.pointer none)=>match adX (ρ x)with
   |true=>some (.bool true)
   |false=>none
  |_,_=>none
 |_=>none
def cutS(P:Program)(tm:List AV)(t:TypeId)(x:AV)(lo hi:Option Operand):Option (Bool×AV):=
 match P.underlying t,x with
 |some .string,.val (.string s)=>match boundX tm 0 lo,boundX tm s.size hi with
  |some l,some h=>some (decide (0≤l) && (decide (l≤h) && decide (h≤(s.size:Int))),.val (.string (s.extract l.toNat h.toNat)))
  |_,_=>none
 |_,_=>none
def cutR(P:Program)(tm:List AV)(H:List AB)(t:TypeId)(x:AV)(lo hi:Option Operand):Option (Bool×List AB×AV):=
 match P.underlying t,x with
 |some (.slice e),.row r=>match H[r]? with
  |some (.row T _ xs)=>match(P.info? e).map (fun i=>Nat.beq i.size T.sz),boundX tm 0 lo,boundX tm xs.length hi with
   |some true,some l,some h=>some (decide (0≤l) && (decide (l≤h) && decide (h≤(xs.length:Int))),H.set r .gone,.sv true T ((xs.take h.toNat).drop l.toNat))
   |_,_,_=>none
  |_=>none
 |_,_=>none
def b2sX(P:Program)(H:List AB)(src dst:TypeId)(x:AV):Option AV:=
 match P.underlying src,P.underlying dst with
 |some (.slice e),some .string=>match P.underlying e with
  |some (.int .u8)=>match x with
   | .sv _ (.int .u8) xs=>some (.val (.string (bytesS xs)))
   | .row r=>match look H r with
    |some (.row (.int .u8) _ xs)=>some (.val (.string (bytesS xs)))
    |_=>none
   | .val (.slice none 0 0)=>some (.val (.string ByteArray.empty))
   |_=>none
  |_=>none
 |_,_=>none
section
variable {P : Program} {E : Env} {σ σ1 : Gh} {τ : Nat → Nat} {w w1 : World} {β : List Value} {tm : List AV} {H : List AB} {a : Act} {o : Oper}
theorem conc_freeze{r:Nat}{T:Ty}{e:TypeId}{xs:List T.Den}(hC:Conc E σ τ β ⟨tm,H⟩ a w)(hr:H[r]? =some (.row T e xs)):
  ∃σ',EvT (Rng E) σ w σ' w∧Conc E σ' τ β ⟨tm,H.set r .gone⟩ a w∧∀u,β[r]? =some u→Rel E σ' w β (.sv true T xs) u:=by
 have hsz:=hC.size
 simp only at hsz
 obtain⟨v,hv⟩: ∃v,β[r]? =some v:=⟨_,List.getElem?_eq_getElem (by rw[hsz];exact(List.getElem?_eq_some_iff.1 hr).1)⟩
 have hP:=hC.apart r _ hr rfl
 obtain⟨σ',h1,h2⟩:=(show Own T.kd e σ (τ r) w v xs from hC.heap r _ v hr hv).retag 0 (tag_pos hP)
 have hev:EvT (fun t=>t=τ r) σ w σ' w:=EvT.of h1 (fun t h1 h2=>by omega)
 refine⟨σ',hev.mono (fun t h hp=>hP (h▸hp)),Conc.put hC hr rfl hv hev trivial,fun u hu=> ?_⟩
 rw[hv]at hu
 obtain rfl:=Option.some.inj hu
 obtain⟨A,c,e1,e2,_,e5⟩:=h2.rd
 simp only[Rel]
 exact⟨A,c,0,e1,e2,E.nought,fun _=>rfl,e5⟩
theorem adX_rel{x:AV}{u:Value}(h:adX x=true)(hr:Rel E σ w β x u): ∃ad,u= .pointer (some ad):=by
 cases x<;>try (simp[adX]at h;done)
 ·simp only[Rel]at hr;obtain⟨n,_,e⟩:=hr;exact⟨_,e⟩
 ·simp only[Rel]at hr;obtain⟨ad,t,e,_⟩:=hr;exact⟨_,e⟩
 ·simp only[Rel]at hr;obtain⟨ad,n,c,_,_,e⟩:=hr;exact⟨_,e⟩
omit [Dr] in
theorem run_ptr_nil{t e:TypeId}{ad:Addr}(hu:P.underlying t=some (.pointer e)):(Op.equal t (.pointer (some ad)) (.pointer none)).run P w= .ok false w:=by
 have: ∀d,(Op.equalIn (d+1) t (.pointer (some ad)) (.pointer none)).run P w= .ok false w:=fun d=>by simp[Op.equalIn,run_underlying hu]
 exact this 9999
theorem nilX_sound{v:Value}(hC:Conc E σ τ β ⟨tm,H⟩ a w)(h:nilX P o (aeval tm)=some v):OpOut P E σ β tm a w o H (.val v):=by
 unfold nilX at h
 split at h
 ·rename_i t x y u ho
  split at h
  ·rename_i e hu hy
   split at h
   ·rename_i hx
    obtain rfl:=Option.some.inj h
    obtain⟨ad,e1⟩:=adX_rel hx (aeval_rel hC x)
    have h2:=aeval_rel hC y
    rw[show aeval (St.mk tm H).tmps y=_ from hy]at h2
    simp only[Rel]at h2
    refine OpOut.same hC (v:= .bool false) ?_ (by simp[Rel])
    simp[execOp,ho,e1,h2,eqGuard,binOp,run_ptr_nil hu]
   ·cases h
  ·cases h
 ·rename_i t x y u ho
  split at h
  ·rename_i e hu hy
   split at h
   ·rename_i hx
    obtain rfl:=Option.some.inj h
    obtain⟨ad,e1⟩:=adX_rel hx (aeval_rel hC x)
    have h2:=aeval_rel hC y
    rw[show aeval (St.mk tm H).tmps y=_ from hy]at h2
    simp only[Rel]at h2
    refine OpOut.same hC (v:= .bool true) ?_ (by simp[Rel])
    simp[execOp,ho,e1,h2,eqGuard,binOp,run_ptr_nil hu]
   ·cases h
  ·cases h
 ·cases h
omit [Dr] in
theorem ex_sliceS{ρ:Operand→Value}{t:TypeId}{x:Operand}{lo hi:Option Operand}{s:ByteArray}{l h:Nat}(ho:o.op= .slice t x lo hi none)(hu:P.underlying t=some .string)(hx:ρ x= .string s)(hl:BoundIs ρ lo 0 l)(hh:BoundIs ρ hi s.size h)(h1:l≤h)(h2:h≤s.size):
  (execOp ρ o).run P w= .ok (.value (.string (s.extract l h))) w:=by
 have hsl:(Instr.sliceAt t (ρ x) (lo.map ρ) (hi.map ρ) none).run P w= .ok (.string (s.extract l h)) w:=by
  have hb:(Instr.sliceBounds false s.size s.size (lo.map ρ) (hi.map ρ) none).run P w= .ok (l,h,s.size) w:=by
   cases lo<;>cases hi<;>simp only[BoundIs]at hl hh
   ·subst hl hh;simp[Instr.sliceBounds]
   ·obtain⟨k,i,hk,rfl⟩:=hh;subst hl
    simp[Instr.sliceBounds,hk,Instr.sliceBound,asIntOf,h2]
   ·obtain⟨k,i,hk,rfl⟩:=hl;subst hh
    simp[Instr.sliceBounds,hk,Instr.sliceBound,asIntOf,h1]
   ·obtain⟨k,i,hk,rfl⟩:=hl;obtain⟨k',i',hk',rfl⟩:=hh
    simp[Instr.sliceBounds,hk,hk',Instr.sliceBound,asIntOf,h1,h2]
  simp[Instr.sliceAt,Instr.slice,run_underlying hu,hx,hb]
 simp[execOp,ho,hsl]
theorem cutS_sound{t:TypeId}{x:Operand}{lo hi:Option Operand}{y:AV}(hC:Conc E σ τ β ⟨tm,H⟩ a w)(ho:o.op= .slice t x lo hi none)(h:cutS P tm t (aeval tm x) lo hi=some (true,y)):OpOut P E σ β tm a w o H y:=by
 have hx:=aeval_rel hC x
 unfold cutS at h
 split at h
 ·rename_i s hu hv
  rw[show aeval (St.mk tm H).tmps x=_ from hv]at hx
  simp only[Rel]at hx
  split at h
  ·rename_i l hh hl hhi
   simp only[Option.some.injEq,Prod.mk.injEq,Bool.and_eq_true,decide_eq_true_eq]at h
   obtain⟨⟨h0,h1,h2⟩,rfl⟩:=h
   exact OpOut.same hC (ex_sliceS (l:=l.toNat) (h:=hh.toNat) ho hu hx (bound_is hC hl h0) (bound_is hC hhi (by omega)) (by omega) (by omega)) (by simp[Rel])
  ·cases h
 ·cases h
theorem cutR_sound{t:TypeId}{x:Operand}{lo hi:Option Operand}{H':List AB}{y:AV}(hC:Conc E σ τ β ⟨tm,H⟩ a w)(ho:o.op= .slice t x lo hi none)(h:cutR P tm H t (aeval tm x) lo hi=some (true,H',y)):OpOut P E σ β tm a w o H' y:=by
 have hx:=aeval_rel hC x
 unfold cutR at h
 split at h
 case h_2=>cases h
 rename_i e r hu hv
 rw[show aeval (St.mk tm H).tmps x=_ from hv]at hx
 simp only[Rel]at hx
 split at h
 case h_2=>cases h
 rename_i T e' xs hr
 split at h
 case h_2=>cases h
 rename_i l hh hsz hl hhi
 simp only[Option.some.injEq,Prod.mk.injEq,Bool.and_eq_true,decide_eq_true_eq]at h
 obtain⟨⟨h0,h1,h2⟩,rfl,rfl⟩:=h
 obtain⟨ti,hti,hbeq⟩:=Option.map_eq_some_iff.1 hsz
 have hsz:(P.info? e).map (·.size)=some T.sz:=by rw[hti];simpa using Nat.eq_of_beq_eq_true hbeq
 have hsz:(P.info? e).map (·.size)=some T.kd.sz:=hsz
 obtain⟨σ',f1,f2,f3⟩:=conc_freeze hC hr
 have hsv:=f3 _ hx.1
 simp only[Rel]at hsv
 obtain⟨A,c,t',e1,e2,e3,e4,e5⟩:=hsv
 have hlen:((xs.take hh.toNat).drop l.toNat).length=hh.toNat - l.toNat:=by simp;omega
 have hrun:=ex_slice (P:=P) (w:=w) (l:=l.toNat) (h:=hh.toNat) ho hu hsz e1 (bound_is hC hl h0) (bound_is hC hhi (by omega)) (by omega) (by omega)
 rw[←hlen]at hrun
 refine OpGives.val σ' hrun ⟨τ,β,⟨[],by simp⟩,f1,f2,?_⟩
 simp only[Rel]
 exact⟨_,_,t',rfl,by omega,e3,e4,(e5.take hh.toNat).drop l.toNat c (by simp;omega)⟩
omit [Dr] in
theorem cutR_pres{t:TypeId}{x:AV}{lo hi:Option Operand}{H':List AB}{y:AV}{c:Bool}(h:cutR P tm H t x lo hi=some (c,H',y)):HPres H H':=by
 unfold cutR at h
 split at h
 case h_2=>cases h
 split at h
 case h_2=>cases h
 rename_i T e' xs hr
 split at h
 case h_2=>cases h
 simp only[Option.some.injEq,Prod.mk.injEq]at h
 obtain⟨_,rfl,_⟩:=h
 exact .set hr (fun b=>by simp)
theorem rd_bytes{t:Nat}{A:Option Addr}{c:Nat}{xs:List Int}(h:Rd (Ty.int .u8).kd σ t w A xs):(Conv.bytesToString (.slice A xs.length c)).run P w= .ok (.string (bytesS xs)) w:=by
 cases A with
 |none=>
  cases xs with
  |nil=>rfl
  |cons x xs=>
   obtain⟨ad,e,_⟩:=h (by simp)
   cases e
 |some ad=>
  refine run_bytesToString w ad xs.length c xs ?_
  have hl:(xs.map (Value.int .u8)).length=xs.length:=by simp
  have:=run_loadCells_list (P:=P) w ad (xs.map (Value.int .u8)) (fun j v hj=> ?_)
  ·rw[hl]at this;exact this
  ·simp only[List.getElem?_map,Option.map_eq_some_iff]at hj
   obtain⟨x,hx,rfl⟩:=hj
   obtain⟨hlt,hxe⟩:=List.getElem?_eq_some_iff.1 hx
   obtain⟨ad',e,_,_,hcell⟩:=h (by omega)
   obtain rfl:=Option.some.inj e
   obtain⟨cs,hr,hcs⟩:=hcell j hlt
   have hr:cs= [.int .u8 xs[j]]:=hr
   subst hr
   have:=hcs 0 (.int .u8 xs[j]) rfl
   rw[hxe]at this
   simpa[Ty.kd,Ty.sz]using this
theorem b2s_sound{src dst:TypeId}{x:Operand}{y:AV}(hC:Conc E σ τ β ⟨tm,H⟩ a w)(ho:o.op= .convert src dst x)(h:b2sX P H src dst (aeval tm x)=some y):OpOut P E σ β tm a w o H y:=by
 have hx:=aeval_rel hC x
 unfold b2sX at h
 split at h
 case h_2=>cases h
 rename_i e hs hd
 split at h
 case h_2=>cases h
 rename_i he
 have fin: ∀{A:Option Addr} {n c:Nat} {s:ByteArray},a.eval x= .slice A n c→(Conv.bytesToString (.slice A n c)).run P w= .ok (.string s) w→OpOut P E σ β tm a w o H (.val (.string s)):=by
  intro A n c s hv hrun
  refine OpOut.same hC (v:= .string s) ?_ (by simp[Rel])
  have:(convert src dst (a.eval x)).run P w= .ok (.string s) w:=by
   rw[hv]
   cases A<;>simp[convert,run_underlying hs,run_underlying hd,run_underlying he,hrun]
  simp only[execOp,ho,Sem.run_bind,Sem.run_map,this]
  rfl
 split at h
 ·rename_i p xs hv
  rw[show aeval (St.mk tm H).tmps x=_ from hv]at hx
  simp only[Rel]at hx
  obtain⟨A,c,t',e1,e2,e3,e4,e5⟩:=hx
  obtain rfl:=Option.some.inj h
  exact fin e1 (rd_bytes e5)
 ·rename_i r hv
  rw[show aeval (St.mk tm H).tmps x=_ from hv]at hx
  simp only[Rel]at hx
  split at h
  ·rename_i e' xs hr
   obtain rfl:=Option.some.inj h
   have hO:Own (Ty.int .u8).kd e' σ (τ r) w (a.eval x) xs:=hC.look hr hx.1
   obtain⟨A,c,e1,_,_,e5⟩:=hO.rd
   exact fin e1 (rd_bytes e5)
  ·cases h
 ·rename_i hv
  rw[show aeval (St.mk tm H).tmps x=_ from hv]at hx
  simp only[Rel]at hx
  obtain rfl:=Option.some.inj h
  exact fin hx rfl
 ·cases h
end
end Go.Am
/- The abstract machine,part 36: what a run of cells owns,packed and unpacked. No statement of its own. -/
namespace Go.Am
open Go.Vk Go.RowKit
variable [Dr]
/-! ### whole values -/
def whole{α:Type}(r:Option (α×List AV)):Option α:=
 match r with
 |some (y,[])=>some y
 |_=>none
def decV(ag:Bool)(T:Ty)(x:AV):Option T.Den:=
 match ag with
 |true=>match x with
  | .agg cs=>whole (dec T cs)
  | .val (.agg vs)=>whole (dec T (vs.toList.map .val))
  |_=>none
 |false=>whole (dec T [x])
def encV(ag:Bool)(T:Ty)(y:T.Den):AV:=
 match ag with
 |true=> .agg (enc T y)
 |false=>(enc T y).headD .unk
section
variable {P : Program} {E : Env} {σ σ1 : Gh} {τ τ' : Nat → Nat} {w w1 : World} {β β' : List Value} {tm : List AV} {H : List AB} {a : Act}
omit [Dr] in
theorem whole_some{α:Type}{r:Option (α×List AV)}{y:α}(h:whole r=some y):r=some (y,[]):=by
 unfold whole at h
 split at h
 ·rw[Option.some.inj h]
 ·cases h
theorem dec_whole{T:Ty}{l:List AV}{y:T.Den}{us:List Value}(h:whole (dec T l)=some y)(hr:RelL E σ w β l us):repTy T σ w y us:=by
 obtain⟨c,d,rfl,h1,h2⟩:=dec_rel T (whole_some h) hr
 simp only[RelL]at h2
 subst h2
 simpa using h1
theorem decV_rel{ag:Bool}{T:Ty}{x:AV}{y:T.Den}{u:Value}(hr:Rel E σ w β x u)(h:decV ag T x=some y):RepV ag T σ w y u:=by
 unfold decV at h
 split at h
 ·split at h
  ·simp only[Rel]at hr
   obtain⟨vs,h1,h2⟩:=hr
   exact⟨vs,dec_whole h h2,h1⟩
  ·rename_i vs
   simp only[Rel]at hr
   exact⟨vs.toList,dec_whole h (relL_vals (E:=E) (β:=β) _),by simpa using hr⟩
  ·cases h
 ·exact⟨[u],dec_whole h (by simp only[RelL];exact⟨u,[],rfl,hr,rfl⟩),rfl⟩
theorem encV_rel{ag:Bool}{T:Ty}{y:T.Den}{u:Value}(h:RepV ag T σ w y u):Rel E σ w β (encV ag T y) u:=by
 obtain⟨cs,h1,h2⟩:=h
 have h3:=enc_rel (E:=E) (β:=β) T h1
 cases ag with
 |true=>
  simp only at h2
  simp only[encV,Rel]
  exact⟨cs,h2,h3⟩
 |false=>
  simp only at h2
  subst h2
  simp only[encV]
  cases he:enc T y with
  |nil=>rw[he]at h3;simp[RelL]at h3
  |cons z l=>
   rw[he]at h3
   simp only[RelL]at h3
   obtain⟨v,r,e1,e2,_⟩:=h3
   injection e1 with e1 _
   subst e1
   exact e2
end
def boolEq(a b:Bool):Option (PLift (a=b)):=if h:a=b then some ⟨h⟩else none
def mtyEq(a b:MTy):Option (PLift (a=b)):=
 match natEq a.kt b.kt,natEq a.vt b.vt,boolEq a.ka b.ka,tyEq a.K b.K,boolEq a.va b.va,tyEq a.V b.V with
 |some ⟨h1⟩,some ⟨h2⟩,some ⟨h3⟩,some ⟨h4⟩,some ⟨h5⟩,some ⟨h6⟩=>some ⟨by cases a;cases b;simp_all⟩
 |_,_,_,_,_,_=>none
def castM{a b:MTy}(h:a=b)(xs:Mp a.K a.V):Mp b.K b.V:=h▸xs
def oqkEq:(a b:OqK)→Option (PLift (a=b))
 |⟨a,b,c,d⟩,⟨a',b',c',d'⟩=>match tyEq a a',natEq b b',natEq c c',mtyEq d d' with
  |some ⟨h1⟩,some ⟨h2⟩,some ⟨h3⟩,some ⟨h4⟩=>some ⟨by rw[h1,h2,h3,h4]⟩
  |_,_,_,_=>none
def dtEq:(a b:DT)→Option (PLift (a=b))
 | .flat T,.flat T'=>match tyEq T T' with
  |some ⟨h⟩=>some ⟨by rw[h]⟩
  |none=>none
 | .row T e,.row T' e'=>match tyEq T T',natEq e e' with
  |some ⟨h⟩,some ⟨k⟩=>some ⟨by rw[h,k]⟩
  |_,_=>none
 | .map m,.map m'=>match mtyEq m m' with
  |some ⟨h⟩=>some ⟨by rw[h]⟩
  |none=>none
 | .pair a b,.pair c d=>match dtEq a c,dtEq b d with
  |some ⟨h⟩,some ⟨k⟩=>some ⟨by rw[h,k]⟩
  |_,_=>none
 | .ptr C d,.ptr C' d'=>match natEq C C',dtEq d d' with
  |some ⟨h⟩,some ⟨k⟩=>some ⟨by rw[h,k]⟩
  |_,_=>none
 | .rowD d e,.rowD d' e'=>match dtEq d d',natEq e e' with
  |some ⟨h⟩,some ⟨k⟩=>some ⟨by rw[h,k]⟩
  |_,_=>none
 | .mapD m d,.mapD m' d'=>match mtyEq m m',dtEq d d' with
  |some ⟨h⟩,some ⟨k⟩=>some ⟨by rw[h,k]⟩
  |_,_=>none
 | .opq o,.opq o'=>match oqkEq o o' with
  |some ⟨h⟩=>some ⟨by rw[h]⟩
  |none=>none
 |_,_=>none
def castDL{d d':DT}(h:d=d')(xs:List d.Den):List d'.Den:=h▸xs
def castDG{m m':MTy}{d d':DT}(h:m=m')(k:d=d')(xs:Gp m.K d.Den):Gp m'.K d'.Den:=h▸k▸xs
def castGN{m m':MTy}(h:m=m')(xs:Gp m.K Nat):Gp m'.K Nat:=h▸xs
def packO(o:OqK)(c1 c2:AV)(H:List AB):Option (OqDen o×List AB):=
 match c1,c2 with
 | .row r,.map q=>match H[r]?,H[q]? with
  |some (.arw a e ks),some (.amp a' m mp)=>match H[a]? with
   |some (.arena T C xs)=>match natEq a' a,natEq e o.e,mtyEq m o.m,tyEq T o.T,natEq C o.C with
    |some _,some _,some ⟨h1⟩,some ⟨h2⟩,some _=>some ((castL h2 xs,ks,castGN h1 mp),((H.set a .gone).set r .gone).set q .gone)
    |_,_,_,_,_=>none
   |_=>none
  |_,_=>none
 | .val (.slice none 0 0),.map q=>match H[q]? with
  |some (.mapD _ _ [] none)=>some (([],[],[]),H.set q .gone)
  |_=>none
 |_,_=>none
def packD:(d:DT)→List AV→List AB→Option (d.Den×List AV×List AB)
 | .flat T,cs,H=>match dec T cs with
  |some (y,l)=>some (y,l,H)
  |none=>none
 | .row T e,c::l,H=>match c with
  | .val (.slice none 0 0)=>some ([],l,H)
  | .row r=>match H[r]? with
   |some (.row T' e' xs)=>match tyEq T' T,natEq e' e with
    |some ⟨h⟩,some _=>some (castL h xs,l,H.set r .gone)
    |_,_=>none
   |_=>none
  |_=>none
 | .map m,c::l,H=>match c with
  | .map r=>match H[r]? with
   |some (.map m' xs)=>match mtyEq m' m with
    |some ⟨h⟩=>some (castM h xs,l,H.set r .gone)
    |none=>none
   |_=>none
  |_=>none
 | .pair a b,cs,H=>match packD a cs H with
  |some (x,l,H1)=>match packD b l H1 with
   |some (y,l',H2)=>some ((x,y),l',H2)
   |none=>none
  |none=>none
 | .ptr C d,c::l,H=>match c with
  | .ptr b 0=>match H[b]? with
   |some (.cells C' cs)=>match natEq C' C,packD d cs (H.set b .gone)with
    |some _,some (y,[],H')=>some (y,l,H')
    |_,_=>none
   |_=>none
  |_=>none
 | .rowD d e,c::l,H=>match c with
  | .val (.slice none 0 0)=>some ([],l,H)
  | .row r=>match H[r]? with
   |some (.rowD d' e' xs none)=>match dtEq d' d,natEq e' e with
    |some ⟨h⟩,some _=>some (castDL h xs,l,H.set r .gone)
    |_,_=>none
   |_=>none
  |_=>none
 | .mapD m d,c::l,H=>match c with
  | .map r=>match H[r]? with
   |some (.mapD m' d' xs none)=>match mtyEq m' m,dtEq d' d with
    |some ⟨h⟩,some ⟨k⟩=>some (castDG h k xs,l,H.set r .gone)
    |_,_=>none
   |_=>none
  |_=>none
 | .opq o,c1::c2::l,H=>match packO o c1 c2 H with
  |some (x,H')=>some (x,l,H')
  |none=>none
 |_,_,_=>none
def unpackD:(d:DT)→d.Den→List AB→List AV×List AB
 | .flat T,y,H=>(enc T y,H)
 | .row T e,xs,H=>([.row H.length],H++ [.row T e xs])
 | .map m,xs,H=>([.map H.length],H++ [.map m xs])
 | .pair a b,y,H=>((unpackD a y.1 H).1++(unpackD b y.2 (unpackD a y.1 H).2).1,(unpackD b y.2 (unpackD a y.1 H).2).2)
 | .ptr C d,y,H=>([.ptr H.length 0],(unpackD d y (H++ [.cells C (List.replicate d.sz .unk)])).2.set H.length (.cells C (unpackD d y (H++ [.cells C (List.replicate d.sz .unk)])).1))
 | .rowD d e,xs,H=>([.row H.length],H++ [.rowD d e xs none])
 | .mapD m d,xs,H=>([.map H.length],H++ [.mapD m d xs none])
 | .opq o,x,H=>([.row (H.length+1),.map (H.length+2)],H++ [.arena o.T o.C x.1,.arw H.length o.e x.2.1,.amp H.length o.m x.2.2])
def Gone(H H':List AB):Prop:=H'.length=H.length∧∀i:Nat,H'[i]? =H[i]? ∨(H'[i]? =some AB.gone∧∃x,H[i]? =some x∧∀y,x≠AB.lock y)
omit [Dr] in
theorem Gone.refl{H:List AB}:Gone H H:=⟨rfl,fun i=> .inl rfl⟩
omit [Dr] in
theorem Gone.trans{H H1 H2:List AB}(h:Gone H H1)(k:Gone H1 H2):Gone H H2:=by
 refine⟨k.1.trans h.1,fun i=> ?_⟩
 rcases k.2 i with k2|⟨k2,x,k3,k4⟩
 ·rcases h.2 i with h2|h2
  ·exact .inl (k2.trans h2)
  ·exact .inr ⟨k2.trans h2.1,h2.2⟩
 ·rcases h.2 i with h2|h2
  ·exact .inr ⟨k2,x,h2▸k3,k4⟩
  ·exact .inr ⟨k2,h2.2⟩
omit [Dr] in
theorem Gone.set{H:List AB}{r:Nat}{x:AB}(h:H[r]? =some x)(hl: ∀y,x≠ .lock y):Gone H (H.set r .gone):=by
 refine⟨by simp,fun i=> ?_⟩
 rw[List.getElem?_set]
 by_cases hi:r=i
 ·subst hi
  rw[if_pos rfl,if_pos (List.getElem?_eq_some_iff.1 h).1]
  exact .inr ⟨rfl,x,h,hl⟩
 ·rw[if_neg hi];exact .inl rfl
omit [Dr] in
theorem Gone.get{H H':List AB}(h:Gone H H'){i:Nat}{x:AB}(hx:H'[i]? =some x)(hl:x.live=true):H[i]? =some x:=by
 rcases h.2 i with h2|⟨h2,_⟩
 ·rw[←h2];exact hx
 ·rw[h2]at hx;obtain rfl:=Option.some.inj hx;cases hl
omit [Dr] in
theorem Gone.pres{H H':List AB}(h:Gone H H'):HPres H H':=by
 refine⟨Nat.le_of_eq h.1.symm,fun i b hb=> ?_⟩
 rcases h.2 i with h2|⟨_,x,h3,h4⟩
 ·rw[h2];exact hb
 ·rw[hb]at h3;exact absurd (Option.some.inj h3).symm (h4 b)
omit [Dr] in
theorem gone_out{H:List AB}{i j:Nat}{x:AB}(h:H[j]? =some x)(hij:i≠j):(H.set i .gone)[j]? =some x:=by
 rw[List.getElem?_set,if_neg hij];exact h
omit [Dr] in
theorem packO_gone{o:OqK}{c1 c2:AV}{H H':List AB}{x:OqDen o}(h:packO o c1 c2 H=some (x,H')):Gone H H':=by
 unfold packO at h
 split at h
 ·rename_i r q
  split at h
  case h_2=>cases h
  rename_i a e ks a' m mp hr hq
  split at h
  case h_2=>cases h
  rename_i T C xs ha
  split at h
  case h_2=>cases h
  simp only[Option.some.injEq,Prod.mk.injEq]at h
  obtain⟨_,rfl⟩:=h
  have n1:r≠q:=fun e=>by subst e;rw[hr]at hq;simp at hq
  have n2:r≠a:=fun e=>by subst e;rw[hr]at ha;simp at ha
  have n3:q≠a:=fun e=>by subst e;rw[hq]at ha;simp at ha
  exact((Gone.set ha (fun y=>by simp)).trans (.set (gone_out hr n2.symm) (fun y=>by simp))).trans (.set (gone_out (gone_out hq n3.symm) n1) (fun y=>by simp))
 ·rename_i q
  split at h
  case h_2=>cases h
  rename_i hq
  simp only[Option.some.injEq,Prod.mk.injEq]at h
  obtain⟨_,rfl⟩:=h
  exact .set hq (fun y=>by simp)
 ·cases h
omit [Dr] in
theorem packD_gone: ∀{d:DT} {cs l:List AV} {H H':List AB} {y:d.Den},packD d cs H=some (y,l,H')→Gone H H'
 | .flat T,cs,l,H,H',y,h=>by
  simp only[packD]at h
  split at h
  ·simp only[Option.some.injEq,Prod.mk.injEq]at h
   obtain⟨_,_,rfl⟩:=h
   exact .refl
  ·cases h
 | .row T e,[],l,H,H',y,h=>by simp[packD]at h
 | .row T e,c::cs,l,H,H',y,h=>by
  simp only[packD]at h
  split at h
  ·simp only[Option.some.injEq,Prod.mk.injEq]at h
   obtain⟨_,_,rfl⟩:=h
   exact .refl
  ·split at h
   ·rename_i hr
    split at h
    ·simp only[Option.some.injEq,Prod.mk.injEq]at h
     obtain⟨_,_,rfl⟩:=h
     exact .set hr (fun y=>by simp)
    ·cases h
   ·cases h
  ·cases h
 | .map m,[],l,H,H',y,h=>by simp[packD]at h
 | .map m,c::cs,l,H,H',y,h=>by
  simp only[packD]at h
  split at h
  ·split at h
   ·rename_i hr
    split at h
    ·simp only[Option.some.injEq,Prod.mk.injEq]at h
     obtain⟨_,_,rfl⟩:=h
     exact .set hr (fun y=>by simp)
    ·cases h
   ·cases h
  ·cases h
 | .pair a b,cs,l,H,H',y,h=>by
  simp only[packD]at h
  split at h
  ·rename_i h1
   split at h
   ·rename_i h2
    simp only[Option.some.injEq,Prod.mk.injEq]at h
    obtain⟨_,_,rfl⟩:=h
    exact(packD_gone h1).trans (packD_gone h2)
   ·cases h
  ·cases h
 | .ptr C d,[],l,H,H',y,h=>by simp[packD]at h
 | .ptr C d,c::cs,l,H,H',y,h=>by
  simp only[packD]at h
  split at h
  ·split at h
   ·rename_i hr
    split at h
    ·rename_i h2
     simp only[Option.some.injEq,Prod.mk.injEq]at h
     obtain⟨_,_,rfl⟩:=h
     exact(Gone.set hr (fun y=>by simp)).trans (packD_gone h2)
    ·cases h
   ·cases h
  ·cases h
 | .rowD d e,[],l,H,H',y,h=>by simp[packD]at h
 | .rowD d e,c::cs,l,H,H',y,h=>by
  simp only[packD]at h
  split at h
  ·simp only[Option.some.injEq,Prod.mk.injEq]at h
   obtain⟨_,_,rfl⟩:=h
   exact .refl
  ·split at h
   ·rename_i hr
    split at h
    ·simp only[Option.some.injEq,Prod.mk.injEq]at h
     obtain⟨_,_,rfl⟩:=h
     exact .set hr (fun y=>by simp)
    ·cases h
   ·cases h
  ·cases h
 | .opq o,[],l,H,H',y,h=>by simp[packD]at h
 | .opq o,[c],l,H,H',y,h=>by simp[packD]at h
 | .opq o,c1::c2::cs,l,H,H',y,h=>by
  simp only[packD]at h
  split at h
  ·rename_i hq
   simp only[Option.some.injEq,Prod.mk.injEq]at h
   obtain⟨rfl,_,rfl⟩:=h
   exact packO_gone hq
  ·cases h
 | .mapD m d,[],l,H,H',y,h=>by simp[packD]at h
 | .mapD m d,c::cs,l,H,H',y,h=>by
  simp only[packD]at h
  split at h
  ·split at h
   ·rename_i hr
    split at h
    ·simp only[Option.some.injEq,Prod.mk.injEq]at h
     obtain⟨_,_,rfl⟩:=h
     exact .set hr (fun y=>by simp)
    ·cases h
   ·cases h
  ·cases h
section
variable {P : Program} {E : Env} {σ σ1 : Gh} {τ : Nat → Nat} {w w1 : World} {β : List Value} {tm : List AV} {H : List AB} {a : Act} {o : Oper}
theorem conc_gone{i:Nat}(hC:Conc E σ τ β ⟨tm,H⟩ a w):Conc E σ τ β ⟨tm,H.set i .gone⟩ a w:=by
 have hg: ∀(j:Nat) (z:AB),(H.set i .gone)[j]? =some z→z.live=true→H[j]? =some z:=fun j z hz hl=>by
  rw[List.getElem?_set]at hz
  by_cases hij:i=j
  ·rw[if_pos hij]at hz
   split at hz
   ·obtain rfl:=Option.some.inj hz;cases hl
   ·cases hz
  ·rwa[if_neg hij]at hz
 refine⟨hC.defers,hC.tmps,by rw[hC.size];simp,fun j z u hz hu=> ?_,fun j z hz hl=>hC.apart j z (hg j z hz hl) hl,fun j k z y hz hy h1 h2 he=>hC.inj j k z y (hg j z hz h1) (hg k y hy h2) h1 h2 he⟩
 simp only at hz
 rw[List.getElem?_set]at hz
 by_cases hij:i=j
 ·rw[if_pos hij]at hz
  split at hz
  ·obtain rfl:=Option.some.inj hz;trivial
  ·cases hz
 ·rw[if_neg hij]at hz;exact hC.heap j z u hz hu
omit [Dr] in
theorem gone_get{i j:Nat}{y:AB}(hy:(H.set i .gone)[j]? =some y)(hl:y.live=true):H[j]? =some y∧j≠i:=by
 rw[List.getElem?_set]at hy
 by_cases hij:i=j
 ·rw[if_pos hij]at hy
  split at hy
  ·obtain rfl:=Option.some.inj hy;cases hl
  ·cases hy
 ·rw[if_neg hij]at hy;exact⟨hy,fun h=>hij h.symm⟩
theorem conc_back{b t:Nat}{v:Value}{x z0:AB}(hC:Conc E σ τ β ⟨tm,H⟩ a w)(hb:H[b]? =some z0)(hv:β[b]? =some v)(hB:BRel E σ w β t v x)(hP: ¬E.Kp t)(ht: ∀(i:Nat) y,H[i]? =some y→y.live=true→τ i≠t):
  Conc E σ (updT τ b t) β ⟨tm,H.set b x⟩ a w:=by
 have hset: ∀(i:Nat) (y:AB),(H.set b x)[i]? =some y→(H[i]? =some y∧i≠b∧updT τ b t i=τ i)∨(i=b∧y=x∧updT τ b t i=t):=by
  intro i y hy
  rw[List.getElem?_set]at hy
  by_cases hij:b=i
  ·rw[if_pos hij]at hy
   split at hy
   ·exact .inr ⟨hij.symm,(Option.some.inj hy).symm,by simp[updT,hij]⟩
   ·cases hy
  ·rw[if_neg hij]at hy
   exact .inl ⟨hy,fun h=>hij h.symm,by simp only[updT];rw[if_neg (fun h=>hij h.symm)]⟩
 refine⟨hC.defers,hC.tmps,by rw[hC.size];simp,fun i y u hy hu=> ?_,fun i y hy hl=> ?_,fun i j y z hy hz hl hk he=> ?_⟩
 ·rcases hset i y hy with⟨h1,_,h3⟩|⟨rfl,rfl,h3⟩
  ·rw[h3];exact hC.heap i y u h1 hu
  ·rw[hv]at hu
   obtain rfl:=Option.some.inj hu
   rw[h3];exact hB
 ·rcases hset i y hy with⟨h1,_,h3⟩|⟨rfl,rfl,h3⟩
  ·rw[h3];exact hC.apart i y h1 hl
  ·rw[h3];exact hP
 ·rcases hset i y hy with⟨h1,_,h3⟩|⟨rfl,rfl,h3⟩
  ·rcases hset j z hz with⟨k1,_,k3⟩|⟨rfl,rfl,k3⟩
   ·rw[h3,k3]at he;exact hC.inj i j y z h1 k1 hl hk he
   ·rw[h3,k3]at he;exact absurd he (ht i y h1 hl)
  ·rcases hset j z hz with⟨k1,_,k3⟩|⟨rfl,rfl,k3⟩
   ·rw[h3,k3]at he;exact absurd he.symm (ht j z k1 hk)
   ·rfl
theorem brel_dead{t:Nat}{v:Value}: ∀{x:AB},x.live=false→BRel E σ w β t v x
 | .gone,_=>trivial
 | .lock x,h=>brel_dead (x:=x) h
 | .cells _ _,h=>by cases h
 | .row _ _ _,h=>by cases h
 | .map _ _,h=>by cases h
 | .rowD ..,h=>by cases h
 | .mapD ..,h=>by cases h
 | .arena ..,h=>by cases h
 | .arw ..,h=>by cases h
 | .amp ..,h=>by cases h
 | .iter _ _,h=>by cases h
omit [Dr] in
theorem kill_get{i j:Nat}{y z:AB}(hz:z.live=false)(hy:(H.set i z)[j]? =some y)(hl:y.live=true):H[j]? =some y∧j≠i:=by
 rw[List.getElem?_set]at hy
 by_cases hij:i=j
 ·rw[if_pos hij]at hy
  split at hy
  ·obtain rfl:=Option.some.inj hy;rw[hz]at hl;cases hl
  ·cases hy
 ·rw[if_neg hij]at hy;exact⟨hy,fun h=>hij h.symm⟩
theorem conc_kill{i:Nat}{z:AB}(hC:Conc E σ τ β ⟨tm,H⟩ a w)(hz:z.live=false):Conc E σ τ β ⟨tm,H.set i z⟩ a w:=by
 refine⟨hC.defers,hC.tmps,by rw[hC.size];simp,fun j y u hy hu=> ?_,fun j y hy hl=>hC.apart j y (kill_get hz hy hl).1 hl,fun j k y y' hy hy' h1 h2 he=>hC.inj j k y y' (kill_get hz hy h1).1 (kill_get hz hy' h2).1 h1 h2 he⟩
 simp only at hy
 cases hl:y.live with
 |false=>exact brel_dead hl
 |true=>exact hC.heap j y u (kill_get hz hy hl).1 hu
theorem Conc.evC{C:Nat→Prop}(hC:Conc E σ τ β ⟨tm,H⟩ a w)(e:EvT C σ w σ1 w1)(hP: ∀t,(E.Pr t∨E.It t)→¬C t)(hl: ∀(i:Nat) y,H[i]? =some y→y.live=true→¬C (τ i)):Conc E σ1 τ β ⟨tm,H⟩ a w1:=
 ⟨hC.defers,RelL.ev e hP hC.tmps,hC.size,fun i x v hx hv=>BRel.ev (hC.heap i x v hx hv) e hP (hl i x hx),hC.apart,hC.inj⟩
omit [Dr] in
theorem gone_dead{r:Nat}{x z:AB}(hx:H[r]? =some x)(hz:(H.set r .gone)[r]? =some z):z.live=false:=by
 rw[List.getElem?_set,if_pos rfl,if_pos (List.getElem?_eq_some_iff.1 hx).1]at hz
 obtain rfl:=Option.some.inj hz
 rfl
omit [Dr] in
theorem live_new{T0:Nat→Prop}{t':Nat}{x0:AB}(hl: ∀(i:Nat) (y:AB),H[i]? =some y→y.live=true→¬T0 (τ i))(b1: ¬T0 t'): ∀(i:Nat) (y:AB),(H++ [x0])[i]? =some y→y.live=true→¬T0 (updT τ H.length t' i):=by
 intro i y hy hly
 rcases Nat.lt_or_ge i H.length with hlt|hge
 ·rw[List.getElem?_append_left hlt]at hy
  simp only[updT,Nat.ne_of_lt hlt,if_false]
  exact hl i y hy hly
 ·have e:i=H.length:=by
   have:=(List.getElem?_eq_some_iff.1 hy).1
   simp at this
   omega
  subst e
  simp only[updT,if_true]
  exact b1
theorem conc_Gone{H':List AB}(hC:Conc E σ τ β ⟨tm,H⟩ a w)(h:Gone H H'):Conc E σ τ β ⟨tm,H'⟩ a w:=by
 refine⟨hC.defers,hC.tmps,by rw[hC.size];exact h.1.symm,fun i x v hx hv=> ?_,fun i x hx hl=>hC.apart i x (h.get hx hl) hl,fun i j x y hx hy h1 h2 he=>hC.inj i j x y (h.get hx h1) (h.get hy h2) h1 h2 he⟩
 simp only at hx
 rcases h.2 i with h2|⟨h2,_⟩
 ·exact hC.heap i x v (by rw[←h2];exact hx) hv
 ·rw[h2]at hx;obtain rfl:=Option.some.inj hx;trivial
theorem conc_refine{b n:Nat}{C:TypeId}{cs ds:List AV}{vs:List Value}(hC:Conc E σ τ β ⟨tm,H⟩ a w)(hb:H[b]? =some (.cells C cs))(hv:β[b]? =some (.pointer (some ⟨n,0,none⟩)))(hB:Blk σ (τ b) w n C vs.toArray)(hr:RelL E σ w β ds vs):
  Conc E σ τ β ⟨tm,H.set b (.cells C ds)⟩ a w:=by
 have hset: ∀(i:Nat) (x:AB),(H.set b (.cells C ds))[i]? =some x→(H[i]? =some x∧i≠b)∨(i=b∧x= .cells C ds):=by
  intro i x hx
  rw[List.getElem?_set]at hx
  by_cases hij:b=i
  ·rw[if_pos hij]at hx
   split at hx
   ·exact .inr ⟨hij.symm,(Option.some.inj hx).symm⟩
   ·cases hx
  ·rw[if_neg hij]at hx
   exact .inl ⟨hx,fun h=>hij h.symm⟩
 have hlive: ∀(i:Nat) (x:AB),(H.set b (.cells C ds))[i]? =some x→x.live=true→∃y,H[i]? =some y∧y.live=true:=fun i x hx hl=>by
  rcases hset i x hx with⟨h1,_⟩|⟨rfl,rfl⟩
  ·exact⟨x,h1,hl⟩
  ·exact⟨_,hb,rfl⟩
 refine⟨hC.defers,hC.tmps,by rw[hC.size];simp,fun i x u hx hu=> ?_,fun i x hx hl=> ?_,fun i j x y hx hy hl hk he=> ?_⟩
 ·rcases hset i x hx with⟨h1,_⟩|⟨rfl,rfl⟩
  ·exact hC.heap i x u h1 hu
  ·rw[hv]at hu
   obtain rfl:=Option.some.inj hu
   exact⟨n,vs,rfl,hB,hr⟩
 ·obtain⟨y,h1,h2⟩:=hlive i x hx hl
  exact hC.apart i y h1 h2
 ·obtain⟨x',h1,h2⟩:=hlive i x hx hl
  obtain⟨y',h3,h4⟩:=hlive j y hy hk
  exact hC.inj i j x' y' h1 h3 h2 h4 he
theorem relL_unk: ∀{n:Nat} {us:List Value},us.length=n→RelL E σ w β (List.replicate n .unk) us
 |0,us,h=>by simp only[List.replicate,RelL];exact List.eq_nil_of_length_eq_zero h
 |n+1,[],h=>by simp at h
 |n+1,u::us,h=>by simp only[List.replicate,RelL];exact⟨u,us,rfl,by simp[Rel],relL_unk (by simpa using h)⟩
/-! ### from what is known to what is owned -/
omit [Dr] in
theorem nolent{i:Nat}: ¬lnO none i:=by rintro⟨b,h⟩;cases h
omit [Dr] in
theorem fp_rows{D:Type}: ∀(L:List (Value×D×List Nat)),(L.map some).map fpO=L.map (·.2.2)
 | []=>rfl
 |p::L=>by simp only[List.map_cons,fp_rows L];rfl
omit [Dr] in
theorem fp_maps{K D:Type}: ∀(L:List (Option (K×Value×D×List Nat))),(L.map (Option.map (·.2))).map fpO=L.map (fun o=>fpO (o.map (·.2)))
 | []=>rfl
 |p::L=>by simp only[List.map_cons,fp_maps L]
omit [Dr] in
theorem nod_of{D:Type}{g0:Option Nat}{P:List (Option (Value×D×List Nat))}(h1: ∀(i:Nat) p,P[i]? =some p→(fpO p).Nodup∧∀g∈fpO p,g0≠some g)(h2: ∀(i j:Nat) p q g,P[i]? =some p→P[j]? =some q→g∈fpO p→g∈fpO q→i=j):(g0.toList++(P.map fpO).flatten).Nodup:=by
 rw[List.nodup_append]
 refine⟨by cases g0<;>simp,?_,fun a ha b hb e=> ?_⟩
 ·show List.Pairwise (· ≠ ·) _
  rw[List.pairwise_flatten]
  refine⟨fun l hl=> ?_,?_⟩
  ·obtain⟨p,hp,rfl⟩:=List.mem_map.1 hl
   obtain⟨i,hi⟩:=List.mem_iff_getElem?.1 hp
   exact(h1 i p hi).1
  ·rw[List.pairwise_map,List.pairwise_iff_getElem]
   intro i j hi hj hij x hx y hy e
   subst e
   have:=h2 i j _ _ x (List.getElem?_eq_getElem hi) (List.getElem?_eq_getElem hj) hx hy
   omega
 ·subst e
  obtain⟨G,hG,hq⟩:=List.mem_flatten.1 hb
  obtain⟨p,hp,rfl⟩:=List.mem_map.1 hG
  obtain⟨i,hi⟩:=List.mem_iff_getElem?.1 hp
  exact(h1 i p hi).2 a hq (by cases g0<;>simp_all)
omit [Dr] in
theorem of_nod{D:Type}{g0:Option Nat}{P:List (Option (Value×D×List Nat))}(h:(g0.toList++(P.map fpO).flatten).Nodup):(∀(i:Nat) p,P[i]? =some p→(fpO p).Nodup∧∀g∈fpO p,g0≠some g)∧∀(i j:Nat) p q g,P[i]? =some p→P[j]? =some q→g∈fpO p→g∈fpO q→i=j:=by
 rw[List.nodup_append]at h
 obtain⟨_,h2,h3⟩:=h
 have h2:List.Pairwise (· ≠ ·) (P.map fpO).flatten:=h2
 rw[List.pairwise_flatten,List.pairwise_map]at h2
 obtain⟨h4,h5⟩:=h2
 rw[List.pairwise_iff_getElem]at h5
 refine⟨fun i p hp=>⟨h4 _ (List.mem_map.2 ⟨p,List.mem_of_getElem? hp,rfl⟩),fun g hg e=> ?_⟩,fun i j p q g hp hq hg1 hg2=> ?_⟩
 ·subst e
  exact h3 g (by simp) g (List.mem_flatten.2 ⟨_,List.mem_map.2 ⟨p,List.mem_of_getElem? hp,rfl⟩,hg⟩) rfl
 ·obtain⟨hi,rfl⟩:=List.getElem?_eq_some_iff.1 hp
  obtain⟨hj,rfl⟩:=List.getElem?_eq_some_iff.1 hq
  rcases Nat.lt_trichotomy i j with h6|h6|h6
  ·exact absurd rfl (h5 i j hi hj h6 g hg1 g hg2)
  ·exact h6
  ·exact absurd rfl (h5 j i hj hi h6 g hg2 g hg1)
theorem repD_len{σ:Gh}{w:World}: ∀(d:DT) {x:d.Den} {cs:List Value} {F:List Nat},RepD σ w d x cs F→cs.length=d.sz
 | .flat T,x,cs,F,h=>by simp only[RepD]at h;exact repTy_len T h.1
 | .row T e,x,cs,F,h=>by simp only[RepD]at h;obtain⟨u,rfl,_⟩:=h;rfl
 | .map m,x,cs,F,h=>by simp only[RepD]at h;obtain⟨n,es,rfl,_⟩:=h;rfl
 | .pair a b,x,cs,F,h=>by
  simp only[RepD]at h
  obtain⟨c1,c2,F1,F2,rfl,_,h3,h4⟩:=h
  simp[DT.sz,repD_len a h3,repD_len b h4]
 | .ptr C d,x,cs,F,h=>by simp only[RepD]at h;obtain⟨n,vs,F1,rfl,_⟩:=h;rfl
 | .rowD d e,x,cs,F,h=>by simp only[RepD]at h;obtain⟨u,L,rfl,_⟩:=h;rfl
 | .mapD m d,x,cs,F,h=>by simp only[RepD]at h;obtain⟨n,es,L,rfl,_⟩:=h;rfl
 | .opq o,x,cs,F,h=>by simp only[RepD]at h;obtain⟨u,n,es,bs,rfl,_⟩:=h;rfl
theorem packO_rep{o:OqK}{c1 c2:AV}{u1 u2:Value}{H H':List AB}{x:OqDen o}(h:packO o c1 c2 H=some (x,H'))(hC:Conc E σ τ β ⟨tm,H⟩ a w)(hu1:Rel E σ w β c1 u1)(hu2:Rel E σ w β c2 u2):
  ∃F,RepD σ w (.opq o) x [u1,u2] F∧F.Nodup∧∀g∈F,∃(i:Nat) (y:AB),H[i]? =some y∧y.live=true∧σ g=τ i∧∀z,H'[i]? =some z→z.live=false:=by
 have hg:=packO_gone h
 unfold packO at h
 split at h
 ·rename_i r q
  split at h
  case h_2=>cases h
  rename_i a1 e ks a' m mp hr hq
  split at h
  case h_2=>cases h
  rename_i T C xs ha
  split at h
  case h_2=>cases h
  rename_i pa pe h1 h2 pC _ _ _ _ _
  obtain⟨haa⟩:=pa
  obtain⟨hee⟩:=pe
  obtain⟨hCC⟩:=pC
  simp only[Option.some.injEq,Prod.mk.injEq]at h
  obtain⟨rfl,rfl⟩:=h
  subst haa
  obtain⟨oT,oC,oe,om⟩:=o
  simp only at hee hCC h1 h2
  subst hee hCC h1 h2
  simp only[Rel]at hu1 hu2
  obtain⟨bs,p1,p2,p3⟩:=(show BRel E σ w β (τ r) u1 (.arw a' e ks)from hC.heap r _ _ hr hu1.1)
  obtain⟨n,es,bs2,rfl,q2,q3,q4,q5,q6⟩:=(show BRel E σ w β (τ q) u2 (.amp a' m mp)from hC.heap q _ _ hq hu2.1)
  have hbb:bs2=bs:=ptrs_inj (Option.some.inj (q4.symm.trans p1))
  subst hbb
  obtain⟨bs3,r1,r2,r3,r4⟩:=(show BRel E σ w β (τ a') _ (.arena T C xs)from hC.heap a' _ _ ha p1)
  have hbb:bs2=bs3:=ptrs_inj r1
  subst hbb
  obtain⟨o1,o2⟩:=own_f p3
  have n1:r≠q:=fun e=>by subst e;rw[hr]at hq;simp at hq
  have n2:r≠a':=fun e=>by subst e;rw[hr]at ha;simp at ha
  have n3:q≠a':=fun e=>by subst e;rw[hq]at ha;simp at ha
  have t1:τ r≠τ q:=fun e=>n1 (hC.inj r q _ _ hr hq rfl rfl e)
  have t2:τ r≠τ a':=fun e=>n2 (hC.inj r a' _ _ hr ha rfl rfl e)
  have t3:τ q≠τ a':=fun e=>n3 (hC.inj q a' _ _ hq ha rfl rfl e)
  have hbt: ∀g∈bs2,σ g=τ a':=fun g hg=>by
   obtain⟨k,hk⟩:=List.mem_iff_getElem?.1 hg
   obtain⟨ds,y,_,k2,_⟩:=r4 k g hk
   exact k2.1
  refine⟨(hbV u1).toList++n::bs2,?_,?_,?_⟩
  ·simp only[RepD]
   refine⟨u1,n,es,bs2,rfl,rfl,o1,q2,q5,r2,p2,q6,fun k m hk=> ?_⟩
   obtain⟨ds,y,k1,k2,k3⟩:=r4 k m hk
   exact⟨ds,y,k1,k2.2,k3⟩
  ·rw[List.nodup_append,List.nodup_cons]
   refine⟨by cases hbV u1<;>simp,⟨fun hn=>t3 (q3.symm.trans (hbt n hn)),r3⟩,fun g hg g' hg' e=> ?_⟩
   subst e
   have:=o2 g (by simpa using hg)
   rcases List.mem_cons.1 hg' with rfl|hg'
   ·exact t1 (this.symm.trans q3)
   ·exact t2 (this.symm.trans (hbt g hg'))
  ·intro g hgm
   have dead: ∀(i:Nat),(i=r∨i=q∨i=a')→∀z,(((H.set a' AB.gone).set r .gone).set q .gone)[i]? =some z→z.live=false:=fun i hi z hz=>by
    have hi2:i<H.length:=by
     have:=(List.getElem?_eq_some_iff.1 hz).1
     simpa using this
    rw[List.getElem?_set,List.getElem?_set,List.getElem?_set]at hz
    have:z= .gone:=by
     rcases hi with rfl|rfl|rfl
     ·by_cases e1:q=i<;>simp_all
     ·simp_all
     ·by_cases e1:q=i<;>by_cases e2:r=i<;>simp_all
    subst this
    rfl
   rcases List.mem_append.1 hgm with hgm|hgm
   ·exact⟨r,_,hr,rfl,o2 g (by simpa using hgm),dead r (.inl rfl)⟩
   ·rcases List.mem_cons.1 hgm with rfl|hgm
    ·exact⟨q,_,hq,rfl,q3,dead q (.inr (.inl rfl))⟩
    ·exact⟨a',_,ha,rfl,hbt g hgm,dead a' (.inr (.inr rfl))⟩
 ·rename_i q
  split at h
  case h_2=>cases h
  rename_i m d hq
  simp only[Option.some.injEq,Prod.mk.injEq]at h
  obtain⟨rfl,rfl⟩:=h
  simp only[Rel]at hu1 hu2
  subst hu1
  obtain⟨n,es,L,rfl,k2,k3,k4,k5,_,k7⟩:=(show BRel E σ w β (τ q) u2 (.mapD m d [] none)from hC.heap q _ _ hq hu2.1)
  have hL:L= []:=by cases L with
   |nil=>rfl
   |cons _ _=>simp at k5
  subst hL
  refine⟨[n],?_,by simp,fun g hg=>⟨q,_,hq,rfl,?_,fun z hz=>gone_dead hq hz⟩⟩
  ·simp only[RepD]
   exact⟨_,n,es,[],rfl,rfl,(own_f (t:=0) Own.nil).1,k2,by rw[k4];rfl,rfl,fun k hk=>by simp at hk,fun k i hk=>by simp at hk,fun k m hk=>by simp at hk⟩
  ·simp only[List.mem_singleton]at hg
   subst hg
   exact k3
 ·cases h
theorem pack_rep: ∀(d:DT) {cs l:List AV} {us:List Value} {H H':List AB} {x:d.Den},packD d cs H=some (x,l,H')→Conc E σ τ β ⟨tm,H⟩ a w→RelL E σ w β cs us→
  ∃us1 us2 F,us=us1++us2∧RelL E σ w β l us2∧RepD σ w d x us1 F∧F.Nodup∧∀g∈F,∃(i:Nat) (y:AB),H[i]? =some y∧y.live=true∧σ g=τ i∧∀z,H'[i]? =some z→z.live=false
 | .flat T,cs,l,us,H,H',x,h,hC,hr=>by
  simp only[packD]at h
  split at h
  ·rename_i y' l' hdec
   simp only[Option.some.injEq,Prod.mk.injEq]at h
   obtain⟨rfl,rfl,rfl⟩:=h
   obtain⟨c,d',rfl,e2,e3⟩:=dec_rel T hdec hr
   exact⟨c,d',[],rfl,e3,by simp only[RepD];exact⟨e2,trivial⟩,List.nodup_nil,fun g hg=>by simp at hg⟩
  ·cases h
 | .row T e,[],l,us,H,H',x,h,hC,hr=>by simp[packD]at h
 | .row T e,c::cs,l,us,H,H',x,h,hC,hr=>by
  simp only[RelL]at hr
  obtain⟨u,us,rfl,hu,hr⟩:=hr
  simp only[packD]at h
  split at h
  ·simp only[Option.some.injEq,Prod.mk.injEq]at h
   obtain⟨rfl,rfl,rfl⟩:=h
   simp only[Rel]at hu
   subst hu
   exact⟨[_],us,[],rfl,hr,by simp only[RepD];exact⟨_,rfl,rfl,(own_f (t:=0) Own.nil).1⟩,List.nodup_nil,fun g hg=>by simp at hg⟩
  ·rename_i r
   split at h
   ·rename_i T' e' xs hx
    split at h
    ·rename_i hT pe _ _
     obtain⟨hE⟩:=pe
     simp only[Option.some.injEq,Prod.mk.injEq]at h
     obtain⟨rfl,rfl,rfl⟩:=h
     subst hT hE
     simp only[Rel]at hu
     obtain⟨k1,k2⟩:=own_f (show Own T'.kd e' σ (τ r) w u xs from hC.heap r _ _ hx hu.1)
     refine⟨[u],us,(hbV u).toList,rfl,hr,by simp only[RepD];exact⟨u,rfl,rfl,k1⟩,?_,fun g hg=>⟨r,_,hx,rfl,k2 g (by simpa using hg),fun z hz=> ?_⟩⟩
     ·cases hbV u<;>simp
     ·exact(gone_dead hx hz)
    ·cases h
   ·cases h
  ·cases h
 | .map m,[],l,us,H,H',x,h,hC,hr=>by simp[packD]at h
 | .map m,c::cs,l,us,H,H',x,h,hC,hr=>by
  simp only[RelL]at hr
  obtain⟨u,us,rfl,hu,hr⟩:=hr
  simp only[packD]at h
  split at h
  ·rename_i r
   split at h
   ·rename_i m' xs hx
    split at h
    ·rename_i hm _
     simp only[Option.some.injEq,Prod.mk.injEq]at h
     obtain⟨rfl,rfl,rfl⟩:=h
     subst hm
     simp only[Rel]at hu
     obtain⟨n,es,rfl,k2,k3,k4⟩:=(show BRel E σ w β (τ r) u (.map m' xs)from hC.heap r _ _ hx hu.1)
     refine⟨[_],us,[n],rfl,hr,by simp only[RepD];exact⟨n,es,rfl,rfl,k2,k4⟩,by simp,fun g hg=>⟨r,_,hx,rfl,?_,fun z hz=>gone_dead hx hz⟩⟩
     simp only[List.mem_singleton]at hg
     subst hg
     exact k3
    ·cases h
   ·cases h
  ·cases h
 | .pair p q,cs,l,us,H,H',x,h,hC,hr=>by
  simp only[packD]at h
  split at h
  ·rename_i y1 l1 H1 h1
   split at h
   ·rename_i z l2 H2 h2
    simp only[Option.some.injEq,Prod.mk.injEq]at h
    obtain⟨rfl,rfl,rfl⟩:=h
    have g1:=packD_gone h1
    have g2:=packD_gone h2
    obtain⟨us1,us2,F1,rfl,e2,e3,e4,e5⟩:=pack_rep p h1 hC hr
    obtain⟨us3,us4,F2,rfl,f2,f3,f4,f5⟩:=pack_rep q h2 (conc_Gone hC g1) e2
    refine⟨us1++us3,us4,F1++F2,by simp,f2,by simp only[RepD];exact⟨us1,us3,F1,F2,rfl,rfl,e3,f3⟩,?_,fun g hg=> ?_⟩
    ·rw[List.nodup_append]
     refine⟨e4,f4,fun g hg g' hg' he=> ?_⟩
     subst he
     obtain⟨i,y,i1,i2,i3,i4⟩:=e5 g hg
     obtain⟨j,z,j1,j2,j3,j4⟩:=f5 g hg'
     have hj:=g1.get j1 j2
     have:=hC.inj i j y z i1 hj i2 j2 (i3.symm.trans j3)
     subst this
     have:=i4 z j1
     rw[j2]at this
     cases this
    ·rcases List.mem_append.1 hg with hg|hg
     ·obtain⟨i,y,i1,i2,i3,i4⟩:=e5 g hg
      refine⟨i,y,i1,i2,i3,fun z hz=> ?_⟩
      cases hz2:z.live with
      |false=>rfl
      |true=>
       have:=i4 z (g2.get hz hz2)
       rw[hz2]at this
       cases this
     ·obtain⟨i,y,i1,i2,i3,i4⟩:=f5 g hg
      exact⟨i,y,g1.get i1 i2,i2,i3,i4⟩
   ·cases h
  ·cases h
 | .ptr C d,[],l,us,H,H',x,h,hC,hr=>by simp[packD]at h
 | .ptr C d,c::cs,l,us,H,H',x,h,hC,hr=>by
  simp only[RelL]at hr
  obtain⟨u,us,rfl,hu,hr⟩:=hr
  simp only[packD]at h
  split at h
  ·rename_i b
   split at h
   ·rename_i C' cs1 hx
    split at h
    ·rename_i pC y1 H1 _ h2
     obtain⟨hCC⟩:=pC
     subst hCC
     simp only[Option.some.injEq,Prod.mk.injEq]at h
     obtain⟨rfl,rfl,rfl⟩:=h
     simp only[Rel]at hu
     obtain⟨n,hu1,rfl⟩:=hu
     obtain⟨n',vs,e1,e2,e3⟩:=hC.heap b _ _ hx hu1
     simp only[Value.pointer.injEq,Option.some.injEq,Addr.mk.injEq]at e1
     obtain⟨rfl,_⟩:=e1
     have g1:Gone H (H.set b .gone):= .set hx (fun y=>by simp)
     have g2:=packD_gone h2
     obtain⟨us1,us2,F,k1,k2,k3,k4,k5⟩:=pack_rep d h2 (conc_Gone hC g1) e3
     simp only[RelL]at k2
     subst k2
     rw[List.append_nil]at k1
     subst k1
     have hne: ∀(i:Nat) y,(H.set b .gone)[i]? =some y→y.live=true→H[i]? =some y∧i≠b:=fun i y hy hl=>gone_get hy hl
     refine⟨[_],us,n::F,rfl,hr,by simp only[RepD];exact⟨n,_,F,rfl,rfl,e2.2,k3⟩,List.nodup_cons.2 ⟨fun hn=> ?_,k4⟩,fun g hg=> ?_⟩
     ·obtain⟨i,y,i1,i2,i3,i4⟩:=k5 n hn
      obtain⟨j1,j2⟩:=hne i y i1 i2
      exact j2 (hC.inj i b y _ j1 hx i2 rfl (i3.symm.trans e2.1))
     ·rcases List.mem_cons.1 hg with rfl|hg
      ·refine⟨b,_,hx,rfl,e2.1,fun z hz=> ?_⟩
       cases hz2:z.live with
       |false=>rfl
       |true=>exact absurd rfl (hne b z (g2.get hz hz2) hz2).2
      ·obtain⟨i,y,i1,i2,i3,i4⟩:=k5 g hg
       exact⟨i,y,(hne i y i1 i2).1,i2,i3,i4⟩
    ·cases h
   ·cases h
  ·cases h
 | .rowD d e,[],l,us,H,H',x,h,hC,hr=>by simp[packD]at h
 | .rowD d e,c::cs,l,us,H,H',x,h,hC,hr=>by
  simp only[RelL]at hr
  obtain⟨u,us,rfl,hu,hr⟩:=hr
  simp only[packD]at h
  split at h
  ·simp only[Option.some.injEq,Prod.mk.injEq]at h
   obtain⟨rfl,rfl,rfl⟩:=h
   simp only[Rel]at hu
   subst hu
   exact⟨[_],us,[],rfl,hr,by simp only[RepD];exact⟨_,[],rfl,rfl,(own_f (t:=0) Own.nil).1,rfl,fun p hp=>by simp at hp⟩,List.nodup_nil,fun g hg=>by simp at hg⟩
  ·rename_i r
   split at h
   ·rename_i d' e' xs hx
    split at h
    ·rename_i hT pe _ _
     obtain⟨hE⟩:=pe
     simp only[Option.some.injEq,Prod.mk.injEq]at h
     obtain⟨rfl,rfl,rfl⟩:=h
     subst hT hE
     simp only[Rel]at hu
     obtain⟨L,k1,k2,_,k4⟩:=(show BRel E σ w β (τ r) u (.rowD d' e' xs none)from hC.heap r _ _ hx hu.1)
     obtain⟨q1,q2⟩:=own_f k1
     have hn:=nod_of k4.nd k4.inj
     rw[fp_rows]at hn
     refine⟨[u],us,(hbV u).toList++(L.map (·.2.2)).flatten,rfl,hr,by
      simp only[RepD]
      refine⟨u,L,rfl,rfl,q1,k2,fun p hp=> ?_⟩
      obtain⟨i,hi⟩:=List.mem_iff_getElem?.1 hp
      exact k4.own i p.1 p.2.1 p.2.2 (by rw[List.getElem?_map,hi];rfl) nolent,hn,fun g hg=>⟨r,_,hx,rfl,?_,fun z hz=>gone_dead hx hz⟩⟩
     rcases List.mem_append.1 hg with hg|hg
     ·exact q2 g (by simpa using hg)
     ·obtain⟨G,hG,hq⟩:=List.mem_flatten.1 hg
      obtain⟨p,hp,rfl⟩:=List.mem_map.1 hG
      exact(k4.tag (some p) (List.mem_map.2 ⟨p,hp,rfl⟩) g hq).1
    ·cases h
   ·cases h
  ·cases h
 | .opq o,[],l,us,H,H',x,h,hC,hr=>by simp[packD]at h
 | .opq o,[c],l,us,H,H',x,h,hC,hr=>by simp[packD]at h
 | .opq o,c1::c2::cs,l,us,H,H',x,h,hC,hr=>by
  simp only[RelL]at hr
  obtain⟨u1,_,rfl,hu1,u2,us,rfl,hu2,hr⟩:=hr
  simp only[packD]at h
  split at h
  case h_2=>cases h
  rename_i x' H1 hq
  simp only[Option.some.injEq,Prod.mk.injEq]at h
  obtain⟨rfl,rfl,rfl⟩:=h
  obtain⟨F,k1,k2,k3⟩:=packO_rep hq hC hu1 hu2
  exact⟨[u1,u2],us,F,rfl,hr,k1,k2,k3⟩
 | .mapD m d,[],l,us,H,H',x,h,hC,hr=>by simp[packD]at h
 | .mapD m d,c::cs,l,us,H,H',x,h,hC,hr=>by
  simp only[RelL]at hr
  obtain⟨u,us,rfl,hu,hr⟩:=hr
  simp only[packD]at h
  split at h
  ·rename_i r
   split at h
   ·rename_i m' d' xs hx
    split at h
    ·rename_i hm hd _ _
     simp only[Option.some.injEq,Prod.mk.injEq]at h
     obtain⟨rfl,rfl,rfl⟩:=h
     subst hm hd
     simp only[Rel]at hu
     obtain⟨n,es,L,rfl,k2,k3,k4,k5,_,k7⟩:=(show BRel E σ w β (τ r) u (.mapD m' d' xs none)from hC.heap r _ _ hx hu.1)
     have hn:=nod_of k7.nd k7.inj
     rw[fp_maps]at hn
     refine⟨[_],us,n::(L.map (fun o=>fpO (o.map (·.2)))).flatten,rfl,hr,by
      simp only[RepD]
      refine⟨n,es,L,rfl,rfl,k2,k4,k5,fun k u x G hp=> ?_⟩
      obtain⟨i,hi⟩:=List.mem_iff_getElem?.1 hp
      exact k7.own i u x G (by rw[List.getElem?_map,hi];rfl) nolent,by simpa using hn,fun g hg=>⟨r,_,hx,rfl,?_,fun z hz=>gone_dead hx hz⟩⟩
     rcases List.mem_cons.1 hg with rfl|hg
     ·exact k3
     ·obtain⟨G,hG,hq⟩:=List.mem_flatten.1 hg
      obtain⟨p,hp,rfl⟩:=List.mem_map.1 hG
      exact(k7.tag (p.map (·.2)) (List.mem_map.2 ⟨p,hp,rfl⟩) g hq).1
    ·cases h
   ·cases h
  ·cases h
/-! ### from what is owned to what is known -/
def retag(σ:Gh)(F:List Nat)(t:Nat):Gh:=fun g=>if g∈F then t else σ g
omit [Dr] in
theorem retag_in{σ:Gh}{F:List Nat}{t g:Nat}(h:g∈F):retag σ F t g=t:=if_pos h
omit [Dr] in
theorem retag_out{σ:Gh}{F:List Nat}{t g:Nat}(h:g∉F):retag σ F t g=σ g:=if_neg h
theorem retag_ev{T0:Nat→Prop}{σ:Gh}{w:World}{F:List Nat}{t:Nat}(hF: ∀g∈F,T0 (σ g)):EvT T0 σ w (retag σ F t) w:=
 ⟨rfl,rfl,rfl,fun _=>Nat.le_refl _,Nat.le_refl _,fun b hb hn=>⟨retag_out fun h=>hn (hF b h),rfl⟩⟩
theorem block_new {T0:Nat→Prop} {r0:Nat} (h0: ∀t,T0 t→t<r0) (hK: ∀t,T0 t→¬E.Kp t) {F:List Nat} {x0:AB} {u:Value} (hC:Conc E σ τ β ⟨tm,H⟩ a w) (hF: ∀g∈F,T0 (σ g)) (hl: ∀(i:Nat) (y:AB),H[i]? =some y→y.live=true→¬T0 (τ i))
  (hb: ∀t',1≤t'→(∃hi,Ev 1 hi σ w (retag σ F t') w)→BRel E (retag σ F t') w (β++ [u]) t' u x0):
  ∃t',¬T0 t'∧EvT T0 σ w (retag σ F t') w∧Conc E (retag σ F t') (updT τ H.length t') (β++ [u]) ⟨tm,H++ [x0]⟩ a w:=by
 obtain⟨r,h1,h2⟩:=Gh.fresh τ (E.bnd+r0) H.length
 have hP: ¬E.Kp r:=fun h=>by have:=E.low _ h;omega
 have hev:=retag_ev (w:=w) (t:=r) hF
 have hT0: ¬T0 0:=fun h=>hK 0 h (E.sub _ (.inl E.nought))
 have hr1:1≤r:=by have:=E.low 0 (E.sub _ (.inl E.nought));omega
 refine⟨r,fun h=>by have:=h0 _ h;omega,hev,?_⟩
 have hC1:=Conc.evC hC hev (fun t hp h=>hK t h (E.sub _ hp)) hl
 exact conc_new hC1 EvT.refl hP (fun i y hy _=>by have:=h2 i (List.getElem?_eq_some_iff.1 hy).1;omega) (hb r hr1 (hev.ev1 hT0))
theorem unpack_rep{T0:Nat→Prop}{r0:Nat}(h0: ∀t,T0 t→t<r0)(hK: ∀t,T0 t→¬E.Kp t): ∀(d:DT) {x:d.Den} {cs:List Value} {F:List Nat} {σ:Gh} {τ:Nat→Nat} {β:List Value} {H:List AB},RepD σ w d x cs F→F.Nodup→(∀g∈F,T0 (σ g))→Conc E σ τ β ⟨tm,H⟩ a w→
  (∀(i:Nat) (y:AB),H[i]? =some y→y.live=true→¬T0 (τ i))→
  ∃σ' τ' β',(∃s,β'=β++s)∧EvT T0 σ w σ' w∧(∀g,g∉F→σ' g=σ g)∧(∀i,i<H.length→τ' i=τ i)∧Conc E σ' τ' β' ⟨tm,(unpackD d x H).2⟩ a w∧RelL E σ' w β' (unpackD d x H).1 cs∧
   (∀(i:Nat) (y:AB),(unpackD d x H).2[i]? =some y→y.live=true→¬T0 (τ' i))∧H.length≤(unpackD d x H).2.length∧∀i,i<H.length→(unpackD d x H).2[i]? =H[i]?
 | .flat T,x,cs,F,σ,τ,β,H,h,hn,hF,hC,hl=>by
  simp only[RepD]at h
  exact⟨σ,τ,β,⟨[],by simp⟩,.refl,fun _ _=>rfl,fun _ _=>rfl,hC,enc_rel T h.1,hl,Nat.le_refl _,fun _ _=>rfl⟩
 | .row T e,x,cs,F,σ,τ,β,H,h,hn,hF,hC,hl=>by
  simp only[RepD]at h
  obtain⟨u,rfl,rfl,h3⟩:=h
  obtain⟨t',b1,b2,b3⟩:=block_new h0 hK (x0:= .row T e x) (u:=u) hC hF hl (fun t' _ ⟨hi,e1⟩=>own_of (h3.ev e1 fun _ _=>rfl) fun g hg=>retag_in (by simp[hg]))
  refine⟨_,_,_,⟨_,rfl⟩,b2,fun g hg=>retag_out hg,fun i hi=>by simp only[updT,Nat.ne_of_lt hi,if_false],b3,?_,?_,by simp[unpackD],fun i hi=>List.getElem?_append_left hi⟩
  ·simp only[unpackD,RelL,Rel]
   exact⟨u,[],rfl,⟨by have hsz:=hC.size;simp only at hsz;rw[←hsz];simp,h3.one⟩,rfl⟩
  ·exact live_new hl b1
 | .map m,x,cs,F,σ,τ,β,H,h,hn,hF,hC,hl=>by
  simp only[RepD]at h
  obtain⟨n,es,rfl,rfl,h3,h4⟩:=h
  obtain⟨t',b1,b2,b3⟩:=block_new h0 hK (x0:= .map m x) (u:= .map (some n)) hC hF hl (fun t' _ ⟨hi,e1⟩=>⟨n,es,rfl,h3,retag_in (by simp),h4⟩)
  refine⟨_,_,_,⟨_,rfl⟩,b2,fun g hg=>retag_out hg,fun i hi=>by simp only[updT,Nat.ne_of_lt hi,if_false],b3,?_,?_,by simp[unpackD],fun i hi=>List.getElem?_append_left hi⟩
  ·simp only[unpackD,RelL,Rel]
   exact⟨_,[],rfl,⟨by have hsz:=hC.size;simp only at hsz;rw[←hsz];simp,rfl⟩,rfl⟩
  ·exact live_new hl b1
 | .pair p q,x,cs,F,σ,τ,β,H,h,hn,hF,hC,hl=>by
  simp only[RepD]at h
  obtain⟨c1,c2,F1,F2,rfl,rfl,h3,h4⟩:=h
  rw[List.nodup_append]at hn
  obtain⟨n1,n2,n3⟩:=hn
  obtain⟨σ1,τ1,β1,p1,p2,p3,p4,p5,p6,p7,p8,p9⟩:=unpack_rep h0 hK p h3 n1 (fun g hg=>hF g (by simp[hg])) hC hl
  have hT0: ¬T0 0:=fun h=>hK 0 h (E.sub _ (.inl E.nought))
  obtain⟨hi,e1⟩:=p2.ev1 hT0
  obtain⟨σ2,τ2,β2,q1,q2,q3,q4,q5,q6,q7,q8,q9⟩:=unpack_rep h0 hK q (h4.ev e1 q fun _ _=>rfl) n2 (fun g hg=>by
   rw[p3 g fun hg'=>n3 g hg' g hg rfl]
   exact hF g (by simp[hg])) p5 p7
  refine⟨σ2,τ2,β2,?_,p2.trans q2,fun g hg=> ?_,fun i hi'=>(q4 i (Nat.lt_of_lt_of_le hi' p8)).trans (p4 i hi'),q5,?_,q7,Nat.le_trans p8 q8,fun i hi'=>(q9 i (Nat.lt_of_lt_of_le hi' p8)).trans (p9 i hi')⟩
  ·obtain⟨s,rfl⟩:=p1
   obtain⟨s',rfl⟩:=q1
   exact⟨s++s',by simp⟩
  ·rw[q3 g fun h=>hg (by simp[h]),p3 g fun h=>hg (by simp[h])]
  ·refine RelL.append (RelL.more q1 (RelL.ev q2 (fun t ht h=>hK t h (E.sub _ ht)) p6)) q6
 | .ptr C d,x,cs,F,σ,τ,β,H,h,hn,hF,hC,hl=>by
  simp only[RepD]at h
  obtain⟨n,vs,F1,rfl,rfl,h3,h4⟩:=h
  rw[List.nodup_cons]at hn
  have hT0: ¬T0 0:=fun h=>hK 0 h (E.sub _ (.inl E.nought))
  have hsz:=hC.size
  simp only at hsz
  obtain⟨t',b1,b2,b3⟩:=block_new (F:= [n]) h0 hK (x0:= .cells C (List.replicate d.sz .unk)) (u:= .pointer (some ⟨n,0,none⟩)) hC (fun g hg=>hF g (by simp only[List.mem_singleton]at hg;simp[hg])) hl
   (fun t' _ ⟨hi,e1⟩=>⟨n,vs,rfl,⟨retag_in (by simp),h3⟩,relL_unk (repD_len d h4)⟩)
  obtain⟨hi,e1⟩:=b2.ev1 hT0
  obtain⟨σ2,τ2,β2,q1,q2,q3,q4,q5,q6,q7,q8,q9⟩:=unpack_rep h0 hK d (h4.ev e1 d fun _ _=>rfl) hn.2 (fun g hg=>by
   rw[retag_out (by simp only[List.mem_singleton];rintro rfl;exact hn.1 hg)]
   exact hF g (by simp[hg])) b3 (live_new hl b1)
  have hlt:H.length< (H++ [AB.cells C (List.replicate d.sz .unk)]).length:=by simp
  have hb1:(unpackD d x (H++ [.cells C (List.replicate d.sz .unk)])).2[H.length]? =some (.cells C (List.replicate d.sz .unk)):=by
   rw[q9 _ hlt,List.getElem?_append_right (Nat.le_refl _),Nat.sub_self]
   rfl
  have hb2:β2[H.length]? =some (.pointer (some ⟨n,0,none⟩)):=by
   obtain⟨s,rfl⟩:=q1
   rw[List.append_assoc,List.getElem?_append_right (by omega),hsz,Nat.sub_self]
   rfl
  have hb3:τ2 H.length=t':=by
   rw[q4 _ hlt];simp[updT]
  have hb4:σ2 n=t':=by
   rw[q3 n hn.1];exact retag_in (by simp)
  refine⟨σ2,τ2,β2,?_,b2.trans q2,fun g hg=> ?_,fun i hi'=> ?_,conc_refine q5 hb1 hb2 ⟨hb4.trans hb3.symm,h3⟩ q6,?_,?_,?_,fun i hi'=> ?_⟩
  ·obtain⟨s,rfl⟩:=q1
   exact⟨.pointer (some ⟨n,0,none⟩)::s,by simp⟩
  ·simp only[List.mem_cons,not_or]at hg
   rw[q3 g hg.2,retag_out (by simp[hg.1])]
  ·rw[q4 i (by simp;omega)];simp only[updT,Nat.ne_of_lt hi',if_false]
  ·simp only[unpackD,RelL,Rel]
   exact⟨_,[],rfl,⟨n,hb2,rfl⟩,rfl⟩
  ·intro i y hy hly
   simp only[unpackD]at hy
   rw[List.getElem?_set]at hy
   by_cases hi:H.length=i
   ·subst hi;exact q7 _ _ hb1 rfl
   ·rw[if_neg hi]at hy;exact q7 i y hy hly
  ·simp only[unpackD,List.length_set]
   have:=q8
   simp at this
   omega
  ·simp only[unpackD]
   rw[List.getElem?_set,if_neg (by omega),q9 i (by simp;omega),List.getElem?_append_left hi']
 | .rowD d e,x,cs,F,σ,τ,β,H,h,hn,hF,hC,hl=>by
  simp only[RepD]at h
  obtain⟨u,L,rfl,rfl,h3,h4,h5⟩:=h
  obtain⟨t',b1,b2,b3⟩:=block_new h0 hK (x0:= .rowD d e x none) (u:=u) hC hF hl (fun t' _ ⟨hi,e1⟩=>by
   refine⟨L,own_of (h3.ev e1 fun _ _=>rfl) fun g hg=>retag_in (by simp[hg]),h4,(fun i b h=>nomatch h),fun i u' x' G hp _=> ?_,fun i u' x' G hp hln=>absurd hln nolent,fun p hp g hg=> ?_,(of_nod (g0:=hbV u) (P:=L.map some) (by rw[fp_rows];exact hn)).1,(of_nod (g0:=hbV u) (P:=L.map some) (by rw[fp_rows];exact hn)).2⟩
   ·rw[List.getElem?_map]at hp
    obtain⟨p,hp1,hp2⟩:=Option.map_eq_some_iff.1 hp
    obtain rfl:=Option.some.inj hp2
    exact(h5 _ (List.mem_of_getElem? hp1)).ev e1 d fun _ _=>rfl
   ·obtain⟨q,hq,rfl⟩:=List.mem_map.1 hp
    have hm:g∈(hbV u).toList++(L.map (·.2.2)).flatten:=List.mem_append_right _ (List.mem_flatten.2 ⟨_,List.mem_map.2 ⟨q,hq,rfl⟩,hg⟩)
    exact⟨retag_in hm,(h5 q hq).lt d g hg⟩)
  refine⟨_,_,_,⟨_,rfl⟩,b2,fun g hg=>retag_out hg,fun i hi=>by simp only[updT,Nat.ne_of_lt hi,if_false],b3,?_,?_,by simp[unpackD],fun i hi=>List.getElem?_append_left hi⟩
  ·simp only[unpackD,RelL,Rel]
   exact⟨u,[],rfl,⟨by have hsz:=hC.size;simp only at hsz;rw[←hsz];simp,h3.one⟩,rfl⟩
  ·exact live_new hl b1
 | .opq o,x,cs,F,σ,τ,β,H,h,hn,hF,hC,hl=>by
  simp only[RepD]at h
  obtain⟨u,n,es,bs,rfl,rfl,h3,h4,h5,h6,h7,h8,h9⟩:=h
  rw[List.nodup_append,List.nodup_cons]at hn
  obtain⟨_,⟨hn1,hn2⟩,hn3⟩:=hn
  have hT0: ¬T0 0:=fun h=>hK 0 h (E.sub _ (.inl E.nought))
  have hsz:=hC.size
  simp only at hsz
  obtain⟨ta,a1,a2,a3⟩:=block_new (F:=bs) h0 hK (x0:= .arena o.T o.C x.1) (u:=ptrs bs) hC (fun g hg=>hF g (by simp[hg])) hl (fun t' _ ⟨hi,e1⟩=>⟨bs,rfl,h6,hn2,fun k m hk=>by
   obtain⟨ds,y,k1,k2,k3⟩:=h9 k m hk
   exact⟨ds,y,k1,⟨retag_in (List.mem_of_getElem? hk),k2⟩,repTy_ev o.T k3 e1 (Nat.le_refl 1)⟩⟩)
  obtain⟨hia,e1⟩:=a2.ev1 hT0
  have hβ1:(β++ [ptrs bs])[H.length]? =some (ptrs bs):=by rw[←hsz];simp
  have hF1: ∀g∈(hbV u).toList,T0 (retag σ bs ta g):=fun g hg=>by
   rw[retag_out fun h=>hn3 g hg g (by simp[h]) rfl]
   exact hF g (by simp[hg])
  obtain⟨tr,b1,b2,b3⟩:=block_new (F:=(hbV u).toList) h0 hK (x0:= .arw H.length o.e x.2.1) (u:=u) a3 hF1 (live_new hl a1) (fun t' _ ⟨hi,e2⟩=>⟨bs,get_pre ⟨_,rfl⟩ hβ1,h7,own_of ((h3.ev e1 fun _ _=>rfl).ev e2 fun _ _=>rfl) fun g hg=>retag_in (by simp[hg])⟩)
  have hβ2:((β++ [ptrs bs])++ [u])[H.length]? =some (ptrs bs):=get_pre ⟨_,rfl⟩ hβ1
  obtain⟨tm',c1,c2,c3⟩:=block_new (F:= [n]) h0 hK (x0:= .amp H.length o.m x.2.2) (u:= .map (some n)) b3 (fun g hg=>by
   simp only[List.mem_singleton]at hg
   subst hg
   rw[retag_out (fun h=>hn3 g h g (by simp) rfl),retag_out hn1]
   exact hF g (by simp)) (live_new (live_new hl a1) b1) (fun t' _ ⟨hi,e3⟩=>⟨n,es,bs,rfl,h4,retag_in (by simp),get_pre ⟨_,rfl⟩ hβ2,h5,h8⟩)
  have hl1:(H++ [AB.arena o.T o.C x.1]).length=H.length+1:=by simp
  have hl2:((H++ [AB.arena o.T o.C x.1])++ [AB.arw H.length o.e x.2.1]).length=H.length+2:=by simp
  have happ:((H++ [AB.arena o.T o.C x.1])++ [AB.arw H.length o.e x.2.1])++ [AB.amp H.length o.m x.2.2]=(unpackD (.opq o) x H).2:=by simp[unpackD]
  rw[←happ]
  refine⟨_,_,_,⟨[ptrs bs,u,.map (some n)],by simp⟩,(a2.trans b2).trans c2,fun g hg=> ?_,fun i hi=> ?_,c3,?_,live_new (live_new (live_new hl a1) b1) c1,by simp,fun i hi=> ?_⟩
  ·simp only[List.mem_append,List.mem_cons,not_or]at hg
   rw[retag_out (by simp[hg.2.1]),retag_out hg.1,retag_out hg.2.2]
  ·simp only[updT,hl1,hl2]
   rw[if_neg (by omega),if_neg (by omega),if_neg (by omega)]
  ·simp only[unpackD,RelL,Rel]
   refine⟨u,_,rfl,⟨?_,h3.one⟩,_,[],rfl,⟨?_,rfl⟩,rfl⟩
   ·rw[←hsz,List.getElem?_append_left (by simp),List.getElem?_append_right (by simp)];simp
   ·rw[←hsz,List.getElem?_append_right (by simp)];simp
  ·rw[List.getElem?_append_left (by simp;omega),List.getElem?_append_left (by simp;omega),List.getElem?_append_left hi]
 | .mapD m d,x,cs,F,σ,τ,β,H,h,hn,hF,hC,hl=>by
  simp only[RepD]at h
  obtain⟨n,es,L,rfl,rfl,h3,h4,h5,h6⟩:=h
  obtain⟨t',b1,b2,b3⟩:=block_new h0 hK (x0:= .mapD m d x none) (u:= .map (some n)) hC hF hl (fun t' _ ⟨hi,e1⟩=>by
   refine⟨n,es,L,rfl,h3,retag_in (by simp),h4,h5,(fun i b h=>nomatch h),fun i u' x' G hp _=> ?_,fun i u' x' G hp hln=>absurd hln nolent,fun p hp g hg=> ?_,(of_nod (g0:=some n) (P:=L.map (Option.map (·.2))) (by rw[fp_maps];simpa using hn)).1,(of_nod (g0:=some n) (P:=L.map (Option.map (·.2))) (by rw[fp_maps];simpa using hn)).2⟩
   ·rw[List.getElem?_map]at hp
    obtain⟨p,hp1,hp2⟩:=Option.map_eq_some_iff.1 hp
    cases p with
    |none=>cases hp2
    |some p=>
     obtain⟨k,u2,x2,G2⟩:=p
     simp only[Option.map_some,Option.some.injEq,Prod.mk.injEq]at hp2
     obtain⟨rfl,rfl,rfl⟩:=hp2
     obtain⟨cs,h7,h8⟩:=h6 k _ _ _ (List.mem_of_getElem? hp1)
     exact⟨cs,h7,h8.ev e1 d fun _ _=>rfl⟩
   ·obtain⟨q,hq,rfl⟩:=List.mem_map.1 hp
    have hm:g∈n::(L.map (fun o=>fpO (o.map (·.2)))).flatten:=List.mem_cons_of_mem _ (List.mem_flatten.2 ⟨_,List.mem_map.2 ⟨q,hq,rfl⟩,hg⟩)
    refine⟨retag_in hm,?_⟩
    cases q with
    |none=>simp[fpO]at hg
    |some q=>
     obtain⟨k,u2,x2,G2⟩:=q
     obtain⟨cs,_,h8⟩:=h6 k _ _ _ hq
     exact h8.lt d g hg)
  refine⟨_,_,_,⟨_,rfl⟩,b2,fun g hg=>retag_out hg,fun i hi=>by simp only[updT,Nat.ne_of_lt hi,if_false],b3,?_,?_,by simp[unpackD],fun i hi=>List.getElem?_append_left hi⟩
  ·simp only[unpackD,RelL,Rel]
   exact⟨_,[],rfl,⟨by have hsz:=hC.size;simp only at hsz;rw[←hsz];simp,rfl⟩,rfl⟩
  ·exact live_new hl b1
end
end Go.Am
/- The abstract machine,part 31: containers of things: what is lent,what is given back. No statement of its own. -/
namespace Go.Am
open Go.Vk Go.RowKit
variable [Dr]
/-! ### places of keys -/
section
variable {K : Ty} {B B' : Type}
omit [Dr] in
theorem gset_self: ∀(L:Gp K B) (k:K.Den) (v:B),∃k',(gset K L k v)[gpos K L k]? =some (some (k',v))
 | [],k,v=>⟨k,rfl⟩
 |none::l,k,v=>by simpa[gset,gpos]using gset_self l k v
 |some (k',v')::l,k,v=>by
  cases he:eqT K k k' with
  |true=>exact⟨k',by simp[gset,gpos,he]⟩
  |false=>simpa[gset,gpos,he]using gset_self l k v
omit [Dr] in
theorem gset_other: ∀(L:Gp K B) (k:K.Den) (v:B) (q:Nat),q≠gpos K L k→(gset K L k v)[q]? =L[q]?
 | [],k,v,q,hq=>by
  cases q with
  |zero=>exact absurd rfl hq
  |succ q=>simp[gset]
 |none::l,k,v,q,hq=>by
  cases q with
  |zero=>simp[gset]
  |succ q=>simpa[gset]using gset_other l k v q (fun h=>hq (by simp[gpos,h]))
 |some (k',v')::l,k,v,q,hq=>by
  cases he:eqT K k k' with
  |true=>
   cases q with
   |zero=>exact absurd (by simp[gpos,he]) hq
   |succ q=>simp[gset,he]
  |false=>
   cases q with
   |zero=>simp[gset,he]
   |succ q=>simpa[gset,he]using gset_other l k v q (fun h=>hq (by simp[gpos,he,h]))
omit [Dr] in
theorem gpos_map(f:B→B'): ∀(L:Gp K B) (k:K.Den),gpos K (L.map (Option.map fun p=>(p.1,f p.2))) k=gpos K L k
 | [],k=>rfl
 |none::l,k=>by simp only[List.map_cons,Option.map_none,gpos,gpos_map f l k]
 |some (k',v')::l,k=>by simp only[List.map_cons,Option.map_some,gpos,gpos_map f l k]
omit [Dr] in
theorem gget_map(f:B→B'): ∀(L:Gp K B) (k:K.Den),gget K (L.map (Option.map fun p=>(p.1,f p.2))) k=(gget K L k).map f
 | [],k=>rfl
 |none::l,k=>by simp only[List.map_cons,Option.map_none,gget,gget_map f l k]
 |some (k',v')::l,k=>by
  simp only[List.map_cons,Option.map_some,gget,gget_map f l k]
  cases eqT K k k'<;>rfl
omit [Dr] in
theorem gset_map(f:B→B'): ∀(L:Gp K B) (k:K.Den) (v:B),gset K (L.map (Option.map fun p=>(p.1,f p.2))) k (f v)=(gset K L k v).map (Option.map fun p=>(p.1,f p.2))
 | [],k,v=>rfl
 |none::l,k,v=>by simp only[List.map_cons,Option.map_none,gset,gset_map f l k]
 |some (k',v')::l,k,v=>by
  simp only[List.map_cons,Option.map_some,gset,gset_map f l k]
  cases eqT K k k'<;>rfl
omit [Dr] in
theorem glen_map(f:B→B'): ∀(L:Gp K B),glen K (L.map (Option.map fun p=>(p.1,f p.2)))=glen K L
 | []=>rfl
 |none::l=>by simp only[List.map_cons,Option.map_none,glen,glen_map f l]
 |some (k',v')::l=>by simp only[List.map_cons,Option.map_some,glen,glen_map f l]
end
section
variable {K : Ty} {B B' : Type}
omit [Dr] in
theorem gents_map{ka:Bool}{enc:B→Value}: ∀(L:Gp K B) (j:Nat),gents ka K enc j L=gents ka K id j (L.map (Option.map fun p=>(p.1,enc p.2)))
 | [],j=>rfl
 |none::l,j=>by simp only[gents,List.map_cons,Option.map_none,gents_map l]
 |some (k,v)::l,j=>by simp only[gents,List.map_cons,Option.map_some,gents_map l,id]
omit [Dr] in
theorem gget_at: ∀{L:Gp K B} {k:K.Den} {v:B},gget K L k=some v→∃k',L[gpos K L k]? =some (some (k',v))
 | [],k,v,h=>by simp[gget]at h
 |none::l,k,v,h=>by
  simp only[gget]at h
  simpa[gpos]using gget_at h
 |some (k',v')::l,k,v,h=>by
  simp only[gget]at h
  cases he:eqT K k k' with
  |true=>rw[he]at h;simp only[cond_true,Option.some.injEq]at h;subst h;exact⟨k',by simp[gpos,he]⟩
  |false=>rw[he]at h;simpa[gpos,he]using gget_at h
omit [Dr] in
theorem gget_no: ∀{L:Gp K B} {k:K.Den},gget K L k=none→L[gpos K L k]? =none
 | [],k,_=>rfl
 |none::l,k,h=>by
  simp only[gget]at h
  simpa[gpos]using gget_no h
 |some (k',v')::l,k,h=>by
  simp only[gget]at h
  cases he:eqT K k k' with
  |true=>rw[he]at h;cases h
  |false=>rw[he]at h;simpa[gpos,he]using gget_no h
end
section
variable {K : Ty} {B B' : Type}
omit [Dr] in
theorem gdel_map(f:B→B'): ∀(L:Gp K B) (k:K.Den),gdel K (L.map (Option.map fun p=>(p.1,f p.2))) k=(gdel K L k).map (Option.map fun p=>(p.1,f p.2))
 | [],k=>rfl
 |none::l,k=>by simp only[List.map_cons,Option.map_none,gdel,gdel_map f l k]
 |some (k',v')::l,k=>by
  simp only[List.map_cons,Option.map_some,gdel,gdel_map f l k]
  cases eqT K k k'<;>rfl
omit [Dr] in
theorem gdel_at: ∀(L:Gp K B) (k:K.Den) (j:Nat),(gdel K L k)[j]? =L[j]? ∨(gdel K L k)[j]? =some none
 | [],k,j=> .inl rfl
 |none::l,k,0=> .inl rfl
 |none::l,k,j+1=>by simpa[gdel]using gdel_at l k j
 |some (k',v')::l,k,j=>by
  simp only[gdel]
  cases eqT K k k' with
  |true=>
   cases j with
   |zero=>exact .inr rfl
   |succ j=>exact .inl rfl
  |false=>
   cases j with
   |zero=>exact .inl rfl
   |succ j=>simpa using gdel_at l k j
end
/-! ### things of one cell -/
def thg:DT→Bool
 | .flat _=>false
 | .pair _ _=>false
 | .opq _=>false
 |_=>true
def headV:DT→Nat→AV
 | .ptr _ _,b=> .ptr b 0
 | .row _ _,b=> .row b
 | .rowD _ _,b=> .row b
 | .map _,b=> .map b
 | .mapD _ _,b=> .map b
 |_,_=> .unk
def headB:AV→Option Nat
 | .ptr b 0=>some b
 | .row b=>some b
 | .map b=>some b
 |_=>none
section
variable {P : Program} {E : Env} {σ σ1 : Gh} {τ : Nat → Nat} {w w1 : World} {β : List Value} {tm : List AV} {H : List AB} {a : Act} {o : Oper}
omit [Dr] in
theorem unpack_head{d:DT}(h:thg d=true)(x:d.Den)(H:List AB):(unpackD d x H).1= [headV d H.length]:=by
 cases d<;>first|rfl|(cases h)
theorem head_get{c:AV}{r:Nat}{u:Value}(h:headB c=some r)(hr:Rel E σ w β c u):β[r]? =some u:=by
 unfold headB at h
 split at h
 ·obtain rfl:=Option.some.inj h
  simp only[Rel]at hr
  obtain⟨n,h1,rfl⟩:=hr
  exact h1
 ·obtain rfl:=Option.some.inj h
  simp only[Rel]at hr
  exact hr.1
 ·obtain rfl:=Option.some.inj h
  simp only[Rel]at hr
  exact hr.1
 ·cases h
omit [Dr] in
theorem headB_V{d:DT}(h:thg d=true)(r:Nat):headB (headV d r)=some r:=by
 cases d<;>first|rfl|(cases h)
omit [Dr] in
theorem head_eq{d:DT}{c:AV}{r:Nat}{x:d.Den}{l:List AV}{H':List AB}(ht:thg d=true)(hr:headB c=some r)(h:packD d [c] H=some (x,l,H')):c=headV d r:=by
 unfold headB at hr
 split at hr
 ·obtain rfl:=Option.some.inj hr
  cases d<;>first|rfl|(simp[thg]at ht;done)|(simp[packD]at h;done)
 ·obtain rfl:=Option.some.inj hr
  cases d<;>first|rfl|(simp[thg]at ht;done)|(simp[packD]at h;done)
 ·obtain rfl:=Option.some.inj hr
  cases d<;>first|rfl|(simp[thg]at ht;done)|(simp[packD]at h;done)
 ·cases hr
theorem head_rel{d:DT}{r:Nat}{x:d.Den}{l:List AV}{H':List AB}(hC:Conc E σ τ β ⟨tm,H⟩ a w)(ht:thg d=true)(h:packD d [headV d r] H=some (x,l,H')): ∃u,β[r]? =some u∧Rel E σ w β (headV d r) u:=by
 have hin: ∀y,H[r]? =some y→∃v,β[r]? =some v:=fun y hy=>⟨_,List.getElem?_eq_getElem (by have:=hC.size;simp only at this;rw[this];exact(List.getElem?_eq_some_iff.1 hy).1)⟩
 cases d with
 |flat T=>cases ht
 |pair p q=>cases ht
 |row T e=>
  simp only[packD,headV]at h
  split at h
  ·rename_i hx
   obtain⟨v,hv⟩:=hin _ hx
   obtain⟨A,c,rfl,_⟩:=(hC.heap r _ v hx hv).rd
   exact⟨_,hv,by simp only[headV,Rel];exact⟨hv,rfl⟩⟩
  ·cases h
 |map m=>
  simp only[packD,headV]at h
  split at h
  ·rename_i hx
   obtain⟨v,hv⟩:=hin _ hx
   obtain⟨n,es,rfl,_⟩:=hC.heap r _ v hx hv
   exact⟨_,hv,by simp only[headV,Rel];exact⟨hv,rfl⟩⟩
  ·cases h
 |ptr C d=>
  simp only[packD,headV]at h
  split at h
  ·rename_i hx
   obtain⟨v,hv⟩:=hin _ hx
   obtain⟨n,vs,rfl,_⟩:=hC.heap r _ v hx hv
   exact⟨_,hv,by simp only[headV,Rel];exact⟨n,hv,rfl⟩⟩
  ·cases h
 |rowD d e=>
  simp only[packD,headV]at h
  split at h
  ·rename_i hx
   obtain⟨v,hv⟩:=hin _ hx
   obtain⟨L,h1,_⟩:=hC.heap r _ v hx hv
   exact⟨_,hv,by simp only[headV,Rel];exact⟨hv,(own_f h1).1.one⟩⟩
  ·cases h
 |mapD m d=>
  simp only[packD,headV]at h
  split at h
  ·rename_i hx
   obtain⟨v,hv⟩:=hin _ hx
   obtain⟨n,es,L,rfl,_⟩:=hC.heap r _ v hx hv
   exact⟨_,hv,by simp only[headV,Rel];exact⟨hv,rfl⟩⟩
  ·cases h
 |opq o=>cases ht
/-! ### a container's places -/
omit [Dr] in
theorem Hold.put {D:Type} {R R':Value→D→List Nat→Prop} {σ σ':Gh} {w w':World} {t i:Nat} {g0:Option Nat} {l l':Option (Nat×Nat)} {β β':List Value} {P P':List (Option (Value×D×List Nat))} {q:Option (Value×D×List Nat)} (h:Hold R σ w t g0 (lnO l) (lkO β l) P)
  (hl: ∀j,lnO l j→j=i) (hl': ∀j,lnO l' j→j=i) (hi:P'[i]? =none∨P'[i]? =some q) (ho: ∀j,j≠i→P'[j]? =P[j]?)
  (hR: ∀j u x G,j≠i→P[j]? =some (some (u,x,G))→R u x G→R' u x G) (hs:w.heap.size≤w'.heap.size) (ht: ∀j p g,j≠i→P[j]? =some p→g∈fpO p→σ' g=t)
  (q1:P'[i]? =some q→∀u x G,q=some (u,x,G)→(lnO l' i→(lkO β' l' u)∧G= [])∧(¬lnO l' i→R' u x G)) (q2: ∀g∈fpO q,σ' g=t∧g<w'.heap.size) (q3:(fpO q).Nodup∧∀g∈fpO q,g0≠some g) (q4: ∀j p g,j≠i→P[j]? =some p→g∈fpO p→g∉fpO q):
  Hold R' σ' w' t g0 (lnO l') (lkO β' l') P':=by
 have hc: ∀(j:Nat) p,P'[j]? =some p→(j=i∧p=q)∨(j≠i∧P[j]? =some p):=fun j p hp=>by
  by_cases hj:j=i
  ·subst hj
   rcases hi with h1|h1
   ·rw[hp]at h1;cases h1
   ·rw[hp]at h1;exact .inl ⟨rfl,Option.some.inj h1⟩
  ·exact .inr ⟨hj,by rw[←ho j hj];exact hp⟩
 refine⟨fun j u x G hp hn=> ?_,fun j u x G hp hn=> ?_,fun p hp g hg=> ?_,fun j p hp=> ?_,fun j k p p' g hp hp' hg hg'=> ?_⟩
 ·rcases hc j _ hp with⟨rfl,h2⟩|⟨h1,h2⟩
  ·exact(q1 (by rw[←h2];exact hp) u x G h2.symm).2 hn
  ·exact hR j u x G h1 h2 (h.own j u x G h2 fun hl0=>h1 (hl j hl0))
 ·rcases hc j _ hp with⟨rfl,h2⟩|⟨h1,h2⟩
  ·exact(q1 (by rw[←h2];exact hp) u x G h2.symm).1 hn
  ·exact absurd (hl' j hn) h1
 ·obtain⟨j,hj⟩:=List.mem_iff_getElem?.1 hp
  rcases hc j _ hj with⟨rfl,rfl⟩|⟨h1,h2⟩
  ·exact q2 g hg
  ·exact⟨ht j p g h1 h2 hg,Nat.lt_of_lt_of_le (h.tag p (List.mem_of_getElem? h2) g hg).2 hs⟩
 ·rcases hc j _ hp with⟨rfl,rfl⟩|⟨h1,h2⟩
  ·exact q3
  ·exact h.nd j p h2
 ·rcases hc j _ hp with⟨rfl,rfl⟩|⟨h1,h2⟩
  ·rcases hc k _ hp' with⟨rfl,rfl⟩|⟨k1,k2⟩
   ·rfl
   ·exact absurd hg (q4 k p' g k1 k2 hg')
  ·rcases hc k _ hp' with⟨rfl,rfl⟩|⟨k1,k2⟩
   ·exact absurd hg' (q4 j p g h1 h2 hg)
   ·exact h.inj j k p p' g h2 k2 hg hg'
def lendH(b:Nat)(x:AB)(d:DT)(y:d.Den)(H:List AB):List AB:=(unpackD d y (H.set b .gone)).2.set b x
theorem conc_lend {b:Nat} {x0 xl:AB} {v u:Value} {d:DT} {y:d.Den} {F:List Nat} (hC:Conc E σ τ β ⟨tm,H⟩ a w) (hb:H[b]? =some x0) (hl:x0.live=true) (hv:β[b]? =some v) (ht:thg d=true) (hR:RepD σ w d y [u] F) (hn:F.Nodup) (hF: ∀g∈F,σ g=τ b)
  (hy: ∀σ' β',(∃s,β'=β++s)→(∀g,g∉F→σ' g=σ g)→(∃hi,Ev 1 hi σ w σ' w)→β'[H.length]? =some u→BRel E σ' w β' (τ b) v xl):
  ∃σ' τ' β',(∃s,β'=β++s)∧EvT (Rng E) σ w σ' w∧Conc E σ' τ' β' ⟨tm,lendH b xl d y H⟩ a w∧Rel E σ' w β' (headV d H.length) u:=by
 have hKb:=hC.apart b _ hb hl
 have hK: ∀t,t=τ b→¬E.Kp t:=fun t e=>e▸hKb
 have hlen:(H.set b .gone).length=H.length:=by simp
 obtain⟨σ',τ',β',p1,p2,p3,p4,p5,p6,p7,p8,p9⟩:=unpack_rep (T0:=fun t=>t=τ b) (r0:=τ b+1) (fun t e=>by omega) hK d hR hn hF (conc_gone (i:=b) hC) (fun i z hz hl' e=>by
  obtain⟨g1,g2⟩:=gone_get hz hl'
  exact g2 (hC.inj i b z x0 g1 hb hl' hl e))
 rw[unpack_head ht,hlen]at p6
 simp only[RelL]at p6
 obtain⟨v',r',e1,p6,_⟩:=p6
 injection e1 with e1 _
 subst e1
 have hT0: ¬(0:Nat)=τ b:=fun e=>hKb (e▸E.sub _ (.inl E.nought))
 have hg:=head_get (headB_V ht H.length) p6
 have hlt:b<H.length:=(List.getElem?_eq_some_iff.1 hb).1
 have h3:=conc_back (z0:= .gone) (b:=b) (t:=τ b) (v:=v) (x:=xl) p5 (by rw[p9 b (by simpa using hlt)];simp[hlt]) (get_pre p1 hv) (hy σ' β' p1 p3 (p2.ev1 hT0) hg) hKb (fun i z hz hl' e=>p7 i z hz hl' e)
 exact⟨σ',_,β',p1,p2.mono fun t e=>hK t e,h3,p6⟩
theorem conc_give {b:Nat} {x0 xg:AB} {c:AV} {v u:Value} {d:DT} {y:d.Den} {H2:List AB} (hC:Conc E σ τ β ⟨tm,H⟩ a w) (hb:H[b]? =some x0) (hl:x0.live=true) (hlk: ∀z,x0≠ .lock z) (hv:β[b]? =some v) (hp:packD d [c] (H.set b .gone)=some (y,[],H2)) (hr:Rel E σ w β c u)
  (hy: ∀F σ',RepD σ' w d y [u] F→F.Nodup→(∀g∈F,σ' g=τ b∧σ g≠τ b)→(∀g,g∉F→σ' g=σ g)→(∃hi,Ev 1 hi σ w σ' w)→BRel E σ' w β (τ b) v xg):
  HPres H (H2.set b xg)∧∃σ' τ',EvT (Rng E) σ w σ' w∧Conc E σ' τ' β ⟨tm,H2.set b xg⟩ a w:=by
 have hKb:=hC.apart b _ hb hl
 have hC1:=conc_gone (i:=b) hC
 obtain⟨us1,us2,F,e1,e2,e3,e4,e5⟩:=pack_rep d hp hC1 (by simp only[RelL];exact⟨u,[],rfl,hr,rfl⟩)
 simp only[RelL]at e2
 subst e2
 rw[List.append_nil]at e1
 subst e1
 have g2:=packD_gone hp
 have hlt:b<H.length:=(List.getElem?_eq_some_iff.1 hb).1
 have hF: ∀g∈F,(fun t=> ∃g∈F,σ g=t) (σ g):=fun g hg=>⟨g,hg,rfl⟩
 have hne: ∀g∈F,σ g≠τ b:=fun g hg e=>by
  obtain⟨i,z,i1,i2,i3,i4⟩:=e5 g hg
  obtain⟨j1,j2⟩:=gone_get i1 i2
  exact j2 (hC.inj i b z x0 j1 hb i2 hl (i3.symm.trans e))
 have hKF: ∀t,(∃g∈F,σ g=t)→¬E.Kp t:=by
  rintro t ⟨g,hg,rfl⟩
  obtain⟨i,z,i1,i2,i3,i4⟩:=e5 g hg
  rw[i3]
  exact hC1.apart i z i1 i2
 have hev:=retag_ev (T0:=fun t=> ∃g∈F,σ g=t) (w:=w) (t:=τ b) hF
 have hT0: ¬(∃g∈F,σ g=0):=fun h=>hKF 0 h (E.sub _ (.inl E.nought))
 have hlive: ∀(i:Nat) z,H2[i]? =some z→z.live=true→¬(∃g∈F,σ g=τ i):=by
  rintro i z hz hl' ⟨g,hg,e⟩
  obtain⟨j,z',j1,j2,j3,j4⟩:=e5 g hg
  have hz1:=g2.get hz hl'
  have:=hC1.inj j i z' z j1 hz1 j2 hl' (j3.symm.trans e)
  subst this
  have:=j4 z hz
  rw[hl']at this
  cases this
 have h2:=Conc.evC (conc_Gone hC1 g2) hev (fun t hp h=>hKF t h (E.sub _ hp)) hlive
 have hbg:H2[b]? =some .gone:=by
  rcases g2.2 b with h|⟨h,_⟩
  ·rw[h];simp[hlt]
  ·exact h
 obtain⟨hi,he1⟩:=hev.ev1 hT0
 have h3:=conc_back (z0:= .gone) (b:=b) (t:=τ b) (v:=v) (x:=xg) h2 hbg hv (hy F _ (e3.ev he1 d fun _ _=>rfl) e4 (fun g hg=>⟨retag_in hg,hne g hg⟩) (fun g hg=>retag_out hg) ⟨hi,he1⟩) hKb (fun i z hz hl' e=>by
  obtain⟨j1,j2⟩:=gone_get (g2.get hz hl') hl'
  exact j2 (hC.inj i b z x0 j1 hb hl' hl e))
 refine⟨((HPres.set hb hlk).trans g2.pres).trans (HPres.set hbg (fun _=>by simp)),_,_,hev.mono (fun t h=>hKF t h),h3⟩
/-! ### what was lent goes back -/
def setG{K D:Type}(i:Nat)(x:D)(xs:List (Option (K×D))):List (Option (K×D)):=
 match xs[i]? with
 |some (some (k,_))=>xs.set i (some (k,x))
 |_=>xs
def settle(b:Nat)(H:List AB):Option (List AB):=
 match H[b]? with
 |some (.mapD m d xs (some (i,r)))=>match thg d,m.va,packD d [headV d r] (H.set b .gone)with
  |true,false,some (x,[],H')=>some (H'.set b (.mapD m d (setG i x xs) none))
  |_,_,_=>none
 |some (.rowD d e xs (some (i,r)))=>match thg d,packD d [headV d r] (H.set b .gone)with
  |true,some (x,[],H')=>some (H'.set b (.rowD d e (xs.set i x) none))
  |_,_=>none
 |_=>some H
omit [Dr] in
theorem setG_other{K D:Type}{i j:Nat}{x:D}{xs:List (Option (K×D))}(h:j≠i):(setG i x xs)[j]? =xs[j]? :=by
 unfold setG
 split
 ·rw[List.getElem?_set,if_neg (fun e=>h e.symm)]
 ·rfl
omit [Dr] in
theorem setG_len{K D:Type}{i:Nat}{x:D}{xs:List (Option (K×D))}:(setG i x xs).length=xs.length:=by
 unfold setG
 split<;>simp
theorem settle_sound{b:Nat}{H':List AB}(hC:Conc E σ τ β ⟨tm,H⟩ a w)(h:settle b H=some H'):HPres H H'∧∃σ' τ',EvT (Rng E) σ w σ' w∧Conc E σ' τ' β ⟨tm,H'⟩ a w:=by
 have hin: ∀y,H[b]? =some y→∃v,β[b]? =some v:=fun y hy=>⟨_,List.getElem?_eq_getElem (by have:=hC.size;simp only at this;rw[this];exact(List.getElem?_eq_some_iff.1 hy).1)⟩
 unfold settle at h
 split at h
 ·rename_i m d xs i r hb
  split at h
  ·rename_i x H2 ht hva hp
   obtain rfl:=Option.some.inj h
   obtain⟨v,hv⟩:=hin _ hb
   obtain⟨n,es,L,e1,e2,e3,e4,e5,e6,e7⟩:=hC.heap b _ v hb hv
   obtain⟨u,hu1,hu2⟩:=head_rel (conc_gone (i:=b) hC) ht hp
   refine conc_give hC hb rfl (fun z=>by simp) hv hp hu2 (fun F σ' f1 f2 f3 f4 ⟨hi,f5⟩=> ?_)
   have hnF:n∉F:=fun hn=>(f3 n hn).2 e3
   let L':Gp m.K (Value×d.Den×List Nat):=match L[i]? with
    |some (some (k,u',_,_))=>L.set i (some (k,u',x,F))
    |_=>L
   have hL':(∀j,j≠i→L'[j]? =L[j]?)∧((L'[i]? =L[i]? ∧∀p,L[i]? ≠some (some p))∨∃k u' x' G,L[i]? =some (some (k,u',x',G))∧L'=L.set i (some (k,u',x,F))):=by
    show(∀j,j≠i→L'[j]? =L[j]?)∧_
    simp only[L']
    split
    ·rename_i k u' x' G hp
     exact⟨fun j hj=>by rw[List.getElem?_set,if_neg (fun e=>hj e.symm)],.inr ⟨k,u',x',G,hp,rfl⟩⟩
    ·rename_i hno
     exact⟨fun _ _=>rfl,.inl ⟨rfl,fun p hp=>hno p.1 p.2.1 p.2.2.1 p.2.2.2 hp⟩⟩
   have hmapL: ∀{X:Type} (f:m.K.Den×Value×d.Den×List Nat→X),(∀k u' x' G,L[i]? =some (some (k,u',x',G))→f (k,u',x,F)=f (k,u',x',G))→L'.map (Option.map f)=L.map (Option.map f):=by
    intro X f hf
    rcases hL'.2 with⟨h1,h2⟩|⟨k,u',x',G,h1,h2⟩
    ·apply List.ext_getElem?
     intro j
     rw[List.getElem?_map,List.getElem?_map]
     by_cases hj:j=i
     ·subst hj;rw[h1]
     ·rw[hL'.1 j hj]
    ·rw[h2]
     apply List.ext_getElem?
     intro j
     rw[List.getElem?_map,List.getElem?_map,List.getElem?_set]
     by_cases hj:i=j
     ·subst hj
      rw[if_pos rfl,if_pos (List.getElem?_eq_some_iff.1 h1).1,h1]
      simp only[Option.map_some,hf k u' x' G h1]
     ·rw[if_neg hj]
   have hpl: ∀k u' x' G,L[i]? =some (some (k,u',x',G))→u'=u∧G= []:=fun k u' x' G hp=>by
    obtain⟨⟨i',b',q1,q2⟩,q3⟩:=e7.out i u' x' G (by rw[List.getElem?_map,hp];rfl) ⟨r,rfl⟩
    obtain⟨rfl,rfl⟩:=Prod.mk.inj (Option.some.inj q1)
    rw[hu1]at q2
    exact⟨(Option.some.inj q2).symm,q3⟩
   refine⟨n,es,L',e1,by rw[setG_len];exact e2,(f4 n hnF).trans e3,?_,?_,(fun i b h=>nomatch h),?_⟩
   ·rw[e4,gents_map L',gents_map L,hmapL (fun p=>(p.1,p.2.1)) (fun _ _ _ _ _=>rfl)]
   ·apply List.ext_getElem?
    intro j
    rw[List.getElem?_map]
    by_cases hj:j=i
    ·subst hj
     rcases hL'.2 with⟨h1,h2⟩|⟨k,u',x',G,h1,h2⟩
     ·rw[h1]
      have:setG j x xs=xs:=by
       unfold setG
       split
       ·rename_i k y hk
        rw[e5,List.getElem?_map]at hk
        cases hq:L[j]? with
        |none=>rw[hq]at hk;cases hk
        |some p=>
         cases p with
         |none=>rw[hq]at hk;cases hk
         |some p=>exact absurd hq (h2 p)
       ·rfl
      rw[this,e5,List.getElem?_map]
     ·have hx:xs[j]? =some (some (k,x')):=by rw[e5,List.getElem?_map,h1];rfl
      have hlt:=(List.getElem?_eq_some_iff.1 hx).1
      have hltL:=(List.getElem?_eq_some_iff.1 h1).1
      unfold setG
      rw[hx]
      simp only
      rw[List.getElem?_set,if_pos rfl,if_pos hlt,h2,List.getElem?_set,if_pos rfl,if_pos hltL]
      rfl
    ·rw[setG_other hj,e5,List.getElem?_map,hL'.1 j hj]
   ·have hgo: ∀j p g,j≠i→(L.map (Option.map (·.2)))[j]? =some p→g∈fpO p→g∉F:=fun j p g hj hp hg hF=>(f3 g hF).2 (e7.tag p (List.mem_of_getElem? hp) g hg).1
    refine Hold.put (i:=i) (q:=((L'.map (Option.map (·.2)))[i]?).getD none) e7 (fun j ⟨b',hb'⟩=>(Prod.mk.inj (Option.some.inj hb')).1.symm) (fun j h=>absurd h nolent) ?_ (fun j hj=>by rw[List.getElem?_map,List.getElem?_map,hL'.1 j hj]) (fun j u' x' G hj hp hR=> ?_) (Nat.le_refl _) (fun j p g hj hp hg=> ?_) (fun hq u' x' G he=> ?_) ?_ ?_ ?_
    ·cases hq:(L'.map (Option.map (·.2)))[i]? with
     |none=>exact .inl rfl
     |some p=>exact .inr (by simp)
    ·obtain⟨cs,r1,r2⟩:=hR
     exact⟨cs,r1,r2.ev f5 d fun _ _=>rfl⟩
    ·rw[f4 g (hgo j p g hj hp hg)]
     exact(e7.tag p (List.mem_of_getElem? hp) g hg).1
    ·refine⟨fun h=>absurd h nolent,fun _=> ?_⟩
     rw[he]at hq
     rw[List.getElem?_map]at hq
     rcases hL'.2 with⟨h1,h2⟩|⟨k,u2,x2,G2,h1,h2⟩
     ·rw[h1]at hq
      obtain⟨p,hp1,hp2⟩:=Option.map_eq_some_iff.1 hq
      cases p with
      |none=>cases hp2
      |some p=>exact absurd hp1 (h2 p)
     ·rw[h2,List.getElem?_set,if_pos rfl,if_pos (List.getElem?_eq_some_iff.1 h1).1]at hq
      simp only[Option.map_some,Option.some.injEq,Prod.mk.injEq]at hq
      obtain⟨rfl,rfl,rfl⟩:=hq
      obtain⟨rfl,_⟩:=hpl k _ _ _ h1
      exact⟨[u2],by rw[hva];rfl,f1⟩
    all_goals
     have hfp: ∀g,g∈fpO (((L'.map (Option.map (·.2)))[i]?).getD none)→g∈F∧∃k u2 x2 G2,L[i]? =some (some (k,u2,x2,G2)):=by
      intro g hg
      rw[List.getElem?_map]at hg
      rcases hL'.2 with⟨h1,h2⟩|⟨k,u2,x2,G2,h1,h2⟩
      ·rw[h1]at hg
       cases hq:L[i]? with
       |none=>rw[hq]at hg;simp[fpO]at hg
       |some p=>
        cases p with
        |none=>rw[hq]at hg;simp[fpO]at hg
        |some p=>exact absurd hq (h2 p)
      ·rw[h2,List.getElem?_set,if_pos rfl,if_pos (List.getElem?_eq_some_iff.1 h1).1]at hg
       exact⟨by simpa[fpO]using hg,k,u2,x2,G2,h1⟩
    ·exact fun g hg=>⟨(f3 g (hfp g hg).1).1,f1.lt d g (hfp g hg).1⟩
    ·refine⟨?_,fun g hg e=>hnF (by rw[Option.some.inj e];exact(hfp g hg).1)⟩
     rw[List.getElem?_map]
     rcases hL'.2 with⟨h1,h2⟩|⟨k,u2,x2,G2,h1,h2⟩
     ·rw[h1]
      cases hq:L[i]? with
      |none=>simp[fpO]
      |some p=>
       cases p with
       |none=>simp[fpO]
       |some p=>exact absurd hq (h2 p)
     ·rw[h2,List.getElem?_set,if_pos rfl,if_pos (List.getElem?_eq_some_iff.1 h1).1]
      simpa[fpO]using f2
    ·exact fun j p g hj hp hg hq=>hgo j p g hj hp hg (hfp g hq).1
  ·cases h
 ·rename_i d e xs i r hb
  split at h
  ·rename_i x H2 ht hp
   obtain rfl:=Option.some.inj h
   obtain⟨v,hv⟩:=hin _ hb
   obtain⟨L,e1,e2,e3,e4⟩:=hC.heap b _ v hb hv
   obtain⟨u,hu1,hu2⟩:=head_rel (conc_gone (i:=b) hC) ht hp
   refine conc_give hC hb rfl (fun z=>by simp) hv hp hu2 (fun F σ' f1 f2 f3 f4 ⟨hi,f5⟩=> ?_)
   obtain⟨o1,o2⟩:=own_f e1
   have hnF: ∀n,hbV v=some n→n∉F:=fun n hn hF=>(f3 n hF).2 (o2 n hn)
   have hpl: ∀u' x' G,L[i]? =some (u',x',G)→u'=u∧G= []:=fun u' x' G hp=>by
    obtain⟨⟨i',b',q1,q2⟩,q3⟩:=e4.out i u' x' G (by rw[List.getElem?_map,hp];rfl) ⟨r,rfl⟩
    obtain⟨rfl,rfl⟩:=Prod.mk.inj (Option.some.inj q1)
    rw[hu1]at q2
    exact⟨(Option.some.inj q2).symm,q3⟩
   have hgo: ∀j p g,j≠i→(L.map some)[j]? =some p→g∈fpO p→g∉F:=fun j p g hj hp hg hF=>(f3 g hF).2 (e4.tag p (List.mem_of_getElem? hp) g hg).1
   refine⟨L.set i (u,x,F),own_of ?_ fun g hg=> ?_,?_,(fun i b h=>nomatch h),?_⟩
   ·have:(L.set i (u,x,F)).map (·.1)=L.map (·.1):=by
     apply List.ext_getElem?
     intro j
     rw[List.getElem?_map,List.getElem?_map,List.getElem?_set]
     by_cases hj:i=j
     ·subst hj
      rw[if_pos rfl]
      cases hq:L[i]? with
      |none=>rw[if_neg (by rw[List.getElem?_eq_none_iff]at hq;omega)]
      |some p=>
       rw[if_pos (List.getElem?_eq_some_iff.1 hq).1]
       obtain⟨u',x',G⟩:=p
       simp only[Option.map_some,(hpl u' x' G hq).1]
     ·rw[if_neg hj]
    rw[this]
    exact o1.ev f5 fun _ _=>rfl
   ·rw[f4 g (hnF g hg)];exact o2 g hg
   ·rw[List.map_set,←e2]
   ·refine Hold.put (i:=i) (q:=some (u,x,F)) e4 (fun j ⟨b',hb'⟩=>(Prod.mk.inj (Option.some.inj hb')).1.symm) (fun j h=>absurd h nolent) ?_ (fun j hj=>by rw[List.getElem?_map,List.getElem?_map,List.getElem?_set,if_neg (fun e=>hj e.symm)]) (fun j u' x' G hj hp hR=>hR.ev f5 d fun _ _=>rfl) (Nat.le_refl _) (fun j p g hj hp hg=> ?_) (fun hq u' x' G he=> ?_) ?_ ?_ ?_
    ·rw[List.getElem?_map,List.getElem?_set,if_pos rfl]
     split
     ·exact .inr rfl
     ·exact .inl rfl
    ·rw[f4 g (hgo j p g hj hp hg)]
     exact(e4.tag p (List.mem_of_getElem? hp) g hg).1
    ·simp only[Option.some.injEq,Prod.mk.injEq]at he
     obtain⟨rfl,rfl,rfl⟩:=he
     exact⟨fun h=>absurd h nolent,fun _=>f1⟩
    ·exact fun g hg=>⟨(f3 g hg).1,f1.lt d g hg⟩
    ·exact⟨f2,fun g hg e=>hnF g e hg⟩
    ·exact fun j p g hj hp hg hq=>hgo j p g hj hp hg hq
  ·cases h
 ·obtain rfl:=Option.some.inj h
  exact⟨.refl _,σ,τ,.refl,hC⟩
end
end Go.Am
/- The abstract machine,part 32: maps of things: lookups,updates,and what else there is of them. No statement of its own. -/
namespace Go.Am
open Go.Vk Go.RowKit
variable [Dr]
def optS{A X:Type}(o:Option A)(f:A→X)(g:X):X:=
 match o with
 |some x=>f x
 |none=>g
/-! ### types -/
def zeroV(P:Program)(t:TypeId):Option Value:=(P.info? t).bind (·.zero)
def zeroD(P:Program)(m:MTy)(V:Ty):Option V.Den:=
 match zeroV P m.vt with
 |some z=>decV m.va V (.val z)
 |none=>none
def structDT(f:TypeId→Option DT):List Field→Option DT
 | []=>none
 | [x]=>f x.type
 |x::y::l=>match f x.type,structDT f (y::l)with
  |some a,some b=>some (.pair a b)
  |_,_=>none
def oqOf(P:Program)(t:TypeId):Option OqK:=
 match P.underlying t with
 |some (.struct ⟨[f,g]⟩)=>match P.underlying f.type,P.underlying g.type with
  |some (.slice e),some (.map kt vt)=>match P.underlying e,Nat.beq vt e,tyOf P 20 kt with
   |some (.pointer C),true,some K=>match tyOf P 20 C with
    |some T=>some ⟨T,C,e,⟨kt,vt,aggB P kt,K,false,.bool⟩⟩
    |none=>none
   |_,_,_=>none
  |_,_=>none
 |_=>none
def dtOf(P:Program):Nat→TypeId→Option DT
  |0,_=>none
  |n+1,t=>match(tyOf P 20 t).map flatT with
    |some true=>(tyOf P 20 t).map .flat
    |_=>match oqOf P t with
     |some o=>some (.opq o)
     |none=>match P.underlying t with
      |some (.slice e)=>match tyOf P 20 e with
        |some T=>some (.row T e)
        |none=>none
      |some (.pointer C)=>match dtOf P n C with
        |some d=>some (.ptr C d)
        |none=>none
      |some (.struct fs)=>structDT (dtOf P n) fs.toList
      |some (.map kt vt)=>match tyOf P 20 kt,dtOf P n vt with
        |some K,some (.flat V)=>some (.map ⟨kt,vt,aggB P kt,K,aggB P vt,V⟩)
        |some K,some d=>match thg d with
          |true=>some (.mapD ⟨kt,vt,aggB P kt,K,false,.bool⟩ d)
          |false=>match tyOf P 20 vt with
            |some V=>some (.mapD ⟨kt,vt,aggB P kt,K,aggB P vt,.bool⟩ (.flat V))
            |none=>none
        |_,_=>none
      |_=>none
def makeXD(P:Program)(t:TypeId):Option (MTy×DT):=
 match dtOf P 20 t with
 |some (.mapD m d)=>some (m,d)
 |_=>none
def mapXD(P:Program)(t:TypeId):Option AB→Option ((m:MTy)×(d:DT)×Gp m.K d.Den×Option (Nat×Nat))
 |some (.mapD m d xs l)=>match P.underlying t with
  |some (.map kt vt)=>match Nat.beq kt m.kt && (Nat.beq vt m.vt && keyB P m.ka m.kt m.K)with
   |true=>some ⟨m,d,xs,l⟩
   |false=>none
  |_=>none
 |_=>none
/-! ### the operations -/
def lookM(P:Program)(H1:List AB)(b:Nat)(k:AV)(ok:Bool)(X:Type)(K:List AB→AV→Option X)(m:MTy):(d:DT)→Gp m.K d.Den→Option X
 | .flat V,xs=>match decF m.ka m.K k,zeroD P m V with
  |some key,some z=>K H1 (resA ok (encV m.va V ((gget m.K xs key).getD z)) (gget m.K xs key).isSome)
  |_,_=>none
 | .row T e,xs=>match decF m.ka m.K k,zeroV P m.vt,m.va with
  |some key,some (.slice none 0 0),false=>K (lendH b (.mapD m (.row T e) xs (some (gpos m.K xs key,H1.length))) (.row T e) ((gget m.K xs key).getD []) H1) (resA ok (.row H1.length) (gget m.K xs key).isSome)
  |_,_,_=>none
 |d,xs=>match thg d,decF m.ka m.K k,zeroV P m.vt,m.va with
  |true,some key,some z,false=>optS (gget m.K xs key) (fun y=>K (lendH b (.mapD m d xs (some (gpos m.K xs key,H1.length))) d y H1) (resA ok (headV d H1.length) true)) (K H1 (resA ok (.val z) false))
  |_,_,_,_=>none
def lookD(P:Program)(H:List AB)(t:TypeId)(x k:AV)(ok:Bool)(X:Type)(K:List AB→AV→Option X):Option X:=
 match x with
 | .map b=>match settle b H with
  |some H1=>match mapXD P t H1[b]? with
   |some ⟨m,d,xs,none⟩=>lookM P H1 b k ok X K m d xs
   |_=>none
  |none=>none
 |_=>none
def ptrB:DT→Bool
 | .ptr _ _=>true
 |_=>false
def updI(H1 H2:List AB)(b:Nat)(m:MTy)(d:DT)(xs:Gp m.K d.Den)(l:Option (Nat×Nat))(key:m.K.Den)(r:Nat)(y:d.Den):Option (Bool×List AB):=
 match ptrB d,l with
 |true,none=>some (true,H1.set b (.mapD m d (gset m.K xs key y) (some (gpos m.K xs key,r))))
 |true,some _=>none
 |false,none=>some (true,H2.set b (.mapD m d (gset m.K xs key y) none))
 |false,some q=>some (Nat.beq (gpos m.K xs key) q.1,H2.set b (.mapD m d (gset m.K xs key y) none))
def updT_(H1:List AB)(b:Nat)(k v:AV)(m:MTy)(d:DT)(xs:Gp m.K d.Den)(l:Option (Nat×Nat)):Option (Bool×List AB):=
 match thg d,m.va,decF m.ka m.K k,headB v,packD d [v] (H1.set b .gone)with
 |true,false,some key,some r,some (y,[],H2)=>updI H1 H2 b m d xs l key r y
 |_,_,_,_,_=>none
def updM(H1:List AB)(b:Nat)(k v:AV)(m:MTy):(d:DT)→Gp m.K d.Den→Option (Nat×Nat)→Option (Bool×List AB)
 | .flat V,xs,none=>match decF m.ka m.K k,decV m.va V v with
  |some key,some y=>some (true,H1.set b (.mapD m (.flat V) (gset m.K xs key y) none))
  |_,_=>none
 |d,xs,l=>updT_ H1 b k v m d xs l
omit [Dr] in
theorem updT_some{H1:List AB}{b:Nat}{k v:AV}{m:MTy}{d:DT}{xs:Gp m.K d.Den}{l:Option (Nat×Nat)}{z:Bool×List AB}(h:updT_ H1 b k v m d xs l=some z): ∃key r y H2,thg d=true∧m.va=false∧decF m.ka m.K k=some key∧headB v=some r∧packD d [v] (H1.set b .gone)=some (y,[],H2)∧
  updI H1 H2 b m d xs l key r y=some z:=by
 unfold updT_ at h
 split at h
 ·rename_i key r y H2 h1 h2 h3 h4 h5
  exact⟨key,r,y,H2,h1,h2,h3,h4,h5,h⟩
 ·cases h
def updD(P:Program)(H:List AB)(t:TypeId)(x k v:AV):Option (Bool×List AB):=
 match x with
 | .map b=>match mapXD P t ((settle b H).getD H)[b]? with
  |some ⟨m,d,xs,l⟩=>updM ((settle b H).getD H) b k v m d xs l
  |none=>none
 |_=>none
def delD(P:Program)(H:List AB)(t:TypeId)(x k:AV):Option (List AB):=
 match x with
 | .map b=>match settle b H with
  |some H1=>match mapXD P t H1[b]? with
   |some ⟨m,d,xs,none⟩=>match decF m.ka m.K k with
    |some key=>some (H1.set b (.mapD m d (gdel m.K xs key) none))
    |none=>none
   |_=>none
  |none=>none
 |_=>none
def mlenXD(P:Program)(H:List AB)(t:TypeId)(x:AV):Option AV:=
 match x with
 | .map b=>match mapXD P t (look H b)with
  |some ⟨m,d,xs,_⟩=>some (.val (.int .i64 (glen m.K xs)))
  |none=>match look H b,P.underlying t with
   |some (.amp _ m xs),some (.map _ _)=>some (.val (.int .i64 (glen m.K xs)))
   |_,_=>none
 |_=>none
section
variable {P : Program} {E : Env} {σ σ1 : Gh} {τ : Nat → Nat} {w w1 : World} {β : List Value} {tm : List AV} {H : List AB} {a : Act} {o : Oper}
omit [Dr] in
theorem mapXD_some{t:TypeId}{ob:Option AB}{r}(h:mapXD P t ob=some r):ob=some (.mapD r.1 r.2.1 r.2.2.1 r.2.2.2)∧P.underlying t=some (.map r.1.kt r.1.vt)∧keyB P r.1.ka r.1.kt r.1.K=true:=by
 unfold mapXD at h
 split at h
 ·rename_i m d xs l
  split at h
  ·rename_i kt vt hu
   split at h
   ·rename_i hb
    simp only[Bool.and_eq_true]at hb
    obtain⟨h1,h2,h3⟩:=hb
    obtain rfl:=Nat.eq_of_beq_eq_true h1
    obtain rfl:=Nat.eq_of_beq_eq_true h2
    obtain rfl:=Option.some.inj h
    exact⟨rfl,hu,h3⟩
   ·cases h
  ·cases h
 ·cases h
omit [Dr] in
theorem zeroV_run{t:TypeId}{z:Value}(hz:zeroV P t=some z):(zeroValue t).run P w= .ok z w:=by
 obtain⟨i,hi,hzz⟩:=Option.bind_eq_some_iff.1 hz
 simp[zeroValue,typeInfo,hi,hzz]
omit [Dr] in
theorem look_run {t:TypeId} {x k:Operand} {ok:Bool} {m:MTy} {D:Type} {n:Nat} {es:Array MapEntry} {c:Nat} {L:Gp m.K (Value×D×List Nat)} {key:m.K.Den} {z:Value} (g2:P.underlying t=some (.map m.kt m.vt)) (g3:keyB P m.ka m.kt m.K=true) (e1:a.eval x= .map (some n)) (hkv:a.eval k=valF m.ka m.K key)
  (e2:w.heap[n]? =some (.map es c)) (e4:es.toList=gents m.ka m.K (fun p:Value×D×List Nat=>p.1) 0 L) (hz:zeroV P m.vt=some z):
  (Instr.lookup t (a.eval x) (a.eval k) ok).run P w= .ok (resV ok (((gget m.K L key).map (·.1)).getD z) (gget m.K L key).isSome) w:=by
 have hfind:=gfind_run (P:=P) (w:=w) (enc:=fun p:Value×D×List Nat=>p.1) g3 key L 0
 have hget:=gfind_get (K:=m.K) (B:=Value×D×List Nat) L key 0
 unfold Instr.lookup
 simp only[Sem.run_bind,run_underlying g2,Result.andThen_ok]
 rw[e1,hkv]
 simp only[Sem.run_bind,MapKept.run_getObj_map e2,Result.andThen_ok,Sem.run_pure,keyB_check (w:=w) g3,e4,hfind]
 rw[hget]
 cases hf:gfind m.K L key 0 with
 |none=>
  simp only[Option.map_none,Sem.run_bind,zeroV_run hz,Result.andThen_ok,Sem.run_pure]
  cases ok<;>rfl
 |some r=>
  simp only[Option.map_some]
  cases ok<;>rfl
theorem resA_rel{ok h:Bool}{y:AV}{u:Value}(hr:Rel E σ w β y u):Rel E σ w β (resA ok y h) (resV ok u h):=by
 cases ok with
 |false=>exact hr
 |true=>
  simp only[resA,resV,Rel]
  refine⟨[u,.bool h],rfl,?_⟩
  simp only[RelL]
  exact⟨_,_,rfl,hr,_,_,rfl,by simp[Rel],rfl⟩
theorem lend_brel {m:MTy} {d:DT} {xs:Gp m.K d.Den} {v u:Value} {n i r t:Nat} {σ':Gh} {β':List Value} {es:Array MapEntry} {L:Gp m.K (Value×d.Den×List Nat)} {F:List Nat} (e1:v= .map (some n)) (e2:w.heap[n]? =some (.map es xs.length)) (e3:σ n=t)
  (e4:es.toList=gents m.ka m.K (fun p:Value×d.Den×List Nat=>p.1) 0 L) (e5:xs=L.map (Option.map fun p=>(p.1,p.2.2.1))) (e7:Hold (fun u x G=> ∃cs,OneV m.va cs u∧RepD σ w d x cs G) σ w t (some n) (lnO none) (lkO β none) (L.map (Option.map (·.2))))
  (hq:(L[i]? =none∧F= [])∨∃k y,L[i]? =some (some (k,u,y,F))) (hr:β'[r]? =some u) (hF: ∀g,g∉F→σ' g=σ g) (he: ∃hi,Ev 1 hi σ w σ' w):BRel E σ' w β' t v (.mapD m d xs (some (i,r))):=by
 obtain⟨hi,he⟩:=he
 have hrl:r<β'.length:=(List.getElem?_eq_some_iff.1 hr).1
 have hat: ∀{k y},L[i]? =some (some (k,u,y,F))→(L.map (Option.map (·.2)))[i]? =some (some (u,y,F)):=fun{k y} h=>by rw[List.getElem?_map,h];rfl
 have hnF:n∉F:=by
  rcases hq with⟨_,rfl⟩|⟨k,y,h1⟩
  ·simp
  ·exact fun h=>(e7.nd i _ (hat h1)).2 n h rfl
 have hother: ∀j p g,j≠i→(L.map (Option.map (·.2)))[j]? =some p→g∈fpO p→g∉F:=by
  intro j p g hj hp hg hgF
  rcases hq with⟨_,rfl⟩|⟨k,y,h1⟩
  ·simp at hgF
  ·exact hj (e7.inj j i p _ g hp (hat h1) hg hgF)
 let L':Gp m.K (Value×d.Den×List Nat):=match L[i]? with
  |some (some (k,u',y,_))=>L.set i (some (k,u',y,[]))
  |_=>L
 have hL':(∀j,j≠i→L'[j]? =L[j]?)∧((L[i]? =none∧L'=L)∨∃k y,L[i]? =some (some (k,u,y,F))∧L'=L.set i (some (k,u,y,[]))):=by
  rcases hq with⟨h1,_⟩|⟨k,y,h1⟩
  ·have:L'=L:=by simp only[L',h1]
   exact⟨fun j _=>by rw[this],.inl ⟨h1,this⟩⟩
  ·have:L'=L.set i (some (k,u,y,[])):=by simp only[L',h1]
   exact⟨fun j hj=>by rw[this,List.getElem?_set,if_neg (fun e=>hj e.symm)],.inr ⟨k,y,h1,this⟩⟩
 have hmapL: ∀{X:Type} (f:m.K.Den×Value×d.Den×List Nat→X),(∀k u' x' G G',f (k,u',x',G)=f (k,u',x',G'))→L'.map (Option.map f)=L.map (Option.map f):=by
  intro X f hf
  rcases hL'.2 with⟨h1,h2⟩|⟨k,y,h1,h2⟩
  ·rw[h2]
  ·rw[h2]
   apply List.ext_getElem?
   intro j
   rw[List.getElem?_map,List.getElem?_map,List.getElem?_set]
   by_cases hj:i=j
   ·subst hj
    rw[if_pos rfl,if_pos (List.getElem?_eq_some_iff.1 h1).1,h1]
    simp only[Option.map_some]
    rw[hf k u y F []]
   ·rw[if_neg hj]
 refine⟨n,es,L',e1,e2,(hF n hnF).trans e3,?_,?_,fun i' b h=> ?_,?_⟩
 ·rw[e4,gents_map L',gents_map L,hmapL (fun p=>(p.1,p.2.1)) (fun _ _ _ _ _=>rfl)]
 ·rw[e5,hmapL (fun p=>(p.1,p.2.2.1)) (fun _ _ _ _ _=>rfl)]
 ·obtain⟨rfl,rfl⟩:=Prod.mk.inj (Option.some.inj h)
  exact hrl
 ·refine Hold.put (i:=i) (q:=((L'.map (Option.map (·.2)))[i]?).getD none) e7 (fun j h=>absurd h nolent) (fun j ⟨b',hb'⟩=>(Prod.mk.inj (Option.some.inj hb')).1.symm) ?_ (fun j hj=>by rw[List.getElem?_map,List.getElem?_map,hL'.1 j hj]) (fun j u' x' G hj hp hR=> ?_) (Nat.le_refl _) (fun j p g hj hp hg=> ?_) (fun hq2 u' x' G hz=>⟨fun _=> ?_,fun h=>absurd ⟨r,rfl⟩ h⟩) ?_ ?_ ?_
  ·cases hq:(L'.map (Option.map (·.2)))[i]? with
   |none=>exact .inl rfl
   |some p=>exact .inr (by simp)
  ·obtain⟨cs,r1,r2⟩:=hR
   exact⟨cs,r1,r2.ev he d fun _ _=>rfl⟩
  ·rw[hF g (hother j p g hj hp hg)]
   exact(e7.tag p (List.mem_of_getElem? hp) g hg).1
  ·rw[hz]at hq2
   rw[List.getElem?_map]at hq2
   rcases hL'.2 with⟨h1,h2⟩|⟨k,y,h1,h2⟩
   ·rw[h2,h1]at hq2;cases hq2
   ·rw[h2,List.getElem?_set,if_pos rfl,if_pos (List.getElem?_eq_some_iff.1 h1).1]at hq2
    simp only[Option.map_some,Option.some.injEq,Prod.mk.injEq]at hq2
    obtain⟨rfl,rfl,rfl⟩:=hq2
    exact⟨⟨i,r,rfl,hr⟩,rfl⟩
  all_goals
   have hfp:fpO (((L'.map (Option.map (·.2)))[i]?).getD none)= []:=by
    rw[List.getElem?_map]
    rcases hL'.2 with⟨h1,h2⟩|⟨k,y,h1,h2⟩
    ·rw[h2,h1];rfl
    ·rw[h2,List.getElem?_set,if_pos rfl,if_pos (List.getElem?_eq_some_iff.1 h1).1];rfl
   rw[hfp]
  ·intro g hg;simp at hg
  ·exact⟨List.nodup_nil,fun g hg=>by simp at hg⟩
  ·intro j p g _ _ _ hg;simp at hg
def Outs(P:Program)(E:Env)(σ:Gh)(β:List Value)(tm:List AV)(H:List AB)(a:Act)(w:World)(o:Oper){X:Type}(K:List AB→AV→Option X)(x:X):Prop:=
 OpGives P a.eval o w (fun v σ' w'=> ∃H' av τ' β',K H' av=some x∧HPres H H'∧(∃s,β'=β++s)∧EvT (Rng E) σ w σ' w'∧Conc E σ' τ' β' ⟨tm,H'⟩ a w'∧Rel E σ' w' β' av v)
omit [Dr] in
theorem lendH_pres{b:Nat}{x0 xl:AB}{d:DT}{y:d.Den}(hb:H[b]? =some x0)(hl: ∀z,x0≠ .lock z)(h9: ∀i,i<H.length→(unpackD d y (H.set b .gone)).2[i]? =(H.set b .gone)[i]?)(h8:H.length≤(unpackD d y (H.set b .gone)).2.length):HPres H (lendH b xl d y H):=by
 refine⟨by unfold lendH;simpa using h8,fun i z hz=> ?_⟩
 unfold lendH
 have hi:=(List.getElem?_eq_some_iff.1 hz).1
 have hne:b≠i:=fun e=>by subst e;rw[hb]at hz;exact hl z (Option.some.inj hz)
 rw[List.getElem?_set,if_neg hne,h9 i hi,List.getElem?_set,if_neg hne]
 exact hz
omit [Dr] in
theorem unpackD_pre: ∀(d:DT) (y:d.Den) (H:List AB),H.length≤(unpackD d y H).2.length∧∀i,i<H.length→(unpackD d y H).2[i]? =H[i]?
 | .flat T,y,H=>⟨Nat.le_refl _,fun _ _=>rfl⟩
 | .row T e,y,H=>⟨by simp[unpackD],fun i hi=>List.getElem?_append_left hi⟩
 | .map m,y,H=>⟨by simp[unpackD],fun i hi=>List.getElem?_append_left hi⟩
 | .rowD d e,y,H=>⟨by simp[unpackD],fun i hi=>List.getElem?_append_left hi⟩
 | .mapD m d,y,H=>⟨by simp[unpackD],fun i hi=>List.getElem?_append_left hi⟩
 | .opq o,y,H=>⟨by simp[unpackD],fun i hi=>List.getElem?_append_left hi⟩
 | .pair p q,y,H=>by
  obtain⟨h1,h2⟩:=unpackD_pre p y.1 H
  obtain⟨h3,h4⟩:=unpackD_pre q y.2 (unpackD p y.1 H).2
  exact⟨Nat.le_trans h1 h3,fun i hi=>(h4 i (Nat.lt_of_lt_of_le hi h1)).trans (h2 i hi)⟩
 | .ptr C d,y,H=>by
  obtain⟨h1,h2⟩:=unpackD_pre d y (H++ [.cells C (List.replicate d.sz .unk)])
  simp only[List.length_append,List.length_cons,List.length_nil]at h1 h2
  refine⟨by simp only[unpackD,List.length_set];omega,fun i hi=> ?_⟩
  simp only[unpackD]
  rw[List.getElem?_set,if_neg (by omega),h2 i (by omega),List.getElem?_append_left hi]
omit [Dr] in
theorem lend_pres{b:Nat}{x0 xl:AB}{d:DT}{y:d.Den}(hb:H[b]? =some x0)(hl: ∀z,x0≠ .lock z):HPres H (lendH b xl d y H):=by
 obtain⟨h1,h2⟩:=unpackD_pre d y (H.set b .gone)
 simp only[List.length_set]at h1 h2
 exact lendH_pres hb hl h2 h1
theorem lookM_sound{t:TypeId}{x k:Operand}{ok:Bool}{b:Nat}{m:MTy}{X:Type}{K:List AB→AV→Option X}{xx:X}(hC:Conc E σ τ β ⟨tm,H⟩ a w)(ho:o.op= .lookup t x k ok)(hx:Rel E σ w β (.map b) (a.eval x))(hk:Rel E σ w β (aeval tm k) (a.eval k)): ∀{d:DT} {xs:Gp m.K d.Den},H[b]? =some (.mapD m d xs none)→P.underlying t=some (.map m.kt m.vt)→keyB P m.ka m.kt m.K=true→
  lookM P H b (aeval tm k) ok X K m d xs=some xx→Outs P E σ β tm H a w o K xx:=by
 intro d xs g1 g2 g3 h
 simp only[Rel]at hx
 obtain⟨n,es,L,e1,e2,e3,e4,e5,e6,e7⟩:=hC.heap b _ _ g1 hx.1
 have hfin: ∀{key:m.K.Den} {z:Value},a.eval k=valF m.ka m.K key→zeroV P m.vt=some z→(execOp a.eval o).run P w= .ok (.value (resV ok (((gget m.K L key).map (·.1)).getD z) (gget m.K L key).isSome)) w:=fun{key z} hkv hz=>by
  have hl:=look_run (ok:=ok) g2 g3 e1 hkv e2 e4 hz
  simp only[execOp,ho,Sem.run_bind,Sem.run_map,hl]
  rfl
 have hgetX: ∀key:m.K.Den,gget m.K xs key=(gget m.K L key).map (·.2.1):=fun key=>by rw[e5];exact gget_map (fun p:Value×d.Den×List Nat=>p.2.1) L key
 have hposX: ∀key:m.K.Den,gpos m.K xs key=gpos m.K L key:=fun key=>by rw[e5];exact gpos_map (fun p:Value×d.Den×List Nat=>p.2.1) L key
 have hplace: ∀{key:m.K.Den} {p},gget m.K L key=some p→∃k',L[gpos m.K L key]? =some (some (k',p)):=fun h=>gget_at h
 have lend: ∀{key:m.K.Den} {z:Value} {u:Value} {y:d.Den} {F:List Nat},thg d=true→m.va=false→a.eval k=valF m.ka m.K key→zeroV P m.vt=some z→gget m.K L key=some (u,y,F)→K (lendH b (.mapD m d xs (some (gpos m.K xs key,H.length))) d y H) (resA ok (headV d H.length) true)=some xx→Outs P E σ β tm H a w o K xx:=by
  intro key z u y F ht hva hkv hz hg hK
  obtain⟨k',hp⟩:=hplace hg
  have hpP:(L.map (Option.map (·.2)))[gpos m.K L key]? =some (some (u,y,F)):=by rw[List.getElem?_map,hp];rfl
  obtain⟨cs,r1,r2⟩:=e7.own _ u y F hpP nolent
  rw[hva]at r1
  have r1:cs= [u]:=r1
  subst r1
  obtain⟨σ',τ',β',q1,q2,q3,q4⟩:=conc_lend (xl:= .mapD m d xs (some (gpos m.K xs key,H.length))) hC g1 rfl hx.1 ht r2 (e7.nd _ _ hpP).1 (fun g hg=>(e7.tag _ (List.mem_of_getElem? hpP) g hg).1)
   (fun σ' β' _ h2 h3 h4=>lend_brel e1 e2 e3 e4 e5 e7 (.inr ⟨k',y,by rw[hposX];exact hp⟩) h4 h2 h3)
  have hrun:=hfin hkv hz
  rw[hg]at hrun
  exact OpGives.val σ' hrun ⟨_,_,τ',β',hK,lend_pres g1 (fun _=>by simp),q1,q2,q3,resA_rel q4⟩
 have same: ∀{key:m.K.Den} {z:Value} {y:AV},a.eval k=valF m.ka m.K key→zeroV P m.vt=some z→Rel E σ w β y (((gget m.K L key).map (·.1)).getD z)→K H (resA ok y (gget m.K xs key).isSome)=some xx→Outs P E σ β tm H a w o K xx:=by
  intro key z y hkv hz hr hK
  have hrun:=hfin hkv hz
  refine OpGives.val σ hrun ⟨_,_,τ,β,hK,.refl _,⟨[],by simp⟩,.refl,hC,?_⟩
  have:(gget m.K xs key).isSome=(gget m.K L key).isSome:=by rw[hgetX,Option.isSome_map]
  rw[this]
  exact resA_rel hr
 have absent: ∀{key:m.K.Den} {z:Value},gget m.K xs key=none→a.eval k=valF m.ka m.K key→zeroV P m.vt=some z→K H (resA ok (.val z) false)=some xx→Outs P E σ β tm H a w o K xx:=by
  intro key z hn hkv hz hK
  have hnL:gget m.K L key=none:=by
   have:=hgetX key
   rw[hn]at this
   exact Option.map_eq_none_iff.1 this.symm
  exact same (y:= .val z) hkv hz (by rw[hnL];simp[Rel]) (by rw[hn];exact hK)
 have gen: ∀{key:m.K.Den} {z:Value},thg d=true→m.va=false→a.eval k=valF m.ka m.K key→zeroV P m.vt=some z→optS (gget m.K xs key) (fun y=>K (lendH b (.mapD m d xs (some (gpos m.K xs key,H.length))) d y H) (resA ok (headV d H.length) true)) (K H (resA ok (.val z) false))=some xx→Outs P E σ β tm H a w o K xx:=by
  intro key z ht hva hkv hz hK
  cases hg:gget m.K xs key with
  |none=>rw[hg]at hK;exact absent hg hkv hz hK
  |some y=>
   rw[hg]at hK
   simp only[optS]at hK
   rw[hgetX]at hg
   obtain⟨⟨u,y',F⟩,h1,h2⟩:=Option.map_eq_some_iff.1 hg
   simp only at h2
   subst h2
   exact lend ht hva hkv hz h1 hK
 have other:(∀V,d≠ .flat V)→(∀T e,d≠ .row T e)→(match thg d,decF m.ka m.K (aeval tm k),zeroV P m.vt,m.va with
  |true,some key,some z,false=>optS (gget m.K xs key) (fun y=>K (lendH b (.mapD m d xs (some (gpos m.K xs key,H.length))) d y H) (resA ok (headV d H.length) true)) (K H (resA ok (.val z) false))
  |_,_,_,_=>none)=some xx→Outs P E σ β tm H a w o K xx:=by
  intro _ _ h
  split at h
  case h_2=>cases h
  rename_i key z ht hkey hz hva
  exact gen ht hva (decF_rel hkey hk).2 hz h
 cases d with
 |flat V=>
  simp only[lookM]at h
  split at h
  case h_2=>cases h
  rename_i key z hkey hz
  unfold zeroD at hz
  split at hz
  case h_2=>cases hz
  rename_i zv hzv
  have hzr:RepV m.va V σ w z zv:=decV_rel (E:=E) (β:=β) (by simp[Rel]) hz
  refine same (decF_rel hkey hk).2 hzv ?_ h
  rw[hgetX]
  cases hg:gget m.K L key with
  |none=>exact encV_rel hzr
  |some p=>
   obtain⟨u,y,F⟩:=p
   obtain⟨k',hp⟩:=hplace hg
   obtain⟨cs,r1,r2⟩:=e7.own _ u y F (by rw[List.getElem?_map,hp];rfl) nolent
   simp only[RepD]at r2
   have:RepV m.va V σ w y u:=⟨cs,r2.1,r1⟩
   exact encV_rel this
 |row T e=>
  simp only[lookM]at h
  split at h
  case h_2=>cases h
  rename_i key hkey hz hva
  cases hg:gget m.K L key with
  |some p=>
   obtain⟨u,y,F⟩:=p
   rw[hgetX,hg]at h
   exact lend rfl hva (decF_rel hkey hk).2 hz hg h
  |none=>
   have hxn:gget m.K xs key=none:=by rw[hgetX,hg];rfl
   rw[hxn]at h
   have hrun:=hfin (decF_rel hkey hk).2 hz
   rw[hg]at hrun
   obtain⟨σ',τ',β',q1,q2,q3,q4⟩:=conc_lend (xl:= .mapD m (.row T e) xs (some (gpos m.K xs key,H.length))) (d:= .row T e) (y:= []) (u:= .slice none 0 0) (F:= []) hC g1 rfl hx.1 rfl (by simp only[RepD];exact⟨_,rfl,rfl,(own_f (t:=0) Own.nil).1⟩) List.nodup_nil (fun g hg=>by simp at hg)
    (fun σ' β' _ h2 h3 h4=>lend_brel e1 e2 e3 e4 e5 e7 (.inl ⟨by rw[hposX];exact gget_no hg,rfl⟩) h4 h2 h3)
   exact OpGives.val σ' hrun ⟨_,_,τ',β',h,lend_pres g1 (fun _=>by simp),q1,q2,q3,resA_rel q4⟩
 |map m'=>exact other (fun _=>by simp) (fun _ _=>by simp) h
 |pair p q=>exact other (fun _=>by simp) (fun _ _=>by simp) h
 |ptr C d=>exact other (fun _=>by simp) (fun _ _=>by simp) h
 |rowD d e=>exact other (fun _=>by simp) (fun _ _=>by simp) h
 |mapD m' d=>exact other (fun _=>by simp) (fun _ _=>by simp) h
 |opq o=>exact other (fun _=>by simp) (fun _ _=>by simp) h
theorem Outs.from{σ0:Gh}{H0:List AB}{X:Type}{K:List AB→AV→Option X}{x:X}(he:EvT (Rng E) σ0 w σ w)(hp:HPres H0 H)(h:Outs P E σ β tm H a w o K x):Outs P E σ0 β tm H0 a w o K x:=by
 refine OpGives.mono h ?_
 rintro v σ' w' ⟨H',av,τ',β',h1,h2,h3,h4,h5,h6⟩
 exact⟨H',av,τ',β',h1,hp.trans h2,h3,he.trans h4,h5,h6⟩
theorem lookD_sound{t:TypeId}{x k:Operand}{ok:Bool}{X:Type}{K:List AB→AV→Option X}{xx:X}(hC:Conc E σ τ β ⟨tm,H⟩ a w)(ho:o.op= .lookup t x k ok)(h:lookD P H t (aeval tm x) (aeval tm k) ok X K=some xx):Outs P E σ β tm H a w o K xx:=by
 unfold lookD at h
 split at h
 case h_2=>cases h
 rename_i b hab
 split at h
 case h_2=>cases h
 rename_i H1 hs
 split at h
 case h_2=>cases h
 rename_i m d xs hm
 obtain⟨g1,g2,g3⟩:=mapXD_some hm
 simp only at g1 g2 g3
 obtain⟨p1,σ',τ',p2,p3⟩:=settle_sound hC hs
 have hx:=aeval_rel p3 x
 have hk:=aeval_rel p3 k
 simp only at hx hk
 rw[hab]at hx
 exact Outs.from p2 p1 (lookM_sound p3 ho hx hk g1 g2 g3 h)
/-! ### updates -/
omit [Dr] in
theorem upd_run {t:TypeId} {x k v:Operand} {m:MTy} {D:Type} {n:Nat} {es:Array MapEntry} {L:Gp m.K (Value×D×List Nat)} {key:m.K.Den} {q:Value×D×List Nat} (g2:P.underlying t=some (.map m.kt m.vt)) (g3:keyB P m.ka m.kt m.K=true) (hfk:flatT m.K=true) (e1:a.eval x= .map (some n)) (hkv:a.eval k=valF m.ka m.K key)
  (e2:w.heap[n]? =some (.map es L.length)) (e4:es.toList=gents m.ka m.K (fun p:Value×D×List Nat=>p.1) 0 L) (hq:q.1=a.eval v):
  ∃es',es'.toList=gents m.ka m.K (fun p:Value×D×List Nat=>p.1) 0 (gset m.K L key q)∧(Instr.mapUpdate t (a.eval x) (a.eval k) (a.eval v)).run P w= .ok () {w with heap:=w.heap.setIfInBounds n (.map es' (gset m.K L key q).length)}:=by
 have hfind:=gfind_run (P:=P) (w:=w) (enc:=fun p:Value×D×List Nat=>p.1) g3 key L 0
 rw[←e4]at hfind
 cases hf:gfind m.K L key 0 with
 |none=>
  obtain⟨h1,h2⟩:=gents_new (ka:=m.ka) (enc:=fun p:Value×D×List Nat=>p.1) (j:=0) q hf
  refine⟨es.push ⟨valF m.ka m.K key,a.eval v,L.length⟩,by rw[Array.toList_push,e4,h1,hq];simp,?_⟩
  rw[hf]at hfind
  unfold Instr.mapUpdate
  rw[e1,hkv]
  simp only[Sem.run_bind,run_underlying g2,MapKept.run_getObj_map e2,keyB_check (w:=w) g3,hfind,Result.andThen_ok,Option.map_none,run_setMap _ e2,h2]
 |some r=>
  obtain⟨i,v0⟩:=r
  have hf':gfind m.K L key 0=some (0+i,v0):=by rw[Nat.zero_add];exact hf
  obtain⟨h1,h2,h3⟩:=gents_hit (ka:=m.ka) (enc:=fun p:Value×D×List Nat=>p.1) (j:=0) q hfk hf'
  have ei:es[i]? =(gents m.ka m.K (fun p:Value×D×List Nat=>p.1) 0 L)[i]? :=by rw[←e4,Array.getElem?_toList]
  have h0:(((es[i]?).map (·.key)).getD (valF m.ka m.K key)=valF m.ka m.K key):=by rw[ei,h3];rfl
  refine⟨es.modify i fun e=>{e with key:=valF m.ka m.K key,val:=a.eval v},by rw[Array.toList_modify,e4,h1,hq],?_⟩
  rw[hf]at hfind
  unfold Instr.mapUpdate
  rw[e1,hkv]
  simp only[Sem.run_bind,run_underlying g2,MapKept.run_getObj_map e2,keyB_check (w:=w) g3,hfind,Result.andThen_ok,Option.map_some,h0,keyB_stays (w:=w) g3,run_setMap _ e2,h2]
theorem upd_brel {m:MTy} {d:DT} {xs:Gp m.K d.Den} {key:m.K.Den} {v u:Value} {y:d.Den} {n t:Nat} {l l':Option (Nat×Nat)} {es es':Array MapEntry} {L:Gp m.K (Value×d.Den×List Nat)} (h1t:1≤t) (hfk:flatT m.K=true) (e1:v= .map (some n)) (e2:w.heap[n]? =some (.map es xs.length)) (e3:σ n=t) (e5:xs=L.map (Option.map fun p=>(p.1,p.2.2.1)))
  (e7:Hold (fun u x G=> ∃cs,OneV m.va cs u∧RepD σ w d x cs G) σ w t (some n) (lnO l) (lkO β l) (L.map (Option.map (·.2)))) (he:es'.toList=gents m.ka m.K (fun p:Value×d.Den×List Nat=>p.1) 0 (gset m.K L key (u,y,[])))
  (hl: ∀j,lnO l j→j=gpos m.K L key) (hl':(l'=none∧∀σ1 w1,Ev 1 (t+1) σ w σ1 w1→∃cs,OneV m.va cs u∧RepD σ1 w1 d y cs [])∨∃r,l'=some (gpos m.K L key,r)∧β[r]? =some u):
  BRel E σ {w with heap:=w.heap.setIfInBounds n (.map es' (gset m.K L key (u,y,[])).length)} β t v (.mapD m d (gset m.K xs key y) l'):=by
 have hnlt:=(Array.getElem?_eq_some_iff.1 e2).1
 have hother: ∀q,q≠n→({w with heap:=w.heap.setIfInBounds n (.map es' (gset m.K L key (u,y,[])).length)}:World).heap[q]? =w.heap[q]? :=fun q hq=>by
  show(w.heap.setIfInBounds n _)[q]? =w.heap[q]?
  rw[Array.getElem?_setIfInBounds,if_neg (fun e=>hq e.symm)]
 have hsetL:gset m.K xs key y=(gset m.K L key (u,y,[])).map (Option.map fun p=>(p.1,p.2.2.1)):=by
  rw[e5];exact gset_map (fun p:Value×d.Den×List Nat=>p.2.1) L key (u,y,[])
 have hev:Ev 1 (t+1) σ w σ {w with heap:=w.heap.setIfInBounds n (.map es' (gset m.K L key (u,y,[])).length)}:=by
  refine⟨rfl,rfl,rfl,fun _=>Nat.le_refl _,by show w.heap.size≤(w.heap.setIfInBounds n _).size;simp,fun b hb hn=>⟨rfl,hother b fun e=>hn ?_⟩⟩
  subst e
  rw[e3]
  omega
 obtain⟨k',hk'⟩:=gset_self L key (u,y,([]:List Nat))
 refine⟨n,es',gset m.K L key (u,y,[]),e1,?_,e3,he,hsetL,fun i b h=> ?_,?_⟩
 ·show(w.heap.setIfInBounds n _)[n]? =_
  rw[Array.getElem?_setIfInBounds,hsetL]
  simp[hnlt]
 ·rcases hl' with⟨rfl,_⟩|⟨r,rfl,hr⟩
  ·cases h
  ·obtain⟨rfl,rfl⟩:=Prod.mk.inj (Option.some.inj h)
   exact(List.getElem?_eq_some_iff.1 hr).1
 ·refine Hold.put (i:=gpos m.K L key) (q:=some (u,y,[])) e7 hl (fun j hj=> ?_) (.inr (by rw[List.getElem?_map,hk'];rfl)) (fun j hj=>by rw[List.getElem?_map,List.getElem?_map,gset_other L key _ j hj]) (fun j u' x' G hj hp hR=> ?_) hev.size (fun j p g hj hp hg=>(e7.tag p (List.mem_of_getElem? hp) g hg).1) (fun _ u' x' G hz=> ?_) (fun g hg=>by simp[fpO]at hg) ⟨List.nodup_nil,fun g hg=>by simp[fpO]at hg⟩ (fun j p g _ _ _ hg=>by simp[fpO]at hg)
  ·rcases hl' with⟨rfl,_⟩|⟨r,rfl,hr⟩
   ·exact absurd hj nolent
   ·obtain⟨b',hb'⟩:=hj
    exact(Prod.mk.inj (Option.some.inj hb')).1.symm
  ·obtain⟨cs,r1,r2⟩:=hR
   exact⟨cs,r1,r2.ev hev d fun g hg=>hother g fun e=>(e7.nd j _ hp).2 g hg (by rw[e])⟩
  ·simp only[Option.some.injEq,Prod.mk.injEq]at hz
   obtain⟨rfl,rfl,rfl⟩:=hz
   rcases hl' with⟨rfl,h2⟩|⟨r,rfl,hr⟩
   ·exact⟨fun h=>absurd h nolent,fun _=>h2 _ _ hev⟩
   ·exact⟨fun _=>⟨⟨_,r,rfl,hr⟩,rfl⟩,fun h=>absurd ⟨r,rfl⟩ h⟩
omit [Dr] in
theorem setG_gset{K:Ty}{B:Type}: ∀(L:Gp K B) (k:K.Den) (v:B),setG (gpos K L k) v (gset K L k v)=gset K L k v:=by
 intro L k v
 obtain⟨k',h⟩:=gset_self L k v
 unfold setG
 rw[h]
 simp only
 apply List.ext_getElem?
 intro j
 rw[List.getElem?_set]
 by_cases hj:gpos K L k=j
 ·subst hj
  rw[if_pos rfl,if_pos (List.getElem?_eq_some_iff.1 h).1,h]
 ·rw[if_neg hj]
theorem updM_sound{t:TypeId}{x k v:Operand}{b:Nat}{m:MTy}{H':List AB}(hC:Conc E σ τ β ⟨tm,H⟩ a w)(ho:o.op= .mapUpdate t x k v)(hx:Rel E σ w β (.map b) (a.eval x))(hk:Rel E σ w β (aeval tm k) (a.eval k))(hv:Rel E σ w β (aeval tm v) (a.eval v)): ∀{d:DT} {xs:Gp m.K d.Den} {l:Option (Nat×Nat)},H[b]? =some (.mapD m d xs l)→P.underlying t=some (.map m.kt m.vt)→keyB P m.ka m.kt m.K=true→
  updM H b (aeval tm k) (aeval tm v) m d xs l=some (true,H')→HPres H H'∧OpOut P E σ β tm a w o H' .unk:=by
 intro d xs l g1 g2 g3 h
 simp only[Rel]at hx
 obtain⟨n,es,L,e1,e2,e3,e4,e5,e6,e7⟩:=hC.heap b _ _ g1 hx.1
 have hKb:=hC.apart b _ g1 rfl
 have h1t:1≤τ b:=Nat.one_le_iff_ne_zero.2 fun e=>hKb (e▸E.sub _ (.inl E.nought))
 have hxl:xs.length=L.length:=by rw[e5];simp
 have hposX: ∀key:m.K.Den,gpos m.K xs key=gpos m.K L key:=fun key=>by rw[e5];exact gpos_map (fun p:Value×d.Den×List Nat=>p.2.1) L key
 have step: ∀{key:m.K.Den} {y:d.Den} {l':Option (Nat×Nat)},flatT m.K=true→a.eval k=valF m.ka m.K key→(∀j,lnO l j→j=gpos m.K L key)→
   ((l'=none∧∀σ1 w1,Ev 1 (τ b+1) σ w σ1 w1→∃cs,OneV m.va cs (a.eval v)∧RepD σ1 w1 d y cs [])∨∃r,l'=some (gpos m.K L key,r)∧β[r]? =some (a.eval v))→
   ∃w',(execOp a.eval o).run P w= .ok .skip w'∧EvT (Rng E) σ w σ w'∧Conc E σ τ β ⟨tm,H.set b (.mapD m d (gset m.K xs key y) l')⟩ a w':=by
  intro key y l' hfk hkv hl hl'
  obtain⟨es',f1,f2⟩:=upd_run (q:=(a.eval v,y,[])) g2 g3 hfk e1 hkv (by rw[←hxl];exact e2) e4 rfl
  have hev:EvT (fun t=>t=τ b) σ w σ {w with heap:=w.heap.setIfInBounds n (.map es' (gset m.K L key (a.eval v,y,[])).length)}:=by
   have h0:=ev_map (σ:=σ) (es':=es') (c':=(gset m.K L key (a.eval v,y,[])).length) e2
   exact h0.mono (fun s hs=>hs.trans e3)
  refine⟨_,?_,hev.mono (fun t e hk=>hKb (e▸hk)),Conc.put hC g1 rfl hx.1 hev (upd_brel h1t hfk e1 e2 e3 e5 e7 f1 hl hl')⟩
  simp only[execOp,ho,Sem.run_bind,Sem.run_map,f2]
  rfl
 have thing: ∀{key:m.K.Den} {r:Nat} {y:d.Den} {H2:List AB},thg d=true→m.va=false→flatT m.K=true→a.eval k=valF m.ka m.K key→headB (aeval tm v)=some r→packD d [aeval tm v] (H.set b .gone)=some (y,[],H2)→(∀j,lnO l j→j=gpos m.K L key)→∃w',(execOp a.eval o).run P w= .ok .skip w'∧EvT (Rng E) σ w σ w'∧Conc E σ τ β ⟨tm,H.set b (.mapD m d (gset m.K xs key y) (some (gpos m.K xs key,r)))⟩ a w':=by
  intro key r y H2 ht hva hfk hkv hr hp hl
  rw[hposX]
  exact step hfk hkv hl (.inr ⟨r,rfl,head_get hr hv⟩)
 have fin: ∀{key:m.K.Den} {r:Nat} {y:d.Den} {H2:List AB},thg d=true→m.va=false→flatT m.K=true→a.eval k=valF m.ka m.K key→headB (aeval tm v)=some r→packD d [aeval tm v] (H.set b .gone)=some (y,[],H2)→(∀j,lnO l j→j=gpos m.K L key)→HPres H (H2.set b (.mapD m d (gset m.K xs key y) none))∧OpOut P E σ β tm a w o (H2.set b (.mapD m d (gset m.K xs key y) none)) .unk:=by
  intro key r y H2 ht hva hfk hkv hr hp hl
  obtain⟨w',r1,r2,r3⟩:=thing ht hva hfk hkv hr hp hl
  have hlt:b<H.length:=(List.getElem?_eq_some_iff.1 g1).1
  have hhv:aeval tm v=headV d r:=head_eq ht hr hp
  have hs:settle b (H.set b (.mapD m d (gset m.K xs key y) (some (gpos m.K xs key,r))))=some (H2.set b (.mapD m d (gset m.K xs key y) none)):=by
   unfold settle
   rw[List.getElem?_set,if_pos rfl,if_pos hlt]
   simp only[List.set_set]
   rw[ht,hva,←hhv,hp]
   simp only[setG_gset]
  obtain⟨q1,σ',τ',q2,q3⟩:=settle_sound r3 hs
  exact⟨(HPres.set g1 (fun _=>by simp)).trans q1,OpGives.unit σ' r1 ⟨τ',β,⟨[],by simp⟩,r2.trans q2,q3,by simp[Rel]⟩⟩
 have main:updT_ H b (aeval tm k) (aeval tm v) m d xs l=some (true,H')→HPres H H'∧OpOut P E σ β tm a w o H' .unk:=by
  intro h
  obtain⟨key,r,y,H2,ht,hva,hkey,hr,hp,h⟩:=updT_some h
  obtain⟨hfk,hkv⟩:=decF_rel hkey hk
  unfold updI at h
  cases hpb:ptrB d with
  |true=>
   rw[hpb]at h
   cases l with
   |none=>
    simp only[Option.some.injEq,Prod.mk.injEq,true_and]at h
    subst h
    obtain⟨w',r1,r2,r3⟩:=thing ht hva hfk hkv hr hp (fun j hj=>absurd hj nolent)
    exact⟨HPres.set g1 (fun _=>by simp),OpGives.unit σ r1 ⟨τ,β,⟨[],by simp⟩,r2,r3,by simp[Rel]⟩⟩
   |some q=>cases h
  |false=>
   rw[hpb]at h
   cases l with
   |none=>
    simp only[Option.some.injEq,Prod.mk.injEq,true_and]at h
    subst h
    exact fin ht hva hfk hkv hr hp (fun j hj=>absurd hj nolent)
   |some q=>
    simp only[Option.some.injEq,Prod.mk.injEq]at h
    obtain⟨h1,rfl⟩:=h
    refine fin ht hva hfk hkv hr hp ?_
    rintro j ⟨b',hb'⟩
    obtain rfl:=Option.some.inj hb'
    rw[←hposX]
    exact(Nat.eq_of_beq_eq_true h1).symm
 cases d with
 |flat V=>
  cases l with
  |some q=>exact main (by rw[updM]at h;exact h;simp)
  |none=>
   simp only[updM]at h
   split at h
   case h_2=>cases h
   rename_i key y hkey hy
   simp only[Option.some.injEq,Prod.mk.injEq,true_and]at h
   subst h
   obtain⟨hfk,hkv⟩:=decF_rel hkey hk
   obtain⟨cs,c1,c2⟩:=decV_rel hv hy
   obtain⟨w',r1,r2,r3⟩:=step (key:=key) (y:=y) (l':=none) hfk hkv (fun j hj=>absurd hj nolent) (.inl ⟨rfl,fun σ1 w1 hev=>⟨cs,c2,by simp only[RepD];exact⟨repTy_ev V c1 hev (Nat.le_refl 1),trivial⟩⟩⟩)
   exact⟨HPres.set g1 (fun _=>by simp),OpGives.unit σ r1 ⟨τ,β,⟨[],by simp⟩,r2,r3,by simp[Rel]⟩⟩
 |row T e=>exact main (by rw[updM]at h;exact h;all_goals simp)
 |map m'=>exact main (by rw[updM]at h;exact h;all_goals simp)
 |pair p q=>exact main (by rw[updM]at h;exact h;all_goals simp)
 |ptr C d=>exact main (by rw[updM]at h;exact h;all_goals simp)
 |rowD d e=>exact main (by rw[updM]at h;exact h;all_goals simp)
 |mapD m' d=>exact main (by rw[updM]at h;exact h;all_goals simp)
 |opq o=>exact main (by rw[updM]at h;exact h;all_goals simp)
theorem del_brel {m:MTy} {d:DT} {xs:Gp m.K d.Den} {key:m.K.Den} {v:Value} {n t:Nat} {es es':Array MapEntry} {L:Gp m.K (Value×d.Den×List Nat)} (h1t:1≤t) (e1:v= .map (some n)) (e2:w.heap[n]? =some (.map es xs.length)) (e3:σ n=t) (e5:xs=L.map (Option.map fun p=>(p.1,p.2.2.1)))
  (e7:Hold (fun u x G=> ∃cs,OneV m.va cs u∧RepD σ w d x cs G) σ w t (some n) (lnO none) (lkO β none) (L.map (Option.map (·.2)))) (he:es'.toList=gents m.ka m.K (fun p:Value×d.Den×List Nat=>p.1) 0 (gdel m.K L key)):
  BRel E σ {w with heap:=w.heap.setIfInBounds n (.map es' xs.length)} β t v (.mapD m d (gdel m.K xs key) none):=by
 have hnlt:=(Array.getElem?_eq_some_iff.1 e2).1
 have hother: ∀q,q≠n→({w with heap:=w.heap.setIfInBounds n (.map es' xs.length)}:World).heap[q]? =w.heap[q]? :=fun q hq=>by
  show(w.heap.setIfInBounds n _)[q]? =w.heap[q]?
  rw[Array.getElem?_setIfInBounds,if_neg (fun e=>hq e.symm)]
 have hev:Ev 1 (t+1) σ w σ {w with heap:=w.heap.setIfInBounds n (.map es' xs.length)}:=by
  refine⟨rfl,rfl,rfl,fun _=>Nat.le_refl _,by show w.heap.size≤(w.heap.setIfInBounds n _).size;simp,fun b hb hn=>⟨rfl,hother b fun e=>hn ?_⟩⟩
  subst e
  rw[e3]
  omega
 have hdL:gdel m.K xs key=(gdel m.K L key).map (Option.map fun p=>(p.1,p.2.2.1)):=by
  rw[e5];exact gdel_map (fun p:Value×d.Den×List Nat=>p.2.1) L key
 have hd: ∀j,(gdel m.K L key)[j]? =L[j]? ∨(gdel m.K L key)[j]? =some none:=fun j=>gdel_at L key j
 have hat: ∀j p,((gdel m.K L key).map (Option.map (·.2)))[j]? =some (some p)→(L.map (Option.map (·.2)))[j]? =some (some p):=fun j p hp=>by
  rw[List.getElem?_map]at hp⊢
  rcases hd j with h|h
  ·rw[←h];exact hp
  ·rw[h]at hp;cases hp
 refine⟨n,es',gdel m.K L key,e1,?_,e3,he,hdL,(fun i b h=>nomatch h),fun j u x G hp _=> ?_,fun j u x G hp h=>absurd h nolent,fun p hp g hg=> ?_,fun j p hp=> ?_,fun i j p q g hp hq hg hg'=> ?_⟩
 ·show(w.heap.setIfInBounds n _)[n]? =_
  rw[Array.getElem?_setIfInBounds,gdel_len]
  simp[hnlt]
 ·obtain⟨cs,r1,r2⟩:=e7.own j u x G (hat j _ hp) nolent
  exact⟨cs,r1,r2.ev hev d fun g hg=>hother g fun e=>(e7.nd j _ (hat j _ hp)).2 g hg (by rw[e])⟩
 ·obtain⟨j,hj⟩:=List.mem_iff_getElem?.1 hp
  cases p with
  |none=>simp[fpO]at hg
  |some p=>
   obtain⟨t1,t2⟩:=e7.tag _ (List.mem_of_getElem? (hat j p hj)) g hg
   exact⟨t1,Nat.lt_of_lt_of_le t2 hev.size⟩
 ·cases p with
  |none=>exact⟨List.nodup_nil,fun g hg=>by simp[fpO]at hg⟩
  |some p=>exact e7.nd j _ (hat j p hp)
 ·cases p with
  |none=>simp[fpO]at hg
  |some p=>
   cases q with
   |none=>simp[fpO]at hg'
   |some q=>exact e7.inj i j _ _ g (hat i p hp) (hat j q hq) hg hg'
theorem delD_sound{t t2:TypeId}{x k:Operand}{H':List AB}(hC:Conc E σ τ β ⟨tm,H⟩ a w)(ho:o.op= .call {callee:= .builtin .delete,args:= #[x,k],argTypes:= #[t,t2]})(h:delD P H t (aeval tm x) (aeval tm k)=some H'):HPres H H'∧OpOut P E σ β tm a w o H' (.tup []):=by
 unfold delD at h
 split at h
 case h_2=>cases h
 rename_i b hab
 split at h
 case h_2=>cases h
 rename_i H1 hs
 split at h
 case h_2=>cases h
 rename_i m d xs hm
 split at h
 case h_2=>cases h
 rename_i key hkey
 obtain rfl:=Option.some.inj h
 obtain⟨g1,g2,g3⟩:=mapXD_some hm
 simp only at g1 g2 g3
 obtain⟨p1,σ',τ',p2,hC1⟩:=settle_sound hC hs
 have hx:=aeval_rel hC1 x
 have hk:=aeval_rel hC1 k
 simp only at hx hk
 rw[hab]at hx
 simp only[Rel]at hx
 obtain⟨hfk,hkv⟩:=decF_rel hkey hk
 obtain⟨n,es,L,e1,e2,e3,e4,e5,e6,e7⟩:=hC1.heap b _ _ g1 hx.1
 have hKb:=hC1.apart b _ g1 rfl
 have h1t:1≤τ' b:=Nat.one_le_iff_ne_zero.2 fun e=>hKb (e▸E.sub _ (.inl E.nought))
 have hfind:=gfind_run (P:=P) (w:=w) (enc:=fun p:Value×d.Den×List Nat=>p.1) g3 key L 0
 rw[←e4]at hfind
 refine⟨p1.trans (.set g1 (fun _=>by simp)),?_⟩
 have fin: ∀(es':Array MapEntry),es'.toList=gents m.ka m.K (fun p:Value×d.Den×List Nat=>p.1) 0 (gdel m.K L key)→(Builtin.delete_ #[t,t2] o.type #[a.eval x,a.eval k]).run P w= .ok (.tuple #[]) {w with heap:=w.heap.setIfInBounds n (.map es' xs.length)}→OpOut P E σ β tm a w o (H1.set b (.mapD m d (gdel m.K xs key) none)) (.tup []):=by
  intro es' he hrun
  have hev:EvT (fun t=>t=τ' b) σ' w σ' {w with heap:=w.heap.setIfInBounds n (.map es' xs.length)}:=by
   have h0:=ev_map (σ:=σ') (es':=es') (c':=xs.length) e2
   exact h0.mono (fun s hs=>hs.trans e3)
  refine OpGives.val σ' (v:= .tuple #[]) ?_ ⟨τ',β,⟨[],by simp⟩,p2.trans (hev.mono (fun t e hk=>hKb (e▸hk))),Conc.put hC1 g1 rfl hx.1 hev (del_brel h1t e1 e2 e3 e5 e7 he),?_⟩
  ·simp[execOp,ho,resolve,invoke,builtin,hrun]
  ·simp only[Rel];exact⟨[],rfl,by simp[RelL]⟩
 cases hf:gfind m.K L key 0 with
 |none=>
  refine fin es (by rw[gdel_new hf,e4]) ?_
  rw[hf]at hfind
  unfold Builtin.delete_
  rw[e1,hkv]
  simp[run_underlying g2,MapKept.run_getObj_map e2,keyB_check (w:=w) g3,hfind,run_setMap _ e2]
 |some r=>
  obtain⟨i,v0⟩:=r
  have hd:=gdel_hit (ka:=m.ka) (enc:=fun p:Value×d.Den×List Nat=>p.1) (j:=0) (i:=0) (n:=i) (xs:=L) (k:=key) (v:=v0) (by rw[Nat.zero_add];exact hf)
  have hlen:i<es.size:=by
   have:=(gents_hit (ka:=m.ka) (enc:=fun p:Value×d.Den×List Nat=>p.1) (j:=0) (i:=0) (n:=i) v0 hfk (by rw[Nat.zero_add];exact hf)).2.2
   obtain⟨e,he,_⟩:=Option.map_eq_some_iff.1 this
   rw[←e4]at he
   simpa using(List.getElem?_eq_some_iff.1 he).1
  refine fin (es.eraseIdxIfInBounds i) (by rw[Array.eraseIdxIfInBounds,dif_pos hlen,Array.toList_eraseIdx,e4,hd]) ?_
  rw[hf]at hfind
  unfold Builtin.delete_
  rw[e1,hkv]
  simp[run_underlying g2,MapKept.run_getObj_map e2,keyB_check (w:=w) g3,hfind,run_setMap _ e2]
theorem mlenXD_sound{t:TypeId}{x:Operand}{y:AV}(hC:Conc E σ τ β ⟨tm,H⟩ a w)(ho:o.op= .call {callee:= .builtin .len,args:= #[x],argTypes:= #[t]})(h:mlenXD P H t (aeval tm x)=some y):OpOut P E σ β tm a w o H y:=by
 have hx:=aeval_rel hC x
 unfold mlenXD at h
 split at h
 case h_2=>cases h
 rename_i b hab
 rw[hab]at hx
 split at h
 case h_2=>
  split at h
  case h_2=>cases h
  rename_i q m xs kt vt hl hu
  obtain rfl:=Option.some.inj h
  simp only[Rel]at hx
  obtain⟨n,es,bs,e1,e2,e3,_,e4,_⟩:=hC.look hl hx.1
  have hl:es.size=glen m.K xs:=by rw[←Array.length_toList,e4,glen_ents]
  refine OpOut.same hC (v:= .int .i64 (glen m.K xs)) ?_ (by simp[Rel])
  simp[execOp,ho,resolve,invoke,builtin,e1,Builtin.len_,run_underlying hu,goInt,MapKept.run_getObj_map e2,hl]
 rename_i m d xs l hm
 obtain⟨g1,g2,g3⟩:=mapXD_some hm
 simp only at g1 g2 g3
 obtain rfl:=Option.some.inj h
 simp only[Rel]at hx
 obtain⟨n,es,L,e1,e2,e3,e4,e5,e6,e7⟩:=hC.look g1 hx.1
 have hl:es.size=glen m.K xs:=by
  rw[←Array.length_toList,e4,glen_ents,e5]
  exact(glen_map (fun p:Value×d.Den×List Nat=>p.2.1) L).symm
 refine OpOut.same hC (v:= .int .i64 (glen m.K xs)) ?_ (by simp[Rel])
 simp[execOp,ho,resolve,invoke,builtin,e1,Builtin.len_,run_underlying g2,goInt,MapKept.run_getObj_map e2,hl]
theorem makeXD_sound{t:TypeId}{m:MTy}{d:DT}(hC:Conc E σ τ β ⟨tm,H⟩ a w)(ho:o.op= .makeMap t none):OpOut P E σ β tm a w o (H++ [.mapD m d [] none]) (.map H.length):=by
 have hsz:=hC.size
 simp only at hsz
 obtain⟨t',hP,ht⟩:=conc_fresh hC
 have hev:EvT (fun _=>False) σ w (upd σ w.heap.size t') {w with heap:=w.heap.push (.map #[] 0)}:=by
  refine⟨rfl,rfl,rfl,fun _=>Nat.le_refl _,by simp,fun b hb _=>⟨?_,?_⟩⟩
  ·simp[upd,Nat.ne_of_lt hb]
  ·show(w.heap.push _)[b]? =w.heap[b]?
   rw[Array.getElem?_push]
   rw[if_neg (Nat.ne_of_lt hb)]
 have hpre: ∃s,β++ [Value.map (some w.heap.size)]=β++s:=⟨_,rfl⟩
 refine OpGives.val (upd σ w.heap.size t') (v:= .map (some w.heap.size)) (w':={w with heap:=w.heap.push (.map #[] 0)}) ?_ ⟨_,β++ [.map (some w.heap.size)],hpre,hev.mono (fun _ h=>h.elim),conc_new hC (hev.mono (fun _ h=>h.elim)) hP ht ?_,?_⟩
 ·simp[execOp,ho,Instr.makeMap,newObj,Sem.run]
 ·refine⟨w.heap.size,#[],[],rfl,by simp,by simp[upd],rfl,rfl,(fun i b h=>nomatch h),fun i u x G h=> ?_,fun i u x G h=> ?_,fun p h=> ?_,fun i p h=> ?_,fun i j p q g h=> ?_⟩<;>simp at h
 ·simp only[Rel]
  exact⟨by rw[←hsz];simp,rfl⟩
theorem updD_sound{t:TypeId}{x k v:Operand}{H':List AB}(hC:Conc E σ τ β ⟨tm,H⟩ a w)(ho:o.op= .mapUpdate t x k v)(h:updD P H t (aeval tm x) (aeval tm k) (aeval tm v)=some (true,H')):HPres H H'∧OpOut P E σ β tm a w o H' .unk:=by
 unfold updD at h
 split at h
 case h_2=>cases h
 rename_i b hab
 have hH1: ∃σ1 τ1,HPres H ((settle b H).getD H)∧EvT (Rng E) σ w σ1 w∧Conc E σ1 τ1 β ⟨tm,(settle b H).getD H⟩ a w:=by
  cases hs:settle b H with
  |none=>exact⟨σ,τ,.refl _,.refl,hC⟩
  |some H1=>
   obtain⟨p1,σ',τ',p2,p3⟩:=settle_sound hC hs
   exact⟨σ',τ',p1,p2,p3⟩
 obtain⟨σ1,τ1,p1,p2,hC1⟩:=hH1
 split at h
 case h_2=>cases h
 rename_i m d xs l hm
 obtain⟨g1,g2,g3⟩:=mapXD_some hm
 simp only at g1 g2 g3
 have hx:=aeval_rel hC1 x
 have hk:=aeval_rel hC1 k
 have hv:=aeval_rel hC1 v
 simp only at hx hk hv
 rw[hab]at hx
 obtain⟨q1,q2⟩:=updM_sound hC1 ho hx hk hv g1 g2 g3 h
 refine⟨p1.trans q1,OpGives.mono q2 ?_⟩
 rintro u σ' w' ⟨τ',β',r1,r2,r3,r4⟩
 exact⟨τ',β',r1,p2.trans r2,r3,r4⟩
theorem conc_frzD{b:Nat}{m:MTy}{T:Ty}{e:TypeId}{xs:Gp m.K (List T.Den)}(hva:m.va=false)(hC:Conc E σ τ β ⟨tm,H⟩ a w)(hb:H[b]? =some (.mapD m (.row T e) xs none))(hv:b<β.length):
  ∃σ',EvT (Rng E) σ w σ' w∧Conc E σ' τ β ⟨tm,H.set b (.mapD m (.flat (.slice T)) xs none)⟩ a w:=by
 obtain⟨v,hv⟩: ∃v,β[b]? =some v:=⟨_,List.getElem?_eq_getElem hv⟩
 obtain⟨n,es,L,e1,e2,e3,e4,e5,e6,e7⟩:=hC.heap b _ _ hb hv
 have hKb:=hC.apart b _ hb rfl
 have hev:EvT (fun s=>s=τ b) σ w (fun q=>if σ q=τ b∧q≠n then 0 else σ q) w:=⟨rfl,rfl,rfl,fun _=>Nat.le_refl _,Nat.le_refl _,fun q hq hn=>⟨if_neg (fun h=>hn h.1),rfl⟩⟩
 have hT0: ¬(0:Nat)=τ b:=fun e=>hKb (e▸E.sub _ (.inl E.nought))
 obtain⟨hi,hev1⟩:=hev.ev1 hT0
 refine⟨_,hev.mono (fun s h hk=>hKb (h▸hk)),Conc.put hC hb rfl hv hev ?_⟩
 let L':Gp m.K (Value×(List T.Den)×List Nat):=L.map (Option.map fun p=>(p.1,p.2.1,p.2.2.1,([]:List Nat)))
 have hat: ∀(i:Nat) q,(L'.map (Option.map (·.2)))[i]? =some (some q)→∃G,(L.map (Option.map (·.2)))[i]? =some (some (q.1,q.2.1,G))∧q.2.2= []:=fun i q hq=>by
  simp only[L']at hq
  rw[List.getElem?_map,List.getElem?_map]at hq
  rw[List.getElem?_map]
  cases h:L[i]? with
  |none=>rw[h]at hq;cases hq
  |some p=>
   rw[h]at hq
   cases p with
   |none=>cases hq
   |some p=>
    simp only[Option.map_some,Option.some.injEq]at hq
    subst hq
    exact⟨p.2.2.2,rfl,rfl⟩
 have hfp: ∀p∈L'.map (Option.map (·.2)),fpO p= []:=fun p hp=>by
  obtain⟨i,hi⟩:=List.mem_iff_getElem?.1 hp
  cases p with
  |none=>rfl
  |some q=>obtain⟨G,_,h2⟩:=hat i q hi;exact h2
 refine⟨n,es,L',e1,e2,by simp only[ne_eq,not_true_eq_false,and_false,if_false];exact e3,?_,?_,(fun i b h=>nomatch h),fun i u x G hp _=> ?_,fun i u x G hp h=>absurd h nolent,fun p hp g hg=> ?_,fun i p hp=> ?_,fun i j p q g hp hq hg hg'=> ?_⟩
 ·rw[e4,gents_map L,gents_map L']
  simp only[L',List.map_map]
  congr 1
  apply List.map_congr_left
  intro p _
  cases p<;>rfl
 ·rw[e5]
  simp only[L',List.map_map]
  apply List.map_congr_left
  intro p _
  cases p<;>rfl
 ·obtain⟨G',h1,h2⟩:=hat i _ hp
  simp only at h1 h2
  subst h2
  obtain⟨cs,r1,r2⟩:=e7.own i _ _ _ h1 nolent
  simp only[RepD]at r2
  obtain⟨u',rfl,rfl,r3⟩:=r2
  rw[hva]at r1
  have r1: [u']= [u]:=r1
  injection r1 with r1 _
  subst r1
  have hown:Own T.kd e (fun q=>if σ q=τ b∧q≠n then 0 else σ q) 0 w u' x:=own_of (r3.ev hev1 fun _ _=>rfl) fun g hg=>by
   have hm:g∈fpO (some (u',x,(hbV u').toList)):=by simp[fpO,hg]
   have h3:=(e7.tag _ (List.mem_of_getElem? h1) g hm).1
   have h4:g≠n:=fun e=>(e7.nd i _ h1).2 g hm (by rw[e])
   exact if_pos ⟨h3,h4⟩
  obtain⟨A,c,rfl,h2,h3,h4⟩:=Own.rd hown
  exact⟨[.slice A x.length c],by rw[hva];rfl,by simp only[RepD];exact⟨⟨A,c,rfl,h2,h4⟩,trivial⟩⟩
 ·rw[hfp p hp]at hg;simp at hg
 ·rw[hfp p (List.mem_of_getElem? hp)]
  exact⟨List.nodup_nil,fun g hg=>by simp at hg⟩
 ·rw[hfp p (List.mem_of_getElem? hp)]at hg;simp at hg
def frzM(b:Nat)(H:List AB):Option (List AB):=
 match H[b]? with
 |some (.mapD m (.row T e) xs none)=>match m.va with
  |false=>some (H.set b (.mapD m (.flat (.slice T)) xs none))
  |true=>none
 |_=>none
theorem frzM_sound{b:Nat}{H':List AB}(hC:Conc E σ τ β ⟨tm,H⟩ a w)(h:frzM b H=some H'):HPres H H'∧∃σ',EvT (Rng E) σ w σ' w∧Conc E σ' τ β ⟨tm,H'⟩ a w:=by
 unfold frzM at h
 split at h
 ·rename_i m T e xs hb
  split at h
  ·rename_i hva
   obtain rfl:=Option.some.inj h
   exact⟨.set hb (fun _=>by simp),conc_frzD hva hC hb (by rw[hC.size];exact(List.getElem?_eq_some_iff.1 hb).1)⟩
  ·cases h
 ·cases h
end
end Go.Am
/- The abstract machine,part 35: the end of a known row is cut and cleared. No statement of its own. -/
namespace Go.Am
open Go.Vk Go.RowKit
variable [Dr]
omit [Dr] in
theorem addr_add(ad:Addr)(i j:Nat):(ad.add i).add j=ad.add (i+j):=by
 unfold Addr.add
 split
 ·rename_i h;subst h;simp
 ·split
  ·rename_i h;subst h;simp_all
  ·rename_i h1 h2
   have: ¬i+j=0:=by omega
   simp_all
   try omega
omit [Dr] in
theorem storeCells_shift{P:Program}(ad:Addr)(k:Nat): ∀(us:List Value) (j:Nat) (w:World),(storeCells (ad.add k) us j).run P w=(storeCells ad us (k+j)).run P w
 | [],j,w=>rfl
 |u::us,j,w=>by
  simp only[storeCells,addr_add,Sem.run_bind]
  cases (store (ad.add (k+j)) u).run P w with
  |ok x w'=>simp only[Result.andThen];exact storeCells_shift ad k us (j+1) w'
  |_=>rfl
omit [Dr] in
theorem storeCells_app{P:Program}(ad:Addr): ∀(us vs:List Value) (j:Nat) (w w1:World),(storeCells ad us j).run P w= .ok () w1→(storeCells ad (us++vs) j).run P w=(storeCells ad vs (j+us.length)).run P w1
 | [],vs,j,w,w1,h=>by
  simp only[storeCells,Sem.run_pure,Result.ok.injEq,true_and]at h
  subst h;rfl
 |u::us,vs,j,w,w1,h=>by
  simp only[List.cons_append,storeCells,Sem.run_bind]at h⊢
  cases hs:(store (ad.add j) u).run P w with
  |ok x w'=>
   rw[hs]at h
   simp only[Result.andThen]at h⊢
   rw[storeCells_app ad us vs (j+1) w' w1 h]
   congr 2
   simp only[List.length_cons];omega
  |_=>rw[hs]at h;simp[Result.andThen]at h
theorem own_clear{α:Type}{P:Program}{K:Kd α}{e:TypeId}{σ:Gh}{t:Nat}{ad:Addr}{n c0:Nat}{z:α}{us:List Value}(hu:us.length=K.sz)(h1: ∀v∈us,v.oneCell'=true)(hz: ∀w,K.rep σ w z us)(ht:1≤t):
  ∀(m l:Nat) (w:World) (xs:List α),Own K e σ t w (.slice (some ad) n c0) xs→l+m=xs.length→
  ∃w',(storeCells (ad.add (l*K.sz)) (List.replicate m us).flatten 0).run P w= .ok () w'∧Ev t (t+1) σ w σ w'∧Own K e σ t w' (.slice (some ad) n c0) (xs.take l++List.replicate m z)
 |0,l,w,xs,h,hl=>⟨w,rfl,Ev.refl ..,by rw[List.replicate_zero,List.append_nil,List.take_of_length_le (by omega)];exact h⟩
 |m+1,l,w,xs,h,hl=>by
  have hput: ∀cs:List Value,cs.length=us.length→(putCells cs.toArray 0 us).toList=us:=fun cs hc=>by
   rw[putCells_toList]
   have: ∀(us p c:List Value),c.length=us.length→(us.foldl (fun(q:List Value×Nat) u=>(q.1.set q.2 u,q.2+1)) (p++c,p.length)).1=p++us:=by
    intro us
    induction us with
    |nil=>intro p c hc;simp at hc;subst hc;rfl
    |cons u us ih=>
     intro p c hc
     cases c with
     |nil=>simp at hc
     |cons c0 c=>
      simp only[List.foldl_cons]
      have:=ih (p++ [u]) c (by simpa using hc)
      simp only[List.length_append,List.length_cons,List.length_nil,List.append_assoc,List.cons_append,List.nil_append]at this
      rw[show(p++c0::c).set p.length u=p++u::c by rw[List.set_append_right _ _ (Nat.le_refl _)];simp]
      exact this
   have:=this us [] cs hc
   simpa using this
  obtain⟨w1,r1,r2,r3⟩:=own_store (P:=P) (y:=z) (us:=us) (off:=0) h (i:=l) (by omega) (by omega) h1 (fun c hc=>by rw[hput c (by rw[K.len hc,hu])];exact hz w) ht
  obtain⟨w2,s1,s2,s3⟩:=own_clear hu h1 hz ht m (l+1) w1 (xs.set l z) r3 (by rw[List.length_set];omega)
  refine⟨w2,?_,r2.trans s2,?_⟩
  ·rw[List.replicate_succ,List.flatten_cons]
   have r1:(storeCells (ad.add (l*K.sz)) us 0).run P w= .ok () w1:=r1
   rw[storeCells_app _ _ _ _ _ _ r1,hu,storeCells_shift]
   rw[storeCells_shift]at s1
   rw[←s1]
   congr 2
   rw[Nat.succ_mul];omega
  ·have:(xs.set l z).take (l+1)++List.replicate m z=xs.take l++List.replicate (m+1) z:=by
    rw[List.replicate_succ,List.take_add_one]
    rw[List.take_set_of_le (Nat.le_refl _)]
    rw[List.getElem?_set,if_pos rfl,if_pos (by omega)]
    simp
   rw[←this];exact s3
omit [Dr] in
theorem zeros_flat(c:Array Value)(n:Nat)(hc:0<c.size):(Builtin.zeroCells c n).toList=(List.replicate n c.toList).flatten:=by
 induction n with
 |zero=>simp[Builtin.zeroCells]
 |succ n ih=>
  rw[List.replicate_succ',List.flatten_append,←ih]
  apply List.ext_getElem
  ·simp[Builtin.zeroCells,Nat.succ_mul]
  ·intro i h1 h2
   simp only[Builtin.zeroCells,Array.toList_map,Array.toList_range,List.getElem_map,List.getElem_range,List.flatten_cons,List.flatten_nil,List.append_nil]
   rw[List.getElem_append]
   split
   ·simp
   ·rename_i h
    simp only[List.length_map,List.length_range,Nat.not_lt]at h
    have h1:i< (n+1)*c.size:=by simpa[Builtin.zeroCells]using h1
    have hlt:i - n*c.size<c.size:=by rw[Nat.succ_mul]at h1;omega
    have hm:i % c.size=i - n*c.size:=by
     have:i=(i - n*c.size)+c.size*n:=by rw[Nat.mul_comm c.size n];omega
     rw[this,Nat.add_mul_mod_self_left,Nat.mod_eq_of_lt hlt]
     rw[Nat.mul_comm c.size n];omega
    simp only[List.length_map,List.length_range,hm]
    rw[getElem!_pos c _ hlt]
    simp
end Go.Am
/- The abstract machine,part 34: slices that are written out,of whatever cells. No statement of its own. -/
namespace Go.Am
open Go.Vk Go.RowKit
variable [Dr]
section
variable {P : Program} {E : Env} {σ σ1 : Gh} {τ : Nat → Nat} {w w1 : World} {β : List Value} {tm : List AV} {H : List AB} {a : Act} {o : Oper}
def litX(P:Program)(tm:List AV)(H:List AB)(t:TypeId)(n:Nat)(parts:List (Nat×Operand)):Option (List AB×AV):=
 match P.underlying t with
 |some (.slice e)=>match P.info? e with
  |some ie=>match ie.zero,Nat.ble (n*ie.size) 65536,Nat.beq (n*ie.size) 0,Nat.ble n 65536 with
   |some z,true,false,true=>match partsX tm parts with
    |some ps=>match fillA (fun i=>some (i*ie.size,ie.size)) (((Array.range (n*ie.size)).map (z.cells[· % z.cells.size]!)).toList.map .val) ps with
     |some cs=>some (H++ [.cells e cs],.lit H.length n ie.size)
     |none=>none
    |none=>none
   |_,_,_,_=>none
  |none=>none
 |_=>none
theorem lit_sound{t:TypeId}{n:Nat}{parts:Array (Nat×Operand)}{H':List AB}{y:AV}(hC:Conc E σ τ β ⟨tm,H⟩ a w)(ho:o.op= .buildSlice t n parts)(h:litX P tm H t n parts.toList=some (H',y)):OpOut P E σ β tm a w o H' y:=by
 unfold litX at h
 split at h
 case h_2=>cases h
 rename_i e hu
 split at h
 case h_2=>cases h
 rename_i ie hie
 split at h
 case h_2=>cases h
 rename_i z hz hle hne hn
 split at h
 case h_2=>cases h
 rename_i ps hps
 split at h
 case h_2=>cases h
 rename_i cs hf
 simp only[Option.some.injEq,Prod.mk.injEq]at h
 obtain⟨rfl,rfl⟩:=h
 have hle:=Nat.le_of_ble_eq_true hle
 have hn:=Nat.le_of_ble_eq_true hn
 have hne:=Nat.ne_of_beq_eq_false hne
 obtain⟨rs,e1,e2⟩:=fillA_rel (partsX_rel hC hps) (relL_vals (E:=E) (σ:=σ) (w:=w) (β:=β) ((Array.range (n*ie.size)).map (z.cells[· % z.cells.size]!)).toList) hf
 have hrun:=run_buildSlice (P:=P) w t e n (parts.map fun(i,x)=>(i,a.eval x)) rs ie z hu hie hz (by omega) hne (by rw[Array.toList_map];exact e1)
 obtain⟨σ',τ',β',h1,h2,h3,h4⟩:=conc_alloc (T:=e) (vs:=rs) hC e2
 simp only[Rel]at h4
 obtain⟨m,h5,h6⟩:=h4
 simp only[Value.pointer.injEq,Option.some.injEq,Addr.mk.injEq]at h6
 obtain⟨rfl,_⟩:=h6
 refine OpGives.val σ' (v:= .slice (some ⟨w.heap.size,0,none⟩) n n) (w':={w with heap:=w.heap.push (.cells rs e)}) ?_ ⟨τ',β',h1,h2,h3,?_⟩
 ·simp only[execOp,ho,Sem.run_bind,hrun,Result.andThen_ok,World.alloc]
  rfl
 ·simp only[Rel]
  exact⟨_,h5,rfl⟩
def indexL(P:Program)(t:TypeId)(x i:AV):Option (Bool×AV):=
 match P.underlying t,x,i with
 |some (.slice e),.lit b n sz,.val (.int _ j)=>match(P.info? e).map (fun i=>Nat.beq i.size sz)with
  |some true=>some (decide (0≤j) && decide (j< (n:Int)),.ptr b (j.toNat*sz))
  |_=>none
 |_,_,_=>none
theorem indexL_sound{t:TypeId}{x ix:Operand}{y:AV}(hC:Conc E σ τ β ⟨tm,H⟩ a w)(ho:o.op= .indexAddr t x ix)(h:indexL P t (aeval tm x) (aeval tm ix)=some (true,y)):OpOut P E σ β tm a w o H y:=by
 have hx:=aeval_rel hC x
 have hi:=aeval_rel hC ix
 unfold indexL at h
 split at h
 case h_2=>cases h
 rename_i e b n sz kk j hu hxv hiv
 rw[hxv]at hx
 rw[hiv]at hi
 split at h
 case h_2=>cases h
 rename_i hsz
 obtain⟨ti,hti,hbeq⟩:=Option.map_eq_some_iff.1 hsz
 have hsz:(P.info? e).map (·.size)=some sz:=by rw[hti];simpa using Nat.eq_of_beq_eq_true hbeq
 simp only[Option.some.injEq,Prod.mk.injEq]at h
 obtain⟨hc,rfl⟩:=h
 obtain⟨h0,h1⟩:=idxS hc
 simp only[Rel]at hx hi
 obtain⟨m,e1,e2⟩:=hx
 refine OpOut.same hC (ex_index ho hu hsz e2 hi h0 h1) ?_
 simp only[Rel]
 exact⟨m,e1,by rw[add_mk];simp⟩
def lenL(P:Program)(t:TypeId)(x:AV):Option AV:=
 match P.underlying t,x with
 |some (.slice _),.lit _ n _=>some (.val (.int .i64 n))
 |_,_=>none
theorem lenL_sound{x:Operand}{t:TypeId}{y:AV}(hC:Conc E σ τ β ⟨tm,H⟩ a w)(ho:o.op= .call {callee:= .builtin .len,args:= #[x],argTypes:= #[t]})(h:lenL P t (aeval tm x)=some y):OpOut P E σ β tm a w o H y:=by
 have hx:=aeval_rel hC x
 unfold lenL at h
 split at h
 case h_2=>cases h
 rename_i e b n sz hu hv
 rw[hv]at hx
 obtain rfl:=Option.some.inj h
 simp only[Rel]at hx
 obtain⟨m,e1,e2⟩:=hx
 refine OpOut.same hC (v:= .int .i64 n) ?_ (by simp[Rel])
 simp[execOp,ho,resolve,invoke,builtin,e2,Builtin.len_,run_underlying hu,goInt]
omit [Dr] in
theorem litX_pres{t:TypeId}{n:Nat}{ps:List (Nat×Operand)}{H':List AB}{y:AV}(h:litX P tm H t n ps=some (H',y)):HPres H H':=by
 unfold litX at h
 repeat' (split at h)
 all_goals first|(cases h;done)|skip
 simp only[Option.some.injEq,Prod.mk.injEq]at h
 obtain⟨rfl,_⟩:=h
 exact .app _ _
end
end Go.Am
/- The abstract machine,part 38: rows of things. No statement of its own. -/
namespace Go.Am
open Go.Vk Go.RowKit
variable [Dr]
def packDs(d:DT):List AV→List AB→Option (List d.Den×List AB)
 | [],H=>some ([],H)
 |c::cs,H=>match packD d [c] H with
  |some (x,[],H1)=>match packDs d cs H1 with
   |some (xs,H2)=>some (x::xs,H2)
   |none=>none
  |_=>none
section
variable {P : Program} {E : Env} {σ σ1 : Gh} {τ : Nat → Nat} {w w1 : World} {β : List Value} {tm : List AV} {H : List AB} {a : Act} {o : Oper}
omit [Dr] in
theorem packDs_gone{d:DT}: ∀{cs:List AV} {H H':List AB} {xs:List d.Den},packDs d cs H=some (xs,H')→Gone H H'
 | [],H,H',xs,h=>by
  simp only[packDs,Option.some.injEq,Prod.mk.injEq]at h
  obtain⟨_,rfl⟩:=h
  exact .refl
 |c::cs,H,H',xs,h=>by
  simp only[packDs]at h
  split at h
  ·rename_i h1
   split at h
   ·rename_i h2
    simp only[Option.some.injEq,Prod.mk.injEq]at h
    obtain⟨_,rfl⟩:=h
    exact(packD_gone h1).trans (packDs_gone h2)
   ·cases h
  ·cases h
theorem packs_rep{d:DT}: ∀{cs:List AV} {us:List Value} {H H':List AB} {xs:List d.Den},packDs d cs H=some (xs,H')→Conc E σ τ β ⟨tm,H⟩ a w→RelL E σ w β cs us→
  ∃L:List (Value×d.Den×List Nat),us=L.map (·.1)∧xs=L.map (·.2.1)∧(∀p∈L,RepD σ w d p.2.1 [p.1] p.2.2)∧(L.map (·.2.2)).flatten.Nodup∧∀g∈(L.map (·.2.2)).flatten,∃(i:Nat) (y:AB),H[i]? =some y∧y.live=true∧σ g=τ i∧∀z,H'[i]? =some z→z.live=false
 | [],us,H,H',xs,h,hC,hr=>by
  simp only[packDs,Option.some.injEq,Prod.mk.injEq]at h
  obtain⟨rfl,rfl⟩:=h
  simp only[RelL]at hr
  subst hr
  exact⟨[],rfl,rfl,fun p hp=>by simp at hp,List.nodup_nil,fun g hg=>by simp at hg⟩
 |c::cs,us,H,H',xs,h,hC,hr=>by
  simp only[RelL]at hr
  obtain⟨u,us,rfl,hu,hr⟩:=hr
  simp only[packDs]at h
  split at h
  ·rename_i x1 H1 h1
   split at h
   ·rename_i xs2 H2 h2
    simp only[Option.some.injEq,Prod.mk.injEq]at h
    obtain⟨rfl,rfl⟩:=h
    have g1:=packD_gone h1
    have g2:=packDs_gone h2
    obtain⟨us1,us2,F1,e1,e2,e3,e4,e5⟩:=pack_rep d h1 hC (us:= [u]) (by simp only[RelL];exact⟨u,[],rfl,hu,rfl⟩)
    simp only[RelL]at e2
    subst e2
    rw[List.append_nil]at e1
    subst e1
    obtain⟨L,f1,f2,f3,f4,f5⟩:=packs_rep h2 (conc_Gone hC g1) hr
    refine⟨(u,x1,F1)::L,by rw[f1];rfl,by rw[f2];rfl,fun p hp=> ?_,?_,fun g hg=> ?_⟩
    ·rcases List.mem_cons.1 hp with rfl|hp
     ·exact e3
     ·exact f3 p hp
    ·rw[List.map_cons,List.flatten_cons,List.nodup_append]
     refine⟨e4,f4,fun g hg g' hg' he=> ?_⟩
     subst he
     obtain⟨i,y,i1,i2,i3,i4⟩:=e5 g hg
     obtain⟨j,z,j1,j2,j3,j4⟩:=f5 g hg'
     have hj:=g1.get j1 j2
     have:=hC.inj i j y z i1 hj i2 j2 (i3.symm.trans j3)
     subst this
     have:=i4 z j1
     rw[j2]at this
     cases this
    ·rw[List.map_cons,List.flatten_cons]at hg
     rcases List.mem_append.1 hg with hg|hg
     ·obtain⟨i,y,i1,i2,i3,i4⟩:=e5 g hg
      refine⟨i,y,i1,i2,i3,fun z hz=> ?_⟩
      cases hz2:z.live with
      |false=>rfl
      |true=>
       have:=i4 z (g2.get hz hz2)
       rw[hz2]at this
       cases this
     ·obtain⟨i,y,i1,i2,i3,i4⟩:=f5 g hg
      exact⟨i,y,g1.get i1 i2,i2,i3,i4⟩
   ·cases h
  ·cases h
theorem reps_raw: ∀{us:List Value},(∀u∈us,u.oneCell'=true)→Reps rawK σ w us us
 | [],_=>rfl
 |u::us,h=>⟨[u],us,rfl,⟨rfl,h u (by simp)⟩,reps_raw fun v hv=>h v (by simp[hv])⟩
theorem repD_one{d:DT}{x:d.Den}{u:Value}{F:List Nat}(ht:thg d=true)(h:RepD σ w d x [u] F):u.oneCell'=true:=by
 cases d with
 |flat T=>cases ht
 |pair p q=>cases ht
 |row T e=>simp only[RepD]at h;obtain⟨u',e1,_,h3⟩:=h;injection e1 with e1 _;subst e1;exact h3.one
 |map m=>simp only[RepD]at h;obtain⟨n,es,e1,_⟩:=h;injection e1 with e1 _;subst e1;rfl
 |ptr C d=>simp only[RepD]at h;obtain⟨n,vs,F1,e1,_⟩:=h;injection e1 with e1 _;subst e1;rfl
 |rowD d e=>simp only[RepD]at h;obtain⟨u',L,e1,_,h3,_⟩:=h;injection e1 with e1 _;subst e1;exact h3.one
 |mapD m d=>simp only[RepD]at h;obtain⟨n,es,L,e1,_⟩:=h;injection e1 with e1 _;subst e1;rfl
 |opq o=>cases ht
def elemD(P:Program)(t:TypeId):Option (TypeId×DT):=
 match P.underlying t with
 |some (.slice e)=>match P.underlying e,dtOf P 20 e with
  |some (.map _ _),some d=>match thg d with
   |true=>some (e,d)
   |false=>none
  |_,_=>none
 |_=>none
def litD(P:Program)(t:TypeId)(H:List AB)(v:AV):Option (List AB):=
 match v,elemD P t with
 | .lit b n 1,some (e,d)=>match H[b]? with
  |some (.cells C cs)=>match natEq C e,Nat.beq cs.length n,Nat.ble n 65536,packDs d cs (H.set b .gone)with
   |some _,true,true,some (xs,H2)=>some (H2++ [.rowD d e xs none])
   |_,_,_,_=>none
  |_=>none
 |_,_=>none
omit [Dr] in
theorem elemD_thg{t e:TypeId}{d:DT}(h:elemD P t=some (e,d)):thg d=true∧P.underlying t=some (.slice e):=by
 unfold elemD at h
 split at h
 ·rename_i e' hu
  split at h
  ·rename_i d' _ _
   split at h
   ·rename_i ht
    simp only[Option.some.injEq,Prod.mk.injEq]at h
    obtain⟨rfl,rfl⟩:=h
    exact⟨ht,hu⟩
   ·cases h
  ·cases h
 ·cases h
theorem conc_rowD {b:Nat} {C:TypeId} {x0:AB} {d:DT} {cs:List AV} {xs:List d.Den} {H2:List AB} {u:Value} {us:List Value} (hC:Conc E σ τ β ⟨tm,H⟩ a w) (hb:H[b]? =some x0) (hl:x0.live=true) (hlk: ∀z,x0≠ .lock z) (ht:thg d=true) (hp:packDs d cs (H.set b .gone)=some (xs,H2)) (hr:RelL E σ w β cs us)
  (ho:(∀v∈us,v.oneCell'=true)→Own rawK C σ (τ b) w u us):
  HPres H (H2++ [.rowD d C xs none])∧∃σ' τ' β',(∃s,β'=β++s)∧EvT (Rng E) σ w σ' w∧Conc E σ' τ' β' ⟨tm,H2++ [.rowD d C xs none]⟩ a w∧Rel E σ' w β' (.row H.length) u:=by
 have hKb:=hC.apart b _ hb hl
 have hC1:=conc_gone (i:=b) hC
 obtain⟨L,f1,f2,f3,f4,f5⟩:=packs_rep hp hC1 hr
 have g2:=packDs_gone hp
 have hown:=ho (fun v hv=>by
  rw[f1]at hv
  obtain⟨p,hp',rfl⟩:=List.mem_map.1 hv
  exact repD_one ht (f3 p hp'))
 let F:=(L.map (·.2.2)).flatten
 have hF: ∀g∈F,(fun t=> ∃g∈F,σ g=t) (σ g):=fun g hg=>⟨g,hg,rfl⟩
 have hne: ∀g∈F,σ g≠τ b:=fun g hg e=>by
  obtain⟨i,z,i1,i2,i3,i4⟩:=f5 g hg
  obtain⟨j1,j2⟩:=gone_get i1 i2
  exact j2 (hC.inj i b z x0 j1 hb i2 hl (i3.symm.trans e))
 have hKF: ∀t,(∃g∈F,σ g=t)→¬E.Kp t:=by
  rintro t ⟨g,hg,rfl⟩
  obtain⟨i,z,i1,i2,i3,i4⟩:=f5 g hg
  rw[i3]
  exact hC1.apart i z i1 i2
 have hev:=retag_ev (T0:=fun t=> ∃g∈F,σ g=t) (w:=w) (t:=τ b) hF
 have hT0: ¬(∃g∈F,σ g=0):=fun h=>hKF 0 h (E.sub _ (.inl E.nought))
 have hlive: ∀(i:Nat) z,H2[i]? =some z→z.live=true→¬(∃g∈F,σ g=τ i):=by
  rintro i z hz hl' ⟨g,hg,e⟩
  obtain⟨j,z',j1,j2,j3,j4⟩:=f5 g hg
  have hz1:=g2.get hz hl'
  have:=hC1.inj j i z' z j1 hz1 j2 hl' (j3.symm.trans e)
  subst this
  have:=j4 z hz
  rw[hl']at this
  cases this
 have h2:=Conc.evC (conc_Gone hC1 g2) hev (fun t hp h=>hKF t h (E.sub _ hp)) hlive
 obtain⟨hi,he1⟩:=hev.ev1 hT0
 obtain⟨o1,o2⟩:=own_f hown
 have hlen:H2.length=H.length:=by rw[g2.1];simp
 have hmem: ∀p∈L,∀g∈p.2.2,g∈F:=fun p hp g hg=>List.mem_flatten.2 ⟨_,List.mem_map.2 ⟨p,hp,rfl⟩,hg⟩
 have hnod:=of_nod (g0:=hbV u) (P:=L.map some) (by
  rw[fp_rows,List.nodup_append]
  refine⟨by cases hbV u<;>simp,f4,fun g hg g' hg' e=> ?_⟩
  subst e
  exact hne g hg' (o2 g (by simpa using hg)))
 have h3:=conc_new (x:= .rowD d C xs none) (v:=u) (t:=τ b) h2 EvT.refl hKb (fun i z hz hl' e=>by
  obtain⟨j1,j2⟩:=gone_get (g2.get hz hl') hl'
  exact j2 (hC.inj i b z x0 j1 hb hl' hl e)) ⟨L,by
   rw[←f1]
   exact own_of (o1.ev he1 fun _ _=>rfl) fun g hg=>by
    rw[retag_out (fun h=>hne g h (o2 g hg))]
    exact o2 g hg,f2,(fun i b h=>nomatch h),fun i u' x' G hp' _=>by
   rw[List.getElem?_map]at hp'
   obtain⟨p,hp1,hp2⟩:=Option.map_eq_some_iff.1 hp'
   obtain rfl:=Option.some.inj hp2
   exact(f3 _ (List.mem_of_getElem? hp1)).ev he1 d fun _ _=>rfl,fun i u' x' G hp' h=>absurd h nolent,fun p hp' g hg=>by
   obtain⟨q,hq,rfl⟩:=List.mem_map.1 hp'
   exact⟨retag_in (hmem q hq g hg),(f3 q hq).lt d g hg⟩,hnod.1,hnod.2⟩
 refine⟨((HPres.set hb hlk).trans g2.pres).trans (.app _ _),_,_,_,⟨_,rfl⟩,hev.mono (fun t h=>hKF t h),h3,?_⟩
 simp only[Rel]
 have hsz:=hC.size
 simp only at hsz
 exact⟨by rw[←hsz];simp,o1.one⟩
theorem litD_sound{t:TypeId}{v:AV}{u:Value}{H':List AB}(hC:Conc E σ τ β ⟨tm,H⟩ a w)(hr:Rel E σ w β v u)(h:litD P t H v=some H'):
  HPres H H'∧∃σ' τ' β',(∃s,β'=β++s)∧EvT (Rng E) σ w σ' w∧Conc E σ' τ' β' ⟨tm,H'⟩ a w∧Rel E σ' w β' (.row H.length) u:=by
 unfold litD at h
 split at h
 case h_2=>cases h
 rename_i b n e d hel
 split at h
 case h_2=>cases h
 rename_i C cs hb
 split at h
 case h_2=>cases h
 rename_i pe xs H2 hCe hn hle hp
 obtain⟨hE⟩:=pe
 subst hE
 obtain rfl:=Option.some.inj h
 obtain⟨ht,_⟩:=elemD_thg hel
 simp only[Rel]at hr
 obtain⟨m,hm,rfl⟩:=hr
 obtain⟨n',vs,e1,e2,e3⟩:=hC.heap b _ _ hb hm
 simp only[Value.pointer.injEq,Option.some.injEq,Addr.mk.injEq]at e1
 obtain⟨rfl,_⟩:=e1
 have hvl:vs.length=n:=by rw[e3.length];exact Nat.eq_of_beq_eq_true hn
 have hle:=Nat.le_of_ble_eq_true hle
 exact conc_rowD hC hb rfl (fun _=>by simp) ht hp e3 (fun h1=>own_blk e2 hvl (by omega) (by simpa using reps_raw h1))
/-! ### what is done with rows of things -/
def lenD(P:Program)(H:List AB)(t:TypeId)(x:AV):Option AV:=
 match P.underlying t with
 |some (.slice _)=>match x with
  | .row r=>match look H r with
   |some (.rowD _ _ xs _)=>some (.val (.int .i64 xs.length))
   |some (.arw _ _ ks)=>some (.val (.int .i64 ks.length))
   |_=>none
  |_=>none
 |_=>none
theorem lenD_sound{x:Operand}{t:TypeId}{y:AV}(hC:Conc E σ τ β ⟨tm,H⟩ a w)(ho:o.op= .call {callee:= .builtin .len,args:= #[x],argTypes:= #[t]})(h:lenD P H t (aeval tm x)=some y):OpOut P E σ β tm a w o H y:=by
 have hx:=aeval_rel hC x
 unfold lenD at h
 split at h
 case h_2=>cases h
 rename_i e hu
 split at h
 case h_2=>cases h
 rename_i r hv
 rw[hv]at hx
 split at h
 case h_3=>cases h
 case h_2=>
  rename_i q e' ks hr
  simp only[Option.some.injEq]at h
  subst h
  simp only[Rel]at hx
  obtain⟨bs,_,_,e1⟩:=(show BRel E σ w β (τ r) _ (.arw q e' ks)from hC.look hr hx.1)
  obtain⟨A,c',e3,_⟩:=e1.rd
  refine OpOut.same hC (v:= .int .i64 ks.length) ?_ (by simp[Rel])
  simp[execOp,ho,resolve,invoke,builtin,e3,Builtin.len_,run_underlying hu,goInt]
 rename_i d e' xs l hr
 simp only[Option.some.injEq]at h
 subst h
 simp only[Rel]at hx
 obtain⟨L,e1,e2,_⟩:=(show BRel E σ w β (τ r) _ (.rowD d e' xs l)from hC.look hr hx.1)
 obtain⟨A,c',e3,_⟩:=e1.rd
 have hl:xs.length=(L.map (·.1)).length:=by rw[e2];simp
 refine OpOut.same hC (v:= .int .i64 (L.map (·.1)).length) ?_ (by simp[Rel,hl])
 simp[execOp,ho,resolve,invoke,builtin,e3,Builtin.len_,run_underlying hu,goInt]
def indexD(P:Program)(H:List AB)(t:TypeId)(x i:AV):Option (Bool×AV):=
 match P.underlying t,i with
 |some (.slice e),.val (.int _ n)=>match x with
  | .row r=>match look H r with
   |some (.rowD d e' xs l)=>match(P.info? e).map (fun i=>Nat.beq i.size 1)with
    |some true=>some (decide (0≤n) && decide (n< (xs.length:Int)),.rp r 1 n.toNat 0)
    |_=>none
   |some (.arw _ _ ks)=>match(P.info? e).map (fun i=>Nat.beq i.size 1)with
    |some true=>some (decide (0≤n) && decide (n< (ks.length:Int)),.rp r 1 n.toNat 0)
    |_=>none
   |_=>none
  |_=>none
 |_,_=>none
theorem indexD_sound{t:TypeId}{x ix:Operand}{y:AV}(hC:Conc E σ τ β ⟨tm,H⟩ a w)(ho:o.op= .indexAddr t x ix)(h:indexD P H t (aeval tm x) (aeval tm ix)=some (true,y)):OpOut P E σ β tm a w o H y:=by
 have hx:=aeval_rel hC x
 have hi:=aeval_rel hC ix
 unfold indexD at h
 split at h
 case h_2=>cases h
 rename_i e kk n hu hin
 have hi:a.eval ix= .int kk n:=by
  have:Rel E σ w β (.val (.int kk n)) (a.eval ix):=hin▸hi
  simpa only[Rel]using this
 split at h
 case h_2=>cases h
 rename_i r hv
 rw[hv]at hx
 split at h
 case h_3=>cases h
 case h_2=>
  rename_i q e' ks hr
  split at h
  case h_2=>cases h
  rename_i hsz
  obtain⟨ti,hti,hbeq⟩:=Option.map_eq_some_iff.1 hsz
  have hsz:(P.info? e).map (·.size)=some 1:=by rw[hti];simpa using Nat.eq_of_beq_eq_true hbeq
  simp only[Option.some.injEq,Prod.mk.injEq]at h
  obtain⟨hc,rfl⟩:=h
  obtain⟨h0,h1⟩:=idxS hc
  simp only[Rel]at hx
  obtain⟨bs,_,_,e1⟩:=(show BRel E σ w β (τ r) _ (.arw q e' ks)from hC.look hr hx.1)
  obtain⟨A,c,e3,e4,_,e5⟩:=e1.rd
  have hl:ks.length=(ks.map (ptrN bs)).length:=by simp
  rw[hl]at h1
  obtain⟨ad,rfl⟩:=e5.some_ h0 h1
  refine OpOut.same hC (ex_index ho hu hsz e3 hi h0 h1) ?_
  simp only[Rel]
  exact⟨ad,(ks.map (ptrN bs)).length,c,by rw[←e3];exact hx.1,by omega,by simp⟩
 rename_i d e' xs l hr
 split at h
 case h_2=>cases h
 rename_i hsz
 obtain⟨ti,hti,hbeq⟩:=Option.map_eq_some_iff.1 hsz
 have hsz:(P.info? e).map (·.size)=some 1:=by rw[hti];simpa using Nat.eq_of_beq_eq_true hbeq
 simp only[Option.some.injEq,Prod.mk.injEq]at h
 obtain⟨hc,rfl⟩:=h
 obtain⟨h0,h1⟩:=idxS hc
 simp only[Rel]at hx
 obtain⟨L,e1,e2,_⟩:=(show BRel E σ w β (τ r) _ (.rowD d e' xs l)from hC.look hr hx.1)
 have hl:xs.length=(L.map (·.1)).length:=by rw[e2];simp
 obtain⟨A,c,e3,e4,_,e5⟩:=e1.rd
 rw[hl]at h1
 obtain⟨ad,rfl⟩:=e5.some_ h0 h1
 refine OpOut.same hC (ex_index ho hu hsz e3 hi h0 h1) ?_
 simp only[Rel]
 exact⟨ad,(L.map (·.1)).length,c,by rw[←e3];exact hx.1,by omega,by simp⟩
theorem lendR_brel {d:DT} {e:TypeId} {xs:List d.Den} {v u:Value} {y:d.Den} {i r t:Nat} {σ':Gh} {β':List Value} {L:List (Value×d.Den×List Nat)} {F:List Nat} (e1:Own rawK e σ t w v (L.map (·.1))) (e2:xs=L.map (·.2.1)) (e4:Hold (fun u x G=>RepD σ w d x [u] G) σ w t (hbV v) (lnO none) (lkO β none) (L.map some))
  (hq:L[i]? =some (u,y,F)) (hr:β'[r]? =some u) (hF: ∀g,g∉F→σ' g=σ g) (he: ∃hi,Ev 1 hi σ w σ' w):BRel E σ' w β' t v (.rowD d e xs (some (i,r))):=by
 obtain⟨hi,he⟩:=he
 have hrl:r<β'.length:=(List.getElem?_eq_some_iff.1 hr).1
 have hat:(L.map some)[i]? =some (some (u,y,F)):=by rw[List.getElem?_map,hq];rfl
 obtain⟨o1,o2⟩:=own_f e1
 have hnF: ∀n,hbV v=some n→n∉F:=fun n hn h=>(e4.nd i _ hat).2 n h hn
 have hother: ∀j p g,j≠i→(L.map some)[j]? =some p→g∈fpO p→g∉F:=fun j p g hj hp hg hgF=>hj (e4.inj j i p _ g hp hat hg hgF)
 have hset: ∀{X:Type} (f:Value×d.Den×List Nat→X),f (u,y,F)=f (u,y,[])→(L.set i (u,y,[])).map f=L.map f:=by
  intro X f hf
  apply List.ext_getElem?
  intro j
  rw[List.getElem?_map,List.getElem?_map,List.getElem?_set]
  by_cases hj:i=j
  ·subst hj
   rw[if_pos rfl,if_pos (List.getElem?_eq_some_iff.1 hq).1,hq]
   simp only[Option.map_some,hf]
  ·rw[if_neg hj]
 refine⟨L.set i (u,y,[]),?_,?_,fun i' b h=> ?_,?_⟩
 ·rw[hset (·.1) rfl]
  exact own_of (o1.ev he fun _ _=>rfl) fun g hg=>by rw[hF g (hnF g hg)];exact o2 g hg
 ·rw[hset (·.2.1) rfl];exact e2
 ·obtain⟨rfl,rfl⟩:=Prod.mk.inj (Option.some.inj h)
  exact hrl
 ·refine Hold.put (i:=i) (q:=some (u,y,[])) e4 (fun j h=>absurd h nolent) (fun j ⟨b',hb'⟩=>(Prod.mk.inj (Option.some.inj hb')).1.symm) (.inr (by rw[List.getElem?_map,List.getElem?_set,if_pos rfl,if_pos (List.getElem?_eq_some_iff.1 hq).1];rfl)) (fun j hj=>by rw[List.getElem?_map,List.getElem?_map,List.getElem?_set,if_neg (fun e=>hj e.symm)]) (fun j u' x' G hj hp hR=>hR.ev he d fun _ _=>rfl) (Nat.le_refl _) (fun j p g hj hp hg=> ?_) (fun _ u' x' G hz=>⟨fun _=> ?_,fun h=>absurd ⟨r,rfl⟩ h⟩) (fun g hg=>by simp[fpO]at hg) ⟨List.nodup_nil,fun g hg=>by simp[fpO]at hg⟩ (fun j p g _ _ _ hg=>by simp[fpO]at hg)
  ·rw[hF g (hother j p g hj hp hg)]
   exact(e4.tag p (List.mem_of_getElem? hp) g hg).1
  ·simp only[Option.some.injEq,Prod.mk.injEq]at hz
   obtain⟨rfl,rfl,rfl⟩:=hz
   exact⟨⟨i,r,rfl,hr⟩,rfl⟩
def loadD(P:Program)(H:List AB)(t:TypeId)(x:AV)(X:Type)(K:List AB→AV→Option X):Option X:=
 match x with
 | .rp r 1 i 0=>match scalarB P t,settle r H with
  |true,some H1=>match H1[r]? with
   |some (.rowD d e xs none)=>match thg d with
    |true=>optS xs[i]? (fun y=>K (lendH r (.rowD d e xs (some (i,H1.length))) d y H1) (headV d H1.length)) none
    |false=>none
   |_=>none
  |_,_=>none
 |_=>none
theorem loadD_sound{t:TypeId}{x:Operand}{X:Type}{K:List AB→AV→Option X}{xx:X}(hC:Conc E σ τ β ⟨tm,H⟩ a w)(ho:o.op= .load t x)(h:loadD P H t (aeval tm x) X K=some xx):Outs P E σ β tm H a w o K xx:=by
 unfold loadD at h
 split at h
 case h_2=>cases h
 rename_i r i hv
 split at h
 case h_2=>cases h
 rename_i H1 hsc hs
 obtain⟨p1,σ',τ',p2,hC1⟩:=settle_sound hC hs
 have hx:=aeval_rel hC1 x
 simp only at hx
 rw[hv]at hx
 split at h
 case h_2=>cases h
 rename_i d e xs hr
 split at h
 case h_2=>cases h
 rename_i ht
 cases hg:xs[i]? with
 |none=>rw[hg]at h;cases h
 |some y=>
  rw[hg]at h
  simp only[optS]at h
  simp only[Rel]at hx
  obtain⟨ad,n,c,h1,h2,h3⟩:=hx
  obtain⟨L,e1,e2,e3,e4⟩:=hC1.heap r _ _ hr h1
  rw[e2,List.getElem?_map]at hg
  obtain⟨⟨u,y',F⟩,q1,q2⟩:=Option.map_eq_some_iff.1 hg
  simp only at q2
  subst q2
  have hat:(L.map some)[i]? =some (some (u,y',F)):=by rw[List.getElem?_map,q1];rfl
  have hrep:=e4.own i u y' F hat nolent
  obtain⟨A,c',f1,f2,_,f5⟩:=e1.rd
  injection f1 with f6 f7 f8
  subst f6 f7
  obtain⟨ad',cs,k1,k2,k3⟩:=f5.at2 (i:Int) (by omega) (by have:=(List.getElem?_eq_some_iff.1 q1).1;simp;omega) undef
  obtain rfl:=Option.some.inj k1
  simp only[Int.toNat_natCast]at k2 k3
  have hu:(L.map (·.1)).getD i undef=u:=by
   rw[List.getD_eq_getElem?_getD,List.getElem?_map,q1];rfl
  rw[hu]at k2
  obtain⟨rfl,_⟩:=k2
  have hrun:(execOp a.eval o).run P w= .ok (.value u) w:=by
   have hc:=k3 0 u rfl
   rw[add_add]at hc
   exact ex_load1 ho h3 hsc hc
  obtain⟨σ2,τ2,β2,r1,r2,r3,r4⟩:=conc_lend (xl:= .rowD d e xs (some (i,H1.length))) hC1 hr rfl h1 ht hrep (e4.nd i _ hat).1 (fun g hg=>(e4.tag _ (List.mem_of_getElem? hat) g hg).1)
   (fun σ' β' _ h2 h3 h4=>lendR_brel e1 e2 e4 q1 h4 h2 h3)
  exact OpGives.val σ2 hrun ⟨_,_,τ2,β2,h,p1.trans (lend_pres hr (fun _=>by simp)),r1,p2.trans r2,r3,r4⟩
/-! ### rows of things grow -/
theorem app_rows {st ot e:TypeId} {t t2:Nat} {d:DT} {v:Value} {L1 L2:List (Value×d.Den×List Nat)} {A:Option Addr} {c:Nat} {z:Value} {bytes:Nat}
  (hO:Own rawK e σ t w v (L1.map (·.1))) (hO2:Own rawK e σ t2 w (.slice A L2.length c) (L2.map (·.1))) (hne:t≠t2)
  (h1:Hold (fun u x G=>RepD σ w d x [u] G) σ w t (hbV v) (lnO none) (lkO β none) (L1.map some)) (h2:Hold (fun u x G=>RepD σ w d x [u] G) σ w t2 (hbV (.slice A L2.length c)) (lnO none) (lkO β none) (L2.map some))
  (ht:P.underlying st=some (.slice e)) (hinfo:(P.info? e).map (fun i=>(i.zero,i.size,i.bytes))=some (some z,1,bytes)) (hz:z.cells.size=1) (hby:bytes≤128) (k1: ¬E.Kp t) (k2: ¬E.Kp t2) (hb:L1.length+L2.length≤1099511627776):
  ∃v1 w1 σ1,(Builtin.append_ #[st,st] ot #[v,.slice A L2.length c]).run P w= .ok v1 w1∧EvT (fun s=>s=t∨s=t2) σ w σ1 w1∧BRel E σ1 w1 β t v1 (.rowD d e (L1.map (·.2.1)++L2.map (·.2.1)) none):=by
 obtain⟨F1,hF1⟩: ∃F1,F1=(L1.map (·.2.2)).flatten:=⟨_,rfl⟩
 obtain⟨F2,hF2⟩: ∃F2,F2=(L2.map (·.2.2)).flatten:=⟨_,rfl⟩
 have t1:1≤t:=tag_pos k1
 have t21:1≤t2:=tag_pos k2
 have hm1: ∀p∈L1,∀g∈p.2.2,g∈F1:=fun p hp g hg=>by rw[hF1];exact List.mem_flatten.2 ⟨_,List.mem_map.2 ⟨p,hp,rfl⟩,hg⟩
 have hm2: ∀p∈L2,∀g∈p.2.2,g∈F2:=fun p hp g hg=>by rw[hF2];exact List.mem_flatten.2 ⟨_,List.mem_map.2 ⟨p,hp,rfl⟩,hg⟩
 have hp1: ∀g∈F1,∃p∈L1,g∈p.2.2:=fun g hg=>by
  rw[hF1]at hg
  obtain⟨G,hG,hq⟩:=List.mem_flatten.1 hg
  obtain⟨p,hp,rfl⟩:=List.mem_map.1 hG
  exact⟨p,hp,hq⟩
 have hp2: ∀g∈F2,∃p∈L2,g∈p.2.2:=fun g hg=>by
  rw[hF2]at hg
  obtain⟨G,hG,hq⟩:=List.mem_flatten.1 hg
  obtain⟨p,hp,rfl⟩:=List.mem_map.1 hG
  exact⟨p,hp,hq⟩
 have f1: ∀g∈F1,σ g=t∧g<w.heap.size:=fun g hg=>by
  obtain⟨p,hp,hq⟩:=hp1 g hg
  exact h1.tag (some p) (List.mem_map.2 ⟨p,hp,rfl⟩) g hq
 have f2: ∀g∈F2,σ g=t2∧g<w.heap.size:=fun g hg=>by
  obtain⟨p,hp,hq⟩:=hp2 g hg
  exact h2.tag (some p) (List.mem_map.2 ⟨p,hp,rfl⟩) g hq
 have n1:=nod_of h1.nd h1.inj
 have n2:=nod_of h2.nd h2.inj
 rw[fp_rows,←hF1,List.nodup_append]at n1
 rw[fp_rows,←hF2,List.nodup_append]at n2
 have hvF: ∀g,hbV v=some g→g∉F1:=fun g hg hq=>n1.2.2 g (by rw[hg];simp) g hq rfl
 let t':=t+t2+1
 have ht':t'≠t∧t'≠t2∧1≤t':=⟨by simp only[t'];omega,by simp only[t'];omega,by simp only[t'];omega⟩
 have hev0:EvT (fun s=>s=t) σ w (retag σ F1 t') w:=retag_ev fun g hg=>(f1 g hg).1
 obtain⟨hi0,e0⟩:=hev0.ev1 (by omega)
 obtain⟨o1,o2⟩:=own_f hO
 have hOa:Own rawK e (retag σ F1 t') t w v (L1.map (·.1)):=own_of (o1.ev e0 fun _ _=>rfl) fun g hg=>by rw[retag_out (hvF g hg)];exact o2 g hg
 obtain⟨A',c',hs,_,_,hRd⟩:=(own_evT hO2 hev0 (fun h=>hne h.symm) (by omega)).rd
 injection hs with hs1 hs2 hs3
 subst hs1 hs3
 obtain⟨v1,w1,σ1,r1,r2,r3⟩:=run_app (ot:=ot) hOa hRd ht hinfo (by rw[hz];rfl) (Nat.le_refl 1:0<rawK.sz) hby t1 (by simpa using hb)
 rw[List.length_map]at r1
 have hkeep: ∀g,g∈F1∨g∈F2→σ1 g≠t∧w1.heap[g]? =w.heap[g]? :=fun g hg=>by
  have hlt:g<w.heap.size:=hg.elim (fun h=>(f1 g h).2) (fun h=>(f2 g h).2)
  have htag:retag σ F1 t' g≠t:=by
   by_cases hq:g∈F1
   ·rw[retag_in hq];exact ht'.1
   ·rw[retag_out hq,(f2 g (hg.resolve_left hq)).1];exact fun h=>hne h.symm
  obtain⟨q1,q2⟩:=r2.keep g hlt (fun h=>htag (by omega))
  exact⟨by rw[q1];exact htag,q2⟩
 obtain⟨p1,p2⟩:=own_f r3
 have hv1F: ∀g,hbV v1=some g→g∉F1++F2:=fun g hg hq=>(hkeep g (List.mem_append.1 hq)).1 (p2 g hg)
 have hev:EvT (fun s=>s=t∨s=t2) σ w (retag σ1 (F1++F2) t) w1:=by
  refine⟨r2.os,r2.tape,r2.output,r2.drawn,r2.size,fun b hb hn=> ?_⟩
  have hb1:b∉F1:=fun h=>hn (.inl (f1 b h).1)
  have hb2:b∉F2:=fun h=>hn (.inr (f2 b h).1)
  obtain⟨q1,q2⟩:=r2.keep b hb (fun h=>by
   rw[retag_out hb1]at h
   exact hn (.inl (by omega)))
  rw[retag_out (by simp[hb1,hb2])]
  exact⟨by rw[q1,retag_out hb1],q2⟩
 obtain⟨hi,e1⟩:=hev.ev1 (by omega)
 have hsz:=r2.size
 have hev2:EvT (fun s=>1≤s) σ1 w1 (retag σ1 (F1++F2) t) w1:=⟨rfl,rfl,rfl,fun _=>Nat.le_refl _,Nat.le_refl _,fun b hb hn=>by
  by_cases hq:b∈F1++F2
  ·exfalso
   have hlt:b<w.heap.size:=(List.mem_append.1 hq).elim (fun h=>(f1 b h).2) (fun h=>(f2 b h).2)
   have htag:1≤retag σ F1 t' b∧retag σ F1 t' b≠t:=by
    by_cases hq1:b∈F1
    ·rw[retag_in hq1];exact⟨ht'.2.2,ht'.1⟩
    ·have:=(f2 b ((List.mem_append.1 hq).resolve_left hq1)).1
     rw[retag_out hq1,this];exact⟨t21,fun h=>hne h.symm⟩
   obtain⟨q1,_⟩:=r2.keep b hlt (fun h=>htag.2 (by omega))
   exact hn (by rw[q1];exact htag.1)
  ·exact⟨retag_out hq,rfl⟩⟩
 obtain⟨hi2,e2⟩:=hev2.ev1 (by omega)
 have hnod:=of_nod (g0:=hbV v1) (P:=(L1++L2).map some) (by
  rw[fp_rows,List.map_append,List.flatten_append,←hF1,←hF2,List.nodup_append]
  refine⟨by cases hbV v1<;>simp,?_,fun g hg g' hg' e=> ?_⟩
  ·rw[List.nodup_append]
   refine⟨n1.2.1,n2.2.1,fun g hg g' hg' e=> ?_⟩
   subst e
   exact hne ((f1 g hg).1.symm.trans (f2 g hg').1)
  ·subst e
   exact hv1F g (by simpa using hg) hg')
 refine⟨v1,w1,_,r1,hev,L1++L2,?_,by simp,(fun i b h=>nomatch h),fun i u x G hp _=> ?_,fun i u x G hp h=>absurd h nolent,fun p hp g hg=> ?_,hnod.1,hnod.2⟩
 ·rw[List.map_append]
  exact own_of (p1.ev e2 fun _ _=>rfl) fun g hg=>by rw[retag_out (hv1F g hg)];exact p2 g hg
 ·rw[List.getElem?_map]at hp
  obtain⟨p,hp1',hp2'⟩:=Option.map_eq_some_iff.1 hp
  obtain rfl:=Option.some.inj hp2'
  have hmem:=List.mem_of_getElem? hp1'
  rcases List.mem_append.1 hmem with hm|hm
  ·obtain⟨j,hj⟩:=List.mem_iff_getElem?.1 hm
   exact(h1.own j u x G (by rw[List.getElem?_map,hj];rfl) nolent).ev e1 d fun g hg=>(hkeep g (.inl (hm1 _ hm g hg))).2
  ·obtain⟨j,hj⟩:=List.mem_iff_getElem?.1 hm
   exact(h2.own j u x G (by rw[List.getElem?_map,hj];rfl) nolent).ev e1 d fun g hg=>(hkeep g (.inr (hm2 _ hm g hg))).2
 ·obtain⟨q,hq,rfl⟩:=List.mem_map.1 hp
  rcases List.mem_append.1 hq with hm|hm
  ·exact⟨retag_in (List.mem_append_left _ (hm1 q hm g hg)),Nat.lt_of_lt_of_le (f1 g (hm1 q hm g hg)).2 hsz⟩
  ·exact⟨retag_in (List.mem_append_right _ (hm2 q hm g hg)),Nat.lt_of_lt_of_le (f2 g (hm2 q hm g hg)).2 hsz⟩
def appD(P:Program)(H:List AB)(st:TypeId)(x y:AV):Option (Bool×List AB):=
 match P.underlying st,y with
 |some (.slice e),.row r2=>match P.info? e,H[r2]? with
  |some ie,some (.rowD d e2 ys none)=>match ie.zero,Nat.ble ie.bytes 128,Nat.beq ie.size 1,natEq e2 e with
   |some z,true,true,some _=>match Nat.beq z.cells.size 1 with
    |true=>match x with
     | .val (.slice none 0 0)=>some (decide (ys.length≤1099511627776),H.set r2 .gone++ [.rowD d e ys none])
     | .row r=>match H[r]?,Nat.beq r r2 with
      |some (.rowD d' e' xs none),false=>match dtEq d' d,natEq e' e with
       |some ⟨h⟩,some _=>some (decide ((castDL h xs).length+ys.length≤1099511627776),(H.set r .gone).set r2 .gone++ [.rowD d e (castDL h xs++ys) none])
       |_,_=>none
      |_,_=>none
     |_=>none
    |false=>none
   |_,_,_,_=>none
  |_,_=>none
 |_,_=>none
theorem appD_sound {st:TypeId} {x y:Operand} {H':List AB} (hC:Conc E σ τ β ⟨tm,H⟩ a w) (ho:o.op= .call {callee:= .builtin .append,args:= #[x,y],argTypes:= #[st,st]})
  (h:appD P H st (aeval tm x) (aeval tm y)=some (true,H')):HPres H H'∧OpOut P E σ β tm a w o H' (.row H.length):=by
 have hx:=aeval_rel hC x
 have hy:=aeval_rel hC y
 unfold appD at h
 split at h
 case h_2=>cases h
 rename_i e r2 hu hyv
 rw[hyv]at hy
 simp only[Rel]at hy
 split at h
 case h_2=>cases h
 rename_i ie d e2 ys hie hr2
 split at h
 case h_2=>cases h
 rename_i z pe hz hby hsz _
 obtain⟨he2⟩:=pe
 subst he2
 split at h
 case h_2=>cases h
 rename_i hzs
 have hby:=Nat.le_of_ble_eq_true hby
 have hsz:=Nat.eq_of_beq_eq_true hsz
 have hzs:=Nat.eq_of_beq_eq_true hzs
 have hinfo:(P.info? e2).map (fun i=>(i.zero,i.size,i.bytes))=some (some z,1,ie.bytes):=by rw[hie];simp only[Option.map_some,hz,hsz]
 obtain⟨L2,a1,a2,_,a4⟩:=hC.heap r2 _ _ hr2 hy.1
 obtain⟨A,c,b1,b2,_,b4⟩:=a1.rd
 rw[List.length_map]at b1
 have hP2:=hC.apart r2 _ hr2 rfl
 have hfin: ∀v v1 w1,a.eval x=v→(Builtin.append_ #[st,st] o.type #[v,.slice A L2.length c]).run P w= .ok v1 w1→(execOp a.eval o).run P w= .ok (.value v1) w1:=by
  intro v v1 w1 hv hr
  simp only[execOp,ho,resolve,invoke,builtin,Sem.run_bind,Sem.run_pure,Result.andThen_ok,List.map_toArray,List.map_cons,List.map_nil,hv,b1,hr]
 rw[b1]at a1 a4
 split at h
 ·rename_i hxv
  simp only[Option.some.injEq,Prod.mk.injEq]at h
  obtain⟨hlen,rfl⟩:=h
  have hx:Rel E σ w β (.val (.slice none 0 0)) (a.eval x):=hxv▸hx
  simp only[Rel]at hx
  obtain⟨r,hr1,hr2'⟩:=Gh.fresh τ (E.bnd+τ r2+1) H.length
  have hP: ¬E.Kp r:=fun h=>by have:=E.low _ h;omega
  have hlen:=of_decide_eq_true hlen
  rw[a2,List.length_map]at hlen
  obtain⟨v1,w1,σ1,q1,q2,q3⟩:=app_rows (E:=E) (ot:=o.type) (t:=r) (L1:=([]:List (Value×d.Den×List Nat))) (β:=β) (Own.nil (K:=rawK) (e:=e2) (σ:=σ) (w:=w)) a1 (by omega)
   ⟨fun i u x G h=>by simp at h,fun i u x G h=>by simp at h,fun p h=>by simp at h,fun i p h=>by simp at h,fun i j p q g h=>by simp at h⟩ a4 hu hinfo hzs hby hP hP2 (by simpa using hlen)
  have hlive: ∀(i:Nat) y,(H.set r2 .gone)[i]? =some y→y.live=true→¬(τ i=r∨τ i=τ r2):=fun i y hy' hl e=>by
   obtain⟨g1,g2⟩:=gone_get hy' hl
   rcases e with e|e
   ·have:=hr2' i (List.getElem?_eq_some_iff.1 g1).1;omega
   ·exact g2 (hC.inj i r2 y _ g1 hr2 hl rfl e)
  have hC2:=Conc.evC (conc_gone (i:=r2) hC) q2 (fun t hp h=>h.elim (fun h=>hP (h▸E.sub _ hp)) (fun h=>hP2 (h▸E.sub _ hp))) hlive
  have h3:=conc_new (x:= .rowD d e2 ys none) (v:=v1) (t:=r) hC2 EvT.refl hP (fun i y hy' hl e=>hlive i y hy' hl (.inl e)) (by rw[a2];exact q3.more ⟨_,rfl⟩)
  have hl:(H.set r2 .gone).length=H.length:=by simp
  have hsz':=hC.size
  simp only at hsz'
  refine⟨(HPres.set hr2 (fun _=>by simp)).trans (.app _ _),OpGives.val σ1 (hfin _ _ _ hx q1) ⟨_,_,⟨_,rfl⟩,q2.mono (fun t h hp=>h.elim (fun h=>hP (h▸hp)) (fun h=>hP2 (h▸hp))),h3,?_⟩⟩
  simp only[Rel]
  obtain⟨Lq,q4,_⟩:=q3
  exact⟨by rw[←hsz'];simp,(own_f q4).1.one⟩
 ·rename_i r hxv
  have hx:Rel E σ w β (.row r) (a.eval x):=hxv▸hx
  simp only[Rel]at hx
  split at h
  case h_2=>cases h
  rename_i d' e' xs hr hrr
  have hrr:r≠r2:=fun e=>by subst e;simp at hrr
  split at h
  case h_2=>cases h
  rename_i hT pe _ _
  obtain⟨hE⟩:=pe
  simp only[Option.some.injEq,Prod.mk.injEq]at h
  obtain⟨hlen,rfl⟩:=h
  subst hT hE
  have hP:=hC.apart r _ hr rfl
  obtain⟨L1,c1,c2,_,c4⟩:=hC.heap r _ _ hr hx.1
  have hlen:=of_decide_eq_true hlen
  have hne:τ r≠τ r2:=fun e=>hrr (hC.inj r r2 _ _ hr hr2 rfl rfl e)
  obtain⟨v1,w1,σ1,q1,q2,q3⟩:=app_rows (E:=E) (ot:=o.type) (β:=β) c1 a1 hne c4 a4 hu hinfo hzs hby hP hP2 (by
   have hlen:xs.length+ys.length≤1099511627776:=hlen
   rw[a2,c2,List.length_map,List.length_map]at hlen
   exact hlen)
  have hlive: ∀(i:Nat) y,((H.set r .gone).set r2 .gone)[i]? =some y→y.live=true→¬(τ i=τ r∨τ i=τ r2):=fun i y hy' hl e=>by
   obtain⟨g1,g2⟩:=gone_get hy' hl
   obtain⟨g3,g4⟩:=gone_get g1 hl
   rcases e with e|e
   ·exact g4 (hC.inj i r y _ g3 hr hl rfl e)
   ·exact g2 (hC.inj i r2 y _ g3 hr2 hl rfl e)
  have hC2:=Conc.evC (conc_gone (i:=r2) (conc_gone (i:=r) hC)) q2 (fun t hp h=>h.elim (fun h=>hP (h▸E.sub _ hp)) (fun h=>hP2 (h▸E.sub _ hp))) hlive
  have h3:=conc_new (x:= .rowD d' e' (xs++ys) none) (v:=v1) (t:=τ r) hC2 EvT.refl hP (fun i y hy' hl e=>hlive i y hy' hl (.inl e)) (by rw[a2,c2];exact q3.more ⟨_,rfl⟩)
  have hl:((H.set r .gone).set r2 .gone).length=H.length:=by simp
  have hsz':=hC.size
  simp only at hsz'
  have hr2':(H.set r .gone)[r2]? =some (.rowD d' e' ys none):=by rw[List.getElem?_set,if_neg hrr];exact hr2
  refine⟨((HPres.set hr (fun _=>by simp)).trans (HPres.set hr2' (fun _=>by simp))).trans (.app _ _),OpGives.val σ1 (hfin _ _ _ rfl q1) ⟨_,_,⟨_,rfl⟩,q2.mono (fun t h hp=>h.elim (fun h=>hP (h▸hp)) (fun h=>hP2 (h▸hp))),h3,?_⟩⟩
  simp only[Rel]
  obtain⟨Lq,q4,_⟩:=q3
  exact⟨by rw[←hsz'];simp,(own_f q4).1.one⟩
 ·cases h
end
end Go.Am
/- The abstract machine,part 40: a row of its own that is cut short,and stays one. No statement of its own. -/
namespace Go.Am
open Go.Vk Go.RowKit
def cutK(P:Program)(tm:List AV)(H:List AB)(t:TypeId)(x:AV)(lo hi:Option Operand):Option (Bool×List AB×AV):=
 match lo,P.underlying t,x with
 |none,some (.slice e),.row r=>match(H[r]? :Option AB)with
  |some (.row T e' xs)=>match(P.info? e).map (fun i=>Nat.beq i.size T.sz),boundX tm xs.length hi with
   |some true,some h=>some (decide (0≤h) && decide (h≤(xs.length:Int)),H.set r .gone++ [.row T e' (xs.take h.toNat)],.row H.length)
   |_,_=>none
  |_=>none
 |_,_,_=>none
variable [Dr] in
theorem reps_take{α:Type}{K:Kd α}{σ:Gh}{w:World}: ∀{xs:List α} {cs:List Value} (h:Nat),Reps K σ w xs cs→Reps K σ w (xs.take h) (cs.take (h*K.sz))
 | [],cs,h,hr=>by rw[show cs= []from hr];simp[Reps]
 |x::xs,cs,0,hr=>by simp[Reps]
 |x::xs,cs,h+1,hr=>by
  obtain⟨c,r,e1,e2,e3⟩:=hr
  have hc:=K.len e2
  refine⟨c,r.take (h*K.sz),?_,e2,reps_take h e3⟩
  rw[e1,Nat.succ_mul,Nat.add_comm,List.take_append,List.take_of_length_le (by omega),hc,Nat.add_sub_cancel_left]
variable [Dr] in
theorem own_take{α:Type}{K:Kd α}{e:TypeId}{σ:Gh}{t:Nat}{w:World}{A:Option Addr}{n c:Nat}{xs:List α}{h:Nat}(ho:Own K e σ t w (.slice A n c) xs)(hh:h≤xs.length):Own K e σ t w (.slice A h c) (xs.take h):=by
 obtain⟨cs,o1,o2,o3⟩:=ho
 have hn:=o1.1
 have hl:(xs.take h).length=h:=by simp;omega
 refine⟨cs.take (h*K.sz),?_,?_,reps_take h o3⟩
 ·refine⟨?_,?_⟩
  ·rw[hl,List.length_take]
   have:h*K.sz≤xs.length*K.sz:=Nat.mul_le_mul_right _ hh
   have hn':cs.length=xs.length*K.sz:=hn
   omega
  ·rcases o1.2 with⟨hv,hz⟩|⟨g,cap,cur,hv,hb,hh2,hnc,hcm,hcz,htk⟩
   ·injection hv with h1 h2 h3
    subst h1 h3
    have h0:xs.length=0:=by omega
    have:h=0:=by omega
    subst this
    exact .inl ⟨rfl,by simp⟩
   ·injection hv with h1 h2 h3
    subst h1 h3
    refine .inr ⟨g,c,cur,by rw[hl],hb,hh2,by rw[hl];omega,hcm,hcz,?_⟩
    have htk:cur.toList.take (xs.length*K.sz)=cs:=htk
    rw[hl,←htk,List.take_take,Nat.min_eq_left (Nat.mul_le_mul_right _ hh)]
 ·intro g hg
  refine o2 g ?_
  cases A with
  |none=>simp[Value.ownBlock]at hg
  |some ad=>simpa[Value.ownBlock]using hg
section
variable [Dr]
variable {P : Program} {E : Env} {σ : Gh} {τ : Nat → Nat} {w : World} {β : List Value} {tm : List AV} {H : List AB} {a : Act} {o : Oper}
theorem cutK_sound{t:TypeId}{x:Operand}{lo hi:Option Operand}{H':List AB}{y:AV}(hC:Conc E σ τ β ⟨tm,H⟩ a w)(ho:o.op= .slice t x lo hi none)(h:cutK P tm H t (aeval tm x) lo hi=some (true,H',y)):OpOut P E σ β tm a w o H' y:=by
 have hx:=aeval_rel hC x
 unfold cutK at h
 split at h
 case h_2=>cases h
 rename_i e r hu hv
 rw[show aeval (St.mk tm H).tmps x=_ from hv]at hx
 simp only[Rel]at hx
 split at h
 case h_2=>cases h
 rename_i T e' xs hr
 split at h
 case h_2=>cases h
 rename_i hh hsz hhi
 simp only[Option.some.injEq,Prod.mk.injEq,Bool.and_eq_true,decide_eq_true_eq]at h
 obtain⟨⟨h0,h1⟩,rfl,rfl⟩:=h
 obtain⟨ti,hti,hbeq⟩:=Option.map_eq_some_iff.1 hsz
 have hsz:(P.info? e).map (·.size)=some T.sz:=by rw[hti];simpa using Nat.eq_of_beq_eq_true hbeq
 have hsz:(P.info? e).map (·.size)=some T.kd.sz:=hsz
 have hO:Own T.kd e' σ (τ r) w (a.eval x) xs:=hC.heap r _ _ hr hx.1
 obtain⟨A,c,e1,e2,e3,e5⟩:=hO.rd
 have hP:=hC.apart r _ hr rfl
 have hlo:boundX tm 0 none=some 0:=rfl
 have hcl:xs.length≤c:=e2
 have hrun:=ex_slice (P:=P) (w:=w) (l:=0) (h:=hh.toNat) ho hu hsz e1 (by simpa using bound_is hC hlo (Int.le_refl 0)) (bound_is hC hhi h0) (by omega) (by omega)
 have hval:(Value.slice (if c=0 then A else A.map (·.add (0*T.kd.sz))) (hh.toNat - 0) (c - 0))=Value.slice A hh.toNat c:=by
  simp only[Nat.zero_mul,Nat.sub_zero]
  split
  ·rfl
  ·cases A with
   |none=>rfl
   |some ad=>simp[Addr.add]
 rw[hval]at hrun
 have hO2:Own T.kd e' σ (τ r) w (.slice A hh.toNat c) (xs.take hh.toNat):=own_take (n:=xs.length) (by rw[←e1];exact hO) (by omega)
 have hC1:=conc_Gone hC (Gone.set hr (fun y=>by simp))
 have hlen:(H.set r .gone).length=H.length:=by simp
 obtain⟨k1,k2⟩:=conc_row (t:=τ r) hC1 .refl hP (fun i z hz hl he=>by
  rw[List.getElem?_set]at hz
  by_cases hi:r=i
  ·subst hi
   rw[if_pos rfl,if_pos (List.getElem?_eq_some_iff.1 hr).1]at hz
   obtain rfl:=Option.some.inj hz
   cases hl
  ·rw[if_neg hi]at hz
   exact hi (hC.inj r i _ _ hr hz rfl hl he.symm)) hO2
 refine OpGives.val σ hrun ⟨_,_,⟨[_],rfl⟩,.refl,k1,?_⟩
 rw[hlen]at k2
 exact k2
omit [Dr] in
theorem cutK_pres{t:TypeId}{x:AV}{lo hi:Option Operand}{H':List AB}{y:AV}{c:Bool}(h:cutK P tm H t x lo hi=some (c,H',y)):HPres H H':=by
 unfold cutK at h
 split at h
 case h_2=>cases h
 split at h
 case h_2=>cases h
 rename_i T e' xs hr
 split at h
 case h_2=>cases h
 simp only[Option.some.injEq,Prod.mk.injEq]at h
 obtain⟨_,rfl,_⟩:=h
 exact(HPres.set hr (fun b=>by simp)).trans (.app _ _)
end
end Go.Am
