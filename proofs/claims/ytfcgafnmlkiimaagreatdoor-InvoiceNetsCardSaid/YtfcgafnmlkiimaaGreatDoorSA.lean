/- The abstract machine,sorting,part 1: slices.SortFunc on a known row,with a comparison that is walked. No statement of its own. -/
import Derived.Test.YtfcgafnmlkiimaaGreatDoorAmE
import Derived.Shelf.SlSortCmp.NoneTotal
import Derived.Sort.OwnSortedInts
set_option linter.unusedSimpArgs false
set_option linter.unusedVariables false
namespace Go.Am
open Go.Vk Go.RowKit Go.Sort Go.Proofs Go.Shelf
variable [Dr]
omit [Dr] in
@[reducible] def inhT:(T:Ty)→Inhabited T.Den:=fun T=>⟨Ty.dfl T⟩
theorem reps_flatT{σ:Gh}{w:World}{T:Ty}(h:flatT T=true): ∀(xs:List T.Den) (cs:List Value),Reps T.kd σ w xs cs↔cs=xs.flatMap (encF T)
 | [],cs=>by simp[Reps]
 |x::xs,cs=>by
  simp only[Reps,List.flatMap_cons]
  constructor
  ·rintro⟨c,r,rfl,h1,h2⟩
   rw[(rep_flat T x c h).1 h1,(reps_flatT h xs r).1 h2]
  ·rintro rfl
   exact⟨_,_,rfl,(rep_flat T x _ h).2 rfl,(reps_flatT h xs _).2 rfl⟩
noncomputable def sortM{T:Ty}(f:T.Den→T.Den→Option Int)(xs:List T.Den):Option (List T.Den):=
 letI:=inhT T
 open Classical in
 if h:(∃cf:T.Den→T.Den→Int,(∀x y,f x y=some (cf x y))∧SWO (ltOf cf))∧xs.length<4611686018427387904 then some (pdq (ltOf h.1.choose) xs.toArray 0 xs.toArray.size (Lib.bitLen xs.toArray.size) true true).toList else none
omit [Dr] in
theorem sortM_spec{T:Ty}{f:T.Den→T.Den→Option Int}{xs:List T.Den}(cf:T.Den→T.Den→Int)(hf: ∀x y,f x y=some (cf x y))(hO:SWO (ltOf cf))(hl:xs.length<4611686018427387904):
  ∃ys,sortM f xs=some ys∧ys.Perm xs∧ys.Pairwise (fun a b=>ltOf cf b a=false):=by
 have hh:(∃cf:T.Den→T.Den→Int,(∀x y,f x y=some (cf x y))∧SWO (ltOf cf))∧xs.length<4611686018427387904:=⟨⟨cf,hf,hO⟩,hl⟩
 have hc:hh.1.choose=cf:=by
  funext x y
  have:=hh.1.choose_spec.1 x y
  rw[hf]at this
  exact(Option.some.inj this).symm
 letI:=inhT T
 refine⟨_,by rw[sortM,dif_pos hh],?_,?_⟩
 all_goals
  rw[hc]
  obtain⟨⟨p1,p2,p3⟩,p4⟩:=pdq_sorts (ltOf cf) hO xs.toArray 0 xs.toArray.size (Lib.bitLen xs.toArray.size) true true (Nat.zero_le _) (Nat.le_refl _) (Or.inl rfl)
 ·have e1:(pdq (ltOf cf) xs.toArray 0 xs.toArray.size (Lib.bitLen xs.toArray.size) true true).extract 0 xs.toArray.size=pdq (ltOf cf) xs.toArray 0 xs.toArray.size (Lib.bitLen xs.toArray.size) true true:=by
   have:=Array.extract_size (xs:=pdq (ltOf cf) xs.toArray 0 xs.toArray.size (Lib.bitLen xs.toArray.size) true true)
   rw[p1]at this;exact this
  rw[e1,Array.extract_size]at p3
  exact p3
 ·rw[List.pairwise_iff_getElem]
  intro i j hi hj hij
  have h1:i< (pdq (ltOf cf) xs.toArray 0 xs.toArray.size (Lib.bitLen xs.toArray.size) true true).size:=by simpa using hi
  have h2:j< (pdq (ltOf cf) xs.toArray 0 xs.toArray.size (Lib.bitLen xs.toArray.size) true true).size:=by simpa using hj
  have:=p4 i j (Nat.zero_le _) hij (by rw[←p1];exact h2)
  rw[getElem!_pos _ i h1,getElem!_pos _ j h2]at this
  simpa using this
end Go.Am
/- The abstract machine,sorting,part 2: slices.SortFunc as a call. No statement of its own. -/
namespace Go.Am
open Go.Vk Go.RowKit Go.Sort Go.Proofs Go.Shelf
variable [Dr]
omit [Dr] in
theorem decB_encF{H:List AB}: ∀(T:Ty) (x:T.Den) (r:List AV),flatT T=true→decB H T ((encF T x).map .val++r)=some (x,r)
 | .int k,x,r,_=>by
  simp only[encF,List.map_cons,List.map_nil,List.cons_append,List.nil_append,decB,dec]
  cases k<;>rfl
 | .bool,x,r,_=>rfl
 | .str,x,r,_=>rfl
 | .pair a b,x,r,h=>by
  simp only[flatT,Bool.and_eq_true]at h
  simp only[encF,List.map_append,List.append_assoc,decB]
  rw[decB_encF a x.1 _ h.1]
  simp only
  rw[decB_encF b x.2 _ h.2]
 | .slice _,_,_,h=>by simp[flatT]at h
 | .arr _ _,_,_,h=>by simp[flatT]at h
omit [Dr] in
theorem world_grown{w w':World}(ho:w'.os=w.os)(ht:w'.tape=w.tape)(hu:w'.output=w.output)(hd:w.drawn≤w'.drawn)(hs:w.heap.size≤w'.heap.size)(hk: ∀b,b<w.heap.size→w'.heap[b]? =w.heap[b]?):
  w'=grow (w.drewN (w'.drawn - w.drawn)) (w'.heap.extract w.heap.size w'.heap.size):=by
 have hh:w'.heap=w.heap++w'.heap.extract w.heap.size w'.heap.size:=by
  apply Array.ext_getElem?
  intro i
  rw[Array.getElem?_append]
  by_cases hi:i<w.heap.size
  ·rw[if_pos hi,hk i hi]
  ·rw[if_neg hi,Array.getElem?_extract]
   by_cases hi2:i - w.heap.size<min w'.heap.size w'.heap.size - w.heap.size
   ·rw[if_pos hi2]
    congr 1;omega
   ·rw[if_neg hi2]
    exact Array.getElem?_eq_none (by simp at hi2;omega)
 have hdd:w.drawn+(w'.drawn - w.drawn)=w'.drawn:=by omega
 obtain⟨h',t',d',o',u'⟩:=w'
 obtain⟨h,t,d,o,u⟩:=w
 dsimp only at ho ht hu hh hdd
 subst ho ht hu
 show World.mk h' _ d' _ _=World.mk (h++_) _ (d+(d' - d)) _ _
 rw[hdd]
 congr 1
theorem cmp_lays(hD:Dr.D){P:Program}{g:FuncId}{T:Ty}{f:T.Den→T.Den→Option Int}{cf:T.Den→T.Den→Int}{blk off size:Nat}{w:World}(hfl:flatT T=true)(h:HdlVOk P g (hdlV [(true,T),(true,T)] [.sl 0 false (.int .i64)] (fun y=>f y.1 y.2)))(hf: ∀x y,f x y=some (cf x y)):
  letI:=inhT T
  CmpLays P g #[] (encF T) T.sz cf blk off size w:=by
 letI:=inhT T
 intro m os dk hs x y
 generalize hW:sortWorldK (encF T) T.sz w blk off m dk os=W
 let E:Env:=⟨fun t=>t=0,fun _=>False,fun t=>t<2,2,rfl,fun t h=>by rcases h with rfl|h;omega;exact h.elim,fun t h=>h⟩
 have hC:Conc E (fun _=>1) (fun _=>0) [] ⟨[],[]⟩ ⟨#[],[]⟩ W:=⟨rfl,by simp[RelL],rfl,fun i x v hx=>by simp at hx,fun i x hx=>by simp at hx,fun i j x y hx=>by simp at hx⟩
 have hargs:RelL E (fun _=>1) W [] [.agg ((encF T x).map .val),.agg ((encF T y).map .val)] [.agg (encF T x).toArray,.agg (encF T y).toArray]:=by
  simp only[RelL,Rel]
  exact⟨_,_,rfl,⟨_,rfl,relL_vals _⟩,_,_,rfl,⟨_,rfl,relL_vals _⟩,rfl⟩
 have hx:hdlV [(true,T),(true,T)] [.sl 0 false (.int .i64)] (fun y=>f y.1 y.2) AV [.agg ((encF T x).map .val),.agg ((encF T y).map .val)] [] some=some (.val (.int .i64 (cf x y))):=by
  have e: ∀z:T.Den,decBV [] true T (.agg ((encF T z).map .val))=some z:=fun z=>by
   have:=decB_encF (H:= []) T z [] hfl
   rw[List.append_nil]at this
   simp only[decBV,this,whole]
  unfold hdlV
  simp only[decArgs,e]
  rw[hf]
  rfl
 obtain⟨av,h1,h2⟩:=h.1 _ _ _ _ _ hx
 obtain rfl:=Option.some.inj h1
 refine Calls.mono (h2 E _ _ [] [] _ W _ hC hargs) ?_
 rintro e w' ⟨v,σ',rfl,τ',β',_,hev,_,hr⟩
 simp only[Rel]at hr
 refine⟨by rw[hr],_,_,world_grown hev.os hev.tape hev.output (hev.drawn hD) hev.size (fun b hb=>(hev.keep b hb (fun hn=>hn ?_)).2)⟩
 show 1<2
 omega
noncomputable def sortHdl(g:FuncId)(T:Ty)(f:T.Den→T.Den→Option Int):Hdl:=fun X args H k=>
 match args with
 | [x,c]=>match cloX c with
  |some (g',[],[])=>match Nat.beq g' g,x with
   |true,.row r=>match H[r]? with
    |some (.row T' e xs)=>match tyEq T' T with
     |some ⟨h⟩=>(sortM f (castL h xs)).bind fun ys=>k (H.set r (.row T e ys)) (.tup [])
     |none=>none
    |_=>none
   |true,.val (.slice none 0 0)=>k H (.tup [])
   |_,_=>none
  |_=>none
 |_=>none
omit [Dr] in
theorem flat_cells{T:Ty}(hfl:flatT T=true)(xs:List T.Den):letI:=inhT T;(flatK (encF T) T.sz xs.toArray).toList=xs.flatMap (encF T):=by
 letI:=inhT T
 by_cases hz:T.sz=0
 ·have h0: ∀x,encF T x= []:=fun x=>List.eq_nil_of_length_eq_zero (by rw[encF_len T x hfl,hz])
  have:xs.flatMap (encF T)= []:=by simp[h0]
  rw[this]
  apply List.eq_nil_of_length_eq_zero
  simp[hz]
 ·apply List.ext_getElem?
  intro i
  have hlen:(xs.flatMap (encF T)).length=xs.length*T.sz:=by
   induction xs with
   |nil=>simp
   |cons x xs ih=>simp only[List.flatMap_cons,List.length_append,ih,encF_len T x hfl,List.length_cons,Nat.add_mul,Nat.one_mul];omega
  by_cases hi:i<xs.length*T.sz
  ·have hd:i / T.sz<xs.length:=(Nat.div_lt_iff_lt_mul (by omega)).2 hi
   have hm:i % T.sz<T.sz:=Nat.mod_lt _ (by omega)
   have h1:=get_flatK (encF T) T.sz xs.toArray i (by simpa using hi)
   rw[getElem!_pos _ i (by simpa using hi),getElem!_pos xs.toArray (i / T.sz) (by simpa using hd)]at h1
   rw[Array.getElem?_toList,Array.getElem?_eq_getElem (by simpa using hi),h1]
   simp only[List.getElem_toArray]
   rw[getElem!_pos _ (i % T.sz) (by rw[encF_len T _ hfl];exact hm)]
   have key: ∀(xs:List T.Den) (q s:Nat) (hq:q<xs.length) (hs:s< (encF T xs[q]).length),(xs.flatMap (encF T))[q*T.sz+s]? =some ((encF T xs[q])[s]):=by
    intro xs
    induction xs with
    |nil=>intro q s hq;simp at hq
    |cons x xs ih=>
     intro q s hq hs
     simp only[List.flatMap_cons]
     cases q with
     |zero=>
      simp only[Nat.zero_mul,Nat.zero_add,List.getElem_cons_zero]at hs⊢
      rw[List.getElem?_append_left hs,List.getElem?_eq_getElem hs]
     |succ q=>
      simp only[List.getElem_cons_succ]at hs⊢
      rw[List.getElem?_append_right (by rw[encF_len T x hfl,Nat.add_mul];omega),encF_len T x hfl]
      rw[show(q+1)*T.sz+s - T.sz=q*T.sz+s by rw[Nat.add_mul];omega]
      exact ih q s _ hs
   have:=key xs (i / T.sz) (i % T.sz) hd (by rw[encF_len T _ hfl];exact hm)
   rw[Nat.div_add_mod' i T.sz]at this
   rw[this]
  ·rw[List.getElem?_eq_none (by simp;omega),List.getElem?_eq_none (by omega)]
end Go.Am
/- The abstract machine,sorting,part 3: slices.SortFunc as a call: it is one. No statement of its own. -/
namespace Go.Am
open Go.Vk Go.RowKit Go.Sort Go.Proofs Go.Shelf
variable [Dr]
omit [Dr] in
theorem sortM_inv{T:Ty}{f:T.Den→T.Den→Option Int}{xs ys:List T.Den}(h:sortM f xs=some ys):letI:=inhT T
  ∃cf:T.Den→T.Den→Int,(∀x y,f x y=some (cf x y))∧SWO (ltOf cf)∧xs.length<4611686018427387904∧ys=(pdq (ltOf cf) xs.toArray 0 xs.toArray.size (Lib.bitLen xs.toArray.size) true true).toList:=by
 letI:=inhT T
 unfold sortM at h
 split at h
 ·rename_i hh
  obtain rfl:=Option.some.inj h
  exact⟨_,hh.1.choose_spec.1,hh.1.choose_spec.2,hh.2,rfl⟩
 ·cases h
omit [Dr] in
theorem sortM_len{T:Ty}{f:T.Den→T.Den→Option Int}{xs ys:List T.Den}(h:sortM f xs=some ys):ys.length=xs.length:=by
 obtain⟨cf,h1,h2,h3,_⟩:=sortM_inv h
 obtain⟨zs,e1,e2,_⟩:=sortM_spec cf h1 h2 h3
 rw[h]at e1
 obtain rfl:=Option.some.inj e1
 exact e2.length_eq
omit [Dr] in
theorem heap_put{w:World}{g n:Nat}{os:Array Obj}{cur:Array Value}{e:TypeId}{fr:Nat×Nat}(F:Array Value)(hb:w.heap[g]? =some (.cells cur e fr)):
  (grow (putRow id (Sort.ahead w n) g 0 F) os).heap[g]? =some (.cells (Sort.putCells id 0 F cur) e fr):=by
 have hg:g<w.heap.size:=(Array.getElem?_eq_some_iff.1 hb).1
 rw[heap_grow_old _ _ (by simpa using hg)]
 simp[putRow,mapBlock,Sort.ahead,Array.getElem?_modify,hb,onCells]
omit [Dr] in
theorem heap_put_other{w:World}{g n k:Nat}{os:Array Obj}(F:Array Value)(hk:k<w.heap.size)(hne:g≠k):(grow (putRow id (Sort.ahead w n) g 0 F) os).heap[k]? =w.heap[k]? :=by
 rw[heap_grow_old _ _ (by simpa using hk)]
 simp[putRow,mapBlock,Sort.ahead,Array.getElem?_modify,hne]
omit [Dr] in
theorem take_put(cur F:Array Value)(h:F.size≤cur.size):(Sort.putCells id 0 F cur).toList.take F.size=F.toList:=by
 apply List.ext_getElem?
 intro j
 by_cases hj:j<F.size
 ·rw[List.getElem?_take_of_lt hj,Array.getElem?_toList,Array.getElem?_toList]
  simp[Sort.putCells,hj,show j<cur.size by omega]
 ·rw[List.getElem?_take_eq_none (by omega),List.getElem?_eq_none (by simp;omega)]
omit [Dr] in
theorem holds_put{w:World}{g:Nat}{cur F:Array Value}{e:TypeId}(hb:w.heap[g]? =some (.cells cur e (0,0)))(ht:cur.toList.take F.size=F.toList):Holds id w g 0 F:=by
 intro j hj
 refine⟨?_,by simp[World.frozen?,hb]⟩
 have h1:(cur.toList.take F.size)[j]? =F.toList[j]? :=by rw[ht]
 rw[List.getElem?_take_of_lt hj]at h1
 simp only[World.cell?,hb,Nat.zero_add]
 simp only[Option.isSome_none,Bool.false_eq_true,if_false]
 rw[←Array.getElem?_toList,h1]
 simp[hj]
omit [Dr] in
theorem flat_len{T:Ty}(hfl:flatT T=true)(xs:List T.Den):(xs.flatMap (encF T)).length=xs.length*T.sz:=by
 induction xs with
 |nil=>simp
 |cons x xs ih=>simp only[List.flatMap_cons,List.length_append,ih,encF_len T x hfl,List.length_cons,Nat.add_mul,Nat.one_mul];omega
theorem clo_val{E:Env}{σ:Gh}{w:World}{β:List Value}{c:AV}{v:Value}{g:FuncId}(h:cloX c=some (g,[],[]))(hr:Rel E σ w β c v):v= .func (.func g) #[] #[]:=by
 unfold cloX at h
 split at h
 ·rename_i f fs cs
  simp only[Option.some.injEq,Prod.mk.injEq]at h
  obtain⟨rfl,rfl,rfl⟩:=h
  simp only[Rel,RelL]at hr
  obtain⟨vs,us,rfl,rfl,rfl⟩:=hr
  rfl
 ·rename_i f fs cs
  simp only[Option.some.injEq,Prod.mk.injEq]at h
  obtain⟨rfl,h1,h2⟩:=h
  simp only[Rel]at hr
  rw[List.map_eq_nil_iff]at h1 h2
  have e1:fs= #[]:=Array.toList_eq_nil_iff.1 h1
  have e2:cs= #[]:=Array.toList_eq_nil_iff.1 h2
  rw[hr,e1,e2]
 ·cases h
theorem sort_ok {P:Program} {ρ:Ren} (L:SlLaysF0.n6 P ρ) {g:FuncId} {T:Ty} {f:T.Den→T.Den→Option Int} (hfl:flatT T=true) (hcmp: @HdlVOk ⟨True⟩ P g (hdlV [(true,T),(true,T)] [.sl 0 false (.int .i64)] (fun y=>f y.1 y.2)))
  (eg: ∀args w,(callFunc g args).run P w= .ok (.enter g args) w) (aE:aggB P (ρ.t 24)=true) (zE:(P.info? (ρ.t 24)).map (·.size)=some T.sz):HdlOk P (ρ.f 6) (sortHdl g T f):=by
 letI:=inhT T
 intro X args H k x h E σ τ β tm a w us hC hargs
 unfold sortHdl at h
 split at h
 case h_2=>cases h
 rename_i xa c
 simp only[RelL]at hargs
 obtain⟨u,r1,rfl,hx,v,r2,rfl,hc,rfl⟩:=hargs
 split at h
 case h_2=>cases h
 rename_i g' hclo
 split at h
 ·rename_i r hg
  obtain rfl:=Nat.eq_of_beq_eq_true hg
  have hv:=clo_val hclo hc
  subst hv
  split at h
  case h_2=>cases h
  rename_i T' e xs hr
  split at h
  case h_2=>cases h
  rename_i hT _
  subst hT
  simp only[castL]at h
  obtain⟨ys,hs,hk⟩:=Option.bind_eq_some_iff.1 h
  simp only[Rel]at hx
  have hO:Own T'.kd e σ (τ r) w u xs:=hC.heap r _ _ hr hx.1
  have hP:=hC.apart r _ hr rfl
  have hyl:=sortM_len hs
  obtain⟨cf,hf,hswo,hlen,hys⟩:=sortM_inv hs
  have fin: ∀(σ':Gh) (w':World),EvT (fun t=>t=τ r) σ w σ' w'→Own T'.kd e σ' (τ r) w' u ys→
    ∃v σ',Ending.returned (.tuple #[])= .returned v∧∃H' av τ' β',k H' av=some x∧HPres H H'∧(∃s,β'=β++s)∧EvT (Rng E) σ w σ' w'∧Conc E σ' τ' β' ⟨tm,H'⟩ a w'∧Rel E σ' w' β' av v:=by
   intro σ' w' hev hO'
   refine⟨_,σ',rfl,_,_,τ,β,hk,.set hr (fun b=>by simp),⟨[],by simp⟩,hev.mono (fun t h hp=>hP (h▸hp)),Conc.put hC hr rfl hx.1 hev hO',?_⟩
   simp only[Rel,RelL]
   exact⟨[],rfl,rfl⟩
  obtain⟨cs,⟨hcl,hcase⟩,htag,hreps⟩:=hO
  rcases hcase with⟨rfl,h0⟩|⟨gb,cap,cur,rfl,_,hb,h1,h2,h3,h4⟩
  ·have hxs:xs= []:=List.eq_nil_of_length_eq_zero h0
   subst hxs
   have hys0:ys= []:=List.eq_nil_of_length_eq_zero hyl
   subst hys0
   refine Calls.mono (AnyF.slices_SortFunc_none L none 0 (.func (.func g') #[] #[]) w) ?_
   rintro e0 w' ⟨rfl,rfl⟩
   exact fin σ w' .refl Own.nil
  ·have hcs:=(reps_flatT hfl xs cs).1 hreps
   have h3:cur.size=cap*T'.sz:=h3
   have h4:cur.toList.take (xs.length*T'.sz)=cs:=h4
   have hfk:(flatK (encF T') T'.sz xs.toArray).toList=cs:=by rw[flat_cells hfl,hcs]
   have hfs:(flatK (encF T') T'.sz xs.toArray).size=xs.length*T'.sz:=by simp
   have hH:HoldsK (encF T') T'.sz w gb 0 xs.toArray:=holds_put hb (by rw[hfs,h4,hfk])
   have hlt:gb<w.heap.size:=(Array.getElem?_eq_some_iff.1 hb).1
   have hcon:=AnyQ.slices_SortFunc_eq L T'.sz (fun w=>run_isAgg_true aE) (fun w=>Go.Vk.run_sizeOf zE) (encF T') (fun x=>encF_len T' x hfl) (fun x=>encF_one T' x) cf hswo g' #[] gb 0 cap xs.toArray w eg (@cmp_lays ⟨True⟩ trivial _ _ _ _ _ _ _ _ _ hfl hcmp hf) hH hlt (by simpa using hlen)
   rw[List.size_toArray]at hcon
   refine Calls.mono hcon ?_
   rintro e0 w' ⟨rfl,n,os,hw⟩
   rw[List.size_toArray]at hys
   generalize hd:pdq (ltOf cf) xs.toArray 0 xs.length (Lib.bitLen xs.length) true true=d' at hys hw
   subst hys
   have hds:d'.toList.toArray=d':=by simp
   have hF:(flatK (encF T') T'.sz d').toList=d'.toList.flatMap (encF T'):=by
    have:=flat_cells hfl d'.toList
    rw[hds]at this;exact this
   have hFs:(flatK (encF T') T'.sz d').size=d'.toList.length*T'.sz:=by simp
   have hle:(flatK (encF T') T'.sz d').size≤cur.size:=by rw[hFs,hyl,h3];exact Nat.mul_le_mul_right _ h1
   subst hw
   unfold sortWorldK putRowK
   have hev:EvT (fun t=>t=τ r) σ w (fun b=>if b<w.heap.size then σ b else E.bnd) (grow (putRow id (Sort.ahead w n) gb 0 (flatK (encF T') T'.sz d')) os):=by
    refine⟨rfl,rfl,rfl,fun _=> ?_,?_,fun b hb' hn=>⟨if_pos hb',heap_put_other _ hb' (fun hgb=>hn (by rw[←hgb];exact htag gb rfl))⟩⟩
    ·show w.drawn≤w.drawn+n
     omega
    ·simp[grow]
   refine fin _ _ hev ⟨d'.toList.flatMap (encF T'),⟨?_,.inr ⟨gb,cap,_,?_,Nat.zero_le _,heap_put _ hb,?_,h2,?_,?_⟩⟩,fun g0 hg0=> ?_,(reps_flatT hfl _ _).2 rfl⟩
   ·rw[flat_len hfl];rfl
   ·rw[hyl]
   ·rw[hyl];exact h1
   ·show(Sort.putCells id 0 _ cur).size=cap*T'.sz
    simpa[Sort.putCells]using h3
   ·have:=take_put cur (flatK (encF T') T'.sz d') hle
    rw[hFs,hF]at this
    exact this
   ·have:gb=g0:=by simpa[Value.ownBlock]using hg0
    subst this
    simp only[hlt,if_true]
    exact htag gb rfl
 ·rename_i hg
  obtain rfl:=Nat.eq_of_beq_eq_true hg
  have hv:=clo_val hclo hc
  subst hv
  simp only[Rel]at hx
  subst hx
  refine Calls.mono (AnyF.slices_SortFunc_none L none 0 (.func (.func g') #[] #[]) w) ?_
  rintro e0 w' ⟨rfl,rfl⟩
  refine⟨_,σ,rfl,_,_,τ,β,h,.refl H,⟨[],by simp⟩,.refl,hC,?_⟩
  simp only[Rel,RelL]
  exact⟨[],rfl,rfl⟩
 ·cases h
end Go.Am
/- slices.Sort of a row of ints,as a call. No statement of its own. -/
namespace Go.Am
open Go.Vk Go.RowKit Go.Sort Go.Proofs
noncomputable def sortIHdl:Hdl:=fun X args H k=>
 match args with
 | [.row r]=>match H[r]? with
  |some (.row T' e xs)=>match tyEq T' (.int .i64)with
   |some ⟨h⟩=>bifA (Nat.ble (castL h xs).length 1099511627776) (k (H.set r (.row (.int .i64) e ((castL h xs:List Int).mergeSort fun x y=>decide (x≤y)))) (.tup [])) none
   |none=>none
  |_=>none
 | [.val (.slice none 0 0)]=>k H (.tup [])
 |_=>none
theorem ints_cells: ∀(l:List Int),l.flatMap (encF (.int .i64))=l.map (Value.int .i64)
 | []=>rfl
 |x::l=>by simp only[List.flatMap_cons,List.map_cons];rw[ints_cells l];rfl
theorem sortI_ok [Dr] {P:Program} {n:FuncId}
  (hs: ∀(blk off cap:Nat) (zs:List Int) (w:World),Holds (Value.int .i64) w blk off zs.toArray→blk<w.heap.size→zs.length<4611686018427387904→
   Calls P n #[.slice (some ⟨blk,off,none⟩) zs.length cap] w fun e w'=>e= .returned (.tuple #[])∧∃q os,w'=grow (putRow (Value.int .i64) (Sort.ahead w q) blk off (zs.mergeSort fun x y=>decide (x≤y)).toArray) os)
  (hn: ∀w,Calls P n #[.slice none 0 0] w fun e w'=>e= .returned (.tuple #[])∧w'=w):HdlOk P n sortIHdl:=by
 intro X args H k x h E σ τ β tm a w us hC hargs
 unfold sortIHdl at h
 split at h
 ·rename_i r
  simp only[RelL]at hargs
  obtain⟨u,r1,rfl,hx,rfl⟩:=hargs
  split at h
  case h_2=>cases h
  rename_i T' e xs hr
  split at h
  case h_2=>cases h
  rename_i hT _
  subst hT
  simp only[castL]at h
  obtain⟨hlen,hk⟩:=bif_some h
  have hlen:List.length xs≤1099511627776:=Nat.le_of_ble_eq_true hlen
  generalize hys:(List.mergeSort (xs:List Int) fun x y=>decide (x≤y))=ys at hk
  have hyl:ys.length=xs.length:=by rw[←hys];exact List.length_mergeSort _
  simp only[Rel]at hx
  have hO:Own (Ty.int .i64).kd e σ (τ r) w u xs:=hC.heap r _ _ hr hx.1
  have hP:=hC.apart r _ hr rfl
  have fin: ∀(σ':Gh) (w':World),EvT (fun t=>t=τ r) σ w σ' w'→Own (Ty.int .i64).kd e σ' (τ r) w' u ys→
    ∃v σ',Ending.returned (.tuple #[])= .returned v∧∃H' av τ' β',k H' av=some x∧HPres H H'∧(∃s,β'=β++s)∧EvT (Rng E) σ w σ' w'∧Conc E σ' τ' β' ⟨tm,H'⟩ a w'∧Rel E σ' w' β' av v:=by
   intro σ' w' hev hO'
   refine⟨_,σ',rfl,_,_,τ,β,hk,.set hr (fun b=>by simp),⟨[],by simp⟩,hev.mono (fun t h hp=>hP (h▸hp)),Conc.put hC hr rfl hx.1 hev hO',?_⟩
   simp only[Rel,RelL]
   exact⟨[],rfl,rfl⟩
  obtain⟨cs,⟨hcl,hcase⟩,htag,hreps⟩:=hO
  rcases hcase with⟨rfl,h0⟩|⟨gb,cap,cur,rfl,_,hb,h1,h2,h3,h4⟩
  ·have hxs:xs= []:=List.eq_nil_of_length_eq_zero h0
   subst hxs
   have hys0:ys= []:=List.eq_nil_of_length_eq_zero hyl
   subst hys0
   refine Calls.mono (hn w) ?_
   rintro e0 w' ⟨rfl,rfl⟩
   exact fin σ w' .refl Own.nil
  ·have hcs:=(reps_flatT (T:= .int .i64) rfl xs cs).1 hreps
   have hcs':cs=(xs:List Int).map (Value.int .i64):=by
    rw[hcs]
    exact ints_cells xs
   have h3:cur.size=cap*1:=h3
   have h4:cur.toList.take ((xs:List Int).length*1)=cs:=h4
   have hlt:gb<w.heap.size:=(Array.getElem?_eq_some_iff.1 hb).1
   have hH:Holds (Value.int .i64) w gb 0 (xs:List Int).toArray:=by
    intro j hj
    simp at hj
    refine⟨?_,by simp[World.frozen?,hb]⟩
    have q:(cur.toList.take ((xs:List Int).length*1))[j]? =((xs:List Int).map (Value.int .i64))[j]? :=by rw[h4,hcs']
    rw[List.getElem?_take_of_lt (by omega)]at q
    simp only[World.cell?,hb,Nat.zero_add,Option.isSome_none,Bool.false_eq_true,if_false]
    rw[←Array.getElem?_toList,q]
    simp[hj]
   refine Calls.mono (hs gb 0 cap xs w hH hlt (by omega)) ?_
   rintro e0 w' ⟨rfl,q,os,hw⟩
   rw[hys]at hw
   subst hw
   generalize hW:grow (putRow (Value.int .i64) (Sort.ahead w q) gb 0 ys.toArray) os=W
   have hg:w.grownBy W (some gb):=by rw[←hW];exact grownBy_sortedI ys.toArray
   have hdr:w.drawn≤W.drawn:=by
    rw[←hW];show w.drawn≤w.drawn+q;omega
   have hsz:w.heap.size≤W.heap.size:=by rw[←hW];simp[grow]
   have hrow:W.ownsRow 0 e 1 (.slice (some ⟨gb,0,none⟩) (xs:List Int).length cap) (xs:List Int).length (ys.map (Value.int .i64)):=by
    rw[←hW];exact ownsRow_sortedI hyl (Nat.zero_le _) hb h1 h2 h3
   clear hW
   obtain⟨g1,g2,g3,g4,g5⟩:=hg
   have hkeep: ∀b,b<w.heap.size→¬b=gb→W.heap[b]? =w.heap[b]? :=fun b hb' hne=>g5 b hb' (fun e=>hne (by cases e;rfl))
   have hev:EvT (fun t=>t=τ r) σ w (fun b=>if b<w.heap.size then σ b else E.bnd) W:=
    ⟨g1,g2,g3,fun _=>hdr,hsz,fun b hb' hn=>⟨if_pos hb',hkeep b hb' (fun e=>hn (by rw[e];exact htag gb rfl))⟩⟩
   refine fin _ W hev ⟨ys.map (Value.int .i64),?_,fun g0 hg0=> ?_,?_⟩
   ·rw[hyl];exact hrow
   ·have:gb=g0:=by simpa[Value.ownBlock]using hg0
    subst this
    simp only[hlt,if_true]
    exact htag gb rfl
   ·exact(reps_flatT (T:= .int .i64) rfl _ _).2 (ints_cells ys).symm
 ·simp only[RelL,Rel]at hargs
  obtain⟨u,r1,rfl,hx,rfl⟩:=hargs
  subst hx
  refine Calls.mono (hn w) ?_
  rintro e0 w' ⟨rfl,rfl⟩
  refine⟨_,σ,rfl,_,_,τ,β,h,.refl H,⟨[],by simp⟩,.refl,hC,?_⟩
  simp only[Rel,RelL]
  exact⟨[],rfl,rfl⟩
 ·cases h
end Go.Am
