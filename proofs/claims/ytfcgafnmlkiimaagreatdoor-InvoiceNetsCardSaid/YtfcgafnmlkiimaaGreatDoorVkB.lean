/- The walk's own words,part 7: arguments of plain types,opened at a row's start. No statement of its own. -/
import Derived.Test.YtfcgafnmlkiimaaGreatDoorVkA
import Derived.ChangeArms
import Derived.OpenShut
import Derived.SizedLaws
import Derived.MapKept
set_option linter.unusedSimpArgs false
set_option linter.unusedVariables false
namespace Go.Vk
open Go.RowKit
variable [Dr]
inductive Ty where
 |int (k:IntKind)
 |bool
 |str
 |slice (t:Ty)
 |pair (a b:Ty)
 |arr (t:Ty) (n:Nat)
@[reducible] def Ty.Den:Ty→Type
 | .int _=>Int
 | .bool=>Bool
 | .str=>ByteArray
 | .slice t=>List t.Den
 | .pair a b=>a.Den×b.Den
 | .arr t _=>List t.Den
def Ty.sz:Ty→Nat
 | .pair a b=>a.sz+b.sz
 | .arr t n=>n*t.sz
 |_=>1
def RepsF{α:Type}(R:α→List Value→Prop):List α→List Value→Prop
 | [],cs=>cs= []
 |x::xs,cs=> ∃c r,cs=c++r∧R x c∧RepsF R xs r
section
variable {α : Type} {R R' : α → List Value → Prop}
omit [Dr] in
theorem RepsF.len{z:Nat}(hR: ∀x c,R x c→c.length=z): ∀{xs:List α} {cs:List Value},RepsF R xs cs→cs.length=xs.length*z
 | [],_,h=>by rw[show _=_ from h];simp
 |x::xs,_,⟨c,r,h,hx,hr⟩=>by rw[h,List.length_append,hR _ _ hx,RepsF.len hR hr,List.length_cons,Nat.succ_mul,Nat.add_comm]
omit [Dr] in
theorem RepsF.one(hR: ∀x c,R x c→∀u∈c,u.oneCell'=true): ∀{xs:List α} {cs:List Value},RepsF R xs cs→∀u∈cs,u.oneCell'=true
 | [],_,h,u,hu=>by rw[show _=_ from h]at hu;simp at hu
 |x::xs,_,⟨c,r,h,hx,hr⟩,u,hu=>by
  rw[h,List.mem_append]at hu
  rcases hu with hu|hu
  ·exact hR _ _ hx u hu
  ·exact RepsF.one hR hr u hu
omit [Dr] in
theorem RepsF.mono(hR: ∀x c,R x c→R' x c): ∀{xs:List α} {cs:List Value},RepsF R xs cs→RepsF R' xs cs
 | [],_,h=>h
 |x::xs,_,⟨c,r,h,hx,hr⟩=>⟨c,r,h,hR _ _ hx,RepsF.mono hR hr⟩
omit [Dr] in
theorem RepsF.get{z:Nat}(hR: ∀x c,R x c→c.length=z): ∀{xs:List α} {cs:List Value},RepsF R xs cs→∀j (h:j<xs.length),∃c,R xs[j] c∧∀i u,c[i]? =some u→cs[j*z+i]? =some u
 |x::xs,cs,⟨c,r,h,hx,hr⟩,0,_=>⟨c,hx,fun i u hu=>by rw[Nat.zero_mul,Nat.zero_add,h,List.getElem?_append_left (List.getElem?_eq_some_iff.1 hu).1];exact hu⟩
 |x::xs,cs,⟨c,r,h,hx,hr⟩,j+1,hj=>by
  obtain⟨c',h1,h2⟩:=RepsF.get hR hr j (by simpa using hj)
  refine⟨c',h1,fun i u hu=> ?_⟩
  have hc:=hR _ _ hx
  rw[h,List.getElem?_append_right (by rw[hc,Nat.succ_mul];omega),hc,show(j+1)*z+i - z=j*z+i by rw[Nat.succ_mul];omega]
  exact h2 i u hu
end
def repTy:(ty:Ty)→Gh→World→ty.Den→List Value→Prop
 | .int k,_,_,x,cs=>cs= [.int k x]
 | .bool,_,_,x,cs=>cs= [.bool x]
 | .str,_,_,x,cs=>cs= [.string x]
 | .slice t,σ,w,xs,cs=> ∃A c,cs= [.slice A xs.length c]∧xs.length≤c∧(0<xs.length→∃ad,A=some ad∧ad.block<w.heap.size∧σ ad.block=0∧∀j (h:j<xs.length),∃cs,repTy t σ w xs[j] cs∧∀i u,cs[i]? =some u→w.cell? (ad.add (j*t.sz+i))=some u)
 | .pair a b,σ,w,x,cs=> ∃c1 c2,cs=c1++c2∧repTy a σ w x.1 c1∧repTy b σ w x.2 c2
 | .arr t n,σ,w,xs,cs=>RepsF (repTy t σ w) xs cs∧xs.length=n
def wfTy:(ty:Ty)→ty.Den→Prop
 | .int k,x=>(Lit.int k x).wf=true
 | .bool,_=>True
 | .str,s=>s.size≤reachBytes
 | .slice t,xs=>xs.length≤reachBytes∧∀x∈xs,wfTy t x
 | .pair a b,x=>wfTy a x.1∧wfTy b x.2
 | .arr t n,xs=>xs.length=n∧∀x∈xs,wfTy t x
omit [Dr] in
theorem repTy_len: ∀(ty:Ty) {σ:Gh} {w:World} {x:ty.Den} {cs:List Value},repTy ty σ w x cs→cs.length=ty.sz
 | .int _,_,_,_,_,h=>by rw[show _=_ from h];rfl
 | .bool,_,_,_,_,h=>by rw[show _=_ from h];rfl
 | .str,_,_,_,_,h=>by rw[show _=_ from h];rfl
 | .slice _,_,_,_,_,⟨_,_,h,_⟩=>by rw[h];rfl
 | .pair a b,_,_,_,_,⟨c1,c2,h,h1,h2⟩=>by rw[h,List.length_append,repTy_len a h1,repTy_len b h2];rfl
 | .arr t _,_,_,_,_,⟨h,h1⟩=>by rw[RepsF.len (fun _ _ hx=>repTy_len t hx) h,h1];rfl
omit [Dr] in
theorem repTy_one: ∀(ty:Ty) {σ:Gh} {w:World} {x:ty.Den} {cs:List Value},repTy ty σ w x cs→∀u∈cs,u.oneCell'=true
 | .int _,_,_,_,_,h,u,hu=>by rw[show _=_ from h]at hu;simp at hu;subst hu;rfl
 | .bool,_,_,_,_,h,u,hu=>by rw[show _=_ from h]at hu;simp at hu;subst hu;rfl
 | .str,_,_,_,_,h,u,hu=>by rw[show _=_ from h]at hu;simp at hu;subst hu;rfl
 | .slice _,_,_,_,_,⟨_,_,h,_⟩,u,hu=>by rw[h]at hu;simp at hu;subst hu;rfl
 | .pair a b,_,_,_,_,⟨c1,c2,h,h1,h2⟩,u,hu=>by
  rw[h,List.mem_append]at hu
  rcases hu with hu|hu
  ·exact repTy_one a h1 u hu
  ·exact repTy_one b h2 u hu
 | .arr t _,_,_,_,_,⟨h,_⟩,u,hu=>RepsF.one (fun _ _ hx=>repTy_one t hx) h u hu
theorem repTy_ev: ∀(ty:Ty) {lo hi:Nat} {σ σ':Gh} {w w':World} {x:ty.Den} {cs:List Value},repTy ty σ w x cs→Ev lo hi σ w σ' w'→1≤lo→repTy ty σ' w' x cs
 | .int _,_,_,_,_,_,_,_,_,h,_,_=>h
 | .bool,_,_,_,_,_,_,_,_,h,_,_=>h
 | .str,_,_,_,_,_,_,_,_,h,_,_=>h
 | .slice t,lo,hi,σ,σ',w,w',x,cs,⟨A,c,h,hc,hr⟩,e,hl=>⟨A,c,h,hc,fun hp=>by
  obtain⟨ad,h1,h2,h3,h4⟩:=hr hp
  obtain⟨k1,k2⟩:=e.keep ad.block h2 (by omega)
  refine⟨ad,h1,Nat.lt_of_lt_of_le h2 e.size,k1.trans h3,fun j hj=> ?_⟩
  obtain⟨cs,h5,h6⟩:=h4 j hj
  refine⟨cs,repTy_ev t h5 e hl,fun i u hu=> ?_⟩
  rw[World.cell?_of_block (w:=w) (by rw[add_block];exact k2)]
  exact h6 i u hu⟩
 | .pair a b,_,_,_,_,_,_,_,_,⟨c1,c2,h,h1,h2⟩,e,hl=>⟨c1,c2,h,repTy_ev a h1 e hl,repTy_ev b h2 e hl⟩
 | .arr t _,_,_,_,_,_,_,_,_,⟨h,h1⟩,e,hl=>⟨RepsF.mono (fun _ _ hx=>repTy_ev t hx e hl) h,h1⟩
def Ty.kd(ty:Ty):Kd ty.Den:=⟨ty.sz,repTy ty,repTy_len ty,repTy_one ty,repTy_ev ty⟩
/-! ### a type of the program that is of this form -/
def matchFs(m:TypeId→Ty→Bool):List Field→Ty→Nat→Bool
 | [f],ty,off=>f.offset==off && m f.type ty
 |f::fs,.pair a b,off=>f.offset==off && m f.type a && matchFs m fs b (off+a.sz)
 |_,_,_=>false
def matchB(P:Program):Nat→TypeId→Ty→Bool
 |0,_,_=>false
 |n+1,t,ty=>P.cellsOf t==ty.sz && match P.underlying t,ty with
  |some (.struct fs),ty=>matchFs (matchB P n) fs.toList ty 0
  |some (.int k),.int k'=>decide (k=k')
  |some .bool,.bool=>true
  |some .string,.str=>true
  |some (.slice e),.slice ty=>matchB P n e ty && decide (1≤P.bytesOf e) && decide (1≤ty.sz)
  |some (.array m e),.arr ty m'=>decide (m=m') && matchB P n e ty
  |_,_=>false
omit [Dr] in
theorem matchB_sz{P:Program}{n:Nat}{t:TypeId}{ty:Ty}(h:matchB P n t ty=true):P.cellsOf t=ty.sz:=by
 cases n with
 |zero=>simp[matchB]at h
 |succ n=>simp only[matchB,Bool.and_eq_true]at h;simpa using h.1
section
variable {H : Type} {enc : TypeId × Value → H} {P : Program} {w : World} {sp : Nat → Bool} {held : Bool}
omit [Dr] in
theorem weightsEach_mem{P:Program}: ∀{ts:List TypeId} {ds:List (DataW H)} {b:Nat},(DataW.weightsEach P ts ds).all (· ≤b)=true→∀(i:Nat) t d,ts[i]? =some t→ds[i]? =some d→(d.weights P t).all (· ≤b)=true
 | [],_,_,_,i,t,d,h,_=>by simp at h
 |_::_,[],_,_,i,t,d,_,h=>by simp at h
 |t0::ts,d0::ds,b,h,i,t,d,ht,hd=>by
  rw[DataW.weightsEach,List.all_append,Bool.and_eq_true]at h
  cases i with
  |zero=>
   simp at ht hd;subst ht;subst hd;exact h.1
  |succ i=>exact weightsEach_mem h.2 i t d (by simpa using ht) (by simpa using hd)
omit [Dr] in
theorem weightsAll_mem{P:Program}{e:TypeId}: ∀{ds:List (DataW H)} {b:Nat},(DataW.weightsAll P e ds).all (· ≤b)=true→∀d∈ds,(d.weights P e).all (· ≤b)=true
 |d0::ds,b,h,d,hd=>by
  rw[DataW.weightsAll,List.all_append,Bool.and_eq_true]at h
  rcases List.mem_cons.1 hd with rfl|hd
  ·exact h.1
  ·exact weightsAll_mem h.2 d hd
omit [Dr] in
theorem cells?_get{base:Nat}{a:Addr}{n:Nat}{cs:List Value}(h:w.cells? base a n=some cs):cs.length=n∧∀i u,cs[i]? =some u→w.cell? (a.add i)=some u:=by
 unfold World.cells? at h
 split at h
 ·have h2: ∀(l:List Nat) (cs:List Value),l.mapM (fun i=>w.cell? (a.add i))=some cs→cs.length=l.length∧∀(i:Nat) (u:Value),cs[i]? =some u→∃j,l[i]? =some j∧w.cell? (a.add j)=some u:=by
   intro l
   induction l with
   |nil=>intro cs h;simp at h;subst h;exact⟨rfl,fun i u h=>by simp at h⟩
   |cons j l ih=>
    intro cs h
    rw[List.mapM_cons]at h
    cases hc:w.cell? (a.add j)with
    |none=>simp[hc]at h
    |some v=>
     cases hm:l.mapM (fun i=>w.cell? (a.add i))with
     |none=>simp[hc,hm]at h
     |some r=>
      simp[hc,hm]at h
      subst h
      obtain⟨h1,h2⟩:=ih r hm
      refine⟨by simp[h1],fun i u hu=> ?_⟩
      cases i with
      |zero=>exact⟨j,rfl,by simpa[hc]using hu⟩
      |succ i=>obtain⟨k,hk,hk2⟩:=h2 i u (by simpa using hu);exact⟨k,by simpa using hk,hk2⟩
  obtain⟨h3,h4⟩:=h2 _ _ h
  refine⟨by simpa using h3,fun i u hu=> ?_⟩
  obtain⟨j,hj,hc⟩:=h4 i u hu
  have:j=i:=by
   rw[List.getElem?_eq_some_iff]at hj
   obtain⟨_,hj⟩:=hj
   simp at hj
   exact hj.symm
  subst this;exact hc
 ·cases h
omit [Dr] in
theorem cell_lt{a:Addr}{u:Value}(h:w.cell? a=some u):a.block<w.heap.size:=by
 unfold World.cell? at h
 cases hb:w.heap[a.block]? with
 |none=>simp[hb]at h
 |some o=>exact(Array.getElem?_eq_some_iff.1 hb).1
omit [Dr] in
theorem choose_list{α β:Type}{p:α→β→Prop}: ∀(l:List α),(∀x∈l,∃y,p x y)→∃ys:List β,ys.length=l.length∧∀(i:Nat) (x:α) (y:β),l[i]? =some x→ys[i]? =some y→p x y
 | [],_=>⟨[],rfl,fun i x y h _=>by simp at h⟩
 |x::l,h=>by
  obtain⟨y,hy⟩:=h x (by simp)
  obtain⟨ys,h1,h2⟩:=choose_list l (fun z hz=>h z (by simp[hz]))
  refine⟨y::ys,by simp[h1],fun i a b ha hb=> ?_⟩
  cases i with
  |zero=>simp at ha hb;subst ha;subst hb;exact hy
  |succ i=>exact h2 i a b (by simpa using ha) (by simpa using hb)
omit [Dr] in
theorem open_ty: ∀(n:Nat) (ty:Ty) (t:TypeId) (fuel:Nat) (cs:List Value) (x:DataW H×List MemPlace),matchB P n t ty=true→DataW.trod enc P w 0 sp held fuel t cs=some x→(x.1.weights P t).all (· ≤reachBytes)=true→
  ∃v:ty.Den,repTy ty (fun _=>0) w v cs∧wfTy ty v:=by
 intro n
 induction n with
 |zero=>intro ty t fuel cs x hm;simp[matchB]at hm
 |succ n ih=>
  intro ty t fuel cs x hm hx hwt
  have hsz:=matchB_sz hm
  simp only[matchB,Bool.and_eq_true]at hm
  replace hm:=hm.2
  cases hu:P.underlying t with
  |none=>simp[hu]at hm
  |some d=>
   rw[hu]at hm
   cases d with
   |struct fs=>
    simp only at hm
    obtain⟨xs,m,rfl,rfl,hcl,hxl,hxs⟩:=DataW.trod_struct hu hx
    have hws: ∀(i:Nat) (f:Field) (y:DataW H×List MemPlace),fs[i]? =some f→xs[i]? =some y→(y.1.weights P f.type).all (· ≤reachBytes)=true:=by
     intro i f y hf hy
     have hw0:(DataW.weightsEach P (fs.toList.map (·.type)) (xs.map (·.1))).all (· ≤reachBytes)=true:=by
      have:=hwt
      simp only[DataW.weights,hu]at this
      exact this
     exact weightsEach_mem hw0 i f.type y.1 (by simp[hf]) (by simp[hy])
    have key: ∀(l:List Field) (ty:Ty) (off i:Nat),matchFs (matchB P n) l ty off=true→(∀(j:Nat) (f:Field),l[j]? =some f→fs[i+j]? =some f)→∃v:ty.Den,repTy ty (fun _=>0) w v ((cs.drop off).take ty.sz)∧wfTy ty v:=by
     intro l
     induction l with
     |nil=>intro ty off i h;simp[matchFs]at h
     |cons f l ihl=>
      intro ty off i h hl
      have one: ∀ty',f.offset=off→matchB P n f.type ty'=true→∃v:ty'.Den,repTy ty' (fun _=>0) w v ((cs.drop off).take ty'.sz)∧wfTy ty' v:=by
       intro ty' ho hm'
       have hf:fs[i]? =some f:=by simpa using hl 0 f rfl
       have h1:=hxs i f hf
       have hlt:i<xs.length:=by rw[hxl];exact(Array.getElem?_eq_some_iff.1 hf).1
       rw[List.getElem?_eq_getElem hlt]at h1
       obtain⟨v,hv,hwf⟩:=ih ty' f.type m _ _ hm' h1 (hws i f _ hf (List.getElem?_eq_getElem hlt))
       rw[matchB_sz hm',ho]at hv
       exact⟨v,hv,hwf⟩
      cases l with
      |nil=>
       simp only[matchFs,Bool.and_eq_true,beq_iff_eq]at h
       exact one ty h.1 h.2
      |cons f2 l=>
       cases ty with
       |pair a b=>
        simp only[matchFs,Bool.and_eq_true,beq_iff_eq]at h
        obtain⟨⟨h1,h2⟩,h3⟩:=h
        obtain⟨v1,r1,w1⟩:=one a h1 h2
        obtain⟨v2,r2,w2⟩:=ihl b (off+a.sz) (i+1) h3 (fun j g hg=>by have:=hl (j+1) g (by simpa using hg);rwa[show i+1+j=i+(j+1)by omega])
        refine⟨(v1,v2),⟨_,_,?_,r1,r2⟩,w1,w2⟩
        rw[show(Ty.pair a b).sz=a.sz+b.sz from rfl,List.take_add,List.drop_drop]
       |_=>simp[matchFs]at h
    obtain⟨v,hv,hwf⟩:=key fs.toList ty 0 0 hm (fun j f hf=>by simpa using hf)
    refine⟨v,?_,hwf⟩
    rw[List.drop_zero,List.take_of_length_le (by omega)]at hv
    exact hv
   |int k=>
    cases ty<;>simp at hm
    subst hm
    obtain⟨m,rfl,_,hwf⟩:=DataW.trod_int hu hx
    exact⟨m,rfl,hwf⟩
   |bool=>
    cases ty<;>simp at hm
    obtain⟨b,rfl,_⟩:=DataW.trod_bool hu hx
    exact⟨b,rfl,trivial⟩
   |string=>
    cases ty<;>simp at hm
    obtain⟨s,rfl,rfl,_⟩:=DataW.trod_string hu hx
    refine⟨s,rfl,?_⟩
    simp only[DataW.weights,List.all_cons,List.all_nil,Bool.and_true,decide_eq_true_eq]at hwt
    show s.size≤reachBytes
    have:s.data.toList.length=s.size:=by rw[Array.length_toList];rfl
    omega
   |slice e=>
    cases ty with
    |slice ty=>
     simp only[Bool.and_eq_true,decide_eq_true_eq]at hm
     obtain⟨⟨hm,hby⟩,hzz⟩:=hm
     have hez:=matchB_sz hm
     rcases DataW.trod_slice hu hx with⟨rfl,rfl⟩|⟨a,len,cap,elems,rest,m,rfl,rfl,rfl,hb,hlc,hcm,hlen,hel,_,_⟩
     ·exact⟨[],⟨none,0,rfl,by simp,fun h=>absurd h (by simp)⟩,by simp[wfTy]⟩
     ·simp only[DataW.weights,hu,List.all_cons,Bool.and_eq_true,decide_eq_true_eq,List.all_append]at hwt
      obtain⟨hw1,hw2,_⟩:=hwt
      have hall: ∀y∈(List.range len),∃v:ty.Den,∃c,w.cells? 0 (a.add (y*P.cellsOf e)) (P.cellsOf e)=some c∧repTy ty (fun _=>0) w v c∧wfTy ty v:=by
       intro i hi
       have hi':i<len:=by simpa using hi
       have h1:=hel i hi'
       rw[List.getElem?_eq_getElem (by omega)]at h1
       obtain⟨c,hc,ht⟩:=Option.bind_eq_some_iff.1 h1
       obtain⟨v,hv,hwf⟩:=ih ty e m c _ hm ht (weightsAll_mem hw2 _ (List.mem_map.2 ⟨_,List.getElem_mem (by omega),rfl⟩))
       exact⟨v,c,hc,hv,hwf⟩
      obtain⟨vs,hvl,hvs⟩:=choose_list _ hall
      rw[List.length_range]at hvl
      have hvs': ∀i (h:i<vs.length),∃c,w.cells? 0 (a.add (i*P.cellsOf e)) (P.cellsOf e)=some c∧repTy ty (fun _=>0) w vs[i] c∧wfTy ty vs[i]:=fun i h=>hvs i i vs[i] (by rw[List.getElem?_range (by omega)]) (List.getElem?_eq_getElem h)
      refine⟨vs,⟨some a,cap,by rw[hvl],by omega,fun hp=> ?_⟩,?_,?_⟩
      ·have hpos: ∃u,∃j,w.cell? (a.add j)=some u∨ty.sz=0:=by
        obtain⟨c,hc,_,_⟩:=hvs' 0 hp
        obtain⟨h1,h2⟩:=cells?_get hc
        by_cases hz:ty.sz=0
        ·exact⟨undef,0,.inr hz⟩
        ·have:0<c.length:=by rw[h1,hez];omega
         exact⟨c[0],(0*P.cellsOf e),.inl (by have:=h2 0 _ (List.getElem?_eq_getElem this);rw[add_add]at this;simpa using this)⟩
       have hblk:a.block<w.heap.size∨ty.sz=0:=by
        obtain⟨u,j,h|h⟩:=hpos
        ·left;have:=cell_lt h;rwa[add_block]at this
        ·exact .inr h
       rcases hblk with hblk|hz
       ·refine⟨a,rfl,hblk,rfl,fun j hj=> ?_⟩
        obtain⟨c,hc,hr,_⟩:=hvs' j hj
        refine⟨c,hr,fun i u hu=> ?_⟩
        have:=(cells?_get hc).2 i u hu
        rw[add_add,hez]at this
        exact this
       ·exfalso
        omega
      ·show vs.length≤reachBytes
       have h2:(elems.map (·.1)).length+(rest.map (·.1)).length≥vs.length:=by simp;omega
       have h3:vs.length*1≤((elems.map (·.1)).length+(rest.map (·.1)).length)*P.bytesOf e:=Nat.mul_le_mul h2 hby
       omega
      ·intro x hx
       obtain⟨i,hi,rfl⟩:=List.getElem_of_mem hx
       obtain⟨_,_,_,h⟩:=hvs' i hi
       exact h
    |_=>simp at hm
   |array m e=>
    cases ty with
    |arr ty m'=>
     simp only[Bool.and_eq_true,decide_eq_true_eq]at hm
     obtain⟨rfl,hm⟩:=hm
     have hez:=matchB_sz hm
     obtain⟨xs,q,rfl,rfl,hcl,hxl,hxs⟩:=DataW.trod_array hu hx
     rw[hez]at hxs
     simp only[DataW.weights,hu]at hwt
     have hch: ∀i,i<m→∃v:ty.Den,repTy ty (fun _=>0) w v ((cs.drop (i*ty.sz)).take ty.sz)∧wfTy ty v:=by
      intro i h
      have h1:=hxs i h
      rw[List.getElem?_eq_getElem (by omega)]at h1
      exact ih ty e q _ _ hm h1 (weightsAll_mem hwt _ (List.mem_map.2 ⟨_,List.getElem_mem (by omega),rfl⟩))
     have hlen:cs.length=m*ty.sz:=by rw[hcl,hsz];rfl
     have key: ∀(k:Nat) (ds:List Value),ds.length=k*ty.sz→(∀i,i<k→∃v:ty.Den,repTy ty (fun _=>0) w v ((ds.drop (i*ty.sz)).take ty.sz)∧wfTy ty v)→∃vs:List ty.Den,RepsF (repTy ty (fun _=>0) w) vs ds∧vs.length=k∧∀x∈vs,wfTy ty x:=by
      intro k
      induction k with
      |zero=>intro ds h _;exact⟨[],List.eq_nil_of_length_eq_zero (by simpa using h),rfl,by simp⟩
      |succ k ihk=>
       intro ds h hc
       rw[Nat.succ_mul]at h
       obtain⟨v,h1,h2⟩:=hc 0 (by omega)
       obtain⟨vs,h3,h4,h5⟩:=ihk (ds.drop ty.sz) (by rw[List.length_drop];omega) (fun i hi=>by
        have:=hc (i+1) (by omega)
        rw[List.drop_drop,Nat.add_comm]
        rwa[Nat.succ_mul]at this)
       rw[Nat.zero_mul,List.drop_zero]at h1
       exact⟨v::vs,⟨_,_,(List.take_append_drop ty.sz ds).symm,h1,h3⟩,by simp[h4],fun x hx=>by rcases List.mem_cons.1 hx with rfl|hx;exact h2;exact h5 x hx⟩
     obtain⟨vs,h1,h2,h3⟩:=key m cs hlen hch
     exact⟨vs,⟨h1,h2⟩,h2,h3⟩
    |_=>simp at hm
   |_=>cases ty<;>simp at hm
end
end Go.Vk
/- The walk's own words,part 8: a region that draws its order,with what is there in view. No statement of its own. -/
namespace Go.Vk
open Go.RowKit
variable [Dr]
section
variable {P : Program} {l : List Oper} {m : Nat} {base : Array Value} {Q : Exit → Act → World → Prop}
omit [Dr] in
theorem wp_region_inv {id:Nat} {w:World} (hm:P.follows .mixedOrders=true) (m:Nat) (hB:regionOk l m=true) (hml:m≤l.length) (Inv:(Nat→Bool)→(Nat→Value)→World→Prop)
  (h0:Inv (fun _=>false) (fun _=>undef) {w with drawn:=w.drawn+1})
  (ob: ∀i o,i<m→l[i]? =some o→∀(S:Nat→Bool) (vs:Nat→Value) w,(∀j,((masks l []).getD i 0).testBit j=true→S j=true)→S i=false→Inv S vs w→
   match Region.wanted o (yielded l.toArray (slotsOf vs [] (fun q=>decide (q<i)) 0 l base))with
   |false=>Inv (fun q=>if q=i then true else S q) (fun q=>if q=i then undef else vs q) w
   |true=>OpGives P (Act.eval ⟨slotsOf vs [] (fun q=>decide (q<i)) 0 l base,[]⟩) o w (fun v σ' w'=>Inv (fun q=>if q=i then true else S q) (fun q=>if q=i then v else vs q) w'))
  (tail: ∀(vs:Nat→Value) w,Inv (fun q=>decide (q<m)) vs w→wpList P l.toArray Q (l.drop m) ⟨slotsOf vs [] (fun q=>decide (q<m)) 0 l base,[]⟩ w):
  (Code.region id l.toArray true).wp P Q ⟨base,[]⟩ w:=by
 have hok:=rok_of hB
 refine wp_region_any hm ?_
 have key: ∀(f:Nat) (listed:Array Bool) (vs:Nat→Value) (w:World),listed.size=l.length→(∀j,m≤j→listed.getD j false=false)→
   (∀i o,l[i]? =some o→listed.getD i false=true→∀e∈edg o,listed.getD e.on false=true)→
   f+((List.range m).filter fun j=>listed.getD j false).length=l.length→
   Inv (fun q=>listed.getD q false) vs w→
   wpAny P .any l.toArray Q f listed ⟨slotsOf vs [] (fun q=>listed.getD q false) 0 l base,[]⟩ w:=by
  intro f
  induction f with
  |zero=>
   intro listed vs w hsz hT hcl hf hI
   have hc:((List.range m).filter fun j=>listed.getD j false).length≤m:=by have:=List.length_filter_le (fun j=>listed.getD j false) (List.range m);simpa using this
   have hmm:m=l.length:=by omega
   have hall: ∀j,j<m→listed.getD j false=true:=by
    have:=List.length_filter_eq_length_iff.1 (show((List.range m).filter fun j=>listed.getD j false).length=(List.range m).length by rw[List.length_range];omega)
    intro j hj
    exact this j (by simpa using hj)
   have hS:(fun q=>listed.getD q false)=(fun q=>decide (q<m)):=by
    funext q
    by_cases hq:q<m
    ·simp[hall q hq,hq]
    ·simp[hT q (by omega),hq]
   have ht:=tail vs w (hS▸hI)
   have:wpAny P .any l.toArray Q 0 listed ⟨slotsOf vs [] (fun q=>decide (q<m)) 0 l base,[]⟩ w:=
    any_tail (m:=m) hok 0 m listed _ w (by omega) (Nat.le_refl _) (by omega) hsz (fun j=>by rw[show listed.getD j false=decide (j<m)from congrFun hS j]) ht
   rw[hS];exact this
  |succ f ih=>
   intro listed vs w hsz hT hcl hf hI
   by_cases hfull: ∀j,j<m→listed.getD j false=true
   ·have hS:(fun q=>listed.getD q false)=(fun q=>decide (q<m)):=by
     funext q
     by_cases hq:q<m
     ·simp[hfull q hq,hq]
     ·simp[hT q (by omega),hq]
    have hcnt:((List.range m).filter fun j=>listed.getD j false).length=m:=by
     rw[List.filter_eq_self.2 (fun j hj=>hfull j (by simpa using hj))];simp
    have ht:=tail vs w (hS▸hI)
    rw[hS]
    exact any_tail (m:=m) hok (f+1) m listed _ w (by omega) (Nat.le_refl _) hml hsz (fun j=>by rw[show listed.getD j false=decide (j<m)from congrFun hS j]) ht
   ·have hclosed: ∀j p,l[j]? =some p→(∀e∈edg p,listed.getD e.on false=true)→∀q,((masks l []).getD j 0).testBit q=true→listed.getD q false=true:=fun j p hp he q hq=>
     mask_closed (fun j=>listed.getD j false=true) l [] [] rfl (fun i o ho hSi e he=>hcl i o (by simpa using ho) hSi e he) (fun i o ho e he=>hok.lt i o (by simpa using ho) e he) (fun i o j h=>by simp at h) j p q (by simpa using hp) he hq
    obtain⟨j0,hj0,hj0f⟩: ∃j,j<m∧listed.getD j false=false:=by
     apply Classical.byContradiction
     intro hn
     exact hfull (fun j hj=>by
      cases h:listed.getD j false
      ·exact absurd ⟨j,hj,h⟩ hn
      ·rfl)
    have hexr: ∃i,i<m∧i∈Region.ready .any l.toArray listed:=by
     obtain⟨i,hi,hmin⟩: ∃i,(i<m∧listed.getD i false=false)∧∀j,j<i→listed.getD j false=true:=by
      have: ∀n,n≤j0→(∃i,(i<m∧listed.getD i false=false)∧∀j,j<i→listed.getD j false=true)∨ ∀j,j<n→listed.getD j false=true:=by
       intro n
       induction n with
       |zero=>intro _;exact .inr (fun j hj=>absurd hj (by omega))
       |succ n ihn=>
        intro hn
        rcases ihn (by omega)with h|h
        ·exact .inl h
        ·cases hv:listed.getD n false
         ·exact .inl ⟨n,⟨by omega,hv⟩,h⟩
         ·refine .inr (fun j hj=> ?_)
          rcases Nat.lt_or_ge j n with h1|h1
          ·exact h j h1
          ·have:j=n:=by omega
           subst this;exact hv
      rcases this j0 (Nat.le_refl _)with h|h
      ·exact h
      ·exact⟨j0,⟨hj0,hj0f⟩,h⟩
     have hil:i<l.length:=by omega
     refine⟨i,hi.1,mem_ready.2 ⟨?_,l[i],by simp[hil],fun e he hb=>hmin _ (hok.lt i l[i] (by simp[hil]) e (binds_edg he hb))⟩⟩
     have:=hi.2
     rw[Array.getD_eq_getD_getElem?,Array.getElem?_eq_getElem (by omega)]at this⊢
     simpa using this
    refine⟨fun hr=> ?_,fun i hi=> ?_⟩
    ·obtain⟨i,_,hi⟩:=hexr
     rw[hr]at hi;cases hi
    ·obtain⟨h1,o,ho,he⟩:=mem_ready.1 hi
     have hil:i<l.length:=by have:=(Array.getElem?_eq_some_iff.1 ho).1;simpa using this
     have ho':l[i]? =some o:=by simpa using ho
     have hif:listed.getD i false=false:=by
      rw[Array.getD_eq_getD_getElem?,Array.getElem?_eq_getElem (by omega)]at h1⊢
      simpa using h1
     have hdeps: ∀e∈edg o,listed.getD e.on false=true:=fun e hem=>he e (edg_mem hem) (edg_binds hem)
     have hmask:=hclosed i o ho' hdeps
     have him:i<m:=by
      rcases Nat.lt_or_ge i m with h|h
      ·exact h
      ·have:=hmask j0 (hok.tail i o ho' h j0 (by omega))
       rw[hj0f]at this;cases this
     have hlook:=looks_same (vs:=vs) (det:= []) (base:=base) (S:=fun q=>listed.getD q false) hok ho' hif hmask (fun j p hp hSj q hq=>hclosed j p hp (hcl j p hp hSj) q hq)
     have hset: ∀q,(listed.setIfInBounds i true).getD q false=if q=i then true else listed.getD q false:=by
      intro q
      by_cases hq:i=q
      ·subst hq
       rw[Array.getD_eq_getD_getElem?,Array.getElem?_setIfInBounds_self_of_lt (by omega)]
       simp
      ·rw[getD_set_ne false hq,if_neg (fun e=>hq e.symm)]
     have hSf:(fun q=>(listed.setIfInBounds i true).getD q false)=(fun q=>if q=i then true else listed.getD q false):=funext hset
     have hcnt:f+((List.range m).filter fun j=>(listed.setIfInBounds i true).getD j false).length=l.length:=by
      have:((List.range m).filter fun j=>(listed.setIfInBounds i true).getD j false).length=((List.range m).filter fun j=>listed.getD j false).length+1:=by
       have e1: ∀n,((List.range n).filter fun j=>(listed.setIfInBounds i true).getD j false).length=((List.range n).filter fun j=>listed.getD j false).length+(if i<n then 1 else 0):=by
        intro n
        induction n with
        |zero=>simp
        |succ n ihn=>
         rw[List.range_succ,List.filter_append,List.filter_append,List.length_append,List.length_append,ihn]
         by_cases hn:n=i
         ·subst hn
          simp only[List.filter_cons,List.filter_nil,hset,hif,if_true,List.length_cons,List.length_nil,Bool.false_eq_true,if_false,Nat.lt_irrefl,Nat.lt_succ_self]
         ·have:(if i<n+1 then 1 else 0)=(if i<n then 1 else 0):=by
           by_cases h:i<n
           ·simp[h];omega
           ·rw[if_neg (by omega),if_neg h]
          rw[this]
          simp only[List.filter_cons,List.filter_nil,hset,if_neg hn]
          omega
       rw[e1 m,if_pos him]
      omega
     have hnext: ∀(v:Value) w',Inv (fun q=>if q=i then true else listed.getD q false) (fun q=>if q=i then v else vs q) w'→
       wpAny P .any l.toArray Q f (listed.setIfInBounds i true) (Act.put ⟨slotsOf vs [] (fun q=>listed.getD q false) 0 l base,[]⟩ o.dst v) w':=by
      intro v w' hI'
      have hfr:Act.put ⟨slotsOf vs [] (fun q=>listed.getD q false) 0 l base,[]⟩ o.dst v=⟨slotsOf (fun q=>if q=i then v else vs q) [] (fun q=>(listed.setIfInBounds i true).getD q false) 0 l base,[]⟩:=by
       rw[hSf,slotsOf_add v i l 0 base vs _ o (Nat.zero_le _) (by simpa using ho') hif (fun j o'' hj hne d hd=>hok.dst i j o o'' ho' hj (by omega) d hd)]
       cases hd:o.dst with
       |none=>rfl
       |some d=>simp[Act.put]
      rw[hfr]
      refine ih _ _ w' (by simpa using hsz) (fun j hj=>by rw[hset,if_neg (by omega)];exact hT j hj) ?_ hcnt (hSf▸hI')
      ·intro j p hp hj e hem
       rw[hset]at hj⊢
       by_cases hji:j=i
       ·subst hji
        have:p=o:=by rw[hp]at ho';injection ho'
        subst this
        split
        ·rfl
        ·exact hdeps e hem
       ·rw[if_neg hji]at hj
        split
        ·rfl
        ·exact hcl j p hp hj e hem
     have hob:=ob i o him ho' (fun q=>listed.getD q false) vs w hmask hif hI
     rw[←wanted_same hlook]at hob
     unfold wpOp
     simp only[ho]
     cases hw:Region.wanted o (yielded l.toArray (slotsOf vs [] (fun q=>listed.getD q false) 0 l base))with
     |false=>
      rw[hw]at hob
      rw[if_neg (by simp)]
      exact hnext undef w hob
     |true=>
      rw[hw]at hob
      rw[if_pos rfl]
      refine .inl ?_
      exact OpGives.wp (OpGives.congr (exec_same (hok.sel o (List.mem_of_getElem? ho')) hlook).symm hob) (fun v σ' w' h=>hnext v w' h)
 have hinit:=key l.toArray.size (Array.replicate l.toArray.size false) (fun _=>undef) {w with drawn:=w.drawn+1} (by simp) (fun j _=>by simp[Array.getD_eq_getD_getElem?,Array.getElem?_replicate];split<;>rfl)
  (fun i o _ h=>by
   simp only[Array.getD_eq_getD_getElem?,Array.getElem?_replicate]at h
   split at h<;>simp at h)
  (by
   have:((List.range m).filter fun j=>(Array.replicate l.toArray.size false).getD j false)= []:=by
    rw[List.filter_eq_nil_iff]
    intro j _
    simp only[Array.getD_eq_getD_getElem?,Array.getElem?_replicate]
    split<;>simp
   rw[this];simp)
  (by
   have:(fun q=>(Array.replicate l.toArray.size false).getD q false)=(fun _=>false):=by
    funext q
    simp only[Array.getD_eq_getD_getElem?,Array.getElem?_replicate]
    split<;>rfl
   rw[this];exact h0)
 have hbase:slotsOf (fun _=>undef) [] (fun q=>(Array.replicate l.toArray.size false).getD q false) 0 l base=base:=by
  have: ∀(l':List Oper) (k:Nat) (t:Array Value) (S:Nat→Bool),(∀j,S j=false)→slotsOf (fun _=>undef) [] S k l' t=t:=by
   intro l'
   induction l' with
   |nil=>intros;rfl
   |cons o l' ih=>intro k t S hS;rw[slotsOf,hS k];exact ih _ _ _ hS
  refine this l 0 base _ (fun j=> ?_)
  simp only[Array.getD_eq_getD_getElem?,Array.getElem?_replicate]
  split<;>rfl
 rw[hbase]at hinit
 exact hinit
end
end Go.Vk
/- Maps: entries as a list with places,and what the machine does on them. No statement of its own. -/
namespace Go.Am
open Go.Vk Go.RowKit
def flatT:Ty→Bool
 | .int _=>true
 | .bool=>true
 | .str=>true
 | .pair a b=>flatT a && flatT b
 |_=>false
def encF:(T:Ty)→T.Den→List Value
 | .int k,x=> [.int k x]
 | .bool,x=> [.bool x]
 | .str,x=> [.string x]
 | .pair a b,x=>encF a x.1++encF b x.2
 |_,_=> []
theorem encF_len: ∀(T:Ty) (x:T.Den),flatT T=true→(encF T x).length=T.sz
 | .int k,x,_=>rfl
 | .bool,x,_=>rfl
 | .str,x,_=>rfl
 | .pair a b,x,h=>by
  simp only[flatT,Bool.and_eq_true]at h
  simp only[encF,List.length_append,Ty.sz,encF_len a x.1 h.1,encF_len b x.2 h.2]
 | .slice _,_,h=>by simp[flatT]at h
 | .arr _ _,_,h=>by simp[flatT]at h
theorem encF_one: ∀(T:Ty) (x:T.Den),∀v∈encF T x,v.oneCell'=true
 | .int k,x,v,h=>by simp only[encF,List.mem_singleton]at h;subst h;rfl
 | .bool,x,v,h=>by simp only[encF,List.mem_singleton]at h;subst h;rfl
 | .str,x,v,h=>by simp only[encF,List.mem_singleton]at h;subst h;rfl
 | .pair a b,x,v,h=>by
  simp only[encF,List.mem_append]at h
  rcases h with h|h
  ·exact encF_one a x.1 v h
  ·exact encF_one b x.2 v h
 | .slice _,_,_,h=>by simp[encF]at h
 | .arr _ _,_,_,h=>by simp[encF]at h
theorem rep_flat{σ:Gh}{w:World}: ∀(T:Ty) (x:T.Den) (cs:List Value),flatT T=true→(repTy T σ w x cs↔cs=encF T x)
 | .int k,x,cs,_=>by simp[repTy,encF]
 | .bool,x,cs,_=>by simp[repTy,encF]
 | .str,x,cs,_=>by simp[repTy,encF]
 | .pair a b,x,cs,h=>by
  simp only[flatT,Bool.and_eq_true]at h
  simp only[repTy,encF]
  constructor
  ·rintro⟨c1,c2,rfl,h1,h2⟩
   rw[(rep_flat a x.1 c1 h.1).1 h1,(rep_flat b x.2 c2 h.2).1 h2]
  ·rintro rfl
   exact⟨_,_,rfl,(rep_flat a x.1 _ h.1).2 rfl,(rep_flat b x.2 _ h.2).2 rfl⟩
 | .slice _,_,_,h=>by simp[flatT]at h
 | .arr _ _,_,_,h=>by simp[flatT]at h
def valF(ag:Bool)(T:Ty)(x:T.Den):Value:=
 match ag with
 |true=> .agg (encF T x).toArray
 |false=>(encF T x).headD undef
def eqT:(T:Ty)→T.Den→T.Den→Bool
 | .int _,x,y=>x==y
 | .bool,x,y=>x==y
 | .str,x,y=>x==y
 | .pair a b,x,y=>eqT a x.1 y.1 && eqT b x.2 y.2
 |_,_,_=>false
theorem eqT_iff: ∀{T:Ty} {x y:T.Den},flatT T=true→(eqT T x y=true↔x=y)
 | .int _,x,y,_=>by simp only[eqT];exact beq_iff_eq
 | .bool,x,y,_=>by simp only[eqT];exact beq_iff_eq
 | .str,x,y,_=>by simp only[eqT];exact Go.MapKept.bytes_beq x y
 | .pair a b,x,y,h=>by
  simp only[flatT,Bool.and_eq_true]at h
  simp only[eqT,Bool.and_eq_true,eqT_iff h.1,eqT_iff h.2]
  exact⟨fun⟨e1,e2⟩=>Prod.ext e1 e2,fun e=>by rw[e];exact⟨rfl,rfl⟩⟩
 | .slice _,_,_,h=>by simp[flatT]at h
 | .arr _ _,_,_,h=>by simp[flatT]at h
abbrev Mp(K V:Ty):=List (Option (K.Den×V.Den))
def mget(K V:Ty):Mp K V→K.Den→Option V.Den
 | [],_=>none
 |none::l,k=>mget K V l k
 |some (k',v)::l,k=>bif eqT K k k' then some v else mget K V l k
def mset(K V:Ty):Mp K V→K.Den→V.Den→Mp K V
 | [],k,v=> [some (k,v)]
 |none::l,k,v=>none::mset K V l k v
 |some (k',v')::l,k,v=>bif eqT K k k' then some (k',v)::l else some (k',v')::mset K V l k v
def mpos(K V:Ty):Mp K V→K.Den→Nat
 | [],_=>0
 |none::l,k=>mpos K V l k+1
 |some (k',v')::l,k=>bif eqT K k k' then 0 else mpos K V l k+1
def mhas(K V:Ty):Mp K V→Nat→Bool
 | [],_=>false
 |none::_,0=>false
 |some _::_,0=>true
 |_::l,i+1=>mhas K V l i
def mput(K V:Ty):Mp K V→Nat→V.Den→Mp K V
 | [],_,_=> []
 |none::l,0,_=>none::l
 |some (k,_)::l,0,v=>some (k,v)::l
 |x::l,i+1,v=>x::mput K V l i v
def mdel(K V:Ty):Mp K V→K.Den→Mp K V
 | [],_=> []
 |none::l,k=>none::mdel K V l k
 |some (k',v')::l,k=>bif eqT K k k' then none::l else some (k',v')::mdel K V l k
def mlen(K V:Ty):Mp K V→Nat
 | []=>0
 |none::l=>mlen K V l
 |some _::l=>mlen K V l+1
def ents(ka:Bool)(K:Ty)(va:Bool)(V:Ty):Nat→Mp K V→List MapEntry
 |_,[]=> []
 |j,none::l=>ents ka K va V (j+1) l
 |j,some (k,v)::l=>⟨valF ka K k,valF va V v,j⟩::ents ka K va V (j+1) l
def mfind(K V:Ty):Mp K V→K.Den→Nat→Option (Nat×V.Den)
 | [],_,_=>none
 |none::l,k,i=>mfind K V l k i
 |some (k',v)::l,k,i=>bif eqT K k k' then some (i,v)else mfind K V l k (i+1)
section
variable {K V : Ty} {ka va : Bool}
theorem mfind_get: ∀(xs:Mp K V) (k:K.Den) (i:Nat),mget K V xs k=(mfind K V xs k i).map (·.2)
 | [],_,_=>rfl
 |none::l,k,i=>by simp only[mget,mfind,mfind_get l k i]
 |some (k',v)::l,k,i=>by
  simp only[mget,mfind]
  cases eqT K k k' with
  |true=>rfl
  |false=>exact mfind_get l k (i+1)
theorem mfind_ge: ∀{xs:Mp K V} {k:K.Den} {i j:Nat} {v:V.Den},mfind K V xs k i=some (j,v)→i≤j
 | [],_,_,_,_,h=>by simp[mfind]at h
 |none::l,k,i,j,v,h=>by simp only[mfind]at h;exact mfind_ge h
 |some (k',v')::l,k,i,j,v,h=>by
  simp only[mfind]at h
  cases he:eqT K k k' with
  |true=>rw[he]at h;simp only[cond_true,Option.some.injEq,Prod.mk.injEq]at h;omega
  |false=>rw[he]at h;have:=mfind_ge (i:=i+1) h;omega
theorem ents_hit: ∀{xs:Mp K V} {k:K.Den} {i j:Nat} {n:Nat} {v:V.Den} (x:V.Den),flatT K=true→mfind K V xs k i=some (i+n,v)→
  ents ka K va V j (mset K V xs k x)=(ents ka K va V j xs).modify n (fun e=>{e with key:=valF ka K k,val:=valF va V x})∧(mset K V xs k x).length=xs.length∧((ents ka K va V j xs)[n]?).map (·.key)=some (valF ka K k)
 | [],_,_,_,_,_,_,_,h=>by simp[mfind]at h
 |none::l,k,i,j,n,v,x,hk,h=>by
  simp only[mfind]at h
  obtain⟨h1,h2,h3⟩:=ents_hit (j:=j+1) x hk h
  exact⟨by simp only[mset,ents,h1],by simp only[mset,List.length_cons,h2],by simpa only[ents]using h3⟩
 |some (k',v')::l,k,i,j,n,v,x,hk,h=>by
  simp only[mfind]at h
  cases he:eqT K k k' with
  |true=>
   rw[he]at h
   simp only[cond_true,Option.some.injEq,Prod.mk.injEq]at h
   obtain rfl:n=0:=by omega
   obtain rfl:=(eqT_iff hk).1 he
   simp only[mset,he,cond_true,ents,List.modify_zero_cons,List.length_cons,List.getElem?_cons_zero,Option.map_some,and_self]
  |false=>
   rw[he]at h
   have hge:=mfind_ge h
   obtain⟨m,rfl⟩: ∃m,n=m+1:=⟨n - 1,by omega⟩
   obtain⟨h1,h2,h3⟩:=ents_hit (i:=i+1) (j:=j+1) (n:=m) x hk (by rw[show i+1+m=i+(m+1)by omega];exact h)
   exact⟨by simp only[mset,he,cond_false,ents,List.modify_succ_cons,h1],by simp only[mset,he,cond_false,List.length_cons,h2],by simpa only[ents,List.getElem?_cons_succ]using h3⟩
theorem ents_new: ∀{xs:Mp K V} {k:K.Den} {i j:Nat} (x:V.Den),mfind K V xs k i=none→
  ents ka K va V j (mset K V xs k x)=ents ka K va V j xs++ [⟨valF ka K k,valF va V x,j+xs.length⟩]∧(mset K V xs k x).length=xs.length+1
 | [],k,i,j,x,_=>⟨rfl,rfl⟩
 |none::l,k,i,j,x,h=>by
  simp only[mfind]at h
  obtain⟨h1,h2⟩:=ents_new (j:=j+1) x h
  exact⟨by simp only[mset,ents,h1,List.length_cons,show j+1+l.length=j+(l.length+1)by omega],by simp only[mset,List.length_cons,h2]⟩
 |some (k',v')::l,k,i,j,x,h=>by
  simp only[mfind]at h
  cases he:eqT K k k' with
  |true=>rw[he]at h;cases h
  |false=>
   rw[he]at h
   obtain⟨h1,h2⟩:=ents_new (j:=j+1) x h
   exact⟨by simp only[mset,he,cond_false,ents,h1,List.cons_append,List.length_cons,show j+1+l.length=j+(l.length+1)by omega],by simp only[mset,he,cond_false,List.length_cons,h2]⟩
theorem ents_born: ∀{xs:Mp K V} {j:Nat} {e:MapEntry},e∈ents ka K va V j xs→j≤e.born∧e.born<j+xs.length
 | [],j,e,h=>by simp[ents]at h
 |none::l,j,e,h=>by
  simp only[ents]at h
  have:=ents_born h
  simp only[List.length_cons]
  omega
 |some (k,v)::l,j,e,h=>by
  simp only[ents,List.mem_cons]at h
  simp only[List.length_cons]
  rcases h with rfl|h
  ·exact⟨Nat.le_refl _,by show j<_;omega⟩
  ·have:=ents_born h
   omega
theorem mpos_hit: ∀{xs:Mp K V} {k:K.Den} {i j n:Nat} {v:V.Den},mfind K V xs k i=some (i+n,v)→((ents ka K va V j xs)[n]?).map (·.born)=some (j+mpos K V xs k)
 | [],_,_,_,_,_,h=>by simp[mfind]at h
 |none::l,k,i,j,n,v,h=>by
  simp only[mfind]at h
  have:=mpos_hit (j:=j+1) h
  simp only[ents,mpos,this]
  congr 1;omega
 |some (k',v')::l,k,i,j,n,v,h=>by
  simp only[mfind]at h
  cases he:eqT K k k' with
  |true=>
   rw[he]at h
   simp only[cond_true,Option.some.injEq,Prod.mk.injEq]at h
   obtain rfl:n=0:=by omega
   simp[ents,mpos,he]
  |false=>
   rw[he]at h
   have hge:=mfind_ge h
   obtain⟨m,rfl⟩: ∃m,n=m+1:=⟨n - 1,by omega⟩
   have:=mpos_hit (i:=i+1) (j:=j+1) (n:=m) (by rw[show i+1+m=i+(m+1)by omega];exact h)
   simp only[ents,mpos,he,cond_false,List.getElem?_cons_succ,this]
   congr 1;omega
theorem mpos_new: ∀{xs:Mp K V} {k:K.Den} {i:Nat},mfind K V xs k i=none→mpos K V xs k=xs.length
 | [],_,_,_=>rfl
 |none::l,k,i,h=>by simp only[mfind]at h;simp only[mpos,mpos_new h,List.length_cons]
 |some (k',v')::l,k,i,h=>by
  simp only[mfind]at h
  cases he:eqT K k k' with
  |true=>rw[he]at h;cases h
  |false=>rw[he]at h;simp only[mpos,he,cond_false,mpos_new h,List.length_cons]
theorem ents_at: ∀{xs:Mp K V} {j s:Nat} (x:V.Den),mhas K V xs s=true→
  ∃n,(ents ka K va V j xs).findIdx? (fun e=>(e.born:Int)==((j+s:Nat):Int))=some n∧ents ka K va V j (mput K V xs s x)=(ents ka K va V j xs).modify n (fun e=>{e with val:=valF va V x})
 | [],j,s,x,h=>by simp[mhas]at h
 |none::l,j,0,x,h=>by simp[mhas]at h
 |some (k,v)::l,j,0,x,h=>⟨0,by simp[ents,List.findIdx?_cons],by simp[ents,mput]⟩
 |none::l,j,s+1,x,h=>by
  simp only[mhas]at h
  obtain⟨n,h1,h2⟩:=ents_at (j:=j+1) x h
  rw[show j+1+s=j+(s+1)by omega]at h1
  exact⟨n,by simpa only[ents]using h1,by simpa only[ents,mput]using h2⟩
 |some (k,v)::l,j,s+1,x,h=>by
  simp only[mhas]at h
  obtain⟨n,h1,h2⟩:=ents_at (j:=j+1) x h
  rw[show j+1+s=j+(s+1)by omega]at h1
  refine⟨n+1,?_,by simp only[ents,mput,List.modify_succ_cons,h2]⟩
  have hne:((j:Int)==((j+(s+1):Nat):Int))=false:=by simp;omega
  simp only[ents,List.findIdx?_cons,hne,h1]
  rfl
theorem mput_len: ∀(xs:Mp K V) (s:Nat) (x:V.Den),(mput K V xs s x).length=xs.length
 | [],_,_=>rfl
 |none::l,0,_=>rfl
 |some _::l,0,_=>rfl
 |none::l,s+1,x=>by simp only[mput,List.length_cons,mput_len l s x]
 |some _::l,s+1,x=>by simp only[mput,List.length_cons,mput_len l s x]
theorem mlen_ents: ∀(xs:Mp K V) (j:Nat),(ents ka K va V j xs).length=mlen K V xs
 | [],_=>rfl
 |none::l,j=>by simp only[ents,mlen,mlen_ents l (j+1)]
 |some (k,v)::l,j=>by simp only[ents,mlen,List.length_cons,mlen_ents l (j+1)]
theorem mdel_hit: ∀{xs:Mp K V} {k:K.Den} {i j n:Nat} {v:V.Den},mfind K V xs k i=some (i+n,v)→ents ka K va V j (mdel K V xs k)=(ents ka K va V j xs).eraseIdx n
 | [],_,_,_,_,_,h=>by simp[mfind]at h
 |none::l,k,i,j,n,v,h=>by
  simp only[mfind]at h
  simp only[mdel,ents,mdel_hit (j:=j+1) h]
 |some (k',v')::l,k,i,j,n,v,h=>by
  simp only[mfind]at h
  cases he:eqT K k k' with
  |true=>
   rw[he]at h
   simp only[cond_true,Option.some.injEq,Prod.mk.injEq]at h
   obtain rfl:n=0:=by omega
   simp[ents,mdel,he]
  |false=>
   rw[he]at h
   have hge:=mfind_ge h
   obtain⟨m,rfl⟩: ∃m,n=m+1:=⟨n - 1,by omega⟩
   have:=mdel_hit (i:=i+1) (j:=j+1) (n:=m) (by rw[show i+1+m=i+(m+1)by omega];exact h)
   simp only[ents,mdel,he,cond_false,List.eraseIdx_cons_succ,this]
theorem mdel_new: ∀{xs:Mp K V} {k:K.Den} {i:Nat},mfind K V xs k i=none→mdel K V xs k=xs
 | [],_,_,_=>rfl
 |none::l,k,i,h=>by simp only[mfind]at h;simp only[mdel,mdel_new h]
 |some (k',v')::l,k,i,h=>by
  simp only[mfind]at h
  cases he:eqT K k k' with
  |true=>rw[he]at h;cases h
  |false=>rw[he]at h;simp only[mdel,he,cond_false,mdel_new h]
theorem mdel_len: ∀(xs:Mp K V) (k:K.Den),(mdel K V xs k).length=xs.length
 | [],_=>rfl
 |none::l,k=>by simp only[mdel,List.length_cons,mdel_len l k]
 |some (k',v')::l,k=>by
  simp only[mdel]
  cases eqT K k k' with
  |true=>rfl
  |false=>simp only[cond_false,List.length_cons,mdel_len l k]
end
end Go.Am
/- Maps: what the machine answers. No statement of its own. -/
namespace Go.Am
open Go.Vk Go.RowKit
def keyS(P:Program)(t:TypeId)(K:Ty):Bool:=
 match P.underlying t,K with
 |some (.int k),.int k'=>decide (k=k')
 |some .string,.str=>true
 |some .bool,.bool=>true
 |_,_=>false
def keyFs(P:Program):List Field→Nat→Ty→Bool
 | [f],off,K => !(f.name == "_") && (Nat.beq f.offset off && (keyS P f.type K && scalarB P f.type))
 | f :: g :: r,off,.pair A B => (!(f.name == "_") && (Nat.beq f.offset off && (keyS P f.type A && scalarB P f.type))) && keyFs P (g :: r) (off + 1) B
 |_,_,_=>false
def keyB(P:Program)(ka:Bool)(t:TypeId)(K:Ty):Bool:=
 match ka with
 |false=>keyS P t K
 |true=>match P.underlying t with
  |some (.struct fs)=> !(P.stoodInHeld t) && keyFs P fs.toList 0 K
  |_=>false
section
variable {P : Program} {w : World}
theorem keyS_flat{t:TypeId}{K:Ty}(h:keyS P t K=true):flatT K=true:=by
 unfold keyS at h
 split at h<;>first|rfl|cases h
theorem keyFs_flat: ∀{fs:List Field} {off:Nat} {K:Ty},keyFs P fs off K=true→flatT K=true
 | [],_,_,h=>by simp[keyFs]at h
 | [f],off,K,h=>by
  simp only[keyFs,Bool.and_eq_true]at h
  exact keyS_flat h.2.2.1
 |f::g::r,off,K,h=>by
  cases K<;>try (simp[keyFs]at h;done)
  rename_i A B
  simp only[keyFs,Bool.and_eq_true]at h
  simp only[flatT,Bool.and_eq_true]
  exact⟨keyS_flat h.1.2.2.1,keyFs_flat h.2⟩
theorem keyB_flat{ka:Bool}{t:TypeId}{K:Ty}(h:keyB P ka t K=true):flatT K=true:=by
 unfold keyB at h
 cases ka with
 |false=>exact keyS_flat h
 |true=>
  simp only at h
  split at h
  ·simp only[Bool.and_eq_true]at h;exact keyFs_flat h.2
  ·cases h
theorem keyS_one{t:TypeId}{K:Ty}(h:keyS P t K=true)(x:K.Den): ∃v,encF K x= [v]∧v.oneCell'=true:=by
 unfold keyS at h
 split at h
 ·exact⟨_,rfl,rfl⟩
 ·exact⟨_,rfl,rfl⟩
 ·exact⟨_,rfl,rfl⟩
 ·cases h
theorem keyS_now{t:TypeId}{K:Ty}(h:keyS P t K=true): ∃d,P.underlying t=some d∧∀x y:K.Den,Instr.sameNow d (valF false K x) (valF false K y)=some (eqT K x y):=by
 unfold keyS at h
 split at h
 ·rename_i k k' hu
  obtain rfl:=of_decide_eq_true h
  exact⟨_,hu,fun x y=>by simp[valF,encF,Instr.sameNow,eqT]⟩
 ·rename_i hu;exact⟨_,hu,fun x y=>rfl⟩
 ·rename_i hu;exact⟨_,hu,fun x y=>rfl⟩
 ·cases h
theorem keyS_equal{t:TypeId}{K:Ty}(h:keyS P t K=true)(d:Nat)(x y:K.Den):(Op.equalIn (d+1) t (valF false K x) (valF false K y)).run P w= .ok (eqT K x y) w:=by
 unfold keyS at h
 split at h
 ·rename_i k k' hu
  obtain rfl:=of_decide_eq_true h
  simp[Op.equalIn,run_underlying hu,valF,encF,eqT]
 ·rename_i hu;simp[Op.equalIn,run_underlying hu,valF,encF,eqT]
 ·rename_i hu;simp[Op.equalIn,run_underlying hu,valF,encF,eqT]
 ·cases h
theorem keyS_check{t:TypeId}{K:Ty}(h:keyS P t K=true)(b:Bool)(n:Nat)(x:K.Den):(Instr.checkKey b (n+1) t (valF false K x)).run P w= .ok () w:=by
 unfold keyS at h
 unfold Instr.checkKey
 split at h
 ·rename_i k k' hu;simp[run_underlying hu,valF,encF]
 ·rename_i hu;simp[run_underlying hu,valF,encF]
 ·rename_i hu;simp[run_underlying hu,valF,encF]
 ·cases h
theorem part_scalar{t:TypeId}{cs:Array Value}{off:Nat}{v:Value}(hs:scalarB P t=true)(h:cs[off]? =some v):(part t cs off).run P w= .ok v w:=by
 simp[part,run_isAgg_false hs,h]
theorem keyFs_equal{d:Nat}: ∀{fs:List Field} {off:Nat} {K:Ty} {xs ys:Array Value} {x y:K.Den},keyFs P fs off K=true→xs.toList.drop off=encF K x→ys.toList.drop off=encF K y→(Op.eqFields (d+1) xs ys fs).run P w= .ok (eqT K x y) w
 | [],_,_,_,_,_,_,h,_,_=>by simp[keyFs]at h
 | [f],off,K,xs,ys,x,y,h,hx,hy=>by
  simp only[keyFs,Bool.and_eq_true,Bool.not_eq_true']at h
  obtain⟨h1,h2,h3,h4⟩:=h
  obtain rfl:=Nat.eq_of_beq_eq_true h2
  obtain⟨v,e1,_⟩:=keyS_one h3 x
  obtain⟨u,e2,_⟩:=keyS_one h3 y
  have gx:xs[f.offset]? =some v:=by
   have:(xs.toList.drop f.offset)[0]? =some v:=by rw[hx,e1];rfl
   simpa using this
  have gy:ys[f.offset]? =some u:=by
   have:(ys.toList.drop f.offset)[0]? =some u:=by rw[hy,e2];rfl
   simpa using this
  have hv:valF false K x=v:=by simp[valF,e1]
  have hu:valF false K y=u:=by simp[valF,e2]
  have he:=keyS_equal (w:=w) h3 d x y
  rw[hv,hu]at he
  have:=eqf1 (P:=P) (w:=w) (xs:=xs) (ys:=ys) (fs:= []) (s:=true) v u h1 (part_scalar h4 gx) (part_scalar h4 gy) he eqf0
  simpa using this
 |f::g::r,off,K,xs,ys,x,y,h,hx,hy=>by
  cases K<;>try (simp[keyFs]at h;done)
  rename_i A B
  simp only[keyFs,Bool.and_eq_true,Bool.not_eq_true']at h
  obtain⟨⟨h1,h2,h3,h4⟩,h5⟩:=h
  obtain rfl:=Nat.eq_of_beq_eq_true h2
  obtain⟨v,e1,_⟩:=keyS_one h3 x.1
  obtain⟨u,e2,_⟩:=keyS_one h3 y.1
  simp only[encF,e1,e2]at hx hy
  have gx:xs[f.offset]? =some v:=by
   have:(xs.toList.drop f.offset)[0]? =some v:=by rw[hx];rfl
   simpa using this
  have gy:ys[f.offset]? =some u:=by
   have:(ys.toList.drop f.offset)[0]? =some u:=by rw[hy];rfl
   simpa using this
  have dx:xs.toList.drop (f.offset+1)=encF B x.2:=by rw[←List.drop_drop,hx];rfl
  have dy:ys.toList.drop (f.offset+1)=encF B y.2:=by rw[←List.drop_drop,hy];rfl
  have hv:valF false A x.1=v:=by simp[valF,e1]
  have hu:valF false A y.1=u:=by simp[valF,e2]
  have he:=keyS_equal (w:=w) h3 d x.1 y.1
  rw[hv,hu]at he
  exact eqf1 v u h1 (part_scalar h4 gx) (part_scalar h4 gy) he (keyFs_equal h5 dx dy)
theorem keyB_equal{t:TypeId}{K:Ty}(h:keyB P true t K=true)(d:Nat)(x y:K.Den):(Op.equalIn (d+2) t (valF true K x) (valF true K y)).run P w= .ok (eqT K x y) w:=by
 unfold keyB at h
 simp only at h
 split at h
 ·rename_i fs hu
  simp only[Bool.and_eq_true,Bool.not_eq_true']at h
  exact eqA (d:=d+1) hu h.1 (keyFs_equal h.2 (by simp) (by simp))
 ·cases h
theorem forIn_units{α:Type}{g:α→PUnit→Sem (ForInStep PUnit)}: ∀(l:List α),(∀f∈l,(g f ()).run P w= .ok (.yield ()) w)→(forIn l PUnit.unit g).run P w= .ok () w
 | [],_=>rfl
 |f::l,h=>by
  rw[List.forIn_cons]
  simp only[Sem.run_bind]
  rw[h f (by simp)]
  exact forIn_units l (fun q hq=>h q (by simp[hq]))
theorem checkFs{b:Bool}{n:Nat}: ∀{fs:List Field} {off:Nat} {K:Ty} {xs:Array Value} {x:K.Den},keyFs P fs off K=true→xs.toList.drop off=encF K x→
  ∀ f ∈ fs,f.name ≠ "_" ∧ ∃ v,(part f.type xs f.offset).run P w = .ok v w ∧ (Instr.checkKey b (n + 1) f.type v).run P w = .ok () w
 | [],_,_,_,_,h,_=>by simp[keyFs]at h
 | [f],off,K,xs,x,h,hx=>by
  simp only[keyFs,Bool.and_eq_true,Bool.not_eq_true']at h
  obtain⟨h1,h2,h3,h4⟩:=h
  obtain rfl:=Nat.eq_of_beq_eq_true h2
  obtain⟨v,e1,_⟩:=keyS_one h3 x
  have gx:xs[f.offset]? =some v:=by
   have:(xs.toList.drop f.offset)[0]? =some v:=by rw[hx,e1];rfl
   simpa using this
  have hv:valF false K x=v:=by simp[valF,e1]
  have hc:=keyS_check (w:=w) h3 b n x
  rw[hv]at hc
  intro q hq
  obtain rfl:=List.mem_singleton.1 hq
  exact⟨by simpa using h1,v,part_scalar h4 gx,hc⟩
 |f::g::r,off,K,xs,x,h,hx=>by
  cases K<;>try (simp[keyFs]at h;done)
  rename_i A B
  simp only[keyFs,Bool.and_eq_true,Bool.not_eq_true']at h
  obtain⟨⟨h1,h2,h3,h4⟩,h5⟩:=h
  obtain rfl:=Nat.eq_of_beq_eq_true h2
  obtain⟨v,e1,_⟩:=keyS_one h3 x.1
  simp only[encF,e1]at hx
  have gx:xs[f.offset]? =some v:=by
   have:(xs.toList.drop f.offset)[0]? =some v:=by rw[hx];rfl
   simpa using this
  have dx:xs.toList.drop (f.offset+1)=encF B x.2:=by rw[←List.drop_drop,hx];rfl
  have hv:valF false A x.1=v:=by simp[valF,e1]
  have hc:=keyS_check (w:=w) h3 b n x.1
  rw[hv]at hc
  intro q hq
  rcases List.mem_cons.1 hq with rfl|hq
  ·exact⟨by simpa using h1,v,part_scalar h4 gx,hc⟩
  ·exact checkFs h5 dx q hq
theorem keyB_check{ka:Bool}{t:TypeId}{K:Ty}(h:keyB P ka t K=true)(b:Bool)(x:K.Den):(Instr.checkKey b 10000 t (valF ka K x)).run P w= .ok () w:=by
 unfold keyB at h
 cases ka with
 |false=>exact keyS_check h b 9999 x
 |true=>
  simp only at h
  split at h
  ·rename_i fs hu
   simp only[Bool.and_eq_true,Bool.not_eq_true']at h
   have hf:=checkFs (w:=w) (b:=b) (n:=9998) (xs:=(encF K x).toArray) (x:=x) h.2 (by simp)
   show(Instr.checkKey b (9999+1) t (valF true K x)).run P w=_
   unfold Instr.checkKey
   simp only[Sem.run_bind,run_underlying hu,Result.andThen_ok,valF]
   rw[←Array.forIn_toList]
   rw[forIn_units fs.toList (fun f hm=> ?_)]
   ·rfl
   ·obtain⟨h1,v,h2,h3⟩:=hf f hm
    simp only[h1,ne_eq,not_false_eq_true,if_true,Sem.run_bind,h2,h3,Result.andThen_ok,Sem.run_pure]
  ·cases h
theorem sameS{t:TypeId}{K:Ty}(h:keyS P t K=true)(n:Nat)(x:K.Den): ∀v∈encF K x,Instr.sameBits n v v=true:=by
 intro v hv
 unfold keyS at h
 split at h
 ·simp only[encF,List.mem_singleton]at hv;subst hv;cases n<;>simp[Instr.sameBits]
 ·simp only[encF,List.mem_singleton]at hv;subst hv;cases n<;>simp[Instr.sameBits,MapKept.bytes_beq]
 ·simp only[encF,List.mem_singleton]at hv;subst hv;cases n<;>simp[Instr.sameBits]
 ·cases h
theorem sameFs{n:Nat}: ∀{fs:List Field} {off:Nat} {K:Ty} (x:K.Den),keyFs P fs off K=true→∀v∈encF K x,Instr.sameBits n v v=true
 | [],_,_,_,h=>by simp[keyFs]at h
 | [f],off,K,x,h=>by
  simp only[keyFs,Bool.and_eq_true]at h
  exact sameS h.2.2.1 n x
 |f::g::r,off,K,x,h=>by
  cases K<;>try (simp[keyFs]at h;done)
  rename_i A B
  simp only[keyFs,Bool.and_eq_true]at h
  intro v hv
  simp only[encF,List.mem_append]at hv
  rcases hv with hv|hv
  ·exact sameS h.1.2.2.1 n x.1 v hv
  ·exact sameFs x.2 h.2 v hv
theorem keyB_same{ka:Bool}{t:TypeId}{K:Ty}(h:keyB P ka t K=true)(x:K.Den):Instr.sameBits 10000 (valF ka K x) (valF ka K x)=true:=by
 unfold keyB at h
 cases ka with
 |false=>
  obtain⟨v,e1,_⟩:=keyS_one h x
  have:=sameS h 10000 x v (by rw[e1];simp)
  simpa[valF,e1]using this
 |true=>
  simp only at h
  split at h
  ·rename_i fs hu
   simp only[Bool.and_eq_true]at h
   show Instr.sameBits (9999+1) (valF true K x) (valF true K x)=true
   simp only[valF,Instr.sameBits,beq_self_eq_true,Bool.true_and,List.all_eq_true]
   rintro⟨a,b⟩ hab
   rw[List.zip_eq_zipWith]at hab
   simp only[List.zipWith_self,List.mem_map]at hab
   obtain⟨v,hv,e⟩:=hab
   obtain⟨rfl,rfl⟩:=Prod.mk.inj e
   exact sameFs x h.2 _ hv
  ·cases h
theorem keyB_stays{ka:Bool}{t:TypeId}{K:Ty}(h:keyB P ka t K=true)(x:K.Den):(Instr.keyThatStays (valF ka K x) (valF ka K x)).run P w= .ok (valF ka K x) w:=by
 unfold Instr.keyThatStays
 rw[if_pos (keyB_same h x)]
 rfl
theorem find_run{ka va:Bool}{t:TypeId}{K V:Ty}(h:keyB P ka t K=true)(key:K.Den)(xs:Mp K V)(j:Nat):
  (Instr.findKey t (valF ka K key) (ents ka K va V j xs)).run P w= .ok ((mfind K V xs key 0).map fun r=>(r.1,valF va V r.2)) w:=by
 cases ka with
 |false=>
  have hS:keyS P t K=true:=h
  obtain⟨d,hu,hnow⟩:=keyS_now hS
  have hf: ∀(xs:Mp K V) (j i:Nat),Instr.findNow d (valF false K key) (ents false K va V j xs) i=some ((mfind K V xs key i).map fun r=>(r.1,valF va V r.2)):=by
   intro xs
   induction xs with
   |nil=>intro j i;rfl
   |cons o l ih=>
    intro j i
    cases o with
    |none=>simp only[ents,mfind];exact ih (j+1) i
    |some e=>
     obtain⟨k',v⟩:=e
     simp only[ents,mfind,Instr.findNow,hnow]
     cases he:eqT K key k' with
     |true=>rfl
     |false=>exact ih (j+1) (i+1)
  exact MapKept.run_findKey hu (hf xs j 0)
 |true=>
  have hb:=h
  unfold keyB at h
  simp only at h
  split at h
  case h_2=>cases h
  rename_i fs hu
  have hask: ∀(xs:Mp K V) (j i:Nat),(Instr.findAsking t (valF true K key) (ents true K va V j xs) i).run P w= .ok ((mfind K V xs key i).map fun r=>(r.1,valF va V r.2)) w:=by
   intro xs
   induction xs with
   |nil=>intro j i;rfl
   |cons o l ih=>
    intro j i
    cases o with
    |none=>simp only[ents,mfind];exact ih (j+1) i
    |some e=>
     obtain⟨k',v⟩:=e
     have he:(Op.equal t (valF true K key) (valF true K k')).run P w= .ok (eqT K key k') w:=keyB_equal hb 9998 key k'
     simp only[ents,mfind,Instr.findAsking,Sem.run_bind,he,Result.andThen_ok]
     cases heq:eqT K key k' with
     |true=>simp
     |false=>simpa using ih (j+1) (i+1)
  unfold Instr.findKey
  simp only[Sem.run_bind,run_underlying hu,Result.andThen_ok]
  cases hE:ents true K va V j xs with
  |nil=>
   have:=hask xs j 0
   rw[hE]at this
   simp only[Instr.findNow,Sem.run_pure]
   exact this
  |cons e l=>
   have hnone:Instr.findNow (.struct fs) (valF true K key) (e::l) 0=none:=by
    simp[Instr.findNow,Instr.sameNow,valF]
   rw[hnone,←hE]
   exact hask xs j 0
end
end Go.Am
/- Maps whose values are anything: entries as a list with places. No statement of its own. -/
namespace Go.Am
open Go.Vk Go.RowKit
abbrev Gp(K:Ty)(B:Type):=List (Option (K.Den×B))
def gget{B:Type}(K:Ty):Gp K B→K.Den→Option B
 | [],_=>none
 |none::l,k=>gget K l k
 |some (k',v)::l,k=>bif eqT K k k' then some v else gget K l k
def gset{B:Type}(K:Ty):Gp K B→K.Den→B→Gp K B
 | [],k,v=> [some (k,v)]
 |none::l,k,v=>none::gset K l k v
 |some (k',v')::l,k,v=>bif eqT K k k' then some (k',v)::l else some (k',v')::gset K l k v
def gpos{B:Type}(K:Ty):Gp K B→K.Den→Nat
 | [],_=>0
 |none::l,k=>gpos K l k+1
 |some (k',v')::l,k=>bif eqT K k k' then 0 else gpos K l k+1
def gdel{B:Type}(K:Ty):Gp K B→K.Den→Gp K B
 | [],_=> []
 |none::l,k=>none::gdel K l k
 |some (k',v')::l,k=>bif eqT K k k' then none::l else some (k',v')::gdel K l k
def glen{B:Type}(K:Ty):Gp K B→Nat
 | []=>0
 |none::l=>glen K l
 |some _::l=>glen K l+1
def gents{B:Type}(ka:Bool)(K:Ty)(enc:B→Value):Nat→Gp K B→List MapEntry
 |_,[]=> []
 |j,none::l=>gents ka K enc (j+1) l
 |j,some (k,v)::l=>⟨valF ka K k,enc v,j⟩::gents ka K enc (j+1) l
def gfind{B:Type}(K:Ty):Gp K B→K.Den→Nat→Option (Nat×B)
 | [],_,_=>none
 |none::l,k,i=>gfind K l k i
 |some (k',v)::l,k,i=>bif eqT K k k' then some (i,v)else gfind K l k (i+1)
section
variable {K : Ty} {B : Type} {ka : Bool} {enc : B → Value}
theorem gfind_get: ∀(xs:Gp K B) (k:K.Den) (i:Nat),gget K xs k=(gfind K xs k i).map (·.2)
 | [],_,_=>rfl
 |none::l,k,i=>by simp only[gget,gfind,gfind_get l k i]
 |some (k',v)::l,k,i=>by
  simp only[gget,gfind]
  cases eqT K k k' with
  |true=>rfl
  |false=>exact gfind_get l k (i+1)
theorem gfind_ge: ∀{xs:Gp K B} {k:K.Den} {i j:Nat} {v:B},gfind K xs k i=some (j,v)→i≤j
 | [],_,_,_,_,h=>by simp[gfind]at h
 |none::l,k,i,j,v,h=>by simp only[gfind]at h;exact gfind_ge h
 |some (k',v')::l,k,i,j,v,h=>by
  simp only[gfind]at h
  cases he:eqT K k k' with
  |true=>rw[he]at h;simp only[cond_true,Option.some.injEq,Prod.mk.injEq]at h;omega
  |false=>rw[he]at h;have:=gfind_ge (i:=i+1) h;omega
theorem gents_hit: ∀{xs:Gp K B} {k:K.Den} {i j:Nat} {n:Nat} {v:B} (x:B),flatT K=true→gfind K xs k i=some (i+n,v)→
  gents ka K enc j (gset K xs k x)=(gents ka K enc j xs).modify n (fun e=>{e with key:=valF ka K k,val:=enc x})∧(gset K xs k x).length=xs.length∧((gents ka K enc j xs)[n]?).map (·.key)=some (valF ka K k)
 | [],_,_,_,_,_,_,_,h=>by simp[gfind]at h
 |none::l,k,i,j,n,v,x,hk,h=>by
  simp only[gfind]at h
  obtain⟨h1,h2,h3⟩:=gents_hit (j:=j+1) x hk h
  exact⟨by simp only[gset,gents,h1],by simp only[gset,List.length_cons,h2],by simpa only[gents]using h3⟩
 |some (k',v')::l,k,i,j,n,v,x,hk,h=>by
  simp only[gfind]at h
  cases he:eqT K k k' with
  |true=>
   rw[he]at h
   simp only[cond_true,Option.some.injEq,Prod.mk.injEq]at h
   obtain rfl:n=0:=by omega
   obtain rfl:=(eqT_iff hk).1 he
   simp only[gset,he,cond_true,gents,List.modify_zero_cons,List.length_cons,List.getElem?_cons_zero,Option.map_some,and_self]
  |false=>
   rw[he]at h
   have hge:=gfind_ge h
   obtain⟨m,rfl⟩: ∃m,n=m+1:=⟨n - 1,by omega⟩
   obtain⟨h1,h2,h3⟩:=gents_hit (i:=i+1) (j:=j+1) (n:=m) x hk (by rw[show i+1+m=i+(m+1)by omega];exact h)
   exact⟨by simp only[gset,he,cond_false,gents,List.modify_succ_cons,h1],by simp only[gset,he,cond_false,List.length_cons,h2],by simpa only[gents,List.getElem?_cons_succ]using h3⟩
theorem gents_new: ∀{xs:Gp K B} {k:K.Den} {i j:Nat} (x:B),gfind K xs k i=none→
  gents ka K enc j (gset K xs k x)=gents ka K enc j xs++ [⟨valF ka K k,enc x,j+xs.length⟩]∧(gset K xs k x).length=xs.length+1
 | [],k,i,j,x,_=>⟨rfl,rfl⟩
 |none::l,k,i,j,x,h=>by
  simp only[gfind]at h
  obtain⟨h1,h2⟩:=gents_new (j:=j+1) x h
  exact⟨by simp only[gset,gents,h1,List.length_cons,show j+1+l.length=j+(l.length+1)by omega],by simp only[gset,List.length_cons,h2]⟩
 |some (k',v')::l,k,i,j,x,h=>by
  simp only[gfind]at h
  cases he:eqT K k k' with
  |true=>rw[he]at h;cases h
  |false=>
   rw[he]at h
   obtain⟨h1,h2⟩:=gents_new (j:=j+1) x h
   exact⟨by simp only[gset,he,cond_false,gents,h1,List.cons_append,List.length_cons,show j+1+l.length=j+(l.length+1)by omega],by simp only[gset,he,cond_false,List.length_cons,h2]⟩
theorem gents_born: ∀{xs:Gp K B} {j:Nat} {e:MapEntry},e∈gents ka K enc j xs→j≤e.born∧e.born<j+xs.length
 | [],j,e,h=>by simp[gents]at h
 |none::l,j,e,h=>by
  simp only[gents]at h
  have:=gents_born h
  simp only[List.length_cons]
  omega
 |some (k,v)::l,j,e,h=>by
  simp only[gents,List.mem_cons]at h
  simp only[List.length_cons]
  rcases h with rfl|h
  ·exact⟨Nat.le_refl _,by show j<_;omega⟩
  ·have:=gents_born h
   omega
theorem glen_ents: ∀(xs:Gp K B) (j:Nat),(gents ka K enc j xs).length=glen K xs
 | [],_=>rfl
 |none::l,j=>by simp only[gents,glen,glen_ents l (j+1)]
 |some (k,v)::l,j=>by simp only[gents,glen,List.length_cons,glen_ents l (j+1)]
theorem gdel_hit: ∀{xs:Gp K B} {k:K.Den} {i j n:Nat} {v:B},gfind K xs k i=some (i+n,v)→gents ka K enc j (gdel K xs k)=(gents ka K enc j xs).eraseIdx n
 | [],_,_,_,_,_,h=>by simp[gfind]at h
 |none::l,k,i,j,n,v,h=>by
  simp only[gfind]at h
  simp only[gdel,gents,gdel_hit (j:=j+1) h]
 |some (k',v')::l,k,i,j,n,v,h=>by
  simp only[gfind]at h
  cases he:eqT K k k' with
  |true=>
   rw[he]at h
   simp only[cond_true,Option.some.injEq,Prod.mk.injEq]at h
   obtain rfl:n=0:=by omega
   simp[gents,gdel,he]
  |false=>
   rw[he]at h
   have hge:=gfind_ge h
   obtain⟨m,rfl⟩: ∃m,n=m+1:=⟨n - 1,by omega⟩
   have:=gdel_hit (i:=i+1) (j:=j+1) (n:=m) (by rw[show i+1+m=i+(m+1)by omega];exact h)
   simp only[gents,gdel,he,cond_false,List.eraseIdx_cons_succ,this]
theorem gdel_new: ∀{xs:Gp K B} {k:K.Den} {i:Nat},gfind K xs k i=none→gdel K xs k=xs
 | [],_,_,_=>rfl
 |none::l,k,i,h=>by simp only[gfind]at h;simp only[gdel,gdel_new h]
 |some (k',v')::l,k,i,h=>by
  simp only[gfind]at h
  cases he:eqT K k k' with
  |true=>rw[he]at h;cases h
  |false=>rw[he]at h;simp only[gdel,he,cond_false,gdel_new h]
theorem gdel_len: ∀(xs:Gp K B) (k:K.Den),(gdel K xs k).length=xs.length
 | [],_=>rfl
 |none::l,k=>by simp only[gdel,List.length_cons,gdel_len l k]
 |some (k',v')::l,k=>by
  simp only[gdel]
  cases eqT K k k' with
  |true=>rfl
  |false=>simp only[cond_false,List.length_cons,gdel_len l k]
end
section
variable {P : Program} {w : World}
theorem gfind_run{B:Type}{enc:B→Value}{ka:Bool}{t:TypeId}{K:Ty}(h:keyB P ka t K=true)(key:K.Den)(xs:Gp K B)(j:Nat):
  (Instr.findKey t (valF ka K key) (gents ka K enc j xs)).run P w= .ok ((gfind K xs key 0).map fun r=>(r.1,enc r.2)) w:=by
 cases ka with
 |false=>
  have hS:keyS P t K=true:=h
  obtain⟨d,hu,hnow⟩:=keyS_now hS
  have hf: ∀(xs:Gp K B) (j i:Nat),Instr.findNow d (valF false K key) (gents false K enc j xs) i=some ((gfind K xs key i).map fun r=>(r.1,enc r.2)):=by
   intro xs
   induction xs with
   |nil=>intro j i;rfl
   |cons o l ih=>
    intro j i
    cases o with
    |none=>simp only[gents,gfind];exact ih (j+1) i
    |some e=>
     obtain⟨k',v⟩:=e
     simp only[gents,gfind,Instr.findNow,hnow]
     cases he:eqT K key k' with
     |true=>rfl
     |false=>exact ih (j+1) (i+1)
  exact MapKept.run_findKey hu (hf xs j 0)
 |true=>
  have hb:=h
  unfold keyB at h
  simp only at h
  split at h
  case h_2=>cases h
  rename_i fs hu
  have hask: ∀(xs:Gp K B) (j i:Nat),(Instr.findAsking t (valF true K key) (gents true K enc j xs) i).run P w= .ok ((gfind K xs key i).map fun r=>(r.1,enc r.2)) w:=by
   intro xs
   induction xs with
   |nil=>intro j i;rfl
   |cons o l ih=>
    intro j i
    cases o with
    |none=>simp only[gents,gfind];exact ih (j+1) i
    |some e=>
     obtain⟨k',v⟩:=e
     have he:(Op.equal t (valF true K key) (valF true K k')).run P w= .ok (eqT K key k') w:=keyB_equal hb 9998 key k'
     simp only[gents,gfind,Instr.findAsking,Sem.run_bind,he,Result.andThen_ok]
     cases heq:eqT K key k' with
     |true=>simp
     |false=>simpa using ih (j+1) (i+1)
  unfold Instr.findKey
  simp only[Sem.run_bind,run_underlying hu,Result.andThen_ok]
  cases hE:gents true K enc j xs with
  |nil=>
   have:=hask xs j 0
   rw[hE]at this
   simp only[Instr.findNow,Sem.run_pure]
   exact this
  |cons e l=>
   have hnone:Instr.findNow (.struct fs) (valF true K key) (e::l) 0=none:=by
    simp[Instr.findNow,Instr.sameNow,valF]
   rw[hnone,←hE]
   exact hask xs j 0
end
end Go.Am
