/- The abstract machine,part 42: strings.Builder,and numerals below a hundred. No statement of its own. -/
import Derived.Test.YtfcgafnmlkiimaaGreatDoorAmE
import Derived.Shelf.Strings.Builder1
import Derived.Shelf.Strconv.Itoa3
set_option linter.unusedSimpArgs false
set_option linter.unusedVariables false
namespace Go.Am
open Go.Vk Go.RowKit Go.Proofs Go.Shelf
section
variable {P : Program} {ρ : Ren}
set_option maxHeartbeats 2000000 in
set_option maxRecDepth 100000 in
theorem bstr_run (L:Lays.n169 P ρ) (X:Builder.Extra P ρ) (b g cap:Nat) (p:Value) (cur:Array Value) (l:List UInt8) (w:World) (hbk:w.heap[b]? =some (.cells #[p,.slice (some ⟨g,0,none⟩) l.length cap] (ρ.t 72) (0,0)))
  (hg:w.heap[g]? =some (.cells cur (ρ.t 5) (0,0))) (h0:l≠[]) (hnc:l.length≤cap) (hcm:cap≤maxLen) (hcs:cur.size=cap) (htake:cur.toList.take l.length=Lib.byteCells l):
  Calls P (ρ.f 169) #[.pointer (some ⟨b,0,none⟩)] w fun e w'=>e= .returned (.string ⟨l.toArray⟩)∧w'=w.drew.freeze ⟨g,0,none⟩ l.length:=by
 have hl0:l.length≠0:=by simpa using h0
 have c1:w.drew.cell? ⟨b,1,none⟩=some (.slice (some ⟨g,0,none⟩) l.length cap):=by
  have:w.drew.heap[b]? =some (.cells #[p,.slice (some ⟨g,0,none⟩) l.length cap] (ρ.t 72) (0,0)):=hbk
  rw[Lib.cell_of_heap this];rfl
 have hSD:(Builtin.unsafeSliceData_ #[(ρ.t 37)] (ρ.t 127) #[.slice (some ⟨g,0,none⟩) l.length cap]).run P w.drew= .ok (.pointer (some ⟨g,0,none⟩)) w.drew:=
  Lib.run_unsafeSliceData_row _ _ _ _ _ _ (by omega)
 have hUS:(Builtin.unsafeString_ #[(ρ.t 127),(ρ.t 3)] (ρ.t 9) #[.pointer (some ⟨g,0,none⟩),.int .i64 l.length]).run P w.drew= .ok (.string ⟨l.toArray⟩) (w.drew.freeze ⟨g,0,none⟩ l.length):=by
  refine Lib.run_unsafeString_row w.drew (ρ.t 127) (ρ.t 3) (ρ.t 9) (ρ.t 5) L.t127 X.cellsByte g cur.size (by have hg':w.drew.heap[g]? =some (.cells cur (ρ.t 5) (0,0)):=hg;simp[World.shape?,hg']) l h0 (by omega) (by unfold maxLen at hcm;omega) ?_
  intro j x hx
  have hg':w.drew.heap[g]? =some (.cells cur (ρ.t 5) (0,0)):=hg
  have hj:j<l.length:=(List.getElem?_eq_some_iff.1 hx).1
  have h1:(cur.toList.take l.length)[j]? =some (.int .u8 x.toNat):=by rw[htake];simp[Lib.byteCells,hx]
  rw[List.getElem?_take_of_lt hj]at h1
  rw[show((⟨g,0,none⟩:Addr).add j)=⟨g,j,none⟩by simp[Addr.add];intro h;exact h.symm,Lib.cell_of_heap hg']
  simpa using h1
 have mixed:=L.mixed
 have t72:=L.t72;have a72:=L.a72;have z72:=L.z72;have v72:=L.v72;have u72:=run_underlying L.t72
 have t70:=L.t70;have a70:=L.a70;have z70:=L.z70;have v70:=L.v70;have u70:=run_underlying L.t70
 have t37:=L.t37;have a37:=L.a37;have z37:=L.z37;have v37:=L.v37;have u37:=run_underlying L.t37
 have t127:=L.t127;have a127:=L.a127;have z127:=L.z127;have v127:=L.v127;have u127:=run_underlying L.t127
 have t3:=L.t3;have a3:=L.a3;have z3:=L.z3;have v3:=L.v3;have u3:=run_underlying L.t3
 have t9:=L.t9;have a9:=L.a9;have z9:=L.z9;have v9:=L.v9;have u9:=run_underlying L.t9
 have t5:=X.t5;have a5:=X.a5;have z5:=X.z5;have v5:=X.v5;have u5:=run_underlying X.t5
 go_enter L.f169,Body.n169_ntmps ρ
 go_wp2
 go_region_o
 all_goals (go_wp2;go_ret;exact⟨rfl,rfl⟩)
end
variable [Dr]
def ccHdl(T:TypeId):Hdl:=fun X args H k=>
 match args with
 | [.ptr b 0]=>match(H[b]? :Option AB)with
  |some (.cells T' (.selfp q::x:: []))=>match natEq T' T,natEq q b with
   |some _,some _=>k H (.tup [])
   |_,_=>none
  |_=>none
 |_=>none
theorem cc_ok{P:Program}{ρ:Ren}(L:Lays.n240 P ρ)(X:Builder.X72 P ρ){f:FuncId}{T:TypeId}(hf:ρ.f 240=f)(hT:ρ.t 72=T):HdlOk P f (ccHdl T):=by
 subst hf hT
 intro Y args H k y hx
 unfold ccHdl at hx
 split at hx
 case h_2=>cases hx
 rename_i b
 split at hx
 case h_2=>cases hx
 rename_i T' q x hb
 split at hx
 case h_2=>cases hx
 rename_i h1 h2 _ _
 obtain⟨rfl⟩:=h1
 obtain⟨rfl⟩:=h2
 intro E σ τ β tm a w us hC hargs
 simp only[RelL,Rel]at hargs
 obtain⟨u,us',rfl,⟨n,hn,rfl⟩,rfl⟩:=hargs
 obtain⟨n',vs,e1,e2,e3⟩:=hC.heap q _ _ hb hn
 simp only[Value.pointer.injEq,Option.some.injEq,Addr.mk.injEq]at e1
 obtain⟨rfl,_⟩:=e1
 simp only[RelL,Rel]at e3
 obtain⟨u0,us0,rfl,⟨m,hm,hu0⟩,u1,us1,rfl,hu1,rfl⟩:=e3
 rw[hn]at hm
 simp only[Option.some.injEq,Value.pointer.injEq,Addr.mk.injEq]at hm
 obtain⟨rfl,_⟩:=hm
 have hc0:w.cell? ⟨n,0,none⟩=some u0:=by simp[World.cell?,e2.2]
 rcases hu0 with rfl|rfl
 ·have hev:EvT (fun t=>t=τ q) σ w σ (w.setCell ⟨n,0,none⟩ (.pointer (some ⟨n,0,none⟩))):=EvT.of (e2.ev_set 0 _) (fun t h1 h2=>by omega)
  have hP: ∀t,E.Kp t→¬t=τ q:=fun t ht h=>hC.apart q _ hb rfl (h▸ht)
  refine Calls.mono (Any.Builder_copyCheck_fresh L X n w hc0 (by simp[World.shape?,e2.2]) (by simp[World.frozen?,e2.2])) ?_
  rintro e w' ⟨rfl,rfl⟩
  have hput:=Conc.put (y:= .cells (ρ.t 72) [.selfp q,x]) hC hb rfl hn hev ⟨n,[.pointer (some ⟨n,0,none⟩),u1],rfl,by simpa using e2.set_ 0 (.pointer (some ⟨n,0,none⟩)),⟨_,_,rfl,by simp only[Rel];exact⟨n,hn,.inr rfl⟩,_,_,rfl,Rel.ev hev (fun t ht=>hP t (E.sub t ht)) hu1,rfl⟩⟩
  have hset:H.set q (.cells (ρ.t 72) [.selfp q,x])=H:=set_same hb
  rw[hset]at hput
  exact⟨_,σ,rfl,H,_,τ,β,hx,HPres.refl H,⟨[],by simp⟩,hev.mono (fun t h hp=>hP t hp h),hput,by simp[Rel,RelL]⟩
 ·refine Calls.mono (Any.Builder_copyCheck_used L X n w hc0) ?_
  rintro e w' ⟨rfl,rfl⟩
  exact⟨_,σ,rfl,H,_,τ,β,hx,HPres.refl H,⟨[],by simp⟩,.refl,hC,by simp[Rel,RelL]⟩
def bytesOk(xs:List Int):Bool:= !xs.isEmpty && xs.all fun x=>decide (0≤x) && decide (x<256)
omit [Dr] in
theorem bytesS_eq(xs:List Int):bytesS xs=⟨(xs.map fun x=>UInt8.ofNat x.toNat).toArray⟩:=by
 have: ∀(xs:List Int) (s:ByteArray),xs.foldl (fun s n=>s.push (UInt8.ofNat n.toNat)) s=⟨s.data++(xs.map fun x=>UInt8.ofNat x.toNat).toArray⟩:=by
  intro xs
  induction xs with
  |nil=>intro s;simp
  |cons x xs ih=>intro s;rw[List.foldl_cons,ih];simp[ByteArray.push]
 rw[bytesS,this]
 simp[ByteArray.empty,ByteArray.emptyWithCapacity]
 rfl
theorem bytes_cells{σ:Gh}{w:World}: ∀{xs:List Int} {cs:List Value},(xs.all fun x=>decide (0≤x) && decide (x<256))=true→Reps (Ty.kd (.int .u8)) σ w xs cs→cs=Lib.byteCells (xs.map fun x=>UInt8.ofNat x.toNat)
 | [],cs,_,h=>h
 |x::xs,cs,ha,h=>by
  obtain⟨c,r,e1,e2,e3⟩:=h
  have e2:c= [.int .u8 x]:=e2
  simp only[List.all_cons,Bool.and_eq_true,decide_eq_true_eq]at ha
  rw[e1,e2,bytes_cells ha.2 e3]
  obtain⟨m,rfl⟩: ∃m:Nat,x=m:=⟨x.toNat,by omega⟩
  have:m<256:=by omega
  simp[Lib.byteCells,Nat.mod_eq_of_lt this]
def bstrHdl(T e:TypeId):Hdl:=fun X args H k=>
 match args with
 | [.ptr b 0]=>match(H[b]? :Option AB)with
  |some (.cells T' (p:: .row r:: []))=>match natEq T' T,(H[r]? :Option AB)with
   |some _,some (.row (.int .u8) e' xs)=>match natEq e' e with
    |some _=>bifA (bytesOk xs) (k (H.set r .gone) (.val (.string (bytesS xs)))) none
    |none=>none
   |_,_=>none
  |_=>none
 |_=>none
theorem bstr_ok{P:Program}{ρ:Ren}(hD: ¬Dr.D)(L:Lays.n169 P ρ)(X:Builder.Extra P ρ){f:FuncId}{T e:TypeId}(hf:ρ.f 169=f)(hT:ρ.t 72=T)(he:ρ.t 5=e):HdlOk P f (bstrHdl T e):=by
 subst hf hT he
 intro Y args H k y hx
 unfold bstrHdl at hx
 split at hx
 case h_2=>cases hx
 rename_i b
 split at hx
 case h_2=>cases hx
 rename_i T' p r hb
 split at hx
 case h_2=>cases hx
 rename_i h1 e' xs _ hr
 obtain⟨rfl⟩:=h1
 split at hx
 case h_2=>cases hx
 rename_i h2 _
 obtain⟨rfl⟩:=h2
 obtain⟨hok,hk⟩:=bif_some hx
 simp only[bytesOk,Bool.and_eq_true,Bool.not_eq_true']at hok
 have hne:xs≠[]:=by intro h;rw[h]at hok;simp at hok
 intro E σ τ β tm a w us hC hargs
 simp only[RelL,Rel]at hargs
 obtain⟨u,us',rfl,⟨n,hn,rfl⟩,rfl⟩:=hargs
 obtain⟨n',vs,e1,e2,e3⟩:=hC.heap b _ _ hb hn
 simp only[Value.pointer.injEq,Option.some.injEq,Addr.mk.injEq]at e1
 obtain⟨rfl,_⟩:=e1
 simp only[RelL,Rel]at e3
 obtain⟨u0,us0,rfl,hu0,u1,us1,rfl,hu1,rfl⟩:=e3
 obtain⟨hu1,_⟩:=hu1
 obtain⟨cs,o1,o2,o3⟩:=(show Own (Ty.kd (.int .u8)) (ρ.t 5) σ (τ r) w u1 xs from hC.heap r _ u1 hr hu1)
 have hcs:=bytes_cells hok.2 o3
 have hlen:xs.length≠0:=by simpa using hne
 rcases o1.2 with⟨_,h0⟩|⟨g,cap,cur,rfl,_,hg,hnc,hcm,hsz,htk⟩
 ·exact absurd h0 hlen
 have hl:(xs.map fun x=>UInt8.ofNat x.toNat).length=xs.length:=by simp
 have hsz':cur.size=cap:=by rw[hsz];exact Nat.mul_one cap
 have htk':cur.toList.take xs.length=Lib.byteCells (xs.map fun x=>UInt8.ofNat x.toNat):=by rw[←hcs,←htk];congr 1;exact(Nat.mul_one _).symm
 have hσ:σ g=τ r:=o2 g rfl
 have hev:EvT (fun t=>t=τ r) σ w σ (w.drew.freeze ⟨g,0,none⟩ xs.length):=by
  unfold World.freeze
  rw[if_neg hlen]
  refine⟨rfl,rfl,rfl,fun d=>absurd d hD,by rw[Array.size_modify];exact Nat.le_refl _,fun c hc hn=>⟨rfl,?_⟩⟩
  have hcg:c≠g:=by rintro rfl;exact hn hσ
  show(w.heap.modify g _)[c]? =w.heap[c]?
  rw[Array.getElem?_modify,if_neg (fun h=>hcg h.symm)]
 have hP: ∀t,E.Kp t→¬t=τ r:=fun t ht h=>hC.apart r _ hr rfl (h▸ht)
 refine Calls.mono (bstr_run L X n g cap u0 cur (xs.map fun x=>UInt8.ofNat x.toNat) w (by rw[hl];exact e2.2) hg (by simpa using hne) (by rw[hl];exact hnc) hcm hsz' (by rw[hl];exact htk')) ?_
 rintro e w' ⟨rfl,rfl⟩
 rw[hl]
 refine⟨_,σ,rfl,_,_,τ,β,hk,HPres.set hr (by intro b h;cases h),⟨[],by simp⟩,hev.mono (fun t h hp=>hP t hp h),Conc.put hC hr rfl hu1 hev trivial,?_⟩
 simp only[Rel,bytesS_eq]
def itoaS(n:Int):ByteArray:=bif decide (n<10)then⟨#[UInt8.ofNat (48+n.toNat)]⟩else⟨#[UInt8.ofNat (48+n.toNat / 10),UInt8.ofNat (48+n.toNat % 10)]⟩
omit [Dr] in
theorem itoaS_eq(i:Nat)(h:i<100):(⟨(Lib.decDigits i).toArray⟩:ByteArray)=itoaS (i:Int):=by
 unfold itoaS
 by_cases h1:i<10
 ·have h2:decide ((i:Int)<10)=true:=decide_eq_true (by omega)
  rw[Lib.decDigits,dif_pos h1,h2]
  rfl
 ·have h2:decide ((i:Int)<10)=false:=decide_eq_false (by omega)
  rw[Lib.decDigits,dif_neg h1,Lib.decDigits,dif_pos (show i / 10<10 by omega),h2]
  rfl
def itoaHdl:Hdl:=fun X args H k=>
 match args with
 | [.val (.int .i64 n),.val (.int .i64 m)]=>bifA (decide (m=10) && (decide (0≤n) && decide (n<100))) (k H (.val (.string (itoaS n)))) none
 |_=>none
theorem itoa_ok{P:Program}{ρ:Ren}(L:Lays.n246 P ρ){f:FuncId}(hf:ρ.f 246=f):HdlOk P f itoaHdl:=by
 subst hf
 intro Y args H k y hx
 unfold itoaHdl at hx
 split at hx
 case h_2=>cases hx
 rename_i n m
 obtain⟨hok,hk⟩:=bif_some hx
 simp only[Bool.and_eq_true,decide_eq_true_eq]at hok
 obtain⟨rfl,h1,h2⟩:=hok
 intro E σ τ β tm a w us hC hargs
 simp only[RelL,Rel]at hargs
 obtain⟨u,us',rfl,rfl,u2,us2,rfl,rfl,rfl⟩:=hargs
 obtain⟨i,rfl⟩: ∃i:Nat,n=(i:Int):=⟨n.toNat,by omega⟩
 refine Calls.mono (Any.internal_strconv_FormatInt_10_small L i (by omega) w) ?_
 rintro e w' ⟨rfl,rfl⟩
 exact⟨_,σ,rfl,H,_,τ,β,hk,HPres.refl H,⟨[],by simp⟩,.refl,hC,by simp only[Rel];rw[itoaS_eq i (by omega)]⟩
def frzA:List AV→List AB→List AV×List AB
 | [],H=>([],H)
 | .row r::l,H=>match(H[r]? :Option AB)with
  |some (.row T _ xs)=>(.sv true T xs::(frzA l (H.set r .gone)).1,(frzA l (H.set r .gone)).2)
  |_=>(.row r::(frzA l H).1,(frzA l H).2)
 |x::l,H=>(x::(frzA l H).1,(frzA l H).2)
theorem frzA_sound{E:Env}{τ:Nat→Nat}{β:List Value}{tm:List AV}{a:Act}{w:World}: ∀{args:List AV} {H:List AB} {σ:Gh} {us:List Value},Conc E σ τ β ⟨tm,H⟩ a w→RelL E σ w β args us→
  ∃σ',EvT (Rng E) σ w σ' w∧Conc E σ' τ β ⟨tm,(frzA args H).2⟩ a w∧RelL E σ' w β (frzA args H).1 us∧HPres H (frzA args H).2
 | [],H,σ,us,hC,hr=>⟨σ,.refl,hC,hr,.refl H⟩
 |x::l,H,σ,us,hC,hr=>by
  simp only[RelL]at hr
  obtain⟨u,us',rfl,h1,h2⟩:=hr
  have keep: ∀{σ1 σ2:Gh},EvT (Rng E) σ1 w σ2 w→∀t,(E.Pr t∨E.It t)→¬Rng E t:=fun _ t ht hn=>hn (E.sub t ht)
  have plain: ∀(hx:frzA (x::l) H=(x::(frzA l H).1,(frzA l H).2)),∃σ',EvT (Rng E) σ w σ' w∧Conc E σ' τ β ⟨tm,(frzA (x::l) H).2⟩ a w∧RelL E σ' w β (frzA (x::l) H).1 (u::us')∧HPres H (frzA (x::l) H).2:=by
   intro hx
   obtain⟨σ',e1,e2,e3,e4⟩:=frzA_sound hC h2
   rw[hx]
   refine⟨σ',e1,e2,?_,e4⟩
   simp only[RelL]
   exact⟨u,us',rfl,Rel.ev e1 (keep e1) h1,e3⟩
  cases x with
  |row r=>
   cases hr:(H[r]? :Option AB)with
   |none=>exact plain (by simp only[frzA,hr])
   |some y=>cases y with
    |row T e xs=>
     obtain⟨σ1,e1,e2,e3⟩:=conc_freeze hC hr
     obtain⟨σ2,f1,f2,f3,f4⟩:=frzA_sound e2 (RelL.ev e1 (keep e1) h2)
     have hx:frzA (.row r::l) H=(.sv true T xs::(frzA l (H.set r .gone)).1,(frzA l (H.set r .gone)).2):=by simp only[frzA,hr]
     rw[hx]
     simp only[Rel]at h1
     refine⟨σ2,e1.trans f1,f2,?_,(HPres.set hr (by intro b h;cases h)).trans f4⟩
     simp only[RelL]
     exact⟨u,us',rfl,Rel.ev f1 (keep f1) (e3 u h1.1),f3⟩
    |_=>exact plain (by simp only[frzA,hr])
  |_=>exact plain rfl
def frzHdl(h:Hdl):Hdl:=fun X args H k=>h X (frzA args H).1 (frzA args H).2 k
theorem frz_ok{P:Program}{f:FuncId}{h:Hdl}(hk:HdlOk P f h):HdlOk P f (frzHdl h):=by
 intro X args H k x hx E σ τ β tm a w us hC hargs
 obtain⟨σ1,e1,e2,e3,e4⟩:=frzA_sound hC hargs
 refine Calls.mono (hk X _ _ k x hx E σ1 τ β tm a w us e2 e3) ?_
 rintro e w' ⟨v,σ',rfl,H',av,τ',β',k1,k2,k3,k4,k5,k6⟩
 exact⟨v,σ',rfl,H',av,τ',β',k1,e4.trans k2,k3,e1.trans k4,k5,k6⟩
end Go.Am
