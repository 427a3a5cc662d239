/- Plain laws: Roll,the program's and the document's. No statement of its own. -/
import Derived.Test.YtniohchnpfpffaaGreatSk
set_option linter.unusedSimpArgs false
set_option linter.unusedVariables false
namespace Go.Proofs.YtniohchnpfpffaaGreat.Pure
open Go.Vk Go.Am Go.Pg Go.Sort Go.Proofs.YtniohchnpfpffaaGreat.Y
theorem rmExp(n a:Int)(hn:1≤n∧n≤32)(ha:1≤a∧a≤9007199254740992):purserref07_Make.f 5 a [n] 0=some ((5,(zjl n a).map frL),0):=by
 obtain⟨L,f,kk,q1,q2,q3,q4⟩:=zm5 5 a [n] 0 (by simp)
 rw[mExp n a hn ha]at q1
 simp only[Option.some.injEq,Prod.mk.injEq]at q1
 obtain⟨⟨rfl,h2⟩,rfl⟩:=q1
 rw[q2,h2,zms]
theorem zqc(i:Nat)(hi:i<32):nodes32[i]'(by simpa[nodes32]using hi)=(i:Int)+1:=by
 unfold nodes32
 rw[List.getElem_map,List.getElem_range]
theorem zbr:nodes32.length=32:=by simp[nodes32]
def rF(c:List Int)(B:FB)(n:Int):FA:=zjm (decide (n∈c)) (geA B n)
def rJ(c:List Int)(B:FB)(J:RJ)(i:Nat):RJ:=(J.1++(zaa c B (nodes32.take i)).map (fun e=>(e.1,e.2.map frL)),J.2.1++(zaa c B (nodes32.take i)).map (fun _=>J.2.2),J.2.2)
theorem zzq{p N m q:Nat}{B:FB}{j:Jn}{As:List FA}{J:RJ}(h:PRel p N m q (B,j) (As,J))(hm:m+32≤16384)(hq:q≤100)(c:List Int)(hc:c.length≤1000000)(i:Nat)(hi:i<32)(S:Int)(hS:0≤S∧S≤9007199254740992*32):
  purserref15_Purse_Roll.l2 c (S,0,(((i+1:Nat):Nat):Int),(),zam (rF c B) As (nodes32.take i),(rJ c B J i).1,(rJ c B J i).2.1,(rJ c B J i).2.2)=
   some (.inl (S+zbb c B (nodes32[i]'(by rw[zbr];exact hi)),0,(((i+1+1:Nat):Nat):Int),(),zam (rF c B) As (nodes32.take (i+1)),(rJ c B J (i+1)).1,(rJ c B J (i+1)).2.1,(rJ c B J (i+1)).2.2)):=by
 have hil:i<nodes32.length:=by rw[zbr];exact hi
 have hB:BOk B N:=h.b.ok
 have hA:As.length=33:=h.b.len
 obtain⟨r1,r2⟩:=zr5 (c:=c) hB h.j hm hq nodes32 nodes_nodup (fun n hn=>(zch n).1 hn) (by rw[zbr];omega) i (by omega)
 have hJ1:JRel p (m+(zaa c B (nodes32.take i)).length) (q+1) (zae j (zaa c B (nodes32.take i))) (rJ c B J i):=r1
 obtain⟨n,hn⟩: ∃n,n=nodes32[i]'hil:=⟨_,rfl⟩
 have hni:n=(i:Int)+1:=by rw[hn];exact zqc i hi
 have hnr:1≤n∧n≤32:=by omega
 have hne:(((i+1:Nat):Nat):Int)=n:=by omega
 have hnt:n∉nodes32.take i:=by rw[hn];exact zdo nodes_nodup i hil
 have hsl:(zam (rF c B) As (nodes32.take i)).length=33:=by rw[zaq];exact hA
 have hg:=zdx (rF c B) (nodes32.take i) As hA (fun n hn=>(zch n).1 (List.mem_of_mem_take hn)) n.toNat (by omega)
 rw[show((n.toNat:Nat):Int)=n by omega,if_neg hnt,h.b.at hnr]at hg
 have hok:=hB.ok n
 have hl0:=hok.left
 have hl1:=zer hok
 have hga:zbb c B n=if n∈c then 0 else zag (geA B n):=rfl
 have hgb:0≤zbb c B n∧zbb c B n≤9007199254740992:=by rw[hga];split<;>omega
 have he7:(((bif (!(decide (n∈c)))then((purserref14_Account_Left.f ((geA B n).1,((geA B n).2.1,((geA B n).2.2.1,((geA B n).2.2.2.1,(geA B n).2.2.2.2))))).bind fun r6=>some r6)else(some 0)):Option (Int)))=some (zbb c B n):=by
  rw[hga]
  by_cases hx:n∈c
  ·rw[decide_eq_true hx,if_pos hx];rfl
  ·rw[decide_eq_false hx,if_neg hx,Bool.not_false,cond_true,zzv hok];rfl
 have hset:(zam (rF c B) As (nodes32.take i)).set n.toNat (0,(IntKind.i64.wrap (IntKind.i64.wrap (IntKind.i64.wrap (IntKind.i64.wrap ((geA B n).1+(geA B n).2.1) - (geA B n).2.2.1) - zbb c B n) - (geA B n).2.2.2.1),(0,(0,(geA B n).2.2.2.2))))=zam (rF c B) As (nodes32.take (i+1)):=by
  obtain⟨o1,o2,o3,o4,o5,o6,o7⟩:=hok
  have hlv:zag (geA B n)=(geA B n).1+(geA B n).2.1 - (geA B n).2.2.1 - (geA B n).2.2.2.1 - (geA B n).2.2.2.2:=rfl
  rw[wr ((geA B n).1+(geA B n).2.1) (by omega) (by omega),wr ((geA B n).1+(geA B n).2.1 - (geA B n).2.2.1) (by omega) (by omega),wr ((geA B n).1+(geA B n).2.1 - (geA B n).2.2.1 - zbb c B n) (by omega) (by omega),wr _ (by omega) (by omega)]
  rw[zad nodes32 i hil,←hn]
  have hs:zam (rF c B) As (nodes32.take i++ [n])=(zam (rF c B) As (nodes32.take i)).set n.toNat (rF c B n):=by
   unfold zam
   rw[List.foldl_append]
   rfl
  rw[hs]
  congr 1
  unfold rF zjm
  have:(if decide (n∈c)=true then(0:Int)else zag (geA B n))=zbb c B n:=by rw[hga];simp
  rw[this,hlv]
  congr 2
  omega
 have hsl2:(zam (rF c B) As (nodes32.take (i+1))).length=33:=by rw[zaq];exact hA
 have hrj:rJ c B J (i+1)=if zbb c B n=0 then rJ c B J i else((rJ c B J i).1++ [(5,(zjl n (zbb c B n)).map frL)],((rJ c B J i).2.1++ [(rJ c B J i).2.2],(rJ c B J i).2.2)):=by
  unfold rJ
  rw[zad nodes32 i hil,←hn,zdi]
  by_cases hz:zbb c B n=0
  ·rw[if_pos hz]
   have e0:zaa c B [n]= []:=by
    unfold zaa
    have:zag (geA B n)=0∨n∈c:=by
     rw[hga]at hz
     split at hz
     ·rename_i hx;exact .inr hx
     ·exact .inl hz
    simp[this]
   rw[e0,List.append_nil]
  ·rw[if_neg hz]
   have hx: ¬(zag (geA B n)=0∨n∈c):=fun hx=>hz (by
    rw[hga]
    rcases hx with hx|hx
    ·rw[hx];split<;>rfl
    ·rw[if_pos hx])
   have hgv:zbb c B n=zag (geA B n):=by rw[hga,if_neg (fun h=>hx (.inr h))]
   have e1:zaa c B [n]= [(5,zjl n (zag (geA B n)))]:=by unfold zaa;simp only[List.filterMap_cons,List.filterMap_nil,if_neg hx]
   rw[e1,hgv]
   simp only[List.map_append,List.map_cons,List.map_nil,List.append_assoc]
 have hJl:(rJ c B J i).1.length≤m+32:=by
  rw[hJ1.lst,List.length_map]
  have h1:=hJ1.ji.list
  have h2:=ze0 c B (nodes32.take i)
  rw[List.length_take]at h2
  omega
 have hJl2:(rJ c B J i).1.length<16384:=by
  rw[hJ1.lst,List.length_map]
  have h1:=hJ1.ji.list
  have h2:=ze0 c B (nodes32.take i)
  rw[List.length_take]at h2
  omega
 have hWl:(rJ c B J i).2.1.length≤m+32:=by
  rw[hJ1.whn,List.length_map]
  have h1:=hJ1.ji.list
  have h2:=ze0 c B (nodes32.take i)
  rw[List.length_take]at h2
  omega
 unfold purserref15_Purse_Roll.l2
 simp only
 rw[hne,decide_eq_true hnr.2,cond_true,show((0:Int)==0)=true from rfl,Option.bind_some,cond_true,in_eq c n hc,Option.bind_some,zq4,(zdp n).2 hnr,Option.bind_some,Bool.not_true,cond_false,zm8 hnr,cond_true]
 rw[za6 hsl,hg,he7,Option.bind_some,cond_true,hset,za6 hsl2,Option.bind_some]
 simp only
 rw[←hn]
 by_cases hz:zbb c B n=0
 ·rw[show decide (zbb c B n >0)=false by simp;omega,cond_false,za6 hsl2,Option.bind_some]
  simp only
  rw[za6 hsl2,hrj,if_pos hz,wr (S+zbb c B n) (by omega) (by omega),show n=(((i+1:Nat):Nat):Int)from hne.symm,wrS (i+1) (by omega)]
 ·have hgp:1≤zbb c B n:=by omega
  have hcz:=cExp n (zbb c B n) hnr ⟨hgp,hgb.2⟩
  have hck:purserref07_Check.f (5,(zjl n (zbb c B n)).map frL)=some 0:=by rw[zma 5 _ (by simp[zjl]),zi9,hcz]
  have hgv:zbb c B n=zag (geA B n):=by
   rw[hga]at hz⊢
   split at hz
   ·exact absurd rfl hz
   ·rename_i hx;rw[if_neg hx]
  have hfar:(zjl n (zbb c B n)).any (far (zae j (zaa c B (nodes32.take i))).2.2.1)=false:=by
   have hx2:zjn (2,n,0) (zaa c B (nodes32.take i))=0:=zev c B _ _ fun m' hm'=>⟨fun e=>hnt (by injection e with _ e;injection e with e _;rw[e];exact hm'),fun e=>by injection e with e _;omega⟩
   have hx5:zjn (5,n,0) (zaa c B (nodes32.take i))=0:=zev c B _ _ fun m' hm'=>⟨fun e=>by injection e with e _;omega,fun e=>hnt (by injection e with _ e;injection e with e _;rw[e];exact hm')⟩
   have b2:=h.j.bnd (2,n,0)
   have b5:=h.j.bnd (5,n,0)
   have g2:=r2 (2,n,0)
   have g5:=r2 (5,n,0)
   rw[hx2]at g2
   rw[hx5]at g5
   have hqq:(q:Int)*9007199254740992≤900719925474099200:=by omega
   simp only at b2 b5 g2 g5
   unfold zjl
   simp only[List.any_cons,List.any_nil,Bool.or_false,far]
   rw[g2,g5,wr _ (by omega) (by omega),wr _ (by omega) (by omega)]
   simp only[Bool.or_eq_false_iff,decide_eq_false_iff_not]
   omega
  have hgl:=ze0 c B (nodes32.take i)
  rw[List.length_take]at hgl
  have hbf:=zuj hJ1 (by omega) (zbb c B n) (zam (rF c B) As (nodes32.take (i+1))) ((5,(zjl n (zbb c B n)).map frL),0) (by simp[zjl]) hJ1.legs
  simp only at hbf
  rw[zi9,if_neg (by simp[hfar])]at hbf
  rw[show decide (zbb c B n >0)=true by simp;omega,cond_true,rmExp n _ hnr ⟨hgp,hgb.2⟩,Option.bind_some]
  simp only
  rw[show((0:Int)==0)=true from rfl,cond_true,hck,Option.bind_some,show((0:Int) !=0)=false from rfl,cond_false,show decide (((rJ c B J i).1.length:Int)≥16384)=false by simp;omega,cond_false,hbf]
  simp only[Option.bind_some,za6 hsl2]
  rw[show decide ((rJ c B J i).1.length+([((5:Int),(zjl n (zbb c B n)).map frL)]:List (Int×List (Int×Int×Int×Int))).length≤1099511627776)=true by simp;omega,cond_true,show decide ((rJ c B J i).2.1.length+([(rJ c B J i).2.2]:List Int).length≤1099511627776)=true by simp;omega,cond_true]
  simp only[Option.bind_some,za6 hsl2]
  rw[hrj,if_neg hz,wr (S+zbb c B n) (by omega) (by omega),show n=(((i+1:Nat):Nat):Int)from hne.symm,wrS (i+1) (by omega)]
def RStp(c:List Int)(B:FB)(j:Jn)(P':FB×Jn):Prop:=P'=(B,j)∨(P'.1=zfl c B (zb9 B)∧P'.2=zc4 (zae j (zaa c B (zb9 B))))
theorem zE3{c:List Int}{B:FB}{j:Jn}{p N m q:Nat}{X:FB}{Xj:Jn}{Y:List FA}{Yj:RJ}{r:Int×Int}{f1:Option ((FB×Jn)×(Int×Int))}{f2:Option ((List FA×RJ)×(Int×Int))}(h1:f1=some ((X,Xj),r))(h2:f2=some ((Y,Yj),r))(hb:BRel N X Y)(hj:JRel p m q Xj Yj)(hX:X=zfl c B (zb9 B))(hXj:Xj=zc4 (zae j (zaa c B (zb9 B)))):
 ∃P' W' r p',f1=some (P',r)∧f2=some (W',r)∧PRel p' N m q P' W'∧RStp c B j P':=⟨(X,Xj),(Y,Yj),r,p,h1,h2,⟨hb,hj⟩,.inr ⟨hX,hXj⟩⟩
theorem qRoll{p N m q:Nat}{B:FB}{j:Jn}{As:List FA}{J:RJ}(h:PRel p N m q (B,j) (As,J))(hN:N≤900000)(hm:m+33≤16384)(hq:q≤100)(c:List Int)(hc:c.length≤1000000):
  ∃P' W' r p',period_Purse_Roll.f (B,j) c=some (P',r)∧purserref15_Purse_Roll.f (As,J) c=some (W',r)∧PRel p' (N+64) (m+32) (q+1) P' W'∧RStp c B j P':=by
 have hB:BOk B N:=h.b.ok
 have hA:As.length=33:=h.b.len
 have hji:=h.j.ji
 have hp31:=hji.p31
 have hjl:=hji.list
 have hJl:J.1.length=j.1.length:=by rw[h.j.lst,List.length_map]
 have hWl:J.2.1.length=j.1.length:=by rw[h.j.whn,List.length_map]
 have hP:J.2.2=(p:Int):=h.j.per
 have hr:=roll_p hB (by omega) hji (by omega) hp31 c hc
 have hgl:(zaa c B (zb9 B)).length≤32:=Nat.le_trans (ze0 _ _ _) (zB0 hB).len
 by_cases h31:p=31
 ·rw[if_pos (.inl h31)]at hr
  refine⟨_,(As,J),_,p,hr,?_,⟨h.b.more (by omega),h.j.more (by omega) (by omega)⟩,.inl rfl⟩
  have hloop:za2 (purserref15_Purse_Roll.l2 c) (0,10,1,(),As,J.1,J.2.1,J.2.2)=some (0,10,(),As,J.1,J.2.1,J.2.2):=by
   rw[zai]
   unfold purserref15_Purse_Roll.l2
   simp only
   rw[show decide ((1:Int)≤32)=true from rfl,cond_true,show((10:Int)==0)=false from rfl,Option.bind_some,cond_false,za6 hA]
   rfl
  unfold purserref15_Purse_Roll.f
  simp only
  rw[hP,wrS p (by omega),show decide (((p+1:Nat):Int)≥32)=true by simp;omega,cond_true,Option.bind_some,za6 hA,←hP,hloop,Option.bind_some]
  simp only
  rw[show((10:Int)==0)=false from rfl,cond_false,za6 hA,Option.bind_some]
  simp only
  rw[show((10:Int) !=0)=true from rfl,cond_true]
  rw[show(decide ((0:Int)≤(J.1.length:Int)) && decide ((J.1.length:Int)≤(J.1.length:Int)))=true by simp,show(decide ((0:Int)≤(J.1.length:Int)) && decide ((J.1.length:Int)≤(J.2.1.length:Int)))=true by simp;omega]
  simp only[cond_true,zyl]
  rw[Int.toNat_natCast,List.take_length,List.take_of_length_le (show J.2.1.length≤J.1.length by omega)]
 ·rw[if_neg (by omega)]at hr
  have hp:p<31:=by omega
  obtain⟨g1,g2⟩:=zpc c B
  obtain⟨k1,k2⟩:=zvi c hB
  have k1':BOk (zfl c B (zb9 B)) (N+64):=k1.mono (Nat.add_le_add_left (by decide) N)
  obtain⟨r1,r2⟩:=zr5 (c:=c) hB h.j (by omega) hq nodes32 nodes_nodup (fun n hn=>(zch n).1 hn) (by rw[zbr];omega) 32 (by rw[zbr];omega)
  have ht32:nodes32.take 32=nodes32:=List.take_of_length_le (by rw[zbr];omega)
  rw[ht32]at r1 r2
  have hAs: ∀n:Nat,n<33→(zam (rF c B) As nodes32).getD n V0=geA (zfl c B (zb9 B)) n:=by
   intro n hn
   rw[zdx (rF c B) nodes32 As hA (fun n hn=>(zch n).1 hn) n hn,k2]
   by_cases hnm:(n:Int)∈nodes32
   ·rw[if_pos hnm]
    unfold rF
    by_cases hz:geA B n=V0
    ·rw[if_pos hz,hz]
     cases decide ((n:Int)∈c)<;>rfl
    ·rw[if_neg hz]
   ·rw[if_neg hnm,h.b.get n hn]
    have hz:geA B n=V0:=by
     by_cases hz:geA B n=V0
     ·exact hz
     ·exact absurd ((zch n).2 (hB.rng n ((hB.key n).2 hz))) hnm
    rw[hz,if_pos rfl]
  have hbr:BRel (N+64) (zfl c B (zb9 B)) (zam (rF c B) As nodes32):=BRel.mk k1' ((zaq _ _ _).trans hA) hAs
  have hjr:JRel (p+1) (m+32) (q+1) (zc4 (zae j (zaa c B (zb9 B)))) ((rJ c B J 32).1,((rJ c B J 32).2.1,(((p+1:Nat):Nat):Int))):=by
   have hcj:=zEe (zhb (zaa c B (zb9 B)) hji) hp
   rw[g1]at r1 r2
   have hrj:rJ c B J 32=(J.1++(zaa c B (zb9 B)).map (fun e=>(e.1,e.2.map frL)),J.2.1++(zaa c B (zb9 B)).map (fun _=>J.2.2),J.2.2):=by
    unfold rJ
    rw[ht32,g1]
   rw[hrj]
   have r1':=r1.more (n:=m+32) (d:=q+1) (by omega) (by omega)
   exact⟨⟨hcj.per,hcj.mov,hcj.p31,by have:=r1'.ji.list;exact this⟩,r1'.lst,r1'.whn,rfl,r1'.ent,r1'.sum,r1'.rng,r1'.bnd⟩
  have hrr:purserref15_Purse_Roll.f (As,J) c=some ((zam (rF c B) As nodes32,((rJ c B J 32).1,((rJ c B J 32).2.1,(((p+1:Nat):Nat):Int)))),(zcj ((zb9 B).map (zbb c B)),0)):=by
   have hsum: ∀i,i≤32→0≤zcj ((nodes32.take i).map (zbb c B))∧zcj ((nodes32.take i).map (zbb c B))≤9007199254740992* (i:Int):=by
    intro i
    induction i with
    |zero=>intro _;simp[zcj]
    |succ i ih=>
     intro hi
     obtain⟨s1,s2⟩:=ih (by omega)
     have hil:i<nodes32.length:=by rw[zbr];omega
     rw[zad nodes32 i hil,List.map_append,zeo]
     have h3:=(hB.ok nodes32[i]).left
     have h4:=zer (hB.ok nodes32[i])
     simp only[List.map_cons,List.map_nil,zcj,zbb]
     split<;>omega
   have hloop:za2 (purserref15_Purse_Roll.l2 c) (0,0,1,(),As,J.1,J.2.1,J.2.2)=some (zcj (nodes32.map (zbb c B)),0,(),zam (rF c B) As nodes32,(rJ c B J 32).1,(rJ c B J 32).2.1,(rJ c B J 32).2.2):=by
    refine zap (fun i=>(zcj ((nodes32.take i).map (zbb c B)),0,(((i+1:Nat):Nat):Int),(),zam (rF c B) As (nodes32.take i),(rJ c B J i).1,(rJ c B J i).2.1,(rJ c B J i).2.2)) 32 ?_ (fun i hi=> ?_) ?_
    ·simp[zcj,zam,rJ,zaa]
    ·have hs:=hsum i (by omega)
     have hst:=zzq h (by omega) hq c hc i hi (zcj ((nodes32.take i).map (zbb c B))) ⟨hs.1,by omega⟩
     rw[hst]
     have hil:i<nodes32.length:=by rw[zbr];omega
     rw[zad nodes32 i hil,List.map_append,zeo]
     simp[zcj]
    ·unfold purserref15_Purse_Roll.l2
     simp only
     rw[show decide ((((32+1:Nat):Nat):Int)≤32)=false from rfl,cond_false,Option.bind_some,cond_false,ht32,za6 (show(zam (rF c B) As nodes32).length=33 by rw[zaq];exact hA)]
   have hsl:(zam (rF c B) As nodes32).length=33:=by rw[zaq];exact hA
   have hP32:(rJ c B J 32).2.2=(p:Int):=hP
   unfold purserref15_Purse_Roll.f
   simp only
   rw[hP,wrS p (by omega),show decide (((p+1:Nat):Int)≥32)=false from decide_eq_false (by omega),cond_false,Option.bind_some,za6 hA,←hP,hloop,Option.bind_some]
   simp only
   rw[show((0:Int)==0)=true from rfl,cond_true,hP32,wrS p (by omega),show decide (((p+1:Nat):Int)≥32)=false by simp;omega,cond_false]
   simp only[Option.bind_some,za6 hsl]
   rw[show((0:Int) !=0)=false from rfl,cond_false,g2]
  exact zE3 hr hrr hbr hjr rfl rfl
end Go.Proofs.YtniohchnpfpffaaGreat.Pure
