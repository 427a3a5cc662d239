/- Plain laws: what Roll does to a purse. No statement of its own. -/
import Derived.Test.YtniohchnpfpffaaGreatRd
set_option linter.unusedSimpArgs false
set_option linter.unusedVariables false
namespace Go.Proofs.YtniohchnpfpffaaGreat.Pure
open Go.Vk Go.Am Go.Pg Go.Sort Go.Proofs.YtniohchnpfpffaaGreat.Y
/-! ### the journal -/
def zc4(j:Jn):Jn:=(j.1,(j.2.1+1,(j.2.2.1,j.2.2.2++ [[]])))
def zip(j:Jn)(e:Int×List Leg):Jn:=if chk e.1 e.2≠0 then j else if j.1.length=16384 then j else if e.2.any (far j.2.2.1)then j else zb6 j e
structure JI(p m:Nat)(j:Jn):Prop where
 per:j.2.1=(p:Int)
 mov:j.2.2.2.length=p+1
 p31:p≤31
 list:j.1.length≤m
theorem zvs{p m:Nat}{j:Jn}(h:JI p m j)(e:Int×List Leg):JI p (m+1) (zip j e):=by
 obtain⟨h1,h2,h3,h4⟩:=h
 have h0:JI p (m+1) j:=⟨h1,h2,h3,by omega⟩
 unfold zip
 split
 ·exact h0
 ·split
  ·exact h0
  ·split
   ·exact h0
   ·exact⟨h1,by simp only[zb6,List.length_set];exact h2,h3,by simp only[zb6,List.length_append,List.length_singleton];omega⟩
theorem post_S{p m:Nat}{j:Jn}(h:JI p m j)(hm:m≤1000000)(e:Int×List Leg)(he:e.2.length≤1000): ∃r,journal_Journal_Post.f j e=some (zip j e,r):=by
 obtain⟨h1,h2,h3,h4⟩:=h
 rw[zme j e p h1 (by omega) (by omega) he]
 unfold zip
 split
 ·exact⟨_,rfl⟩
 ·split
  ·exact⟨_,rfl⟩
  ·split
   ·exact⟨_,rfl⟩
   ·exact⟨_,rfl⟩
def zae(j:Jn)(l:List (Int×List Leg)):Jn:=l.foldl zip j
theorem zhb{p:Nat}: ∀(l:List (Int×List Leg)) {m:Nat} {j:Jn},JI p m j→JI p (m+l.length) (zae j l)
 | [],m,j,h=>h
 |e::l,m,j,h=>by
  have:=zhb l (zvs h e)
  rw[show m+1+l.length=m+(e::l).length by simp;omega]at this
  exact this
/-! ### what expires -/
def zjl(n a:Int):List Leg:= [((2,n,0),a),((5,n,0),-a)]
def zaa(c:List Int)(B:FB)(ks:List Int):List (Int×List Leg):=ks.filterMap fun n=>if zag (geA B n)=0∨n∈c then none else some (5,zjl n (zag (geA B n)))
theorem ze0(c:List Int)(B:FB)(ks:List Int):(zaa c B ks).length≤ks.length:=List.length_filterMap_le _ _
theorem zy6{c:List Int}{B:FB}{ks:List Int}{e:Int×List Leg}(h:e∈zaa c B ks):e.2.length≤1000:=by
 obtain⟨n,_,h2⟩:=List.mem_filterMap.1 h
 split at h2
 ·cases h2
 ·obtain rfl:=Option.some.inj h2
  simp[zjl]
theorem expR(n:Int)(h:1≤n∧n≤32):zcg (5,n,0)=true:=by
 unfold zcg zgo
 simp;omega
theorem chkB{k:Int}{x y:Leg}(hk:1≤k∧k≤6)(a:Int)(ha:1≤a∧a≤9007199254740992)(r1:zcg x.1=true)(r2:zcg y.1=true)(l1:ltA x.1 y.1)(a1:x.2=a)(a2:y.2= -a):chk k [x,y]=0:=by
 refine chk_of hk (by simp) ?_ ?_
 ·simp only[zps]
  rw[zAw r1 (by omega) (by omega),zAv r2 (by omega) (by omega) l1]
  simp
 ·simp only[zro]
  rw[a1,a2,wr (0+a) (by omega) (by omega),wr (0+a+ -a) (by omega) (by omega)]
  omega
theorem cExp(n a:Int)(hn:1≤n∧n≤32)(ha:1≤a∧a≤9007199254740992):chk 5 (zjl n a)=0:=chkB (by omega) a ha (nodeR n hn) (expR n hn) (by simp[ltA]) rfl rfl
theorem mExp(n a:Int)(hn:1≤n∧n≤32)(ha:1≤a∧a≤9007199254740992):entry_Make.f 5 a [n] 0=some ((5,zjl n a),0):=by
 refine zix (zjl n a) (by omega) ⟨ha.1,ha.2,by simp[pathB]⟩ ?_ ?_ (cExp n a hn ha)
 ·have:zcb 5 a 0 [n]=zjl n a:=by
   show [((2,n,0),a),((5,n,0),neg a)]=_
   rw[negI a ha]
   rfl
  rw[this]
 ·simp[zjl,ltA]
structure KsOk(B:FB)(ks:List Int):Prop where
 rng: ∀n∈ks,1≤n∧n≤32
 ok: ∀n∈ks,OkA (geA B n)
 nod:ks.Nodup
 len:ks.length≤32
theorem zBb(c:List Int)(hc:c.length≤1000000)(B:FB)(l1 ks:List Int)(hk:(List.mergeSort (l1:List Int) fun x y=>decide (x≤y))=ks)(h:KsOk B ks):
  za2 (period_Purse_Roll.l2 c l1) ([],0,(),B)=some (zaa c B ks,(),B):=by
 refine zap (fun i=>(zaa c B (ks.take i),(i:Int),(),B)) ks.length (by simp[zaa]) (fun i hi=> ?_) ?_
 ·have hlen:=h.len
  have hm:ks[i]∈ks:=List.getElem_mem hi
  have ha:=zwu B ks[i] (h.ok _ hm)
  have hct:=zik c ks[i] hc
  have hle:=zer (h.ok _ hm)
  have hl0:=(h.ok _ hm).left
  unfold period_Purse_Roll.l2
  simp only[hk]
  rw[ilt hi,nn,Bool.and_self,cond_true,cond_true,at_ ks i hi,ha,Option.bind_some]
  simp only
  rw[hct]
  have hgl:zaa c B (ks.take (i+1))=zaa c B (ks.take i)++(if zag (geA B ks[i])=0∨ks[i]∈c then []else [(5,zjl ks[i] (zag (geA B ks[i])))]):=by
   rw[zad ks i hi]
   unfold zaa
   rw[List.filterMap_append]
   congr 1
   by_cases hx:zag (geA B ks[i])=0∨ks[i]∈c
   ·simp[hx]
   ·simp[hx]
  rw[hgl]
  by_cases h0:zag (geA B ks[i])=0
  ·rw[show(zag (geA B ks[i])==0)=true by simp[h0],Bool.not_true,cond_false,Option.bind_some,cond_true,Option.bind_some]
   simp only
   rw[wrS i (by omega),if_pos (.inl h0),List.append_nil]
  ·rw[show(zag (geA B ks[i])==0)=false by simp[h0],Bool.not_false,cond_true,Option.bind_some,Option.bind_some]
   by_cases hin:ks[i]∈c
   ·rw[decide_eq_true hin,cond_true,Option.bind_some]
    simp only
    rw[wrS i (by omega),if_pos (.inr hin),List.append_nil]
   ·rw[decide_eq_false hin,cond_false,mExp ks[i] _ (h.rng _ hm) (by omega),Option.bind_some]
    have e0:((0:Int)==0)=true:=rfl
    have hg:(zaa c B (ks.take i)).length≤32:=by
     have:=ze0 c B (ks.take i)
     simp only[List.length_take]at this
     omega
    have e1:decide ((zaa c B (ks.take i)).length+([((5:Int),zjl ks[i] (zag (geA B ks[i])))]:List (Int×List ((Int×Int×Int)×Int))).length≤1099511627776)=true:=by simp;omega
    simp only
    rw[e0,cond_true,e1,cond_true,Option.bind_some,Option.bind_some]
    simp only
    rw[wrS i (by omega),if_neg (fun hx=>by rcases hx with hx|hx;exact h0 hx;exact hin hx)]
 ·unfold period_Purse_Roll.l2
  simp only[hk,List.take_length]
  rw[ige]
  rfl
theorem zxk(out:List (Int×List Leg))(B:FB){p m:Nat}(j:Jn)(h:JI p m j)(hm:m+out.length≤1000000)(he: ∀e∈out,e.2.length≤1000):
  za2 (period_Purse_Roll.l13 (out,(),B)) (0,(),j.1,j.2.1,j.2.2.1,j.2.2.2)=some ((),(zae j out).1,(zae j out).2.1,(zae j out).2.2.1,(zae j out).2.2.2):=by
 refine zap (fun i=>((i:Int),(),(zae j (out.take i)).1,(zae j (out.take i)).2.1,(zae j (out.take i)).2.2.1,(zae j (out.take i)).2.2.2)) out.length (by simp[zae]) (fun i hi=> ?_) ?_
 ·have hj:=zhb (out.take i) h
  have hl:(out.take i).length≤out.length:=by simp;omega
  obtain⟨r,hr⟩:=post_S hj (by omega) out[i] (he _ (List.getElem_mem hi))
  unfold period_Purse_Roll.l13
  simp only
  rw[ilt hi,nn,Bool.and_self,cond_true,cond_true,at_ out i hi]
  rw[show journal_Journal_Post.f ((zae j (out.take i)).1,((zae j (out.take i)).2.1,((zae j (out.take i)).2.2.1,(zae j (out.take i)).2.2.2))) ((out[i]).1,(out[i]).2)=some (zip (zae j (out.take i)) out[i],r)from hr,Option.bind_some]
  have hs:zae j (out.take (i+1))=zip (zae j (out.take i)) out[i]:=by
   rw[zad out i hi]
   unfold zae
   rw[List.foldl_append]
   rfl
  rw[hs,wrS i (by omega)]
 ·unfold period_Purse_Roll.l13
  simp only[List.take_length]
  rw[ige]
  rfl
/-! ### the accounts -/
def zjm(cy:Bool)(a:FA):FA:=(0,zag a+a.2.2.2.2 - (if cy then 0 else zag a),0,0,a.2.2.2.2)
theorem rolA_ok{cy:Bool}{a:FA}(h:OkA a):OkA (zjm cy a):=by
 obtain⟨h1,h2,h3,h4,h5,h6,h7⟩:=h
 cases cy
 ·refine⟨⟨by simp[zjm],by simp[zjm]⟩,?_,⟨by simp[zjm],by simp[zjm]⟩,⟨by simp[zjm],by simp[zjm]⟩,h5,?_,?_⟩<;>simp only[zjm,zag]at* <;>simp<;>omega
 ·refine⟨⟨by simp[zjm],by simp[zjm]⟩,?_,⟨by simp[zjm],by simp[zjm]⟩,⟨by simp[zjm],by simp[zjm]⟩,h5,?_,?_⟩<;>simp only[zjm,zag]at* <;>simp<;>omega
theorem zEg(B:FB)(n:Int)(cy:Bool)(hn:1≤n∧n≤32)(h:OkA (geA B n)):funds_Book_Roll.f B n cy=some (setA B n (zjm cy (geA B n)),(if cy then 0 else zag (geA B n),0)):=by
 have hnode:funds_node.f n=some true:=by
  unfold funds_node.f
  have e1:decide (n≥1)=true:=by simp;omega
  have e2:decide (n≤32)=true:=by simp;omega
  rw[e1,e2]
  rfl
 have hl:=zkb h
 have h7:=h.left
 have h5:=h.h
 have h8:=zer h
 unfold funds_Book_Roll.f
 rw[hnode,Option.bind_some,Bool.not_true,cond_false]
 rw[show(((zaj (.int .i64) (.pair (.int .i64) (.pair (.int .i64) (.pair (.int .i64) (.pair (.int .i64) (.int .i64))))) B n).getD ((0,(0,(0,(0,0)))):Int×Int×Int×Int×Int)))=geA B n from rfl]
 rw[show((geA B n).1,(geA B n).2.1,(geA B n).2.2.1,(geA B n).2.2.2.1,(geA B n).2.2.2.2)=geA B n from rfl,hl]
 simp only[Option.bind_some]
 cases cy
 ·simp only[Bool.not_false,cond_true,Option.bind_some]
  rw[wr (zag (geA B n)+(geA B n).2.2.2.2) (by omega) (by omega),wr _ (by omega) (by omega),zol,Option.bind_some]
  rfl
 ·simp only[Bool.not_true,cond_false,Option.bind_some]
  rw[wr (zag (geA B n)+(geA B n).2.2.2.2) (by omega) (by omega),wr _ (by omega) (by omega),zol,Option.bind_some]
  rfl
def zbb(c:List Int)(B:FB)(n:Int):Int:=if n∈c then 0 else zag (geA B n)
def zfl(c:List Int)(B:FB)(ks:List Int):FB:=ks.foldl (fun B' n=>setA B' n (zjm (decide (n∈c)) (geA B n))) B
end Go.Proofs.YtniohchnpfpffaaGreat.Pure
