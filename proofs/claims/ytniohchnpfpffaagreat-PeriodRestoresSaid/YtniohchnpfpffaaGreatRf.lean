/- Plain laws: a purse's book; Roll. No statement of its own. -/
import Derived.Test.YtniohchnpfpffaaGreatRe
set_option linter.unusedSimpArgs false
set_option linter.unusedVariables false
namespace Go.Proofs.YtniohchnpfpffaaGreat.Pure
open Go.Vk Go.Am Go.Pg Go.Sort Go.Proofs.YtniohchnpfpffaaGreat.Y
abbrev zbx(B:FB):List Int:=zdr (K:=KI) (V:=VA) B
theorem zgb:zav KI=true:=rfl
theorem eqI(a b:Int):eqT KI a b=decide (a=b):=by
 by_cases h:a=b
 ·subst h;rw[zew (K:=KI) rfl,decide_eq_true rfl]
 ·rw[zhs (K:=KI) rfl h,decide_eq_false h]
theorem zwi{B:FB}{k:Int}(h:k∉zbx B):geA B k=V0:=by
 unfold geA
 rw[zit zgb h]
 rfl
theorem zlj{B:FB}(h:(zbx B).Nodup)(n:Int)(a:FA)(q:Int):geA (setA B n a) q=if q=n then a else geA B q:=by
 unfold setA
 by_cases ha:a=V0
 ·rw[if_pos ha]
  unfold geA
  rw[zlf zgb n q h,eqI]
  by_cases hq:q=n
  ·rw[decide_eq_true hq,cond_true,if_pos hq,ha];rfl
  ·rw[decide_eq_false hq,cond_false,if_neg hq]
 ·rw[if_neg ha]
  exact zkh B n a q
structure BOk(B:FB)(N:Nat):Prop where
 nod:(zbx B).Nodup
 rng: ∀k∈zbx B,1≤k∧k≤32
 nz: ∀k∈zbx B,geA B k≠V0
 ok: ∀k,OkA (geA B k)
 len:B.length≤N
theorem BOk.key{B:FB}{N:Nat}(h:BOk B N)(k:Int):k∈zbx B↔geA B k≠V0:=
 ⟨h.nz k,fun hz=>Classical.byContradiction fun hn=>hz (zwi hn)⟩
theorem mdel_len(B:FB)(n:Int):(zi6 KI VA B n).length=B.length:=by
 induction B with
 |nil=>rfl
 |cons x B ih=>
  cases x with
  |none=>simp only[zi6,List.length_cons,ih]
  |some p=>
   obtain⟨k,v⟩:=p
   simp only[zi6]
   cases eqT KI n k<;>simp[ih]
theorem zmn(B:FB)(n:Int)(a:FA):(zaw KI VA B n a).length≤B.length+1:=by
 induction B with
 |nil=>simp[zaw]
 |cons x B ih=>
  cases x with
  |none=>simp only[zaw,List.length_cons];omega
  |some p=>
   obtain⟨k,v⟩:=p
   simp only[zaw]
   cases eqT KI n k<;>simp<;>omega
theorem zzi{B:FB}{N:Nat}(h:BOk B N){n:Int}(hn:1≤n∧n≤32){a:FA}(ha:OkA a):BOk (setA B n a) (N+1):=by
 have hg:=zlj h.nod n a
 have hok: ∀k,OkA (geA (setA B n a) k):=fun k=>by
  rw[hg]
  split
  ·exact ha
  ·exact h.ok k
 by_cases hz:a=V0
 ·have hs:setA B n a=zi6 KI VA B n:=if_pos hz
  have hnod:(zbx (zi6 KI VA B n)).Nodup:=zp1 zgb h.nod n
  have hsub: ∀k∈zbx (zi6 KI VA B n),k∈zbx B∧k≠n:=by
   intro k hk
   have h1:=(zce (V:=VA) zgb).2 hk
   rw[zlf zgb n k h.nod,eqI]at h1
   by_cases hq:k=n
   ·rw[decide_eq_true hq]at h1;simp at h1
   ·rw[decide_eq_false hq]at h1
    exact⟨(zce (V:=VA) zgb).1 h1,hq⟩
  refine⟨by rw[hs];exact hnod,fun k hk=> ?_,fun k hk=> ?_,hok,by rw[hs,mdel_len];have:=h.len;omega⟩
  ·rw[hs]at hk;exact h.rng k (hsub k hk).1
  ·rw[hs]at hk
   rw[hg,if_neg (hsub k hk).2]
   exact h.nz k (hsub k hk).1
 ·have hs:setA B n a=zaw KI VA B n a:=if_neg hz
  have hmem: ∀k∈zbx (zaw KI VA B n a),k=n∨k∈zbx B:=by
   intro k hk
   have h1:=(zce (V:=VA) zgb).2 hk
   rw[zic (K:=KI) rfl,eqI]at h1
   by_cases hq:k=n
   ·exact .inl hq
   ·rw[decide_eq_false hq]at h1
    exact .inr ((zce (V:=VA) zgb).1 h1)
  refine⟨by rw[hs];exact zhc zgb h.nod n a,fun k hk=> ?_,fun k hk=> ?_,hok,by rw[hs];have:=zmn B n a;have:=h.len;omega⟩
  ·rw[hs]at hk
   rcases hmem k hk with rfl|hk
   ·exact hn
   ·exact h.rng k hk
  ·rw[hs]at hk
   rw[hg]
   by_cases hq:k=n
   ·rw[if_pos hq];exact hz
   ·rw[if_neg hq]
    rcases hmem k hk with h1|h1
    ·exact absurd h1 hq
    ·exact h.nz k h1
theorem BOk.mono{B:FB}{N M:Nat}(h:BOk B N)(hl:N≤M):BOk B M:=⟨h.nod,h.rng,h.nz,h.ok,Nat.le_trans h.len hl⟩
theorem zCc:BOk [] 0:=⟨List.nodup_nil,fun k h=>by simp[zdr,zjo]at h,fun k h=>by simp[zdr,zjo]at h,fun k=>okA0,Nat.le_refl _⟩
/-! ### the nodes that have an account -/
def nodes32:List Int:=(List.range 32).map fun i:Nat=>((i:Int)+1)
theorem zch(n:Int):n∈nodes32↔1≤n∧n≤32:=by
 unfold nodes32
 rw[List.mem_map]
 constructor
 ·rintro⟨i,hi,rfl⟩
  rw[List.mem_range]at hi
  omega
 ·rintro⟨h1,h2⟩
  exact⟨(n - 1).toNat,by rw[List.mem_range];omega,by omega⟩
theorem nodes_sorted:nodes32.Pairwise (fun a b=>a≤b):=by decide
theorem nodes_nodup:nodes32.Nodup:=by decide
def zb9(B:FB):List Int:=nodes32.filter fun n=>decide (geA B n≠V0)
theorem ks_mem{B:FB}{n:Int}:n∈zb9 B↔(1≤n∧n≤32)∧geA B n≠V0:=by
 unfold zb9
 rw[List.mem_filter,zch,decide_eq_true_iff]
theorem zuw{B:FB}{N:Nat}(h:BOk B N){l1:List Int}(hp:l1.Perm (zbx B)):(List.mergeSort (l1:List Int) fun x y=>decide (x≤y))=zb9 B:=by
 have hperm:(List.mergeSort (l1:List Int) fun x y=>decide (x≤y)).Perm (zb9 B):=by
  refine((List.mergeSort_perm _ _).trans hp).trans ?_
  refine(List.perm_ext_iff_of_nodup h.nod (nodes_nodup.filter _)).2 fun k=> ?_
  rw[show k∈nodes32.filter (fun n=>decide (geA B n≠V0))↔_ from ks_mem]
  constructor
  ·exact fun hk=>⟨h.rng k hk,h.nz k hk⟩
  ·exact fun hk=>(h.key k).2 hk.2
 have hs1:(List.mergeSort (l1:List Int) fun x y=>decide (x≤y)).Pairwise (fun a b:Int=>a≤b):=by
  have:=List.pairwise_mergeSort (le:=fun x y:Int=>decide (x≤y)) (fun a b c h1 h2=>by simp at*;omega) (fun a b=>by simp;omega) l1
  exact this.imp (fun h=>by simpa using h)
 exact List.Perm.eq_of_pairwise (le:=fun a b:Int=>a≤b) (fun a b _ _ h1 h2=>by omega) hs1 (nodes_sorted.filter _) hperm
theorem zB0{B:FB}{N:Nat}(h:BOk B N):KsOk B (zb9 B):=by
 refine⟨fun n hn=>(ks_mem.1 hn).1,fun n _=>h.ok n,nodes_nodup.filter _,?_⟩
 have:=List.length_filter_le (fun n=>decide (geA B n≠V0)) nodes32
 exact Nat.le_trans this (by decide)
/-! ### Roll -/
theorem zwq(j:Jn)(h0:0≤j.2.1)(h:j.2.1<31)(hm:j.2.2.2.length≤1000):journal_Journal_Close.f j=some ((j.1,(j.2.1+1,(j.2.2.1,j.2.2.2++ [[]]))),(j.2.1+1,0)):=by
 obtain⟨L,p,B,M⟩:=j
 simp only at h0 h hm
 unfold journal_Journal_Close.f
 simp only
 rw[wr (p+1) (by omega) (by omega)]
 have e1:(p+1==32)=false:=by simp;omega
 have e2:decide (M.length+([([]:Mp (.pair (.int .i64) (.pair (.int .i64) (.int .i64))) (.int .i64))]:List (Mp (.pair (.int .i64) (.pair (.int .i64) (.int .i64))) (.int .i64))).length≤1099511627776)=true:=by simp;omega
 rw[e1,e2]
 rfl
theorem zq3(c:List Int)(B0:FB): ∀(l:List Int) (B:FB) (N:Nat),BOk B N→(∀n∈l,1≤n∧n≤32)→(∀n,OkA (geA B0 n))→
  BOk (l.foldl (fun B' n=>setA B' n (zjm (decide (n∈c)) (geA B0 n))) B) (N+l.length)∧∀q,geA (l.foldl (fun B' n=>setA B' n (zjm (decide (n∈c)) (geA B0 n))) B) q=if q∈l then zjm (decide (q∈c)) (geA B0 q)else geA B q
 | [],B,N,h,_,_=>⟨h,fun q=>by simp⟩
 |n::l,B,N,h,hr,ho=>by
  obtain⟨k1,k2⟩:=zq3 c B0 l (setA B n (zjm (decide (n∈c)) (geA B0 n))) (N+1) (zzi h (hr n (by simp)) (rolA_ok (ho n))) (fun m hm=>hr m (by simp[hm])) ho
  refine⟨by rw[show N+(n::l).length=N+1+l.length by simp;omega];exact k1,fun q=> ?_⟩
  rw[List.foldl_cons,k2,zlj h.nod]
  by_cases hq:q∈l
  ·rw[if_pos hq,if_pos (by simp[hq])]
  ·rw[if_neg hq]
   by_cases hqn:q=n
   ·subst hqn;rw[if_pos rfl,if_pos (by simp)]
   ·rw[if_neg hqn,if_neg (by simp[hq,hqn])]
theorem zxe(c:List Int)(hc:c.length≤1000000)(B:FB)(N:Nat)(hB:BOk B N)(l16:List Int)(hk:(List.mergeSort (l16:List Int) fun x y=>decide (x≤y))=zb9 B):
  za2 (period_Purse_Roll.l17 c l16) (0,0,(),B)=some (zcj ((zb9 B).map (zbb c B)),(),zfl c B (zb9 B)):=by
 have hK:=zB0 hB
 have hgb: ∀i,i≤(zb9 B).length→0≤zcj (((zb9 B).take i).map (zbb c B))∧zcj (((zb9 B).take i).map (zbb c B))≤9007199254740992* (i:Int):=by
  intro i
  induction i with
  |zero=>intro _;simp[zcj]
  |succ i ih=>
   intro hi
   have hi':i< (zb9 B).length:=by omega
   obtain⟨h1,h2⟩:=ih (by omega)
   rw[zad _ i hi',List.map_append,zeo]
   have h3:=(hB.ok (zb9 B)[i]).left
   have h4:=zer (hB.ok (zb9 B)[i])
   simp only[List.map_cons,List.map_nil,zcj,zbb]
   split<;>omega
 refine zap (fun i=>(zcj (((zb9 B).take i).map (zbb c B)),(i:Int),(),zfl c B ((zb9 B).take i))) (zb9 B).length (by simp[zcj,zfl]) (fun i hi=> ?_) ?_
 ·have hlen:=hK.len
  have hm:(zb9 B)[i]∈zb9 B:=List.getElem_mem hi
  have hct:=zik c (zb9 B)[i] hc
  obtain⟨k1,k2⟩:=zq3 c B ((zb9 B).take i) B N hB (fun n hn=>hK.rng n (List.mem_of_mem_take hn)) hB.ok
  have hnt:(zb9 B)[i]∉(zb9 B).take i:=by
   have h:=hK.nod
   rw[←List.take_append_drop i (zb9 B),List.drop_eq_getElem_cons hi,List.nodup_append]at h
   exact fun hin=>h.2.2 _ hin _ (List.mem_cons.2 (.inl rfl)) rfl
  have hge:geA (zfl c B ((zb9 B).take i)) (zb9 B)[i]=geA B (zb9 B)[i]:=by
   rw[show zfl c B ((zb9 B).take i)=_ from rfl]at*
   have:=k2 (zb9 B)[i]
   rw[if_neg hnt]at this
   exact this
  have hb:=zEg (zfl c B ((zb9 B).take i)) (zb9 B)[i] (decide ((zb9 B)[i]∈c)) (hK.rng _ hm) (by rw[hge];exact hB.ok _)
  rw[hge]at hb
  obtain⟨g1,g2⟩:=hgb i (by omega)
  obtain⟨g3,g4⟩:=hgb (i+1) (by omega)
  unfold period_Purse_Roll.l17
  simp only[hk]
  rw[ilt hi,nn,Bool.and_self,cond_true,cond_true,at_ _ i hi,hct,Option.bind_some,hb,Option.bind_some]
  have e0:((0:Int)==0)=true:=rfl
  simp only
  rw[e0,cond_true,Option.bind_some,wrS i (by omega)]
  have hs:zcj (((zb9 B).take (i+1)).map (zbb c B))=zcj (((zb9 B).take i).map (zbb c B))+(if decide ((zb9 B)[i]∈c)then 0 else zag (geA B (zb9 B)[i])):=by
   rw[zad _ i hi,List.map_append,zeo]
   simp only[List.map_cons,List.map_nil,zcj,zbb]
   by_cases hin:(zb9 B)[i]∈c<;>simp[hin]
  have hr:zfl c B ((zb9 B).take (i+1))=setA (zfl c B ((zb9 B).take i)) (zb9 B)[i] (zjm (decide ((zb9 B)[i]∈c)) (geA B (zb9 B)[i])):=by
   rw[zad _ i hi]
   unfold zfl
   rw[List.foldl_append]
   rfl
  rw[hr,hs]
  rw[hs]at g3 g4
  rw[wr _ (by omega) (by omega)]
 ·unfold period_Purse_Roll.l17
  simp only[hk,List.take_length]
  rw[ige]
  rfl
theorem roll_p{B:FB}{N:Nat}(hB:BOk B N)(hN:N≤1000000){j:Jn}{p m:Nat}(hJ:JI p m j)(hm:m≤900000)(hp:p≤31)(c:List Int)(hc:c.length≤1000000):
  period_Purse_Roll.f (B,j) c=some (if p=31∨j.1.length+(zaa c B (zb9 B)).length >16384 then((B,j),(0,10))else((zfl c B (zb9 B),zc4 (zae j (zaa c B (zb9 B)))),(zcj ((zb9 B).map (zbb c B)),0))):=by
 have hble:Nat.ble B.length 1099511627776=true:=Nat.ble_eq_true_of_le (by have:=hB.len;omega)
 have hkl: ∀l1:List Int,l1.Perm (zbx B)→Nat.ble (List.length l1) 1099511627776=true:=fun l1 h=>Nat.ble_eq_true_of_le (by
  rw[h.length_eq]
  have:(zbx B).length≤B.length:=by unfold zbx zdr zjo;rw[List.length_map];exact List.length_filterMap_le _ _
  have:=hB.len
  omega)
 have hK:=zB0 hB
 have hgl:(zaa c B (zb9 B)).length≤32:=Nat.le_trans (ze0 _ _ _) hK.len
 have hjl:=hJ.list
 unfold period_Purse_Roll.f
 simp only
 rw[hble,cond_true]
 refine zcy fun l1 hl1=> ?_
 have hl1:l1.Perm (zbx B):=hl1
 have hs1:=zuw hB hl1
 rw[hkl l1 hl1,cond_true,zBb c hc B l1 (zb9 B) hs1 hK,Option.bind_some]
 rw[show journal_Journal_Period.f (j.1,(j.2.1,(j.2.2.1,j.2.2.2)))=some (j,j.2.1)from rfl,Option.bind_some]
 simp only
 rw[hJ.per,wrS p (by omega)]
 by_cases h31:p=31
 ·rw[if_pos (.inl h31),show(((p+1:Nat):Int)==32)=true by simp;omega,Bool.not_true,cond_false,Option.bind_some]
  simp only
  rw[cond_true,←hJ.per]
 ·rw[show(((p+1:Nat):Int)==32)=false by simp;omega,Bool.not_false,cond_true]
  rw[show journal_Journal_Len.f (j.1,(((p:Nat):Int),(j.2.2.1,j.2.2.2)))=some (j,(j.1.length:Int))by rw[←hJ.per];rfl,Option.bind_some,Option.bind_some]
  simp only
  rw[show IntKind.i64.wrap ((j.1.length:Int)+((zaa c B (zb9 B)).length:Int))=((j.1.length+(zaa c B (zb9 B)).length:Nat):Int)by rw[wr _ (by omega) (by omega)];omega]
  by_cases hf:j.1.length+(zaa c B (zb9 B)).length >16384
  ·rw[if_pos (.inr hf),show decide (((j.1.length+(zaa c B (zb9 B)).length:Nat):Int)>16384)=true by simp;omega,cond_true]
  ·rw[if_neg (fun h=>by rcases h with h|h;exact h31 h;exact hf h),show decide (((j.1.length+(zaa c B (zb9 B)).length:Nat):Int)>16384)=false by simp;omega,cond_false]
   rw[zxk (zaa c B (zb9 B)) B j hJ (by omega) (fun e he=>zy6 he),Option.bind_some]
   simp only
   rw[hble,cond_true]
   have hP:=zhb (zaa c B (zb9 B)) hJ
   refine zcy fun l16 hl16=> ?_
   have hl16:l16.Perm (zbx B):=hl16
   rw[hkl l16 hl16,cond_true,zxe c hc B N hB l16 (zuw hB hl16),Option.bind_some]
   rw[show((zae j (zaa c B (zb9 B))).1,((zae j (zaa c B (zb9 B))).2.1,((zae j (zaa c B (zb9 B))).2.2.1,(zae j (zaa c B (zb9 B))).2.2.2)))=zae j (zaa c B (zb9 B))from rfl]
   rw[zwq _ (by rw[hP.per];omega) (by rw[hP.per];omega) (by have:=hP.mov;omega),Option.bind_some]
   rfl
theorem zEe{p m:Nat}{j:Jn}(h:JI p m j)(hp:p<31):JI (p+1) m (zc4 j):=
 ⟨by show j.2.1+1=_;rw[h.per];omega,by show(j.2.2.2++ [[]]).length=_;rw[List.length_append,h.mov];rfl,by omega,h.list⟩
theorem zvi(c:List Int){B:FB}{N:Nat}(hB:BOk B N):BOk (zfl c B (zb9 B)) (N+32)∧∀q,geA (zfl c B (zb9 B)) q=if geA B q=V0 then V0 else zjm (decide (q∈c)) (geA B q):=by
 have hK:=zB0 hB
 obtain⟨k1,k2⟩:=zq3 c B (zb9 B) B N hB hK.rng hB.ok
 refine⟨k1.mono (by have:=hK.len;omega),fun q=> ?_⟩
 rw[show geA (zfl c B (zb9 B)) q=_ from k2 q]
 by_cases hz:geA B q=V0
 ·rw[if_pos hz,if_neg (fun h=>(ks_mem.1 h).2 hz),hz]
 ·rw[if_neg hz,if_pos (ks_mem.2 ⟨hB.rng q ((hB.key q).2 hz),hz⟩)]
end Go.Proofs.YtniohchnpfpffaaGreat.Pure
