/- Plain laws: a purse that is made of accounts. No statement of its own. -/
import Derived.Test.YtniohchnpfpffaaGreatSh
import Derived.Test.YtniohchnpfpffaaGreatTc
set_option linter.unusedSimpArgs false
set_option linter.unusedVariables false
namespace Go.Proofs.YtniohchnpfpffaaGreat.Pure
open Go.Vk Go.Am Go.Pg Go.Sort Go.Proofs.YtniohchnpfpffaaGreat.Y
theorem zDo{p m:Nat}{j:Jn}(h:JI p m j)(a:Acc):journal_Journal_Moved.f (j.1,(j.2.1,(j.2.2.1,j.2.2.2))) a j.2.1=some (j,bal (zld j) a):=by
 have hp:=h.per
 have hm:=h.mov
 have hl:p<j.2.2.2.length:=by omega
 have hg:j.2.2.2[(j.2.1).toNat]? =some (zld j):=by
  unfold zld
  rw[hp,Int.toNat_natCast,List.getD_eq_getElem?_getD,List.getElem?_eq_getElem hl]
  rfl
 have hset:j.2.2.2.set (j.2.1).toNat (zld j)=j.2.2.2:=by
  rw[hp,Int.toNat_natCast]at hg⊢
  obtain⟨h1,h2⟩:=List.getElem?_eq_some_iff.1 hg
  rw[←h2,List.set_getElem_self]
 unfold journal_Journal_Moved.f
 simp only
 rw[show decide (j.2.1<0)=false from decide_eq_false (by omega),Bool.not_false,cond_true,show decide (j.2.1≥(j.2.2.2.length:Int))=false from decide_eq_false (by omega),Option.bind_some,cond_false,show decide ((0:Int)≤j.2.1)=true from decide_eq_true (by omega),show decide (j.2.1< (j.2.2.2.length:Int))=true from decide_eq_true (by omega),Bool.and_self,cond_true,hg]
 simp only[zo8]
 rw[hset]
 rfl
theorem zAe{c:Nat}{B:FB}{j:Jn}(h:BalI c B j)(n:Int): ∀k:Nat,-((k:Int)* ((c:Int)*9007199254740992))≤mvd (zld j) n k∧mvd (zld j) n k≤(k:Int)* ((c:Int)*9007199254740992)
 |0=>by simp[mvd]
 |k+1=>by
  have h1:=zAe h n k
  have h2:=h.mb (4,n,(k:Int)+1)
  have e:(((k+1:Nat):Nat):Int)* ((c:Int)*9007199254740992)=(k:Int)* ((c:Int)*9007199254740992)+(c:Int)*9007199254740992:=by
   rw[Int.natCast_add,Int.add_mul];simp
  rw[e]
  simp only[mvd]
  omega
/-! ### the accounts,as a map -/
theorem zgf(B:FB): ∀(l:List Int) (M:FB),l.foldl (fun M n=>if geA B n=V0 then M else zaw KI VA M n (geA B n)) M=(l.filter fun n=>decide (geA B n≠V0)).foldl (fun M n=>zaw KI VA M n (geA B n)) M
 | [],M=>rfl
 |n::l,M=>by
  rw[List.foldl_cons,List.filter_cons]
  by_cases h:geA B n=V0
  ·rw[if_pos h,if_neg (by simp[h])];exact zgf B l M
  ·rw[if_neg h,if_pos (by simp[h]),List.foldl_cons];exact zgf B l _
def zv1(B:FB)(l:List Int):FB:=l.foldl (fun M n=>if geA B n=V0 then M else zaw KI VA M n (geA B n)) []
theorem zBg(B:FB)(l:List Int)(n:Int):zv1 B (l++ [n])=if geA B n=V0 then zv1 B l else zaw KI VA (zv1 B l) n (geA B n):=by
 unfold zv1;rw[List.foldl_append];rfl
def zjp(B:FB):FB:=zv1 B nodes32
theorem zrn(B:FB):(zbx (zjp B)).Nodup∧∀q,zaj KI VA (zjp B) q=if q∈zb9 B then some (geA B q)else none:=by
 obtain⟨k1,k2⟩:=zh9 B (zb9 B) [] List.nodup_nil
 have e:zjp B=(zb9 B).foldl (fun M n=>zaw KI VA M n (geA B n)) []:=zgf B nodes32 []
 rw[e]
 exact⟨k1,k2⟩
theorem zEn{B:FB}{N:Nat}(hB:BOk B N):za2 purserlaw15_PeriodRestores.l8 (1,(),B,([]:FB))=some ((),B,zjp B):=by
 refine zap (fun i=>((((i+1:Nat):Nat):Int),(),B,zv1 B (nodes32.take i))) 32 rfl (fun i hi=> ?_) ?_
 ·have hil:i<nodes32.length:=by rw[zbr];omega
  obtain⟨n,hn⟩: ∃n,n=(((i+1:Nat):Nat):Int):=⟨_,rfl⟩
  have hni:nodes32[i]'hil=n:=by rw[zqc i hi];omega
  unfold purserlaw15_PeriodRestores.l8
  simp only
  rw[←hn,decide_eq_true (show n≤32 by omega),cond_true,show funds_Book_Get.f B n=some (B,geA B n)from rfl,Option.bind_some]
  simp only
  rw[zvb,zad nodes32 i hil,hni,zBg]
  have hw:IntKind.i64.wrap (n+1)=((((i+1)+1:Nat):Nat):Int):=by rw[hn];exact wrS (i+1) (by omega)
  by_cases hz:geA B n=V0
  ·rw[decide_eq_true hz,Bool.not_true,cond_false,Option.bind_some,if_pos hz,hw]
  ·rw[decide_eq_false hz,Bool.not_false,cond_true,Option.bind_some,if_neg hz,hw]
 ·unfold purserlaw15_PeriodRestores.l8
  simp only
  rw[show decide ((((32+1:Nat):Nat):Int)≤32)=false from rfl,cond_false]
  unfold zjp
  rw[List.take_of_length_le (by rw[zbr];omega)]
structure MOk(M:FB)(ks:List Int):Prop where
 nod:(zbx M).Nodup
 mem: ∀k,k∈zbx M↔k∈ks
 srt:ks.Pairwise (fun a b=>a≤b)
 kn:ks.Nodup
 rng: ∀k∈ks,1≤k∧k≤32
theorem MOk.sort{M:FB}{ks:List Int}(h:MOk M ks){l1:List Int}(hp:l1.Perm (zbx M)):(List.mergeSort (l1:List Int) fun x y=>decide (x≤y))=ks:=by
 have hperm:(List.mergeSort (l1:List Int) fun x y=>decide (x≤y)).Perm ks:=((List.mergeSort_perm _ _).trans hp).trans ((List.perm_ext_iff_of_nodup h.nod h.kn).2 h.mem)
 have hs1:(List.mergeSort (l1:List Int) fun x y=>decide (x≤y)).Pairwise (fun a b:Int=>a≤b):=by
  have:=List.pairwise_mergeSort (le:=fun x y:Int=>decide (x≤y)) (fun a b c h1 h2=>by simp at*;omega) (fun a b=>by simp;omega) l1
  exact this.imp (fun h=>by simpa using h)
 exact List.Perm.eq_of_pairwise (le:=fun a b:Int=>a≤b) (fun a b _ _ h1 h2=>by omega) hs1 h.srt hperm
theorem MOk.len{M:FB}{ks:List Int}(h:MOk M ks):(zbx M).length=ks.length:=((List.perm_ext_iff_of_nodup h.nod h.kn).2 h.mem).length_eq
theorem zB2{M:FB}(k:Int):k∈zbx M↔(zaj KI VA M k).isSome=true:=(zce (V:=VA) zgb).symm
theorem zrm(B:FB):MOk (zjp B) (zb9 B):=by
 obtain⟨h1,h2⟩:=zrn B
 refine⟨h1,fun k=> ?_,nodes_sorted.filter _,nodes_nodup.filter _,fun k hk=>(ks_mem.1 hk).1⟩
 rw[zB2,h2]
 by_cases h:k∈zb9 B
 ·rw[if_pos h];simp[h]
 ·rw[if_neg h];simp[h]
theorem zkn(B:FB)(k:Int)(hk:1≤k∧k≤32):geA (zjp B) k=geA B k:=by
 unfold geA
 rw[(zrn B).2]
 by_cases h:k∈zb9 B
 ·rw[if_pos h];rfl
 ·rw[if_neg h]
  have:geA B k=V0:=Classical.byContradiction fun hn=>h (ks_mem.2 ⟨hk,hn⟩)
  exact this.symm
def ks2(B:FB)(n:Int):List Int:=nodes32.filter fun q=>decide (geA B q≠V0)||decide (q=n)
theorem acc2_ok(B:FB){n:Int}(hn:1≤n∧n≤32)(a:FA):MOk (zaw KI VA (zjp B) n a) (ks2 B n):=by
 obtain⟨h1,h2⟩:=zrn B
 refine⟨zhc zgb h1 n a,fun k=> ?_,nodes_sorted.filter _,nodes_nodup.filter _,fun k hk=>(zch k).1 (List.mem_filter.1 hk).1⟩
 rw[zB2,zic (K:=KI) rfl,eqI,h2]
 unfold ks2
 rw[List.mem_filter,zch]
 by_cases hq:k=n
 ·subst hq;simp[hn]
 ·rw[decide_eq_false hq,cond_false]
  by_cases h:k∈zb9 B
  ·rw[if_pos h];have:=ks_mem.1 h;simp[this.1,this.2]
  ·rw[if_neg h]
   simp only[Option.isSome_none,Bool.or_false,Bool.false_eq_true,false_iff]
   exact fun hc=>h (ks_mem.2 ⟨hc.1,by simpa using hc.2⟩)
/-! ### accounts that are set -/
theorem zD3{B:FB}(h:(zbx B).Nodup)(n:Int)(a:FA):(zbx (setA B n a)).Nodup:=by
 unfold setA
 split
 ·exact zp1 zgb h n
 ·exact zhc zgb h n a
theorem zvh(F:Int→FA): ∀(l:List Int) (B:FB),(zbx B).Nodup→∀q,geA (zb0 F B l) q=if q∈l then F q else geA B q
 | [],B,h,q=>by simp[zb0]
 |n::l,B,h,q=>by
  show geA (zb0 F (setA B n (F n)) l) q=_
  rw[zvh F l _ (zD3 h n _),zlj h]
  by_cases hq:q∈l
  ·rw[if_pos hq,if_pos (by simp[hq])]
  ·rw[if_neg hq]
   by_cases hqn:q=n
   ·subst hqn;rw[if_pos rfl,if_pos (by simp)]
   ·rw[if_neg hqn,if_neg (by simp[hq,hqn])]
theorem zq0 {M:FB} {ks:List Int} (hk: ∀k∈ks,1≤k∧k≤32) (hlen:ks.length≤1000) {f:Int×Unit×FB→Option ((Int×Unit×FB)⊕((Int×Unit×FB)⊕(Unit×FB)))}
  (hf: ∀i (hi:i<ks.length) B r,funds_Book_Set.f B ks[i] (geA M ks[i])=some r→f ((i:Int),(),B)=bif (r.2 !=0)then(some (.inr (.inl (r.2,(),r.1))))else(some (.inl (IntKind.i64.wrap ((i:Int)+1),(),r.1))))
  (he: ∀B,f ((ks.length:Int),(),B)=some (.inr (.inr ((),B)))): ∀(d i:Nat) (B:FB),i+d=ks.length→
  (∃B',za2 f ((i:Int),(),B)=some (.inl (1,(),B'))∧∃k∈ks,funds_Account_right.f (geA M k)=some false)∨(za2 f ((i:Int),(),B)=some (.inr ((),zb0 (geA M) B (ks.drop i)))∧∀k∈ks.drop i,funds_Account_right.f (geA M k)=some true)
 |0,i,B,h=>by
  right
  rw[zai,show i=ks.length by omega,he,List.drop_length]
  exact⟨rfl,fun k hk=>by simp at hk⟩
 |d+1,i,B,h=>by
  have hi:i<ks.length:=by omega
  obtain⟨b,hb⟩:=zs6 (geA M ks[i])
  have hs:=hf i hi B _ (Set_b B (hk _ (List.getElem_mem hi)) hb)
  rw[zai,hs]
  cases b with
  |true=>
   rw[if_pos rfl,if_pos rfl]
   simp only
   rw[bne_self_eq_false,cond_false,wrS i (by omega),List.drop_eq_getElem_cons hi]
   rcases zq0 hk hlen hf he d (i+1) (setA B ks[i] (geA M ks[i])) (by omega)with h1|⟨h1,h2⟩
   ·exact .inl h1
   ·refine .inr ⟨h1,fun k hk=> ?_⟩
    rcases List.mem_cons.1 hk with rfl|hk
    ·exact hb
    ·exact h2 k hk
  |false=>
   left
   exact⟨B,rfl,ks[i],List.getElem_mem hi,hb⟩
/-! ### is it right? -/
theorem used_eq{p m c:Nat}{B:FB}{j:Jn}(hj:JI p m j)(h:BalI c B j)(hc:c≤100)(Q:FB)(n:Int):period_Purse_used.f (Q,j) n=some ((Q,j),-(mvd (zld j) n 8)):=by
 have hl:za2 (period_Purse_used.l1 n) (0,0,(),j)=some (-(mvd (zld j) n 8),(),j):=by
  refine zap (fun i=>(-(mvd (zld j) n i),(i:Int),(),j)) 8 (by simp[mvd]) (fun i hi=> ?_) ?_
  ·have h1:=zAe h n (i+1)
   have h8:(((i+1:Nat):Nat):Int)* ((c:Int)*9007199254740992)≤8*900719925474099200:=Int.mul_le_mul (by omega) (by omega) (by omega) (by omega)
   unfold period_Purse_used.l1
   simp only
   rw[decide_eq_true (show(i:Int)<8 by omega),cond_true,show journal_Journal_Period.f (j.1,(j.2.1,(j.2.2.1,j.2.2.2)))=some (j,j.2.1)from rfl,Option.bind_some]
   simp only
   rw[zDo hj,Option.bind_some]
   simp only
   rw[wrS i (by omega)]
   have e: -(mvd (zld j) n i) - bal (zld j) (4,(n,(((i+1:Nat):Nat):Int)))= -(mvd (zld j) n (i+1)):=by
    simp only[mvd]
    rw[show(((i+1:Nat):Nat):Int)=(i:Int)+1 by omega]
    omega
   rw[e,wr _ (by omega) (by omega)]
  ·unfold period_Purse_used.l1
   simp only
   rw[show decide (((8:Nat):Int)<8)=false from rfl,cond_false]
 unfold period_Purse_used.f
 rw[show za2 (period_Purse_used.l1 n) (0,0,(),(Q,j).2.1,(Q,j).2.2.1,(Q,j).2.2.2.1,(Q,j).2.2.2.2)=_ from hl,Option.bind_some]
theorem zs7{p m c:Nat}{B Q:FB}{j:Jn}(hj:JI p m j)(h:BalI c B j)(hc:c≤100){n:Int}(hn:1≤n∧n≤32)(hB:OkA (geA B n)){L:Int}(hL:funds_Account_left.f (geA Q n)=some L):
  period_Purse_right.f (Q,j) n=some ((Q,j),decide (L=zag (geA B n)) && (decide ((geA Q n).2.2.2.2=(geA B n).2.2.2.2) && decide ((geA Q n).2.2.2.1=(geA B n).2.2.2.1))):=by
 have b1:=h.left n hn
 have b2:=h.held n hn
 have b3:=h.used n hn
 have l1:=hB.left
 have l2:=zer hB
 have l3:=hB.h
 unfold period_Purse_right.f
 simp only
 rw[show funds_Book_Get.f Q n=some (Q,geA Q n)from rfl,Option.bind_some]
 rw[show journal_Journal_Balance.f (j.1,(j.2.1,(j.2.2.1,j.2.2.2))) (2,(n,0))=some (j,bal j.2.2.1 (2,n,0))from rfl,Option.bind_some]
 simp only
 rw[show journal_Journal_Balance.f (j.1,(j.2.1,(j.2.2.1,j.2.2.2))) (3,(n,0))=some (j,bal j.2.2.1 (3,n,0))from rfl,Option.bind_some]
 simp only
 have hav:funds_Book_Available.f Q n=some (Q,L):=by
  unfold funds_Book_Available.f
  rw[show funds_Book_Get.f Q n=some (Q,geA Q n)from rfl,Option.bind_some]
  simp only
  rw[show funds_Account_left.f ((geA Q n).1,((geA Q n).2.1,((geA Q n).2.2.1,((geA Q n).2.2.2.1,(geA Q n).2.2.2.2))))=_ from hL,Option.bind_some]
 rw[hav,Option.bind_some]
 simp only
 rw[b1,b2,show(0:Int) - -(zag (geA B n))=zag (geA B n)by omega,show(0:Int) - -((geA B n).2.2.2.2)=(geA B n).2.2.2.2 by omega,wr _ (by omega) (by omega),wr _ (by omega) (by omega)]
 have be: ∀x y:Int,(x==y)=decide (x=y):=fun x y=>by rw[Bool.eq_iff_iff];simp
 rw[be,be]
 by_cases c1:L=zag (geA B n)
 ·rw[decide_eq_true c1,cond_true,Bool.true_and]
  by_cases c2:(geA Q n).2.2.2.2=(geA B n).2.2.2.2
  ·rw[decide_eq_true c2,cond_true,Bool.true_and,show period_Purse_used.f (Q,(j.1,(j.2.1,(j.2.2.1,j.2.2.2)))) n=_ from used_eq hj h hc Q n,Option.bind_some]
   simp only
   rw[Option.bind_some,b3,be]
   simp only[Int.neg_neg]
  ·rw[decide_eq_false c2,cond_false,Bool.false_and]
   rfl
 ·rw[decide_eq_false c1,cond_false,Bool.false_and]
  rfl
def allR(rp:Int→Bool):Nat→Nat→Bool
 |_,0=>true
 |i,d+1=>rp ((i:Int)+1) && allR rp (i+1) d
theorem ztt{rp:Int→Bool}: ∀{d i:Nat},(∀k:Nat,i≤k→k<i+d→rp ((k:Int)+1)=true)→allR rp i d=true
 |0,i,h=>rfl
 |d+1,i,h=>by
  simp only[allR]
  rw[h i (by omega) (by omega),Bool.true_and]
  exact ztt fun k h1 h2=>h k (by omega) (by omega)
theorem zpw{rp:Int→Bool}: ∀{d i:Nat} (k:Nat),i≤k→k<i+d→rp ((k:Int)+1)=false→allR rp i d=false
 |0,i,k,h1,h2,_=>by omega
 |d+1,i,k,h1,h2,h3=>by
  simp only[allR]
  by_cases hk:k=i
  ·rw[←hk,h3,Bool.false_and]
  ·rw[zpw (d:=d) (i:=i+1) k (by omega) (by omega) h3,Bool.and_false]
theorem zjv{Q:FB}{j:Jn}{rp:Int→Bool}(hr: ∀n,1≤n∧n≤32→period_Purse_right.f (Q,j) n=some ((Q,j),rp n)): ∀(d i:Nat),i+d=32→
  za2 purserlaw15_PeriodRestores.l28 ((i:Int),(),(Q,j))=some (bif allR rp i d then .inr ((),(Q,j))else .inl (20,(),(Q,j)))
 |0,i,h=>by
  rw[zai,show i=32 by omega]
  rfl
 |d+1,i,h=>by
  have hst:purserlaw15_PeriodRestores.l28 ((i:Int),(),(Q,j))=if rp ((i:Int)+1)=true then some (.inl ((((i+1:Nat):Nat):Int),(),(Q,j)))else some (.inr (.inl (20,(),(Q,j)))):=by
   unfold purserlaw15_PeriodRestores.l28
   simp only
   rw[decide_eq_true (show(i:Int)<32 by omega),cond_true,wrS i (by omega)]
   have:=hr ((i:Int)+1) (by omega)
   rw[show((i:Int)+1)=(((i+1:Nat):Nat):Int)by omega]at this⊢
   rw[show period_Purse_right.f (Q,(j.1,(j.2.1,(j.2.2.1,j.2.2.2)))) (((i+1:Nat):Nat):Int)=_ from this,Option.bind_some]
   simp only
   cases rp (((i+1:Nat):Nat):Int)<;>rfl
  rw[zai,hst,show allR rp i (d+1)=(rp ((i:Int)+1) && allR rp (i+1) d)from rfl]
  by_cases hrp:rp ((i:Int)+1)=true
  ·rw[if_pos hrp,hrp,Bool.true_and];exact zjv hr d (i+1) (by omega)
  ·have hf:rp ((i:Int)+1)=false:=by simpa using hrp
   rw[if_neg hrp,hf,Bool.false_and]
   rfl
theorem BalI.same{c:Nat}{B Q:FB}{j:Jn}(h:BalI c B j)(hq: ∀n,1≤n∧n≤32→geA Q n=geA B n):BalI c Q j:=⟨fun n hn=>by rw[hq n hn];exact h.left n hn,fun n hn=>by rw[hq n hn];exact h.held n hn,fun n hn=>by rw[hq n hn];exact h.used n hn,h.mb⟩
end Go.Proofs.YtniohchnpfpffaaGreat.Pure
