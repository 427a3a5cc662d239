/- Plain laws: a journal's accounts,in order,the program's and the document's. No statement of its own. -/
import Derived.Test.YtniohchnpfpffaaGreatNc
set_option linter.unusedSimpArgs false
set_option linter.unusedVariables false
namespace Go.Proofs.YtniohchnpfpffaaGreat.Pure
open Go.Vk Go.Am Go.Pg Go.Sort Go.Proofs.YtniohchnpfpffaaGreat.Y
theorem ztj{prev:Option Acc}{x:Leg}(h:zoz prev x=0):zdr x.1=true:=by
 unfold zoz at h
 split at h
 ·cases h
 ·rename_i h1;simpa using h1
theorem zmk: ∀(l:List Leg) (prev:Option Acc),zps prev l=0→∀x∈l,zdr x.1=true
 | [],prev,h,x,hx=>by simp at hx
 |y::l,prev,h,x,hx=>by
  unfold zps at h
  split at h
  ·rename_i hne;exact absurd h hne
  ·rename_i hne
   rcases List.mem_cons.1 hx with rfl|hx
   ·exact ztj (show zoz prev x=0 by omega)
   ·exact zmk l _ h x hx
theorem zpr{k:Int}{l:List Leg}(h:chk k l=0):(∀x∈l,zdr x.1=true)∧2≤l.length:=by
 unfold chk at h
 split at h
 ·cases h
 ·split at h
  ·cases h
  ·rename_i h2
   split at h
   ·rename_i h3;exact absurd h h3
   ·rename_i h3
    exact⟨zmk l none (by omega),by omega⟩
theorem zv2{a:Acc}(h:zdr a=true):(1≤a.1∧a.1≤5)∧(0≤a.2.1∧a.2.1≤32)∧(0≤a.2.2∧a.2.2≤8):=by
 unfold zdr zg9 at h
 split at h
 ·simp at h;omega
 ·split at h
  ·simp at h;omega
  ·split at h
   ·simp at h;omega
   ·cases h
def ztm(l:List Ps)(a:Acc):Bool:=l.any fun x=>x.1.2.any fun g=>decide (g.1=a)
theorem zys{l:List Ps}{a:Acc}:ztm l a=true↔ ∃x∈l,∃g∈x.1.2,g.1=a:=by
 unfold ztm
 rw[List.any_eq_true]
 constructor
 ·rintro⟨x,h1,h2⟩
  rw[List.any_eq_true]at h2
  obtain⟨g,h3,h4⟩:=h2
  exact⟨x,h1,g,h3,by simpa using h4⟩
 ·rintro⟨x,h1,g,h3,h4⟩
  exact⟨x,h1,List.any_eq_true.2 ⟨g,h3,by simpa using h4⟩⟩
def acG(l:List Ps)(k n:Nat):List Acc:=((List.range 9).filter fun g:Nat=>ztm l ((k:Int),((n:Int),(g:Int)))).map fun g:Nat=>((k:Int),((n:Int),(g:Int)))
def acN(l:List Ps)(k:Nat):List Acc:=(List.range 33).flatMap fun n=>acG l k n
def acK(l:List Ps):List Acc:=(List.range 5).flatMap fun i=>acN l (i+1)
theorem mem_acG{l:List Ps}{k n:Nat}{a:Acc}:a∈acG l k n↔ ∃g:Nat,g<9∧a=((k:Int),((n:Int),(g:Int)))∧ztm l a=true:=by
 unfold acG
 rw[List.mem_map]
 constructor
 ·rintro⟨g,hg,rfl⟩
  rw[List.mem_filter,List.mem_range]at hg
  exact⟨g,hg.1,rfl,hg.2⟩
 ·rintro⟨g,h1,rfl,h3⟩
  exact⟨g,List.mem_filter.2 ⟨List.mem_range.2 h1,h3⟩,rfl⟩
theorem mem_acK{l:List Ps}{a:Acc}:a∈acK l↔((1≤a.1∧a.1≤5)∧(0≤a.2.1∧a.2.1≤32)∧(0≤a.2.2∧a.2.2≤8))∧ztm l a=true:=by
 unfold acK acN
 constructor
 ·intro h
  obtain⟨i,hi,h⟩:=List.mem_flatMap.1 h
  obtain⟨n,hn,h⟩:=List.mem_flatMap.1 h
  obtain⟨g,hg,rfl,h3⟩:=mem_acG.1 h
  rw[List.mem_range]at hi hn
  refine⟨⟨?_,?_,?_⟩,h3⟩<;>(simp only;omega)
 ·rintro⟨⟨h1,h2,h3⟩,h4⟩
  obtain⟨k,n,g⟩:=a
  simp only at h1 h2 h3
  refine List.mem_flatMap.2 ⟨(k - 1).toNat,List.mem_range.2 (by omega),List.mem_flatMap.2 ⟨n.toNat,List.mem_range.2 (by omega),mem_acG.2 ⟨g.toNat,by omega,?_,h4⟩⟩⟩
  rw[show(((k - 1).toNat+1:Nat):Int)=k by omega,show((n.toNat:Nat):Int)=n by omega,show((g.toNat:Nat):Int)=g by omega]
theorem acG_srt(l:List Ps)(k n:Nat):(acG l k n).Pairwise ltA:=by
 unfold acG
 refine List.Pairwise.map _ (R:=fun a b:Nat=>a<b) (fun a b h=> ?_) (List.Pairwise.filter _ List.pairwise_lt_range)
 have h:a<b:=h
 exact .inr ⟨rfl,.inr ⟨rfl,Int.ofNat_lt.2 h⟩⟩
theorem zxc(l:List Ps):(acK l).Pairwise ltA:=by
 unfold acK
 rw[List.pairwise_flatMap]
 refine⟨fun i _=> ?_,List.Pairwise.imp (R:=fun a b:Nat=>a<b) (fun{i j} h x hx y hy=> ?_) List.pairwise_lt_range⟩
 ·unfold acN
  rw[List.pairwise_flatMap]
  refine⟨fun n _=>acG_srt l _ n,List.Pairwise.imp (R:=fun a b:Nat=>a<b) (fun{n m} h x hx y hy=> ?_) List.pairwise_lt_range⟩
  have h:n<m:=h
  obtain⟨g,_,rfl,_⟩:=mem_acG.1 hx
  obtain⟨g',_,rfl,_⟩:=mem_acG.1 hy
  exact .inr ⟨rfl,.inl (Int.ofNat_lt.2 h)⟩
 ·have h:i<j:=h
  obtain⟨n,_,hx⟩:=List.mem_flatMap.1 hx
  obtain⟨m,_,hy⟩:=List.mem_flatMap.1 hy
  obtain⟨g,_,rfl,_⟩:=mem_acG.1 hx
  obtain⟨g',_,rfl,_⟩:=mem_acG.1 hy
  unfold ltA
  simp only
  omega
theorem zxd(l:List Ps)(k n:Nat):(acG l k n).length≤9:=by
 unfold acG
 rw[List.length_map]
 exact Nat.le_trans (List.length_filter_le _ _) (by simp)
theorem zw8{α β:Type}(f:α→List β)(b:Nat)(h: ∀x,(f x).length≤b): ∀l:List α,(l.flatMap f).length≤b*l.length
 | []=>by simp
 |x::l=>by
  have:=zw8 f b h l
  have:=h x
  rw[List.flatMap_cons,List.length_append,List.length_cons,Nat.mul_add]
  omega
theorem zxb(l:List Ps)(k:Nat):(acN l k).length≤297:=by
 have:=zw8 (fun n=>acG l k n) 9 (fun n=>zxd l k n) (List.range 33)
 rw[List.length_range]at this
 exact this
theorem zon{p m:Nat}{j:Jn}(h:JJ p m j)(hm:m≤100):journal_Journal_Accounts.f j=some (j,acK j.1):=by
 have hB:j.2.2.1.length≤1000000:=by have:=h.len;omega
 have hk:=zyj j.2.2.1
 have has: ∀{a b:Acc},ltA a b→¬ltA b a:=fun h1 h2=>zbq _ (zd4 h1 h2)
 have hsr:(acK j.1).Pairwise (fun x y=> ¬ltA y x):=(zxc j.1).imp fun h=>has h
 have hnd:(acK j.1).Nodup:=(zxc j.1).imp fun{a b} h e=>by subst e;exact zbq _ h
 have hperm:(zbx j.2.2.1).Perm (acK j.1):=(List.perm_ext_iff_of_nodup h.nod hnd).2 fun a=>by
  rw[h.keys,mem_acK,zys]
  constructor
  ·rintro⟨x,h1,g,h2,h3⟩
   exact⟨by have:=zv2 ((zpr (h.ent x h1)).1 g h2);rw[h3]at this;exact this,x,h1,g,h2,h3⟩
  ·exact fun hh=>hh.2
 unfold journal_Journal_Accounts.f
 have e:Nat.ble j.2.2.1.length 1099511627776=true:=by rw[Nat.ble_eq];omega
 rw[e,cond_true]
 refine zx8 fun l hl=> ?_
 have hl':l.Perm (zbx j.2.2.1):=hl
 obtain⟨ys,y1,y2,y3⟩:=sortA l (by rw[hl'.length_eq];omega)
 have hy:ys=acK j.1:=zur (y2.trans (hl'.trans hperm)) y3 hsr
 have y1':zji (T:=(.pair (.int .i64) (.pair (.int .i64) (.int .i64)))) journal_Journal_Accounts_1.f l=some ys:=y1
 rw[y1',hy]
 rfl
/-! ### the document's -/
def rA(a:Acc):zc3:=(a.1,(a.2.1,(a.2.2,0)))
theorem zz8(ls:List Leg)(g:Leg)(a:Acc):(ls++ [g]).any (fun g=>decide (g.1=a))=(ls.any (fun g=>decide (g.1=a))||decide (g.1=a)):=by simp
theorem zlg(l:List Ps)(W:List Int)(p:Int)(s1 s2 s3:List zc3×Int)(i:Nat)(hi:i<l.length)(hl:l[i].1.2.length≤1000000):
  zab (purserref08_Journal_Accounts.l6 (zc6 l,(W,p)) s1 s2 s3 (false,(i:Int))) (false,0)=some (l[i].1.2.any fun g=>decide (g.1=(s1.2,(s2.2,s3.2)))):=by
 have e0:=zr6 l i hi
 obtain⟨ls,hls⟩: ∃ls,ls=l[i].1.2:=⟨_,rfl⟩
 rw[←hls]at e0 hl⊢
 refine zb9 (fun k=>((ls.take k).any (fun g=>decide (g.1=(s1.2,(s2.2,s3.2)))),(k:Int))) ls.length rfl (fun k hk=> ?_) ?_
 ·have e2:=zw6 ls k hk
  have hs:=zrb ls[k] (s1.2,(s2.2,s3.2)) 0
  unfold purserref08_Journal_Accounts.l6
  simp only
  rw[zba,ilt hi,nn,Bool.and_self,cond_true]
  simp only[e0]
  rw[List.length_map,ilt hk,nn,Bool.and_self]
  simp only[e2,cond_true]
  rw[zcp ls k hk,zz8,wrS k (by omega)]
  cases (ls.take k).any (fun g=>decide (g.1=(s1.2,(s2.2,s3.2))))with
  |true=>rfl
  |false=>
   rw[Bool.not_false,cond_true,show purserref08_same.f ((frL ls[k]).1,((frL ls[k]).2.1,((frL ls[k]).2.2.1,(frL ls[k]).2.2.2))) (s1.2,(s2.2,(s3.2,0)))=_ from hs,Option.bind_some,Option.bind_some,Bool.false_or]
 ·rw[List.take_length]
  unfold purserref08_Journal_Accounts.l6
  simp only
  rw[zba,ilt hi,nn,Bool.and_self,cond_true]
  simp only[e0]
  rw[List.length_map,ige,cond_false]
theorem zpi(l:List Ps)(W:List Int)(p:Int)(s1 s2 s3:List zc3×Int)(hl: ∀x∈l,x.1.2.length≤1000000)(hn:l.length≤1000000): ∀(d i:Nat),i+d=l.length→
  zab (purserref08_Journal_Accounts.l4 (zc6 l,(W,p)) s1 s2 s3) (false,(i:Int))=some (ztm (l.drop i) (s1.2,(s2.2,s3.2)))
 |0,i,h=>by
  have he:purserref08_Journal_Accounts.l4 (zc6 l,(W,p)) s1 s2 s3 (false,(l.length:Int))=some (.inr false):=by
   unfold purserref08_Journal_Accounts.l4
   simp only
   rw[zba,ige]
   rfl
  rw[show i=l.length by omega,zaf,he,List.drop_length]
  rfl
 |d+1,i,h=>by
  have hi:i<l.length:=by omega
  have hst:purserref08_Journal_Accounts.l4 (zc6 l,(W,p)) s1 s2 s3 (false,(i:Int))=some (.inl (l[i].1.2.any (fun g=>decide (g.1=(s1.2,(s2.2,s3.2)))),(((i+1:Nat):Nat):Int))):=by
   unfold purserref08_Journal_Accounts.l4
   simp only
   rw[zba,ilt hi,cond_true,Bool.not_false,Option.bind_some,cond_true,zlg l W p s1 s2 s3 i hi (hl _ (List.getElem_mem hi)),Option.bind_some,wrS i (by omega)]
  rw[zaf,hst,List.drop_eq_getElem_cons hi]
  have hh:ztm (l[i]::l.drop (i+1)) (s1.2,(s2.2,s3.2))=(l[i].1.2.any (fun g=>decide (g.1=(s1.2,(s2.2,s3.2))))||ztm (l.drop (i+1)) (s1.2,(s2.2,s3.2))):=rfl
  rw[hh]
  cases l[i].1.2.any (fun g=>decide (g.1=(s1.2,(s2.2,s3.2))))with
  |false=>
   rw[Bool.false_or]
   exact zpi l W p s1 s2 s3 hl hn d (i+1) (by omega)
  |true=>
   rw[Bool.true_or]
   have he:purserref08_Journal_Accounts.l4 (zc6 l,(W,p)) s1 s2 s3 (true,(((i+1:Nat):Nat):Int))=some (.inr true):=by
    unfold purserref08_Journal_Accounts.l4
    simp only
    cases decide ((((i+1:Nat):Nat):Int)< ((zc6 l).length:Int))<;>rfl
   show zab _ (true,(((i+1:Nat):Nat):Int))=_
   rw[zaf,he]
   rfl
theorem zpk(l:List Ps)(p:Int)(hl: ∀x∈l,x.1.2.length≤1000000)(hn:l.length≤1000000):purserref08_Journal_Accounts.f (zc6 l,(zco l,p))=some ((zc6 l,(zco l,p)),(acK l).map rA):=by
 have g3: ∀(s1 s2:List zc3×Int) (k n:Nat),s1.2=(k:Int)→s2.2=(n:Int)→∀out:List zc3,out.length≤100000→zab (purserref08_Journal_Accounts.l3 (zc6 l,(zco l,p)) s1 s2) (out,0)=some (out++(acG l k n).map rA):=by
  intro s1 s2 k n h1 h2 out ho
  refine zb9 (fun i=>(out++(((List.range i).filter fun g:Nat=>ztm l ((k:Int),((n:Int),(g:Int)))).map fun g:Nat=>rA ((k:Int),((n:Int),(g:Int)))),(i:Int))) 9 (by simp) (fun i hi=> ?_) ?_
  ·have hlen:(((List.range i).filter fun g:Nat=>ztm l ((k:Int),((n:Int),(g:Int)))).map fun g:Nat=>rA ((k:Int),((n:Int),(g:Int)))).length≤9:=by
    rw[List.length_map]
    have:=List.length_filter_le (fun g:Nat=>ztm l ((k:Int),((n:Int),(g:Int)))) (List.range i)
    rw[List.length_range]at this
    omega
   have ht:=zpi l (zco l) p s1 s2 (out++(((List.range i).filter fun g:Nat=>ztm l ((k:Int),((n:Int),(g:Int)))).map fun g:Nat=>rA ((k:Int),((n:Int),(g:Int)))),(i:Int)) hl hn l.length 0 (by omega)
   rw[List.drop_zero,show((0:Nat):Int)=0 from rfl]at ht
   unfold purserref08_Journal_Accounts.l3
   simp only
   rw[decide_eq_true (show(i:Int)≤8 by omega),cond_true,ht,Option.bind_some,h1,h2,wrS i (by omega),List.range_succ,List.filter_append,List.map_append]
   cases hc:ztm l ((k:Int),((n:Int),(i:Int)))with
   |true=>
    rw[cond_true,decide_eq_true (by simp only[List.length_append,List.length_singleton];omega),cond_true,Option.bind_some,List.append_assoc]
    simp[hc,rA]
   |false=>
    rw[cond_false,Option.bind_some]
    simp[hc]
  ·unfold purserref08_Journal_Accounts.l3
   simp only
   rw[show decide (((9:Nat):Int)≤8)=false from rfl,cond_false]
   unfold acG
   rw[List.map_map]
   rfl
 have g2: ∀(s1:List zc3×Int) (k:Nat),s1.2=(k:Int)→∀out:List zc3,out.length≤10000→zab (purserref08_Journal_Accounts.l2 (zc6 l,(zco l,p)) s1) (out,0)=some (out++(acN l k).map rA):=by
  intro s1 k h1 out ho
  refine zb9 (fun i=>(out++((List.range i).flatMap fun n=>acG l k n).map rA,(i:Int))) 33 (by simp) (fun i hi=> ?_) ?_
  ·have hlen:=zw8 (fun n=>acG l k n) 9 (fun n=>zxd l k n) (List.range i)
   rw[List.length_range]at hlen
   unfold purserref08_Journal_Accounts.l2
   simp only
   rw[decide_eq_true (show(i:Int)≤32 by omega),cond_true,g3 s1 (out++((List.range i).flatMap fun n=>acG l k n).map rA,(i:Int)) k i h1 rfl _ (by rw[List.length_append,List.length_map];omega),Option.bind_some,wrS i (by omega),List.range_succ,List.flatMap_append,List.map_append,List.append_assoc]
   simp
  ·unfold purserref08_Journal_Accounts.l2
   simp only
   rw[show decide (((33:Nat):Int)≤32)=false from rfl,cond_false]
   rfl
 have g1:zab (purserref08_Journal_Accounts.l1 (zc6 l,(zco l,p))) ([],1)=some ((acK l).map rA):=by
  refine zb9 (fun i=>(((List.range i).flatMap fun i=>acN l (i+1)).map rA,(((i+1:Nat):Nat):Int))) 5 rfl (fun i hi=> ?_) ?_
  ·have hlen:=zw8 (fun i=>acN l (i+1)) 297 (fun n=>zxb l (n+1)) (List.range i)
   rw[List.length_range]at hlen
   unfold purserref08_Journal_Accounts.l1
   simp only
   rw[decide_eq_true (show(((i+1:Nat):Nat):Int)≤5 by omega),cond_true,g2 (((List.range i).flatMap fun i=>acN l (i+1)).map rA,(((i+1:Nat):Nat):Int)) (i+1) rfl _ (by rw[List.length_map];omega),Option.bind_some,wrS (i+1) (by omega),List.range_succ,List.flatMap_append,List.map_append]
   simp
  ·unfold purserref08_Journal_Accounts.l1
   simp only
   rw[show decide ((((5+1:Nat):Nat):Int)≤5)=false from rfl,cond_false]
   rfl
 unfold purserref08_Journal_Accounts.f
 rw[g1,Option.bind_some]
end Go.Proofs.YtniohchnpfpffaaGreat.Pure
