/- Plain laws of entries,part 3: entries turned; Make. No statement of its own. -/
import Derived.Test.YtfcgafnmlkiimaaGreatDoorFb
set_option linter.unusedSimpArgs false
set_option linter.unusedVariables false
namespace Go.Proofs.YtfcgafnmlkiimaaGreatDoor.Pure
open Go.Vk Go.Am Go.Pg Go.Sort Go.Proofs.YtfcgafnmlkiimaaGreatDoor.Y
def i64(x:Int):Prop:= -9223372036854775808≤x∧x≤9223372036854775807
def sidesOf(k:Int):Int×Int:=if k=1 then(1,2)else if k=2 then(2,3)else if k=3 then(3,2)else if k=4 then(3,4)else if k=5 then(2,5)else(4,2)
theorem sides_eq(k:Int):entry_sides.f k=some (sidesOf k):=by
 unfold entry_sides.f sidesOf
 by_cases h1:k=1
 ·simp[h1]
 by_cases h2:k=2
 ·simp[h2]
 by_cases h3:k=3
 ·simp[h3]
 by_cases h4:k=4
 ·simp[h4]
 by_cases h5:k=5
 ·simp[h5]
 have e1:(k==1)=false:=by simp[h1]
 have e2:(k==2)=false:=by simp[h2]
 have e3:(k==3)=false:=by simp[h3]
 have e4:(k==4)=false:=by simp[h4]
 have e5:(k==5)=false:=by simp[h5]
 simp[e1,e2,e3,e4,e5,h1,h2,h3,h4,h5]
def onA(k n g:Int):Acc:=if k=1 then(1,0,0)else if k=4 then(4,n,g)else(k,n,0)
theorem on_eq(k n g:Int):entry_on.f k n g=some (onA k n g):=by
 unfold entry_on.f onA
 by_cases h1:k=1
 ·simp[h1]
 by_cases h4:k=4
 ·simp[h4]
 have e1:(k==1)=false:=by simp[h1]
 have e4:(k==4)=false:=by simp[h4]
 simp[e1,e4,h1,h4]
def legsAt(k a g n:Int):List Leg:=(if(sidesOf k).1=1 then []else [(onA (sidesOf k).1 n g,a)])++ [(onA (sidesOf k).2 n g,neg a)]
def legsOf(k a g:Int)(path:List Int):List Leg:=(if(sidesOf k).1=1 then [((1,0,0),IntKind.i64.wrap (a* (path.length:Int)))]else [])++path.flatMap (legsAt k a g)
def pathB(zs:List Int):Bool:=decide (1≤zs.length) && (decide (zs.length≤3) && decide zs.Nodup)
theorem flat_len(k a g:Int): ∀(l:List Int),(l.flatMap (legsAt k a g)).length≤2*l.length
 | []=>by simp
 |n::l=>by
  have:=flat_len k a g l
  have h1:(legsAt k a g n).length≤2:=by unfold legsAt;split<;>simp
  simp only[List.flatMap_cons,List.length_append,List.length_cons]
  omega
theorem make_loop(k a g:Int)(path:List Int)(hp:path.length≤3)(init:List Leg)(hi:init.length≤1):
  loopO (entry_Make.l7 a path g (sidesOf k)) (0,(),k,init)=some ((),k,init++path.flatMap (legsAt k a g)):=by
 refine loop_up (fun i=>((i:Int),(),k,init++(path.take i).flatMap (legsAt k a g))) path.length (by simp) ?_ ?_
 ·intro i hil
  have hfl:=flat_len k a g (path.take i)
  have hfl:((path.take i).flatMap (legsAt k a g)).length≤6:=by
   have:(path.take i).length≤3:=by simp;omega
   omega
  have hL:(init++(path.take i).flatMap (legsAt k a g)).length≤7:=by rw[List.length_append];omega
  have hft:(path.take (i+1)).flatMap (legsAt k a g)=(path.take i).flatMap (legsAt k a g)++legsAt k a g path[i]:=by rw[take_succ path i hil,List.flatMap_append];simp only[List.flatMap_cons,List.flatMap_nil,List.append_nil]
  simp only[entry_Make.l7,ilt hil,nn,at_ path i hil,cond_true,Bool.and_self,on_eq,Option.bind_some,wrS i (by omega),List.length_singleton]
  generalize hG:init++(path.take i).flatMap (legsAt k a g)=G at*
  have d1:decide (G.length+1≤1099511627776)=true:=by simp;omega
  by_cases hc:(sidesOf k).1=1
  ·have e:((sidesOf k).1 !=1)=false:=by simp[hc]
   simp only[e,cond_false,Option.bind_some,d1,cond_true]
   rw[hft,←List.append_assoc,hG]
   unfold legsAt
   rw[if_pos hc]
   rfl
  ·have e:((sidesOf k).1 !=1)=true:=by simp[hc]
   have d2: ∀z:Leg,decide ((G++ [z]).length+1≤1099511627776)=true:=fun z=>by simp;omega
   simp only[e,cond_true,Option.bind_some,d1,d2]
   rw[hft,←List.append_assoc,hG]
   unfold legsAt
   rw[if_neg hc]
   simp[neg]
 ·simp only[entry_Make.l7,ige,cond_false,List.take_length]
theorem path_eq(nodes:List Int):path.f nodes=some (pathB nodes):=rfl
theorem legs_len(k a g:Int)(nodes:List Int)(h:nodes.length≤3):(legsOf k a g nodes).length≤7:=by
 unfold legsOf
 have:=flat_len k a g nodes
 rw[List.length_append]
 split
 ·rw[List.length_singleton];omega
 ·rw[List.length_nil];omega
theorem path_len{nodes:List Int}(h:pathB nodes=true):1≤nodes.length∧nodes.length≤3:=by unfold pathB at h;simp at h;omega
theorem make_ok(k a:Int)(nodes:List Int)(g:Int)(hk:1≤k∧k≤6)(ha:1≤a∧a≤9007199254740992∧pathB nodes=true): ∃ys:List Leg,ys.Perm (legsOf k a g nodes)∧ys.Pairwise (fun x y=> ¬ltA y.1 x.1)∧
  entry_Make.f k a nodes g=some (if chk k ys≠0 then((0,[]),chk k ys)else((k,ys),0)):=by
 obtain⟨ha1,ha2,hp⟩:=ha
 have hp3:=(path_len hp).2
 have hll:=legs_len k a g nodes hp3
 obtain⟨ys,hs,hperm,hsort⟩:=sort_spec (legsOf k a g nodes) (by omega)
 refine⟨ys,hperm,hsort,?_⟩
 have hyl:ys.length≤7:=by rw[hperm.length_eq];exact hll
 have e1:decide (a<1)=false:=by simp;omega
 have e2:decide (a >9007199254740992)=false:=by simp;omega
 unfold entry_Make.f
 simp only[kind_eq,decide_eq_true hk,Option.bind_some,Bool.not_true,cond_false,e1,e2,Bool.not_false,cond_true,path_eq,hp,sides_eq]
 have hinit:(bif ((sidesOf k).1==1)then((entry_on.f 1 0 0).bind fun r5=>bif decide (([]:List ((Int×Int×Int)×Int)).length+([((r5.1,(r5.2.1,r5.2.2)),(IntKind.i64.wrap (a* (nodes.length:Int))))]:List ((Int×Int×Int)×Int)).length≤1099511627776)then(some ((),k,(([]:List ((Int×Int×Int)×Int))++([((r5.1,(r5.2.1,r5.2.2)),(IntKind.i64.wrap (a* (nodes.length:Int))))]:List ((Int×Int×Int)×Int)))))else none)else(some ((),k,[])))
   =some ((),k,if(sidesOf k).1=1 then [((1,0,0),IntKind.i64.wrap (a* (nodes.length:Int)))]else []):=by
  by_cases hc:(sidesOf k).1=1
  ·have e:((sidesOf k).1==1)=true:=by simp[hc]
   simp[e,hc,on_eq,onA]
  ·have e:((sidesOf k).1==1)=false:=by simp[hc]
   simp[e,hc]
 rw[hinit]
 simp only[Option.bind_some]
 rw[make_loop k a g nodes hp3 _ (by split<;>simp)]
 simp only[Option.bind_some]
 have hs':=hs
 unfold legsOf at hs'
 rw[hs']
 simp only[Option.bind_some,check_eq k ys (by omega)]
 by_cases hc:chk k ys=0
 ·simp[hc]
 ·have e:(chk k ys !=0)=true:=by simp[hc]
  simp[e,hc]
theorem sort_fix{ys zs:List Leg}(hp:ys.Perm zs)(hs:ys.Pairwise (fun x y=> ¬ltA y.1 x.1))(hz:zs.Pairwise (fun x y=>ltA x.1 y.1)):ys=zs:=by
 refine List.Perm.eq_of_pairwise (le:=fun x y:Leg=> ¬ltA y.1 x.1) ?_ hs (hz.imp fun{x y} h k=>ltA_irrefl _ (ltA_trans h k)) hp
 intro x y hx hy h1 h2
 have hx':=hp.mem_iff.1 hx
 have e:x.1=y.1:=by
  rcases ltA_tri x.1 y.1 with h|h|h
  ·exact absurd h h2
  ·exact absurd h h1
  ·exact h
 clear h1 h2 hx hs hp
 induction zs with
 |nil=>cases hx'
 |cons z zs ih=>
  rw[List.pairwise_cons]at hz
  rcases List.mem_cons.1 hx' with rfl|hx2
  ·rcases List.mem_cons.1 hy with rfl|hy2
   ·rfl
   ·have:=hz.1 y hy2
    rw[e]at this
    exact absurd this (ltA_irrefl _)
  ·rcases List.mem_cons.1 hy with rfl|hy2
   ·have:=hz.1 x hx2
    rw[e]at this
    exact absurd this (ltA_irrefl _)
   ·exact ih hz.2 hy2 hx2
end Go.Proofs.YtfcgafnmlkiimaaGreatDoor.Pure
