/- Plain laws of entries: what the program's functions compute. No statement of its own. -/
import Derived.Test.YtfcgafnmlkiimaaGreatDoorI1d
import Derived.Test.YtfcgafnmlkiimaaGreatDoorPg
set_option linter.unusedSimpArgs false
set_option linter.unusedVariables false
namespace Go.Proofs.YtfcgafnmlkiimaaGreatDoor.Pure
open Go.Vk Go.Am Go.Pg Go.Sort Go.Proofs.YtfcgafnmlkiimaaGreatDoor.Y
abbrev Acc:=Int×Int×Int
abbrev Leg:=Acc×Int
def neg(x:Int):Int:=IntKind.i64.wrap (0 - x)
def cmpI(a b:Int):Int:=if a<b then -1 else if a >b then 1 else 0
theorem nan_eq(a:Int):cmp_isNaN_int.f a=some false:=by simp[cmp_isNaN_int.f]
theorem compare_eq(a b:Int):cmp_Compare_int.f a b=some (cmpI a b):=by
 unfold cmp_Compare_int.f cmpI
 simp only[nan_eq,Option.bind_some,cond_false,bt]
 split
 ·rfl
 ·split<;>rfl
theorem or_eq(a b c:Int):cmp_Or_int.f [a,b,c]=some (if a≠0 then a else if b≠0 then b else c):=by
 unfold cmp_Or_int.f
 by_cases ha:a=0
 ·by_cases hb:b=0
  ·by_cases hc:c=0
   ·subst ha hb hc
    rw[loop_up (f:=cmp_Or_int.l1 [0,0,0]) (s0:=0) (fun i=>(i:Int)) 3 (b:= .inr ()) rfl (by decide) (by decide)]
    rfl
   ·subst ha hb
    have hc':(c !=0)=true:=by simp[hc]
    rw[loop_up (f:=cmp_Or_int.l1 [0,0,c]) (s0:=0) (fun i=>(i:Int)) 2 (b:= .inl c) rfl (by
     intro i hi
     rcases i with _|_|i
     ·rfl
     ·rfl
     ·omega) (by simp[cmp_Or_int.l1,hc'])]
    simp
  ·subst ha
   have hb':(b !=0)=true:=by simp[hb]
   rw[loop_up (f:=cmp_Or_int.l1 [0,b,c]) (s0:=0) (fun i=>(i:Int)) 1 (b:= .inl b) rfl (by
     intro i hi
     rcases i with _|i
     ·rfl
     ·omega) (by simp[cmp_Or_int.l1,hb'])]
   simp[hb]
 ·have ha':(a !=0)=true:=by simp[ha]
  rw[loopO_eq]
  simp[cmp_Or_int.l1,ha',ha]
def ordA(a b:Acc):Int:=if cmpI a.1 b.1≠0 then cmpI a.1 b.1 else if cmpI a.2.1 b.2.1≠0 then cmpI a.2.1 b.2.1 else cmpI a.2.2 b.2.2
theorem make1_eq(a b:Leg):entry_Make_1.f a b=some (ordA a.1 b.1):=by
 unfold entry_Make_1.f ordA
 simp only[compare_eq,Option.bind_some,or_eq]
def ltA(a b:Acc):Prop:=a.1<b.1∨(a.1=b.1∧(a.2.1<b.2.1∨(a.2.1=b.2.1∧a.2.2<b.2.2)))
theorem ordA_neg(a b:Acc):ordA a b<0↔ltA a b:=by
 unfold ordA ltA cmpI
 repeat' split
 all_goals omega
theorem ltA_irrefl(a:Acc): ¬ltA a a:=by unfold ltA;omega
theorem ltA_trans{a b c:Acc}(h:ltA a b)(k:ltA b c):ltA a c:=by unfold ltA at*;omega
theorem ltA_tri(a b:Acc):ltA a b∨ltA b a∨a=b:=by
 obtain⟨a1,a2,a3⟩:=a
 obtain⟨b1,b2,b3⟩:=b
 simp only[ltA,Prod.mk.injEq]
 omega
theorem swo:SWO (Go.Proofs.ltOf fun a b:Leg=>ordA a.1 b.1):=by
 refine⟨fun x=> ?_,fun x y z h1 h2=> ?_,fun x y z h1 h2=> ?_⟩
 ·simp only[Go.Proofs.ltOf,decide_eq_false_iff_not,ordA_neg];exact ltA_irrefl _
 ·simp only[Go.Proofs.ltOf,decide_eq_true_eq,ordA_neg]at*;exact ltA_trans h1 h2
 ·simp only[Go.Proofs.ltOf,decide_eq_false_iff_not,ordA_neg]at*
  unfold ltA at*
  omega
theorem sort_spec(xs:List Leg)(hl:xs.length<4611686018427387904):
  ∃ys,sortM (T:=(.pair (.pair (.int .i64) (.pair (.int .i64) (.int .i64))) (.int .i64))) entry_Make_1.f xs=some ys∧ys.Perm xs∧ys.Pairwise (fun a b=> ¬ltA b.1 a.1):=by
 obtain⟨ys,h1,h2,h3⟩:=sortM_spec (T:=(.pair (.pair (.int .i64) (.pair (.int .i64) (.int .i64))) (.int .i64))) (f:=entry_Make_1.f) (xs:=xs) (fun a b:Leg=>ordA a.1 b.1) make1_eq swo hl
 refine⟨ys,h1,h2,h3.imp fun{a b} h=> ?_⟩
 simpa only[Go.Proofs.ltOf,decide_eq_false_iff_not,ordA_neg]using h
end Go.Proofs.YtfcgafnmlkiimaaGreatDoor.Pure
